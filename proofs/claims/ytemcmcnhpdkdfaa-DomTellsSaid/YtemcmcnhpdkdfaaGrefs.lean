/- What the printed small functions answer: Few, Has, Ints, Same, Bools; plain laws. -/
import Derived.Test.YtemcmcnhpdkdfaaGdefs
import Derived.Test.YtemcmcnhpdkdfaaPbywashref10
import Derived.Test.YtemcmcnhpdkdfaaPbywashref01
namespace Go.Proofs.Ytemcmcnhpdkdfaa.P
open Go.RowKit Go.Lib Go.Proofs.YtemcmcnhpdkdfaaW.PrintWords

theorem wrap_succ {i : Nat} (h : i + 1 ≤ 9223372036854775807) : wrap64 ((i : Int) + 1) = ((i + 1 : Nat) : Int) := by
  unfold wrap64
  omega
theorem rd_nat' {xs : List Int} {i : Nat} (h : i < xs.length) : rd xs (i : Int) = xs[i] := by
  unfold rd
  rw [Int.toNat_natCast, List.getD_eq_getElem?_getD, List.getElem?_eq_getElem h]
  rfl
theorem rdOf_nat {α : Type} {d : α} {xs : List α} {i : Nat} (h : i < xs.length) : rdOf d xs (i : Int) = xs[i] := by
  unfold rdOf
  rw [Int.toNat_natCast, List.getD_eq_getElem?_getD, List.getElem?_eq_getElem h]
  rfl
theorem rdL1_nat {xs : List (List Int)} {i : Nat} (h : i < xs.length) : rd_L1 xs (i : Int) = xs[i] := by
  unfold rd_L1
  rw [Int.toNat_natCast, List.getD_eq_getElem?_getD, List.getElem?_eq_getElem h]
  rfl

def few (l : List (List Int)) : Bool := l.all (fun r => decide (r.length ≤ 60)) && decide (l.length ≤ 40)
theorem few_l0 (l : List (List Int)) (hb : l.length ≤ 9223372036854775807) : ∀ d i : Nat, i + d = l.length → Ev (fun k => bywashref10_Few.l0 k l (i : Int)) ((l.drop i).all (fun r => decide (r.length ≤ 60)) && decide (l.length ≤ 40))
  | 0, i, h => by
    refine Ev.step (f := fun _ => some (decide ((l.length : Int) ≤ 40))) (fun k => by rw [bywashref10_Few.l0, if_neg (by omega)]) ?_
    rw [List.drop_eq_nil_of_le (by omega), List.all_nil, Bool.true_and, show decide (l.length ≤ 40) = decide ((l.length : Int) ≤ 40) from by simp only [decide_eq_decide]; omega]
    exact Ev.now _
  | d + 1, i, h => by
    have hi : i < l.length := by omega
    rw [List.drop_eq_getElem_cons hi, List.all_cons]
    by_cases hs : l[i].length ≤ 60
    · refine Ev.step (f := fun k => bywashref10_Few.l0 k l ((i + 1 : Nat) : Int)) (fun k => by rw [bywashref10_Few.l0, if_pos (by omega), if_pos (by omega), rdL1_nat hi, if_neg (by omega), wrap_succ (by omega)]) ?_
      rw [decide_eq_true hs, Bool.true_and]
      exact few_l0 l hb d (i + 1) (by omega)
    · refine Ev.step (f := fun _ => some false) (fun k => by rw [bywashref10_Few.l0, if_pos (by omega), if_pos (by omega), rdL1_nat hi, if_pos (by omega)]) ?_
      rw [decide_eq_false hs, Bool.false_and, Bool.false_and]
      exact Ev.now _
theorem few_ev (l : List (List Int)) (hb : l.length ≤ 9223372036854775807) : Ev (fun k => bywashref10_Few.f k l) (few l) := few_l0 l hb l.length 0 (by omega)
theorem few_iff {l : List (List Int)} : few l = true ↔ (∀ r ∈ l, r.length ≤ 60) ∧ l.length ≤ 40 := by
  unfold few
  simp
theorem few_fits {l : List (List Int)} (h : few l = true) : fits l = true := by
  rw [few_iff] at h
  unfold fits
  simp only [Bool.and_eq_true, decide_eq_true_eq, List.all_eq_true]
  exact ⟨by omega, fun r hr => by have := h.1 r hr; omega⟩

theorem ints_l0 (a b : List Int) (hl : a.length = b.length) (hb : a.length ≤ 9223372036854775807) : ∀ d i : Nat, i + d = a.length → Ev (fun k => bywashref01_Ints.l0 k a b (i : Int)) (decide (a.drop i = b.drop i))
  | 0, i, h => by
    refine Ev.step (f := fun _ => some true) (fun k => by rw [bywashref01_Ints.l0, if_neg (by omega)]) ?_
    rw [List.drop_eq_nil_of_le (by omega), List.drop_eq_nil_of_le (by omega), decide_eq_true rfl]
    exact Ev.now _
  | d + 1, i, h => by
    have hi : i < a.length := by omega
    have hj : i < b.length := by omega
    rw [List.drop_eq_getElem_cons hi, List.drop_eq_getElem_cons hj]
    by_cases hs : a[i] = b[i]
    · refine Ev.step (f := fun k => bywashref01_Ints.l0 k a b ((i + 1 : Nat) : Int)) (fun k => by rw [bywashref01_Ints.l0, if_pos (by omega), if_pos (by omega), if_pos (by omega), rd_nat' hi, rd_nat' hj, if_pos hs, wrap_succ (by omega)]) ?_
      rw [show decide (a[i] :: a.drop (i + 1) = b[i] :: b.drop (i + 1)) = decide (a.drop (i + 1) = b.drop (i + 1)) from by rw [hs]; exact decide_eq_decide.2 ⟨fun e => (List.cons.inj e).2, fun e => by rw [e]⟩]
      exact ints_l0 a b hl hb d (i + 1) (by omega)
    · refine Ev.step (f := fun _ => some false) (fun k => by rw [bywashref01_Ints.l0, if_pos (by omega), if_pos (by omega), if_pos (by omega), rd_nat' hi, rd_nat' hj, if_neg hs]) ?_
      rw [show decide (a[i] :: a.drop (i + 1) = b[i] :: b.drop (i + 1)) = false from decide_eq_false (fun e => hs (by injection e))]
      exact Ev.now _
theorem ints_ev (a b : List Int) (hb : a.length ≤ 9223372036854775807) : Ev (fun k => bywashref01_Ints.f k a b) (decide (a = b)) := by
  by_cases h : a.length = b.length
  · refine Ev.congr (f := fun k => bywashref01_Ints.l0 k a b ((0 : Nat) : Int)) (fun k => by unfold bywashref01_Ints.f; rw [if_pos (by omega)]; rfl) ?_
    have := ints_l0 a b h hb a.length 0 (by omega)
    rwa [List.drop_zero, List.drop_zero] at this
  · refine Ev.congr (f := fun _ => some false) (fun k => by unfold bywashref01_Ints.f; rw [if_neg (by omega)]) ?_
    rw [decide_eq_false (fun e => h (by rw [e]))]
    exact Ev.now _

theorem has_l0 (a : List Int) (x : Int) (hb : a.length ≤ 9223372036854775807) : ∀ d i : Nat, i + d = a.length → Ev (fun k => bywashref10_Has.l0 k a x (i : Int)) (decide (x ∈ a.drop i))
  | 0, i, h => by
    refine Ev.step (f := fun _ => some false) (fun k => by rw [bywashref10_Has.l0, if_neg (by omega)]) ?_
    rw [List.drop_eq_nil_of_le (by omega), decide_eq_false (by simp)]
    exact Ev.now _
  | d + 1, i, h => by
    have hi : i < a.length := by omega
    rw [List.drop_eq_getElem_cons hi]
    by_cases hs : a[i] = x
    · refine Ev.step (f := fun _ => some true) (fun k => by rw [bywashref10_Has.l0, if_pos (by omega), if_pos (by omega), rd_nat' hi, if_pos hs]) ?_
      rw [decide_eq_true (by rw [← hs]; exact List.mem_cons_self)]
      exact Ev.now _
    · refine Ev.step (f := fun k => bywashref10_Has.l0 k a x ((i + 1 : Nat) : Int)) (fun k => by rw [bywashref10_Has.l0, if_pos (by omega), if_pos (by omega), rd_nat' hi, if_neg hs, wrap_succ (by omega)]) ?_
      rw [show decide (x ∈ a[i] :: a.drop (i + 1)) = decide (x ∈ a.drop (i + 1)) from by
        rw [decide_eq_decide, List.mem_cons]
        exact ⟨fun e => e.resolve_left (fun e => hs e.symm), .inr⟩]
      exact has_l0 a x hb d (i + 1) (by omega)
theorem has_ev (a : List Int) (x : Int) (hb : a.length ≤ 9223372036854775807) : Ev (fun k => bywashref10_Has.f k a x) (decide (x ∈ a)) := has_l0 a x hb a.length 0 (by omega)

theorem clean_Valid (g : List (List Int)) : Valid (clean g) := fun l hl b hb => by rw [clean_len]; exact clean_valid l hl b hb
theorem clean_row_le {g : List (List Int)} : ∀ l ∈ clean g, l.length ≤ g.length := by
  intro l hl
  obtain ⟨r, _, rfl⟩ := List.mem_map.1 hl
  exact few_nodes ((cleanRow_rises _ _).imp (fun h => by omega)) (fun x hx => (mem_cleanRow.1 hx).2)
theorem clean_node {g : List (List Int)} {a : Int} : Node (clean g) a ↔ 0 ≤ a ∧ a < (g.length : Int) := by
  unfold Node
  rw [clean_len]
theorem clean_now {g : List (List Int)} (h : fits g = true) : graph_Clean.f g = some (clean g) := by unfold graph_Clean.f; rw [if_pos h]

theorem marks_foldl (l : List Int) : ∀ (m : List Bool), (∀ x ∈ l, 0 ≤ x ∧ x < (m.length : Int)) → ∀ i : Nat, i < m.length → (l.foldl (fun m a => m.set a.toNat true) m).getD i false = (m.getD i false || decide ((i : Int) ∈ l)) := by
  induction l with
  | nil => intro m _ i _; simp
  | cons a l ih =>
    intro m hl i hi
    have ha := hl a List.mem_cons_self
    rw [List.foldl_cons, ih _ (fun x hx => by rw [List.length_set]; exact hl x (List.mem_cons_of_mem _ hx)) i (by rw [List.length_set]; exact hi)]
    rw [List.getD_eq_getElem?_getD, List.getElem?_set]
    by_cases e : a.toNat = i
    · rw [if_pos e, if_pos (by omega)]
      have : (i : Int) = a := by omega
      simp [this]
    · rw [if_neg e, ← List.getD_eq_getElem?_getD]
      have : ¬ (i : Int) = a := by omega
      simp [this]
theorem marks_get {n : Nat} {l : List Int} (hl : ∀ x ∈ l, 0 ≤ x ∧ x < (n : Int)) {i : Nat} (hi : i < n) : (marks n l).getD i false = decide ((i : Int) ∈ l) := by
  unfold marks
  rw [marks_foldl l _ (fun x hx => by rw [List.length_replicate]; exact hl x hx) i (by rw [List.length_replicate]; exact hi)]
  simp [List.getD_eq_getElem?_getD, hi]

/-- A small graph. -/
def Small (g : List (List Int)) : Prop := fits g = true ∧ g.length ≤ 900
theorem few_small {g : List (List Int)} (h : few g = true) : Small g := ⟨few_fits h, by have := (few_iff.1 h).2; omega⟩
theorem told_small {g : List (List Int)} (h : Small g) {a : Int} (ha : 0 ≤ a ∧ a < (g.length : Int)) :
    ∃ t, toldOf (clean g) a = some (t ++ [a]) ∧ (∀ x, x ∈ t ++ [a] ↔ Way (clean g) a x) ∧ (t ++ [a]).Nodup ∧ (∀ x ∈ t ++ [a], 0 ≤ x ∧ x < (g.length : Int)) ∧
      (∀ t1 x t2, t ++ [a] = t1 ++ x :: t2 → ∀ y ∈ row (clean g) x, y = x ∨ y ∈ t2 → Way (clean g) y x) := by
  obtain ⟨t, h1, h2, h3, h4, h5, _⟩ := told_spec (clean_Valid g) (by rw [clean_len]; exact h.2) (fun l hl => Nat.le_trans (clean_row_le l hl) h.2) (clean_node.2 ha)
  exact ⟨t, h1, h2, h3, fun x hx => clean_node.1 (h4 x hx), h5⟩

/-- Reach: which nodes there is a way to. -/
theorem reach_now {g : List (List Int)} (h : Small g) (a : Int) :
    ∃ r, graph_Reach.f g a = some r ∧ r.length = g.length ∧ ∀ x, 0 ≤ x → x < (g.length : Int) → (rdOf false r x = true ↔ (0 ≤ a ∧ a < (g.length : Int)) ∧ Way (clean g) a x) := by
  unfold graph_Reach.f
  rw [if_pos h.1]
  by_cases ha : 0 ≤ a ∧ a < (g.length : Int)
  · obtain ⟨t, h1, h2, _, h4, _⟩ := told_small h ha
    refine ⟨marks g.length (t ++ [a]), by rw [h1]; rfl, marks_len _ _, fun x hx0 hx1 => ?_⟩
    unfold rdOf
    rw [marks_get h4 (by omega), decide_eq_true_iff, show ((x.toNat : Nat) : Int) = x by omega, h2]
    exact ⟨fun hw => ⟨ha, hw⟩, fun hw => hw.2⟩
  · refine ⟨marks g.length [], by rw [told_none (fun hn => ha (clean_node.1 hn))]; rfl, marks_len _ _, fun x hx0 hx1 => ?_⟩
    unfold rdOf
    rw [marks_get (by simp) (by omega)]
    simp only [List.not_mem_nil, decide_false, Bool.false_eq_true, false_iff]
    exact fun hw => ha hw.1
/-- Order: these, each once. -/
theorem order_now {g : List (List Int)} (h : Small g) {a : Int} (ha : 0 ≤ a ∧ a < (g.length : Int)) :
    ∃ o, graph_Order.f g a = some (a :: o) ∧ (∀ x, x ∈ a :: o ↔ Way (clean g) a x) ∧ (a :: o).Nodup ∧ (∀ x ∈ a :: o, 0 ≤ x ∧ x < (g.length : Int)) ∧
      (∀ o1 x o2, a :: o = o1 ++ x :: o2 → ∀ y ∈ row (clean g) x, y = x ∨ y ∈ o1 → Way (clean g) y x) := by
  obtain ⟨t, h1, h2, h3, h4, h5⟩ := told_small h ha
  have e : (t ++ [a]).reverse = a :: t.reverse := by simp
  refine ⟨t.reverse, ?_, ?_, ?_, ?_, ?_⟩
  · unfold graph_Order.f
    rw [if_pos h.1, h1, Option.map_some, e]
  · intro x
    rw [← e, List.mem_reverse, h2]
  · rw [← e]
    exact List.pairwise_reverse.2 (h3.imp Ne.symm)
  · intro x hx
    rw [← e, List.mem_reverse] at hx
    exact h4 x hx
  · intro o1 x o2 ho y hy hxy
    refine h5 o2.reverse x o1.reverse ?_ y hy (by rw [List.mem_reverse]; exact hxy)
    have := congrArg List.reverse (e.trans ho)
    rw [List.reverse_reverse] at this
    rw [this]
    simp
theorem order_none {g : List (List Int)} (h : Small g) {a : Int} (ha : ¬ (0 ≤ a ∧ a < (g.length : Int))) : graph_Order.f g a = some [] := by
  unfold graph_Order.f
  rw [if_pos h.1, told_none (fun hn => ha (clean_node.1 hn))]
  rfl

/-- A graph whose rows rise, of nodes alone, is clean. -/
theorem clean_self {g : List (List Int)} (hv : Valid g) (hr : ∀ l ∈ g, l.Pairwise (· < ·)) : clean g = g := by
  unfold clean
  conv => rhs; rw [← List.map_id g]
  refine List.map_congr_left fun l hl => ?_
  exact cleanRow_eq (hr l hl) (fun x => ⟨fun hx => ⟨hx, hv l hl x hx⟩, fun h => h.1⟩)

end Go.Proofs.Ytemcmcnhpdkdfaa.P

/-! What is cleaned is clean: the graph's functions answer alike for it. -/
namespace Go.Proofs.Ytemcmcnhpdkdfaa.P
open Go.RowKit Go.Lib Go.Proofs.YtemcmcnhpdkdfaaW.PrintWords

theorem clean_rises (g : List (List Int)) : ∀ l ∈ clean g, l.Pairwise (· < ·) := by
  intro l hl
  obtain ⟨r, _, rfl⟩ := List.mem_map.1 hl
  exact cleanRow_rises _ _
theorem clean_clean (g : List (List Int)) : clean (clean g) = clean g := clean_self (clean_Valid g) (clean_rises g)
theorem fits_clean {g : List (List Int)} (h : fits g = true) : fits (clean g) = true := by
  have h1 := clean_small h
  unfold fits at h ⊢
  simp only [Bool.and_eq_true, decide_eq_true_eq, List.all_eq_true] at h ⊢
  exact ⟨by rw [clean_len]; exact h.1, h1⟩
theorem order_clean {g : List (List Int)} (h : fits g = true) (a : Int) : graph_Order.f (clean g) a = graph_Order.f g a := by
  unfold graph_Order.f
  rw [if_pos h, if_pos (fits_clean h), clean_clean]
theorem reach_clean {g : List (List Int)} (h : fits g = true) (a : Int) : graph_Reach.f (clean g) a = graph_Reach.f g a := by
  unfold graph_Reach.f
  rw [if_pos h, if_pos (fits_clean h), clean_clean, clean_len]
theorem turn_clean {g : List (List Int)} (h : fits g = true) : graph_Turn.f (clean g) = graph_Turn.f g := by
  unfold graph_Turn.f
  rw [if_pos h, if_pos (fits_clean h), clean_clean]
theorem reachB_clean {g : List (List Int)} (h : fits g = true) (a b : Int) : reachB (clean g) a b = reachB g a b := by
  unfold reachB
  rw [reach_clean h]
theorem path_clean {g : List (List Int)} (h : fits g = true) (a b : Int) : graph_Path.f (clean g) a b = graph_Path.f g a b := by
  unfold graph_Path.f
  rw [if_pos h, if_pos (fits_clean h), clean_clean, clean_len]
  simp only [reach_clean h, reachB_clean h]

/-- Path: is there a way of one step at least? -/
theorem path_now {g : List (List Int)} (hs : Small g) (a b : Int) : ∃ p, graph_Path.f g a b = some p ∧ (p = true ↔ (0 ≤ a ∧ a < (g.length : Int)) ∧ (0 ≤ b ∧ b < (g.length : Int)) ∧ ∃ c ∈ row (clean g) a, Way (clean g) c b) := by
  unfold graph_Path.f
  rw [if_pos hs.1]
  by_cases h : isN g.length a = true ∧ isN g.length b = true
  · rw [if_pos h]
    have ha := isN_iff.1 h.1
    have hb := isN_iff.1 h.2
    have hall : ((clean g).getD a.toNat []).all (fun c => decide ((graph_Reach.f g c).isSome = true ∧ ((graph_Reach.f g c).getD []).length = g.length)) = true := by
      rw [List.all_eq_true]
      intro c _
      obtain ⟨r, hr, hl, _⟩ := reach_now hs c
      rw [hr]
      simpa using hl
    rw [if_pos hall]
    refine ⟨_, rfl, ?_⟩
    rw [List.any_eq_true]
    constructor
    · rintro ⟨c, hc, hr⟩
      obtain ⟨r, hr', _, hw⟩ := reach_now hs c
      refine ⟨ha, hb, c, hc, ((hw b hb.1 hb.2).1 ?_).2⟩
      unfold reachB at hr
      rw [hr'] at hr
      exact hr
    · rintro ⟨_, _, c, hc, hw⟩
      obtain ⟨r, hr', _, hw'⟩ := reach_now hs c
      refine ⟨c, hc, ?_⟩
      unfold reachB
      rw [hr']
      exact (hw' b hb.1 hb.2).2 ⟨clean_node.1 (row_node (clean_Valid g) hc), hw⟩
  · rw [if_neg h]
    refine ⟨false, rfl, ?_⟩
    simp only [Bool.false_eq_true, false_iff]
    rintro ⟨h1, h2, _⟩
    exact h ⟨isN_iff.2 h1, isN_iff.2 h2⟩

/-! #### Turn -/
theorem turnStep_get (a : Int) (o : List (List Int)) (b : Int) (j : Nat) (hb : 0 ≤ b ∧ b < (o.length : Int)) : (turnStep a o b).getD j [] = if (j : Int) = b then o.getD j [] ++ [a] else o.getD j [] := by
  unfold turnStep
  rw [List.getD_eq_getElem?_getD, List.getElem?_set]
  by_cases e : b.toNat = j
  · rw [if_pos e, if_pos (by omega), if_pos (by omega), Option.getD_some, e]
  · rw [if_neg e, if_neg (by omega), ← List.getD_eq_getElem?_getD]
theorem turnRow_get (a : Int) (j : Nat) : ∀ (l : List Int) (o : List (List Int)), (∀ b ∈ l, 0 ≤ b ∧ b < (o.length : Int)) → l.Pairwise (· < ·) → (l.foldl (turnStep a) o).getD j [] = o.getD j [] ++ if (j : Int) ∈ l then [a] else []
  | [], o, _, _ => by simp
  | b :: l, o, hl, hp => by
    rw [List.pairwise_cons] at hp
    have hb := hl b List.mem_cons_self
    have hlen : (turnStep a o b).length = o.length := by simp [turnStep]
    rw [List.foldl_cons, turnRow_get a j l _ (fun c hc => by rw [hlen]; exact hl c (List.mem_cons_of_mem _ hc)) hp.2, turnStep_get a o b j hb]
    by_cases e : (j : Int) = b
    · rw [if_pos e, if_neg (fun hm => by have := hp.1 _ hm; omega), List.append_nil, if_pos (by rw [e]; exact List.mem_cons_self)]
    · rw [if_neg e]
      simp only [List.mem_cons, e, false_or]
theorem turnSo_get {c : List (List Int)} (hv : Valid c) (hr : ∀ l ∈ c, l.Pairwise (· < ·)) (j : Nat) : ∀ k, k ≤ c.length → (turnSo c k).getD j [] = (nodes k).filter fun a => decide ((j : Int) ∈ row c a)
  | 0, _ => by
    unfold turnSo nodes
    simp only [List.range_zero, List.map_nil, List.filter_nil]
    rw [List.getD_eq_getElem?_getD, List.getElem?_replicate]
    split <;> rfl
  | k + 1, hk => by
    have hm : c.getD k [] ∈ c := by
      rw [List.getD_eq_getElem?_getD, List.getElem?_eq_getElem (by omega)]
      exact List.getElem_mem _
    rw [turnSo, turnRow_get _ j _ _ (fun b hb => by rw [turnSo_len]; exact hv _ hm b hb) (hr _ hm), turnSo_get hv hr j k (by omega)]
    unfold nodes
    rw [List.range_succ, List.map_append, List.filter_append]
    congr 1
    simp only [List.map_cons, List.map_nil, List.filter_cons, List.filter_nil]
    have : row c (k : Int) = c.getD k [] := by unfold row; rw [Int.toNat_natCast]
    rw [this]
    simp only [decide_eq_true_eq]
theorem mem_turn {c : List (List Int)} (hv : Valid c) (hr : ∀ l ∈ c, l.Pairwise (· < ·)) {a b : Int} (hb : 0 ≤ b) : a ∈ row (turn c) b ↔ (0 ≤ a ∧ a < (c.length : Int)) ∧ b ∈ row c a := by
  unfold row turn
  rw [turnSo_get hv hr b.toNat c.length (Nat.le_refl _), List.mem_filter, mem_nodes]
  simp only [decide_eq_true_eq]
  rw [show ((b.toNat : Nat) : Int) = b by omega]
  rfl
theorem nodes_rise (n : Nat) : (nodes n).Pairwise (· < ·) := by
  unfold nodes
  rw [List.pairwise_map]
  exact List.pairwise_lt_range.imp (fun h => by omega)
theorem turn_len (c : List (List Int)) : (turn c).length = c.length := turnSo_len c _
theorem turn_row (c : List (List Int)) (hv : Valid c) (hr : ∀ l ∈ c, l.Pairwise (· < ·)) : ∀ l ∈ turn c, l.Pairwise (· < ·) ∧ ∀ x ∈ l, 0 ≤ x ∧ x < (c.length : Int) := by
  intro l hl
  obtain ⟨j, hj, e⟩ := List.getElem_of_mem hl
  have h1 : l = (turnSo c c.length).getD j [] := by
    rw [List.getD_eq_getElem?_getD]
    show l = ((turn c)[j]?).getD []
    rw [List.getElem?_eq_getElem hj, e]
    rfl
  rw [h1, turnSo_get hv hr j _ (Nat.le_refl _)]
  exact ⟨(nodes_rise _).filter _, fun x hx => mem_nodes.1 (List.mem_filter.1 hx).1⟩
theorem turn_Valid {c : List (List Int)} (hv : Valid c) (hr : ∀ l ∈ c, l.Pairwise (· < ·)) : Valid (turn c) := fun l hl b hb => by rw [turn_len]; exact (turn_row c hv hr l hl).2 b hb
theorem turn_rises {c : List (List Int)} (hv : Valid c) (hr : ∀ l ∈ c, l.Pairwise (· < ·)) : ∀ l ∈ turn c, l.Pairwise (· < ·) := fun l hl => (turn_row c hv hr l hl).1
/-- Two graphs of clean rows with the same edges are one. -/
theorem graph_ext {c d : List (List Int)} (hl : c.length = d.length) (hc : ∀ l ∈ c, l.Pairwise (· < ·)) (hd : ∀ l ∈ d, l.Pairwise (· < ·)) (h : ∀ a b, 0 ≤ a → a < (c.length : Int) → (b ∈ row c a ↔ b ∈ row d a)) : c = d := by
  apply List.ext_getElem hl
  intro i h1 h2
  refine eq_of_rising _ _ (hc _ (List.getElem_mem h1)) (hd _ (List.getElem_mem h2)) (fun x => ?_)
  have := h (i : Int) x (by omega) (by omega)
  unfold row at this
  rwa [Int.toNat_natCast, List.getD_eq_getElem?_getD, List.getD_eq_getElem?_getD, List.getElem?_eq_getElem h1, List.getElem?_eq_getElem h2] at this
theorem turn_turn {c : List (List Int)} (hv : Valid c) (hr : ∀ l ∈ c, l.Pairwise (· < ·)) : turn (turn c) = c := by
  refine graph_ext (by rw [turn_len, turn_len]) (turn_rises (turn_Valid hv hr) (turn_rises hv hr)) hr (fun a b ha0 ha1 => ?_)
  rw [turn_len, turn_len] at ha1
  rw [mem_turn (turn_Valid hv hr) (turn_rises hv hr) ha0, turn_len]
  constructor
  · rintro ⟨hb, h⟩
    exact ((mem_turn hv hr hb.1).1 h).2
  · intro h
    have hb := row_node hv h
    exact ⟨hb, (mem_turn hv hr hb.1).2 ⟨⟨ha0, ha1⟩, h⟩⟩
/-- Ways turned around. -/
theorem way_turn {c : List (List Int)} (hv : Valid c) (hr : ∀ l ∈ c, l.Pairwise (· < ·)) {a b : Int} (h : Way c a b) (ha : Node c a) : Way (turn c) b a := by
  induction h with
  | refl => exact .refl _
  | @step a b d hb _ ih => exact (ih (row_node hv hb)).trans (.edge ((mem_turn hv hr (row_node hv hb).1).2 ⟨ha, hb⟩))

end Go.Proofs.Ytemcmcnhpdkdfaa.P
