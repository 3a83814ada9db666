/- What is cleaned is clean: the graph's functions answer alike for it. -/
import Derived.Test.YtnhcimhdkdgccaaGawake10
namespace Go.Proofs.Ytnhcimhdkdgccaa.P
open Go.RowKit Go.Lib Go.Proofs.YtnhcimhdkdgccaaW.PrintWords

theorem clean_rises (g : List (List Int)) : ∀ l ∈ clean g, l.Pairwise (· < ·) := by
  intro l hl
  obtain ⟨r, _, rfl⟩ := List.mem_map.1 hl
  exact cleanRow_rises _ _
theorem clean_clean (g : List (List Int)) : clean (clean g) = clean g := clean_self (clean_Valid g) (clean_rises g)
theorem fits_clean {g : List (List Int)} (h : fits g = true) : fits (clean g) = true := by
  have h1 := clean_small h
  unfold fits at h ⊢
  simp only [Bool.and_eq_true, decide_eq_true_eq, List.all_eq_true] at h ⊢
  exact ⟨by rw [clean_len]; exact h.1, h1⟩
theorem order_clean {g : List (List Int)} (h : fits g = true) (a : Int) : graph_Order.f (clean g) a = graph_Order.f g a := by
  unfold graph_Order.f
  rw [if_pos h, if_pos (fits_clean h), clean_clean]
theorem reach_clean {g : List (List Int)} (h : fits g = true) (a : Int) : graph_Reach.f (clean g) a = graph_Reach.f g a := by
  unfold graph_Reach.f
  rw [if_pos h, if_pos (fits_clean h), clean_clean, clean_len]
theorem turn_clean {g : List (List Int)} (h : fits g = true) : graph_Turn.f (clean g) = graph_Turn.f g := by
  unfold graph_Turn.f
  rw [if_pos h, if_pos (fits_clean h), clean_clean]
theorem reachB_clean {g : List (List Int)} (h : fits g = true) (a b : Int) : reachB (clean g) a b = reachB g a b := by
  unfold reachB
  rw [reach_clean h]
theorem path_clean {g : List (List Int)} (h : fits g = true) (a b : Int) : graph_Path.f (clean g) a b = graph_Path.f g a b := by
  unfold graph_Path.f
  rw [if_pos h, if_pos (fits_clean h), clean_clean, clean_len]
  simp only [reach_clean h, reachB_clean h]

/-- Path: is there a way of one step at least? -/
theorem path_now {g : List (List Int)} (hs : Small g) (a b : Int) : ∃ p, graph_Path.f g a b = some p ∧ (p = true ↔ (0 ≤ a ∧ a < (g.length : Int)) ∧ (0 ≤ b ∧ b < (g.length : Int)) ∧ ∃ c ∈ row (clean g) a, Way (clean g) c b) := by
  unfold graph_Path.f
  rw [if_pos hs.1]
  by_cases h : isN g.length a = true ∧ isN g.length b = true
  · rw [if_pos h]
    have ha := isN_iff.1 h.1
    have hb := isN_iff.1 h.2
    have hall : ((clean g).getD a.toNat []).all (fun c => decide ((graph_Reach.f g c).isSome = true ∧ ((graph_Reach.f g c).getD []).length = g.length)) = true := by
      rw [List.all_eq_true]
      intro c _
      obtain ⟨r, hr, hl, _⟩ := reach_now hs c
      rw [hr]
      simpa using hl
    rw [if_pos hall]
    refine ⟨_, rfl, ?_⟩
    rw [List.any_eq_true]
    constructor
    · rintro ⟨c, hc, hr⟩
      obtain ⟨r, hr', _, hw⟩ := reach_now hs c
      refine ⟨ha, hb, c, hc, ((hw b hb.1 hb.2).1 ?_).2⟩
      unfold reachB at hr
      rw [hr'] at hr
      exact hr
    · rintro ⟨_, _, c, hc, hw⟩
      obtain ⟨r, hr', _, hw'⟩ := reach_now hs c
      refine ⟨c, hc, ?_⟩
      unfold reachB
      rw [hr']
      exact (hw' b hb.1 hb.2).2 ⟨clean_node.1 (row_node (clean_Valid g) hc), hw⟩
  · rw [if_neg h]
    refine ⟨false, rfl, ?_⟩
    simp only [Bool.false_eq_true, false_iff]
    rintro ⟨h1, h2, _⟩
    exact h ⟨isN_iff.2 h1, isN_iff.2 h2⟩

/-! #### Turn -/
theorem turnStep_get (a : Int) (o : List (List Int)) (b : Int) (j : Nat) (hb : 0 ≤ b ∧ b < (o.length : Int)) : (turnStep a o b).getD j [] = if (j : Int) = b then o.getD j [] ++ [a] else o.getD j [] := by
  unfold turnStep
  rw [List.getD_eq_getElem?_getD, List.getElem?_set]
  by_cases e : b.toNat = j
  · rw [if_pos e, if_pos (by omega), if_pos (by omega), Option.getD_some, e]
  · rw [if_neg e, if_neg (by omega), ← List.getD_eq_getElem?_getD]
theorem turnRow_get (a : Int) (j : Nat) : ∀ (l : List Int) (o : List (List Int)), (∀ b ∈ l, 0 ≤ b ∧ b < (o.length : Int)) → l.Pairwise (· < ·) → (l.foldl (turnStep a) o).getD j [] = o.getD j [] ++ if (j : Int) ∈ l then [a] else []
  | [], o, _, _ => by simp
  | b :: l, o, hl, hp => by
    rw [List.pairwise_cons] at hp
    have hb := hl b List.mem_cons_self
    have hlen : (turnStep a o b).length = o.length := by simp [turnStep]
    rw [List.foldl_cons, turnRow_get a j l _ (fun c hc => by rw [hlen]; exact hl c (List.mem_cons_of_mem _ hc)) hp.2, turnStep_get a o b j hb]
    by_cases e : (j : Int) = b
    · rw [if_pos e, if_neg (fun hm => by have := hp.1 _ hm; omega), List.append_nil, if_pos (by rw [e]; exact List.mem_cons_self)]
    · rw [if_neg e]
      simp only [List.mem_cons, e, false_or]
theorem turnSo_get {c : List (List Int)} (hv : Valid c) (hr : ∀ l ∈ c, l.Pairwise (· < ·)) (j : Nat) : ∀ k, k ≤ c.length → (turnSo c k).getD j [] = (nodes k).filter fun a => decide ((j : Int) ∈ row c a)
  | 0, _ => by
    unfold turnSo nodes
    simp only [List.range_zero, List.map_nil, List.filter_nil]
    rw [List.getD_eq_getElem?_getD, List.getElem?_replicate]
    split <;> rfl
  | k + 1, hk => by
    have hm : c.getD k [] ∈ c := by
      rw [List.getD_eq_getElem?_getD, List.getElem?_eq_getElem (by omega)]
      exact List.getElem_mem _
    rw [turnSo, turnRow_get _ j _ _ (fun b hb => by rw [turnSo_len]; exact hv _ hm b hb) (hr _ hm), turnSo_get hv hr j k (by omega)]
    unfold nodes
    rw [List.range_succ, List.map_append, List.filter_append]
    congr 1
    simp only [List.map_cons, List.map_nil, List.filter_cons, List.filter_nil]
    have : row c (k : Int) = c.getD k [] := by unfold row; rw [Int.toNat_natCast]
    rw [this]
    simp only [decide_eq_true_eq]
theorem mem_turn {c : List (List Int)} (hv : Valid c) (hr : ∀ l ∈ c, l.Pairwise (· < ·)) {a b : Int} (hb : 0 ≤ b) : a ∈ row (turn c) b ↔ (0 ≤ a ∧ a < (c.length : Int)) ∧ b ∈ row c a := by
  unfold row turn
  rw [turnSo_get hv hr b.toNat c.length (Nat.le_refl _), List.mem_filter, mem_nodes]
  simp only [decide_eq_true_eq]
  rw [show ((b.toNat : Nat) : Int) = b by omega]
  rfl
theorem nodes_rise (n : Nat) : (nodes n).Pairwise (· < ·) := by
  unfold nodes
  rw [List.pairwise_map]
  exact List.pairwise_lt_range.imp (fun h => by omega)
theorem turn_len (c : List (List Int)) : (turn c).length = c.length := turnSo_len c _
theorem turn_row (c : List (List Int)) (hv : Valid c) (hr : ∀ l ∈ c, l.Pairwise (· < ·)) : ∀ l ∈ turn c, l.Pairwise (· < ·) ∧ ∀ x ∈ l, 0 ≤ x ∧ x < (c.length : Int) := by
  intro l hl
  obtain ⟨j, hj, e⟩ := List.getElem_of_mem hl
  have h1 : l = (turnSo c c.length).getD j [] := by
    rw [List.getD_eq_getElem?_getD]
    show l = ((turn c)[j]?).getD []
    rw [List.getElem?_eq_getElem hj, e]
    rfl
  rw [h1, turnSo_get hv hr j _ (Nat.le_refl _)]
  exact ⟨(nodes_rise _).filter _, fun x hx => mem_nodes.1 (List.mem_filter.1 hx).1⟩
theorem turn_Valid {c : List (List Int)} (hv : Valid c) (hr : ∀ l ∈ c, l.Pairwise (· < ·)) : Valid (turn c) := fun l hl b hb => by rw [turn_len]; exact (turn_row c hv hr l hl).2 b hb
theorem turn_rises {c : List (List Int)} (hv : Valid c) (hr : ∀ l ∈ c, l.Pairwise (· < ·)) : ∀ l ∈ turn c, l.Pairwise (· < ·) := fun l hl => (turn_row c hv hr l hl).1
/-- Two graphs of clean rows with the same edges are one. -/
theorem graph_ext {c d : List (List Int)} (hl : c.length = d.length) (hc : ∀ l ∈ c, l.Pairwise (· < ·)) (hd : ∀ l ∈ d, l.Pairwise (· < ·)) (h : ∀ a b, 0 ≤ a → a < (c.length : Int) → (b ∈ row c a ↔ b ∈ row d a)) : c = d := by
  apply List.ext_getElem hl
  intro i h1 h2
  refine eq_of_rising _ _ (hc _ (List.getElem_mem h1)) (hd _ (List.getElem_mem h2)) (fun x => ?_)
  have := h (i : Int) x (by omega) (by omega)
  unfold row at this
  rwa [Int.toNat_natCast, List.getD_eq_getElem?_getD, List.getD_eq_getElem?_getD, List.getElem?_eq_getElem h1, List.getElem?_eq_getElem h2] at this
theorem turn_turn {c : List (List Int)} (hv : Valid c) (hr : ∀ l ∈ c, l.Pairwise (· < ·)) : turn (turn c) = c := by
  refine graph_ext (by rw [turn_len, turn_len]) (turn_rises (turn_Valid hv hr) (turn_rises hv hr)) hr (fun a b ha0 ha1 => ?_)
  rw [turn_len, turn_len] at ha1
  rw [mem_turn (turn_Valid hv hr) (turn_rises hv hr) ha0, turn_len]
  constructor
  · rintro ⟨hb, h⟩
    exact ((mem_turn hv hr hb.1).1 h).2
  · intro h
    have hb := row_node hv h
    exact ⟨hb, (mem_turn hv hr hb.1).2 ⟨⟨ha0, ha1⟩, h⟩⟩
/-- Ways turned around. -/
theorem way_turn {c : List (List Int)} (hv : Valid c) (hr : ∀ l ∈ c, l.Pairwise (· < ·)) {a b : Int} (h : Way c a b) (ha : Node c a) : Way (turn c) b a := by
  induction h with
  | refl => exact .refl _
  | @step a b d hb _ ih => exact (ih (row_node hv hb)).trans (.edge ((mem_turn hv hr (row_node hv hb).1).2 ⟨ha, hb⟩))

end Go.Proofs.Ytnhcimhdkdgccaa.P
