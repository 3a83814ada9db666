/- The reference of layer 14: dominators by definition. Plain laws. -/
import Derived.Test.YtemcmcnhpdkdfaaGref10
import Derived.Test.YtemcmcnhpdkdfaaGtree
import Derived.Test.YtemcmcnhpdkdfaaPbywashref14
namespace Go.Proofs.Ytemcmcnhpdkdfaa.P
open Go.RowKit Go.Lib Go.Proofs.YtemcmcnhpdkdfaaW.PrintWords

/-! #### without a node -/
theorem row_set {c : List (List Int)} {a x : Int} (h : ¬ (x.toNat = a.toNat ∧ a.toNat < c.length)) : row (c.set a.toNat []) x = row c x := by
  unfold row
  rw [List.getD_eq_getElem?_getD, List.getElem?_set, List.getD_eq_getElem?_getD]
  by_cases e : a.toNat = x.toNat
  · rw [if_pos e, if_neg (fun k => h ⟨e.symm, k⟩), List.getElem?_eq_none (by omega)]
  · rw [if_neg e]
theorem row_set_self {c : List (List Int)} {a : Int} : row (c.set a.toNat []) a = [] := by
  unfold row
  rw [List.getD_eq_getElem?_getD, List.getElem?_set, if_pos rfl]
  split <;> rfl
theorem way_without {c : List (List Int)} (hv : Valid c) {a b : Int} (ha : Node c a) (ha0 : a ≠ 0) (hb : b ≠ a) (h0 : Node c 0) : Way (c.set a.toNat []) 0 b ↔ Av c a 0 b := by
  have hrow : ∀ x, Node c x → x ≠ a → row (c.set a.toNat []) x = row c x := fun x hx hne => row_set (fun k => hne (by have := hx.1; have := ha.1; omega))
  constructor
  · intro h
    have := h.closed (P := fun z => Node c z ∧ (Av c a 0 z ∨ z = a)) (fun x y hx he => by
      by_cases e : x = a
      · rw [e, row_set_self] at he
        simp at he
      · rw [hrow x hx.1 e] at he
        refine ⟨row_node hv he, ?_⟩
        rcases hx.2 with k | k
        · by_cases e2 : y = a
          · exact .inr e2
          · exact .inl (k.snoc he e2)
        · exact absurd k e) ⟨h0, .inl (.refl (Ne.symm ha0))⟩
    exact this.2.resolve_right hb
  · intro h
    have := h.closed (P := fun z => Node c z ∧ z ≠ a ∧ Way (c.set a.toNat []) 0 z) (fun x y hx he hy => ⟨row_node hv he, hy, hx.2.2.trans (.edge (by rw [hrow x hx.1 hx.2.1]; exact he))⟩) ⟨h0, Ne.symm ha0, .refl _⟩
    exact this.2.2
theorem set_valid {c : List (List Int)} (hv : Valid c) (a : Nat) : Valid (c.set a []) := fun l hl b hb => by
  rw [List.length_set]
  rcases List.mem_or_eq_of_mem_set hl with h | h
  · exact hv l h b hb
  · rw [h] at hb; simp at hb
theorem set_rises {c : List (List Int)} (hr : ∀ l ∈ c, l.Pairwise (· < ·)) (a : Nat) : ∀ l ∈ c.set a [], l.Pairwise (· < ·) := fun l hl => by
  rcases List.mem_or_eq_of_mem_set hl with h | h
  · exact hr l h
  · rw [h]; exact List.Pairwise.nil

/-! #### bywashref14.doms -/
def domB (c : List (List Int)) (a b : Nat) : Bool := (reachN c c.length 0).getD b false && (decide (a = b) || (decide (a = 0) || !(reachN (c.set a []) c.length 0).getD b false))
def domRow (c : List (List Int)) (a : Nat) : List Bool := (List.range c.length).map (domB c a)
def domAll (c : List (List Int)) : List (List Bool) := (List.range c.length).map (domRow c)
theorem domB_iff {c : List (List Int)} (hv : Valid c) {a b : Nat} (ha : a < c.length) (hb : b < c.length) : domB c a b = true ↔ Dm c (a : Int) (b : Int) := by
  have h0 : Node c 0 := ⟨Int.le_refl 0, by omega⟩
  have hrb : (reachN c c.length 0).getD b false = true ↔ Rc c (b : Int) := by
    rw [reachN_get hv]
    exact ⟨fun k => ⟨⟨by omega, by omega⟩, k.2⟩, fun k => ⟨h0, k.2⟩⟩
  unfold domB
  rw [Bool.and_eq_true, hrb, Bool.or_eq_true, Bool.or_eq_true, decide_eq_true_iff, decide_eq_true_iff, Bool.not_eq_true']
  unfold Dm
  refine and_congr_right (fun hr => ?_)
  by_cases e : a = b
  · subst e
    exact ⟨fun _ k => k.right rfl, fun _ => .inl rfl⟩
  · by_cases e0 : a = 0
    · subst e0
      exact ⟨fun _ k => k.left rfl, fun _ => .inr (.inl rfl)⟩
    · have hw := way_without hv (a := (a : Int)) (b := (b : Int)) ⟨by omega, by omega⟩ (by omega) (by omega) h0
      rw [Int.toNat_natCast] at hw
      have hg := reachN_get (set_valid hv a) (a := 0) (j := b)
      rw [List.length_set] at hg
      rw [← hw]
      constructor
      · rintro (k | k | k) q
        · exact e k
        · exact e0 k
        · rw [hg.2 ⟨⟨Int.le_refl 0, by rw [List.length_set]; omega⟩, q⟩] at k
          cases k
      · intro k
        refine .inr (.inr ?_)
        cases hx : (reachN (c.set a []) c.length 0).getD b false with
        | false => rfl
        | true => exact absurd (hg.1 hx).2 k
theorem rdOf_false (m : List Bool) (i : Nat) : rdOf false m (i : Int) = m.getD i false := by
  show m.getD (Int.toNat (i : Int)) false = _
  rw [Int.toNat_natCast]
theorem doms_l1 {x0 c : List (List Int)} (hn : x0.length ≤ 900) (hcl : c.length = x0.length) (out : List (List Bool)) (ho : out.length ≤ 900) (a : Nat) (ha : a < c.length) (r : List (List Bool))
    (hk : Ev (fun k => bywashref14_doms.l0 k x0 (reachN c c.length 0) (out ++ [domRow c a]) ((a + 1 : Nat) : Int)) r) : ∀ d i : Nat, i + d = c.length → Ev (fun k => bywashref14_doms.l1 k x0 (reachN c c.length 0) out (a : Int) (reachN (c.set a []) c.length 0) ((List.range i).map (domB c a) ++ List.replicate d false) (i : Int)) r := by
  have hfl := reachN_len c c.length 0
  have hsl := reachN_len (c.set a []) c.length 0
  intro d
  induction d with
  | zero =>
    intro i hd
    obtain rfl : i = c.length := by omega
    rw [List.replicate_zero, List.append_nil]
    exact Ev.step (fun k => by rw [bywashref14_doms.l1, if_neg (by omega), if_pos (by omega), wrap_succ (by omega)]; rfl) hk
  | succ d ih =>
    intro i hd
    have next := ih (i + 1) (by omega)
    have hset : ∀ v : Bool, v = domB c a i → ((List.range i).map (domB c a) ++ List.replicate (d + 1) false).set ((i : Int)).toNat v = (List.range (i + 1)).map (domB c a) ++ List.replicate d false := by
      intro v hv
      rw [Int.toNat_natCast, List.set_append_right _ _ (by simp), List.length_map, List.length_range, Nat.sub_self, List.replicate_succ, List.set_cons_zero, List.range_succ, List.map_append, List.append_assoc, hv]
      rfl
    have hlen : ((List.range i).map (domB c a) ++ List.replicate (d + 1) false).length = c.length := by simp; omega
    have o1 : (i : Int) < (x0.length : Int) := by omega
    have o2 : (i : Int) < ((reachN c c.length 0).length : Int) := by omega
    have o3 : (i : Int) < ((reachN (c.set a []) c.length 0).length : Int) := by omega
    have o4 : (i : Int) < (((List.range i).map (domB c a) ++ List.replicate (d + 1) false).length : Int) := by omega
    have o5 : (0 : Int) ≤ (i : Int) := by omega
    have hw := wrap_succ (i := i) (by omega)
    refine Ev.step (fun k => ?_) next
    rw [bywashref14_doms.l1, if_pos o1, if_pos o5, if_pos o2, rdOf_false, rdOf_false, hw]
    by_cases e1 : (reachN c c.length 0).getD i false = true
    · rw [if_pos e1]
      by_cases e2 : (a : Int) = (i : Int)
      · rw [if_pos e2, if_pos o4, hset true (by unfold domB; rw [e1, decide_eq_true (by omega)]; rfl)]
      · rw [if_neg e2]
        by_cases e3 : (a : Int) = 0
        · rw [if_pos e3, if_pos o4, hset true (by unfold domB; rw [e1, decide_eq_true (show a = 0 by omega), Bool.true_or, Bool.or_true]; rfl)]
        · rw [if_neg e3, if_pos o3, if_pos o4, hset _ (by unfold domB; rw [e1, decide_eq_false (by omega), decide_eq_false (by omega)]; rfl)]
    · rw [if_neg e1, if_pos o4, hset false (by unfold domB; rw [Bool.not_eq_true] at e1; rw [e1]; rfl)]
theorem doms_l0 {x0 : List (List Int)} (hn : x0.length ≤ 900) (hr : ∀ r ∈ x0, r.length ≤ 900) : ∀ d i : Nat, i + d = x0.length → Ev (fun k => bywashref14_doms.l0 k x0 (reachN (clean x0) (clean x0).length 0) ((List.range i).map (domRow (clean x0))) (i : Int)) (domAll (clean x0)) := by
  have hcl := clean_len x0
  have hv := clean_Valid x0
  have hri := clean_rises x0
  have hrl : ∀ r ∈ clean x0, r.length ≤ 900 := fun r h => Nat.le_trans (clean_row_le r h) hn
  have hce := refclean_ev x0 hn hr
  obtain ⟨c, hc⟩ : ∃ c, c = clean x0 := ⟨_, rfl⟩
  rw [← hc] at hcl hv hri hrl hce ⊢
  clear hc
  intro d
  induction d with
  | zero =>
    intro i hd
    have e : (List.range i).map (domRow c) = domAll c := by unfold domAll; rw [show i = c.length by omega]
    rw [e]
    exact Ev.step (f := fun _ => some (domAll c)) (fun k => by rw [bywashref14_doms.l0, if_neg (by omega)]) (Ev.now _)
  | succ d ih =>
    intro i hd
    have next := ih (i + 1) (by omega)
    rw [List.range_succ, List.map_append] at next
    have h1 := doms_l1 hn hcl ((List.range i).map (domRow c)) (by simp; omega) i (by omega) _ next c.length 0 (by omega)
    have hse : Ev (fun k => bywashref10_Reach.f k (c.set i []) 0) (reachN (c.set i []) c.length 0) := by
      have := refreach_ev (c.set i []) (by rw [List.length_set]; omega) (fun r hr => by
        rcases List.mem_or_eq_of_mem_set hr with h | h
        · exact hrl r h
        · rw [h]; simp) 0
      rw [clean_self (set_valid hv i) (set_rises hri i), List.length_set] at this
      exact this
    refine Ev.step (f := fun k => (bywashref10_Clean.f k x0).bind fun t => if 0 ≤ (i : Int) then (if (i : Int) < (t.length : Int) then (bywashref10_Reach.f k (t.set (i : Int).toNat ([] : List Int)) 0).bind fun u => if 0 ≤ (x0.length : Int) then (if ((x0.length : Int) : Int).toNat ≤ 281474976710656 then bywashref14_doms.l1 k x0 (reachN c c.length 0) ((List.range i).map (domRow c)) (i : Int) u (List.replicate ((x0.length : Int) : Int).toNat false) 0 else none) else none else none) else none) (fun k => by rw [bywashref14_doms.l0, if_pos (by omega)]) ?_
    refine Ev.bind hce ?_
    simp only [if_pos (show (0 : Int) ≤ (i : Int) by omega), if_pos (show (i : Int) < (c.length : Int) by omega), Int.toNat_natCast]
    refine Ev.bind hse ?_
    simp only [if_pos (show (0 : Int) ≤ (x0.length : Int) by omega), if_pos (show x0.length ≤ 281474976710656 by omega)]
    rw [hcl] at h1 ⊢
    exact h1
theorem doms_ev {x0 : List (List Int)} (hn : x0.length ≤ 900) (hr : ∀ r ∈ x0, r.length ≤ 900) : Ev (fun k => bywashref14_doms.f k x0) (domAll (clean x0)) := by
  refine Ev.bind (f := fun k t => bywashref14_doms.l0 k x0 t ([] : List (List Bool)) 0) (refreach_ev x0 hn hr 0) ?_
  have := doms_l0 hn hr x0.length 0 (by omega)
  rw [clean_len] at this
  exact this

/-! #### bywashref14.closest -/
theorem closest_l1_yes {D : List (List Bool)} {S : List Int} (hb : ∀ x ∈ S, 0 ≤ x ∧ x < (D.length : Int) ∧ ∀ y ∈ S, y < ((rd_L3 D x).length : Int)) (hs : S.length ≤ 900) {i : Nat} (hi : i < S.length) (hall : ∀ x ∈ S, rdOf false (rd_L3 D x) S[i] = true) :
    ∀ d k : Nat, k + d = S.length → Ev (fun n => bywashref14_closest.l1 n D S (i : Int) true (k : Int)) S[i] := by
  have hSi := List.getElem_mem hi
  intro d
  induction d with
  | zero =>
    intro k hd
    exact Ev.step (f := fun _ => some S[i]) (fun n => by rw [bywashref14_closest.l1, if_neg (by omega), if_pos rfl, if_pos (by omega), if_pos (by omega), rd_nat' hi]) (Ev.now _)
  | succ d ih =>
    intro k hd
    have hk : k < S.length := by omega
    have hSk := List.getElem_mem hk
    refine Ev.step (fun n => ?_) (ih (k + 1) (by omega))
    rw [bywashref14_closest.l1, if_pos (by omega), if_pos rfl, if_pos (by omega), rd_nat' hk, if_pos (hb _ hSk).1, if_pos (hb _ hSk).2.1, if_pos (by omega), if_pos (by omega), rd_nat' hi, if_pos (hb _ hSi).1, if_pos ((hb _ hSk).2.2 _ hSi), hall _ hSk, wrap_succ (by omega)]
theorem closest_l1_no {D : List (List Bool)} {S : List Int} (hb : ∀ x ∈ S, 0 ≤ x ∧ x < (D.length : Int) ∧ ∀ y ∈ S, y < ((rd_L3 D x).length : Int)) (hs : S.length ≤ 900) {i : Nat} (hi : i < S.length) (r : Int) (hk : Ev (fun n => bywashref14_closest.l0 n D S ((i + 1 : Nat) : Int)) r) :
    ∀ d k : Nat, k + d = S.length → ∀ q : Bool, (q = false ∨ ∃ x ∈ S.drop k, rdOf false (rd_L3 D x) S[i] = false) → Ev (fun n => bywashref14_closest.l1 n D S (i : Int) q (k : Int)) r := by
  have hSi := List.getElem_mem hi
  intro d
  induction d with
  | zero =>
    intro k hd q hq
    rw [List.drop_eq_nil_of_le (by omega)] at hq
    have : q = false := hq.resolve_right (fun ⟨x, hx, _⟩ => by simp at hx)
    subst this
    exact Ev.step (fun n => by rw [bywashref14_closest.l1, if_neg (by omega), if_neg (by simp), wrap_succ (by omega)]) hk
  | succ d ih =>
    intro k hd q hq
    have hkl : k < S.length := by omega
    have hSk := List.getElem_mem hkl
    cases q with
    | false => exact Ev.step (fun n => by rw [bywashref14_closest.l1, if_pos (by omega), if_neg (by simp), wrap_succ (by omega)]) (ih (k + 1) (by omega) false (.inl rfl))
    | true =>
      refine Ev.step (fun n => ?_) (ih (k + 1) (by omega) (rdOf false (rd_L3 D S[k]) S[i]) ?_)
      · rw [bywashref14_closest.l1, if_pos (by omega), if_pos rfl, if_pos (by omega), rd_nat' hkl, if_pos (hb _ hSk).1, if_pos (hb _ hSk).2.1, if_pos (by omega), if_pos (by omega), rd_nat' hi, if_pos (hb _ hSi).1, if_pos ((hb _ hSk).2.2 _ hSi), wrap_succ (by omega)]
      · rcases hq with e | ⟨x, hx, e⟩
        · cases e
        · rw [List.drop_eq_getElem_cons hkl] at hx
          rcases List.mem_cons.1 hx with h | h
          · rw [h] at e; exact .inl e
          · exact .inr ⟨x, h, e⟩
theorem closest_l0 {D : List (List Bool)} {S : List Int} (hb : ∀ x ∈ S, 0 ≤ x ∧ x < (D.length : Int) ∧ ∀ y ∈ S, y < ((rd_L3 D x).length : Int)) (hs : S.length ≤ 900) {p : Int} (hp : ∀ x ∈ S, rdOf false (rd_L3 D x) p = true) (hone : ∀ y ∈ S, y ≠ p → ∃ x ∈ S, rdOf false (rd_L3 D x) y = false) :
    ∀ d i : Nat, i + d = S.length → p ∈ S.drop i → Ev (fun n => bywashref14_closest.l0 n D S (i : Int)) p := by
  intro d
  induction d with
  | zero =>
    intro i hd hpi
    rw [List.drop_eq_nil_of_le (by omega)] at hpi
    simp at hpi
  | succ d ih =>
    intro i hd hpi
    have hi : i < S.length := by omega
    rw [List.drop_eq_getElem_cons hi] at hpi
    by_cases e : S[i] = p
    · have := closest_l1_yes hb hs hi (by rw [e]; exact hp) S.length 0 (by omega)
      rw [e] at this
      exact Ev.step (f := fun n => bywashref14_closest.l1 n D S (i : Int) true ((0 : Nat) : Int)) (fun n => by rw [bywashref14_closest.l0, if_pos (by omega)]; rfl) this
    · have hpd : p ∈ S.drop (i + 1) := (List.mem_cons.1 hpi).resolve_left (fun h => e h.symm)
      have := closest_l1_no hb hs hi p (ih (i + 1) (by omega) hpd) S.length 0 (by omega) true (.inr (by rw [List.drop_zero]; exact hone _ (List.getElem_mem hi) e))
      exact Ev.step (f := fun n => bywashref14_closest.l1 n D S (i : Int) true ((0 : Nat) : Int)) (fun n => by rw [bywashref14_closest.l0, if_pos (by omega)]; rfl) this

/-! #### bywashref14.Idoms -/
theorem rdL3_nat {D : List (List Bool)} (i : Nat) : rd_L3 D (i : Int) = D.getD i [] := by
  show D.getD (Int.toNat (i : Int)) [] = _
  rw [Int.toNat_natCast]
theorem domAll_get {c : List (List Int)} {a : Nat} (ha : a < c.length) : rd_L3 (domAll c) (a : Int) = domRow c a := by
  rw [rdL3_nat]
  unfold domAll
  rw [List.getD_eq_getElem?_getD, List.getElem?_map, List.getElem?_range ha]
  rfl
theorem domRow_get {c : List (List Int)} {a b : Nat} (hb : b < c.length) : rdOf false (domRow c a) (b : Int) = domB c a b := by
  rw [rdOf_false]
  unfold domRow
  rw [List.getD_eq_getElem?_getD, List.getElem?_map, List.getElem?_range hb]
  rfl
/-- All that dominate b but it. -/
def strB (c : List (List Int)) (b i : Nat) : List Int := (nodes i).filter fun a => decide (a ≠ (b : Int)) && domB c a.toNat b
theorem closest_is {c : List (List Int)} {l : List Int} (hv : Valid c) (h : IsDom c l) (hn : c.length ≤ 900) {b : Nat} (hb : Rc c (b : Int)) (hb0 : b ≠ 0) : Ev (fun n => bywashref14_closest.f n (domAll c) (strB c b c.length)) (rd l (b : Int)) := by
  have hbl : b < c.length := by have := hb.1.2; omega
  have hmem : ∀ x, x ∈ strB c b c.length ↔ x ≠ (b : Int) ∧ Dm c x (b : Int) := by
    intro x
    unfold strB
    rw [List.mem_filter, mem_nodes, Bool.and_eq_true, decide_eq_true_iff]
    constructor
    · rintro ⟨h1, h2, h3⟩
      have := (domB_iff hv (a := x.toNat) (b := b) (by omega) hbl).1 h3
      rw [show ((x.toNat : Nat) : Int) = x by omega] at this
      exact ⟨h2, this⟩
    · rintro ⟨h1, h2⟩
      have hx := (h.dm_rc h2).1
      have h3 := hx.1
      have h4 := hx.2
      refine ⟨⟨h3, h4⟩, h1, (domB_iff hv (by omega) hbl).2 ?_⟩
      rw [show ((x.toNat : Nat) : Int) = x by omega]
      exact h2
  have hz : (b : Int) ≠ 0 := by omega
  obtain ⟨p, q1, q2, q3, q4⟩ := h.par _ hb.1 hb.2 hz
  have hpb : Dm c p (b : Int) := (h.dm_par hb hz).2 (.inr (by rw [q2]; exact h.dm_refl.2 ⟨q3, q4⟩))
  have hpne : p ≠ (b : Int) := fun e => by
    obtain ⟨f, hf, _⟩ := h.rank
    have := hf _ _ q1
    rw [e] at this
    omega
  have hget : ∀ x y, Node c x → Node c y → (rdOf false (rd_L3 (domAll c) x) y = true ↔ Dm c x y) := by
    intro x y hx hy
    obtain ⟨i, rfl⟩ : ∃ i : Nat, x = (i : Int) := ⟨x.toNat, by have := hx.1; omega⟩
    obtain ⟨j, rfl⟩ : ∃ j : Nat, y = (j : Int) := ⟨y.toNat, by have := hy.1; omega⟩
    have hi : i < c.length := by have := hx.2; omega
    have hj : j < c.length := by have := hy.2; omega
    rw [domAll_get hi, domRow_get hj, domB_iff hv hi hj]
  have hstr : ∀ x ∈ strB c b c.length, Dm c x p := fun x hx => by
    have := (hmem x).1 hx
    have := (h.dm_par hb hz).1 this.2
    rw [q2] at this
    exact this.resolve_left ((hmem x).1 hx).1
  have hlen : (strB c b c.length).length ≤ 900 := by
    unfold strB
    refine Nat.le_trans (List.length_filter_le _ _) ?_
    rw [nodes_len]
    exact hn
  rw [q2]
  have hpm : p ∈ strB c b c.length := (hmem p).2 ⟨hpne, hpb⟩
  have hnode : ∀ x ∈ strB c b c.length, Node c x := fun x hx => (h.dm_rc ((hmem x).1 hx).2).1
  refine closest_l0 (D := domAll c) (fun x hx => ?_) hlen (p := p) (fun x hx => (hget x p (hnode x hx) q3).2 (hstr x hx)) (fun y hy hne => ⟨p, hpm, ?_⟩) (strB c b c.length).length 0 (by omega) (by rw [List.drop_zero]; exact hpm)
  · have hx' := hnode x hx
    refine ⟨hx'.1, by unfold domAll; rw [List.length_map, List.length_range]; exact hx'.2, fun y hy => ?_⟩
    obtain ⟨i, rfl⟩ : ∃ i : Nat, x = (i : Int) := ⟨x.toNat, by have := hx'.1; omega⟩
    rw [domAll_get (by have := hx'.2; omega)]
    unfold domRow
    rw [List.length_map, List.length_range]
    exact (hnode y hy).2
  · cases hc : rdOf false (rd_L3 (domAll c) p) y with
    | false => rfl
    | true => exact absurd (h.dm_anti (hstr y hy) ((hget p y q3 (hnode y hy)).1 hc)) hne
theorem refidoms_l1 {x0 c : List (List Int)} (hn : x0.length ≤ 900) (hcl : c.length = x0.length) (F : List Bool) (out : List Int) (ho : out.length ≤ 900) (b : Nat) (hb : b < c.length) (v : Int) (hcv : Ev (fun n => bywashref14_closest.f n (domAll c) (strB c b c.length)) v) (r : List Int)
    (hk : Ev (fun k => bywashref14_Idoms.l0 k x0 F (domAll c) (out ++ [v]) ((b + 1 : Nat) : Int)) r) : ∀ d i : Nat, i + d = c.length → Ev (fun k => bywashref14_Idoms.l1 k x0 F (domAll c) out (b : Int) (strB c b i) (i : Int)) r := by
  have hDl : (domAll c).length = c.length := by unfold domAll; rw [List.length_map, List.length_range]
  intro d
  induction d with
  | zero =>
    intro i hd
    obtain rfl : i = c.length := by omega
    refine Ev.step (f := fun k => (bywashref14_closest.f k (domAll c) (strB c b c.length)).bind fun t => if out.length < 17592186044416 then bywashref14_Idoms.l0 k x0 F (domAll c) (out ++ [t]) ((b + 1 : Nat) : Int) else none) (fun k => by rw [bywashref14_Idoms.l1, if_neg (by omega), wrap_succ (by omega)]) ?_
    refine Ev.bind hcv ?_
    simp only [if_pos (show out.length < 17592186044416 by omega)]
    exact hk
  | succ d ih =>
    intro i hd
    have hi : i < c.length := by omega
    have next := ih (i + 1) (by omega)
    have hsl : (strB c b i).length ≤ 900 := by
      unfold strB
      refine Nat.le_trans (List.length_filter_le _ _) ?_
      rw [nodes_len]
      omega
    have hrow : ((rd_L3 (domAll c) (i : Int)).length : Int) = (c.length : Int) := by rw [domAll_get hi]; unfold domRow; rw [List.length_map, List.length_range]
    have hstep : strB c b (i + 1) = strB c b i ++ (if (decide ((i : Int) ≠ (b : Int)) && domB c i b) = true then [(i : Int)] else []) := by
      unfold strB
      rw [nodes_snoc, List.filter_append, List.filter_cons, List.filter_nil, Int.toNat_natCast]
    rw [hstep] at next
    have hw := wrap_succ (i := i) (by omega)
    have o1 : (i : Int) < (x0.length : Int) := by omega
    have o2 : (0 : Int) ≤ (i : Int) := by omega
    have o3 : (i : Int) < ((domAll c).length : Int) := by omega
    have o4 : (0 : Int) ≤ (b : Int) := by omega
    have o5 : (b : Int) < ((rd_L3 (domAll c) (i : Int)).length : Int) := by rw [hrow]; omega
    refine Ev.step (fun k => ?_) next
    rw [bywashref14_Idoms.l1, if_pos o1]
    by_cases e : (i : Int) = (b : Int)
    · rw [if_pos e, decide_eq_false (by omega), Bool.false_and, if_neg (by simp), List.append_nil, hw]
    · rw [if_neg e, if_pos o2, if_pos o3, if_pos o4, if_pos o5, domAll_get hi, domRow_get hb, decide_eq_true e, Bool.true_and, hw]
      by_cases e2 : domB c i b = true
      · rw [if_pos e2, if_pos e2, if_pos (show (strB c b i).length < 17592186044416 by omega)]
      · rw [if_neg e2, if_neg e2, List.append_nil]
theorem refidoms_l0 {x0 c : List (List Int)} {l : List Int} (hn : x0.length ≤ 900) (hcl : c.length = x0.length) (hv : Valid c) (h : IsDom c l) : ∀ d i : Nat, i + d = c.length → Ev (fun k => bywashref14_Idoms.l0 k x0 (reachN c c.length 0) (domAll c) (l.take i) (i : Int)) l := by
  have hfl := reachN_len c c.length 0
  have hll := h.len
  intro d
  induction d with
  | zero =>
    intro i hd
    rw [List.take_of_length_le (by omega)]
    exact Ev.step (f := fun _ => some l) (fun k => by rw [bywashref14_Idoms.l0, if_neg (by omega)]) (Ev.now _)
  | succ d ih =>
    intro i hd
    have hi : i < c.length := by omega
    have next := ih (i + 1) (by omega)
    rw [List.take_succ_eq_append_getElem (by omega), ← rd_nat' (by omega)] at next
    have htl : (l.take i).length ≤ 900 := by rw [List.length_take]; omega
    have hw := wrap_succ (i := i) (by omega)
    have o1 : (i : Int) < (x0.length : Int) := by omega
    have o2 : (0 : Int) ≤ (i : Int) := by omega
    have o3 : (i : Int) < ((reachN c c.length 0).length : Int) := by omega
    have o4 : (l.take i).length < 17592186044416 := by omega
    by_cases e : (i : Int) = 0
    · rw [e, h.zero (by omega)] at next
      exact Ev.step (fun k => by rw [bywashref14_Idoms.l0, if_pos o1, if_pos e, if_pos o4, hw]) next
    · have hn0 : Node c 0 := ⟨Int.le_refl 0, by omega⟩
      have hni : Node c (i : Int) := ⟨by omega, by omega⟩
      have hg := reachN_get hv (a := 0) (j := i)
      by_cases e2 : (reachN c c.length 0).getD i false = true
      · have hrc : Rc c (i : Int) := ⟨hni, (hg.1 e2).2⟩
        have h1 := refidoms_l1 hn hcl (reachN c c.length 0) (l.take i) htl i hi _ (closest_is hv h (by omega) hrc (by omega)) l next c.length 0 (by omega)
        exact Ev.step (f := fun k => bywashref14_Idoms.l1 k x0 (reachN c c.length 0) (domAll c) (l.take i) (i : Int) (strB c i 0) ((0 : Nat) : Int)) (fun k => by rw [bywashref14_Idoms.l0, if_pos o1, if_neg e, if_pos o2, if_pos o3, rdOf_false, if_pos e2]; rfl) h1
      · rw [h.lost _ hni (fun hw => e2 (hg.2 ⟨hn0, hw⟩))] at next
        exact Ev.step (fun k => by rw [bywashref14_Idoms.l0, if_pos o1, if_neg e, if_pos o2, if_pos o3, rdOf_false, if_neg e2, if_pos o4, hw]) next
theorem refidoms_ev {x0 : List (List Int)} (hn : x0.length ≤ 900) (hr : ∀ r ∈ x0, r.length ≤ 900) {l : List Int} (h : IsDom (clean x0) l) : Ev (fun k => bywashref14_Idoms.f k x0) l := by
  refine Ev.bind (f := fun k t => (bywashref14_doms.f k x0).bind fun u => bywashref14_Idoms.l0 k x0 t u ([] : List Int) 0) (refreach_ev x0 hn hr 0) ?_
  refine Ev.bind (doms_ev hn hr) ?_
  have := refidoms_l0 hn (clean_len x0) (clean_Valid x0) h (clean x0).length 0 (by omega)
  rw [List.take_zero] at this
  rw [← clean_len x0]
  exact this

end Go.Proofs.Ytemcmcnhpdkdfaa.P
