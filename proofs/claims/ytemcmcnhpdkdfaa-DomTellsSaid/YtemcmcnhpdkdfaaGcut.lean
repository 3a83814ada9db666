/- A graph without what follows one node. Plain laws. -/
import Derived.Test.YtemcmcnhpdkdfaaGtree
namespace Go.Proofs.Ytemcmcnhpdkdfaa.P
open Go.RowKit Go.Lib Go.Proofs.YtemcmcnhpdkdfaaW.PrintWords

/-! #### without a node -/
theorem row_set {c : List (List Int)} {a x : Int} (h : ¬ (x.toNat = a.toNat ∧ a.toNat < c.length)) : row (c.set a.toNat []) x = row c x := by
  unfold row
  rw [List.getD_eq_getElem?_getD, List.getElem?_set, List.getD_eq_getElem?_getD]
  by_cases e : a.toNat = x.toNat
  · rw [if_pos e, if_neg (fun k => h ⟨e.symm, k⟩), List.getElem?_eq_none (by omega)]
  · rw [if_neg e]
theorem row_set_self {c : List (List Int)} {a : Int} : row (c.set a.toNat []) a = [] := by
  unfold row
  rw [List.getD_eq_getElem?_getD, List.getElem?_set, if_pos rfl]
  split <;> rfl
theorem way_without {c : List (List Int)} (hv : Valid c) {a b : Int} (ha : Node c a) (ha0 : a ≠ 0) (hb : b ≠ a) (h0 : Node c 0) : Way (c.set a.toNat []) 0 b ↔ Av c a 0 b := by
  have hrow : ∀ x, Node c x → x ≠ a → row (c.set a.toNat []) x = row c x := fun x hx hne => row_set (fun k => hne (by have := hx.1; have := ha.1; omega))
  constructor
  · intro h
    have := h.closed (P := fun z => Node c z ∧ (Av c a 0 z ∨ z = a)) (fun x y hx he => by
      by_cases e : x = a
      · rw [e, row_set_self] at he
        simp at he
      · rw [hrow x hx.1 e] at he
        refine ⟨row_node hv he, ?_⟩
        rcases hx.2 with k | k
        · by_cases e2 : y = a
          · exact .inr e2
          · exact .inl (k.snoc he e2)
        · exact absurd k e) ⟨h0, .inl (.refl (Ne.symm ha0))⟩
    exact this.2.resolve_right hb
  · intro h
    have := h.closed (P := fun z => Node c z ∧ z ≠ a ∧ Way (c.set a.toNat []) 0 z) (fun x y hx he hy => ⟨row_node hv he, hy, hx.2.2.trans (.edge (by rw [hrow x hx.1 hx.2.1]; exact he))⟩) ⟨h0, Ne.symm ha0, .refl _⟩
    exact this.2.2
theorem set_valid {c : List (List Int)} (hv : Valid c) (a : Nat) : Valid (c.set a []) := fun l hl b hb => by
  rw [List.length_set]
  rcases List.mem_or_eq_of_mem_set hl with h | h
  · exact hv l h b hb
  · rw [h] at hb; simp at hb
theorem set_rises {c : List (List Int)} (hr : ∀ l ∈ c, l.Pairwise (· < ·)) (a : Nat) : ∀ l ∈ c.set a [], l.Pairwise (· < ·) := fun l hl => by
  rcases List.mem_or_eq_of_mem_set hl with h | h
  · exact hr l h
  · rw [h]; exact List.Pairwise.nil

end Go.Proofs.Ytemcmcnhpdkdfaa.P
