/- An edge more, an edge less: the plain laws. -/
import Derived.Test.YtnhcimhdkdgccaaGclean2
namespace Go.Proofs.Ytnhcimhdkdgccaa.P
open Go.RowKit Go.Lib Go.Proofs.YtnhcimhdkdgccaaW.PrintWords

theorem insAt_lt {x b : Int} (l : List Int) (h : x < b) : insAt (x :: l) b = x :: insAt l b := by
  unfold insAt
  rw [List.countP_cons_of_pos (by simpa using h), List.take_succ_cons, List.drop_succ_cons, List.cons_append]
theorem insAt_ge {b : Int} (l : List Int) (h : ∀ y ∈ l, b ≤ y) : insAt l b = b :: l := by
  unfold insAt
  have h0 : l.countP (fun x => decide (x < b)) = 0 := List.countP_eq_zero.2 (fun y hy => by have := h y hy; simp; omega)
  rw [h0]
  rfl
theorem mem_insAt (b : Int) : ∀ (l : List Int) (x : Int), x ∈ insAt l b ↔ x ∈ l ∨ x = b := by
  intro l x
  unfold insAt
  constructor
  · intro h
    rcases List.mem_append.1 h with h | h
    · exact .inl (List.mem_of_mem_take h)
    · rcases List.mem_cons.1 h with h | h
      · exact .inr h
      · exact .inl (List.mem_of_mem_drop h)
  · rintro (h | h)
    · rw [← List.take_append_drop (l.countP (fun x => decide (x < b))) l] at h
      rcases List.mem_append.1 h with h | h
      · exact List.mem_append_left _ h
      · exact List.mem_append_right _ (List.mem_cons_of_mem _ h)
    · subst h
      exact List.mem_append_right _ List.mem_cons_self
theorem insAt_rises (b : Int) : ∀ (l : List Int), l.Pairwise (· < ·) → ¬ b ∈ l → (insAt l b).Pairwise (· < ·)
  | [], _, _ => by simp [insAt]
  | x :: l, h, hb => by
    rw [List.pairwise_cons] at h
    have hne : b ≠ x := fun e => hb (by rw [e]; exact List.mem_cons_self)
    have hnl : ¬ b ∈ l := fun e => hb (List.mem_cons_of_mem _ e)
    rcases Int.lt_or_lt_of_ne hne with hlt | hlt
    · rw [insAt_ge (x :: l) (fun y hy => by
        rcases List.mem_cons.1 hy with e | e
        · omega
        · have := h.1 y e; omega)]
      refine List.pairwise_cons.2 ⟨fun y hy => ?_, List.pairwise_cons.2 h⟩
      rcases List.mem_cons.1 hy with e | e
      · omega
      · have := h.1 y e; omega
    · rw [insAt_lt l hlt]
      refine List.pairwise_cons.2 ⟨fun y hy => ?_, insAt_rises b l h.2 hnl⟩
      rcases (mem_insAt b l y).1 hy with e | e
      · exact h.1 y e
      · omega

theorem row_set {c : List (List Int)} {a x : Int} {l : List Int} (ha : Node c a) (hx : 0 ≤ x) : row (c.set a.toNat l) x = if x = a then l else row c x := by
  unfold row
  rw [List.getD_eq_getElem?_getD, List.getElem?_set]
  have := ha.1
  have := ha.2
  by_cases h : x = a
  · subst h
    rw [if_pos rfl, if_pos (by omega), if_pos rfl]
    rfl
  · rw [if_neg (by omega), if_neg h, List.getD_eq_getElem?_getD]
theorem row_at {c : List (List Int)} {a : Int} (ha : Node c a) : row c a ∈ c := by
  unfold row
  have := ha.1
  have := ha.2
  rw [List.getD_eq_getElem?_getD, List.getElem?_eq_getElem (by omega), Option.getD_some]
  exact List.getElem_mem _

section
variable {c : List (List Int)} {a b x y : Int}
theorem withE_len : (withE c a b).length = c.length := by unfold withE; split <;> simp
theorem withoutE_len : (withoutE c a b).length = c.length := by unfold withoutE; split <;> simp
theorem mem_withE (ha : Node c a) (hb : Node c b) (hx : 0 ≤ x) : y ∈ row (withE c a b) x ↔ y ∈ row c x ∨ (x = a ∧ y = b) := by
  unfold withE
  split
  · rw [row_set ha hx]
    by_cases h : x = a
    · subst h
      rw [if_pos rfl, mem_insAt]
      exact or_congr Iff.rfl ⟨fun h => ⟨rfl, h⟩, fun h => h.2⟩
    · rw [if_neg h]
      exact ⟨.inl, fun e => e.elim id (fun e => absurd e.1 h)⟩
  · rename_i h
    refine ⟨.inl, fun e => e.elim id (fun e => ?_)⟩
    obtain ⟨rfl, rfl⟩ := e
    by_cases hm : y ∈ c.getD x.toNat []
    · exact hm
    · exact absurd ⟨isN_iff.2 ha, isN_iff.2 hb, hm⟩ h
theorem mem_withoutE (ha : Node c a) (hx : 0 ≤ x) : y ∈ row (withoutE c a b) x ↔ y ∈ row c x ∧ ¬ (x = a ∧ y = b) := by
  unfold withoutE
  rw [if_pos (isN_iff.2 ha), row_set ha hx]
  by_cases h : x = a
  · subst h
    rw [if_pos rfl, List.mem_filter]
    simp [row]
  · rw [if_neg h]
    exact ⟨fun e => ⟨e, fun e' => h e'.1⟩, fun e => e.1⟩
theorem set_all {P : List Int → Prop} (hc : ∀ l ∈ c, P l) {k : Nat} {l : List Int} (hl : P l) : ∀ l' ∈ c.set k l, P l' := by
  intro l' h
  rcases List.mem_or_eq_of_mem_set h with h | h
  · exact hc _ h
  · rw [h]; exact hl
theorem withE_rises (hr : ∀ l ∈ c, l.Pairwise (· < ·)) : ∀ l ∈ withE c a b, l.Pairwise (· < ·) := by
  unfold withE
  split
  · rename_i h
    exact set_all hr (insAt_rises b _ (hr _ (row_at (isN_iff.1 h.1))) h.2.2)
  · exact hr
theorem withE_Valid (hv : Valid c) : Valid (withE c a b) := by
  intro l hl
  rw [withE_len]
  revert l
  unfold withE
  split
  · rename_i h
    refine set_all hv (fun y hy => ?_)
    rcases (mem_insAt b _ y).1 hy with e | e
    · exact hv _ (row_at (isN_iff.1 h.1)) _ e
    · rw [e]; exact isN_iff.1 h.2.1
  · exact hv
theorem withoutE_rises (hr : ∀ l ∈ c, l.Pairwise (· < ·)) : ∀ l ∈ withoutE c a b, l.Pairwise (· < ·) := by
  unfold withoutE
  split
  · rename_i h
    exact set_all hr ((hr _ (row_at (isN_iff.1 h))).filter _)
  · exact hr
theorem withoutE_Valid (hv : Valid c) : Valid (withoutE c a b) := by
  intro l hl
  rw [withoutE_len]
  revert l
  unfold withoutE
  split
  · rename_i h
    refine set_all hv (fun y hy => ?_)
    exact hv _ (row_at (isN_iff.1 h)) _ (List.mem_filter.1 hy).1
  · exact hv
end

/-- A graph of nodes alone, its rows rising, is small when it has few nodes. -/
theorem small_of {g : List (List Int)} (hv : Valid g) (hr : ∀ l ∈ g, l.Pairwise (· < ·)) (hn : g.length ≤ 900) : Small g := by
  refine ⟨?_, hn⟩
  unfold fits
  rw [Bool.and_eq_true, decide_eq_true_iff, List.all_eq_true]
  refine ⟨by omega, fun l hl => decide_eq_true ?_⟩
  have := few_nodes ((hr l hl).imp (fun h => by omega)) (hv l hl)
  omega

/-- The ways of a graph with an edge more. -/
theorem way_with {c : List (List Int)} (hv : Valid c) {a b : Int} (ha : Node c a) (hb : Node c b) {s t : Int} (hs : Node c s) :
    Way (withE c a b) s t ↔ Way c s t ∨ (Way c s a ∧ Way c b t) := by
  have hup : ∀ {u v}, Way c u v → Node c u → Way (withE c a b) u v := by
    intro u v h hu
    refine (h.closed (P := fun v => Node c v ∧ Way (withE c a b) u v) (fun x y hx hy => ⟨row_node hv hy, hx.2.trans (.edge ((mem_withE ha hb hx.1.1).2 (.inl hy)))⟩) ⟨hu, .refl _⟩).2
  constructor
  · intro h
    refine (h.closed (P := fun t => Node c t ∧ (Way c s t ∨ (Way c s a ∧ Way c b t))) (fun x y hx hy => ?_) ⟨hs, .inl (.refl _)⟩).2
    rcases (mem_withE ha hb hx.1.1).1 hy with e | ⟨rfl, rfl⟩
    · refine ⟨row_node hv e, ?_⟩
      rcases hx.2 with h | ⟨h, k⟩
      · exact .inl (h.trans (.edge e))
      · exact .inr ⟨h, k.trans (.edge e)⟩
    · refine ⟨hb, ?_⟩
      rcases hx.2 with h | ⟨h, _⟩
      · exact .inr ⟨h, .refl _⟩
      · exact .inr ⟨h, .refl _⟩
  · rintro (h | ⟨h, k⟩)
    · exact hup h hs
    · exact (hup h hs).trans ((Way.edge ((mem_withE ha hb ha.1).2 (.inr ⟨rfl, rfl⟩))).trans (hup k hb))

theorem without_with {c : List (List Int)} (hr : ∀ l ∈ c, l.Pairwise (· < ·)) {a b : Int} (ha : Node c a) (hb : Node c b) : withoutE (withE c a b) a b = withoutE c a b := by
  have ha' : Node (withE c a b) a := by unfold Node; rw [withE_len]; exact ha
  refine graph_ext (by rw [withoutE_len, withE_len, withoutE_len]) (withoutE_rises (withE_rises hr)) (withoutE_rises hr) (fun x y hx _ => ?_)
  rw [mem_withoutE ha' hx, mem_withoutE ha hx, mem_withE ha hb hx]
  exact ⟨fun h => ⟨h.1.elim id (fun e => absurd e h.2), h.2⟩, fun h => ⟨.inl h.1, h.2⟩⟩
theorem with_without {c : List (List Int)} (hr : ∀ l ∈ c, l.Pairwise (· < ·)) {a b : Int} (ha : Node c a) (hb : Node c b) : withE (withoutE c a b) a b = withE c a b := by
  have ha' : Node (withoutE c a b) a := by unfold Node; rw [withoutE_len]; exact ha
  have hb' : Node (withoutE c a b) b := by unfold Node; rw [withoutE_len]; exact hb
  refine graph_ext (by rw [withE_len, withE_len, withoutE_len]) (withE_rises (withoutE_rises hr)) (withE_rises hr) (fun x y hx _ => ?_)
  rw [mem_withE ha' hb' hx, mem_withE ha hb hx, mem_withoutE ha hx]
  by_cases e : x = a ∧ y = b
  · simp [e]
  · simp [e]

end Go.Proofs.Ytnhcimhdkdgccaa.P
