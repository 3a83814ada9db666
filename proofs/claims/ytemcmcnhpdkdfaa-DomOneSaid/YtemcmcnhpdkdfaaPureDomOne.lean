/- Dominators are in order: the plain law. -/
import Derived.Test.YtemcmcnhpdkdfaaGawake14
import Derived.Test.YtemcmcnhpdkdfaaPbywashlaw142
namespace Go.Proofs.Ytemcmcnhpdkdfaa.P
open Go.RowKit Go.Lib Go.Proofs.YtemcmcnhpdkdfaaW.PrintWords

section
variable {c : List (List Int)} {l : List Int}
theorem IsDom.below_zero (h : IsDom c l) : (belowB l 0).length > 0 ↔ c.length > 0 := by
  constructor
  · intro k
    cases hb : belowB l 0 with
    | nil => rw [hb] at k; simp at k
    | cons x xs =>
      have hx : x ∈ belowB l 0 := by rw [hb]; simp
      unfold belowB at hx
      obtain ⟨i, hi, _⟩ := List.mem_map.1 hx
      have := (List.mem_filter.1 hi).1
      rw [List.mem_range, h.len] at this
      omega
  · intro k
    have hx : (0 : Int) ∈ belowB l 0 := by
      unfold belowB
      refine List.mem_map.2 ⟨0, List.mem_filter.2 ⟨by rw [List.mem_range, h.len]; exact k, ?_⟩, rfl⟩
      exact decide_eq_true (h.dm.2 (h.dm_zero.2 ⟨⟨Int.le_refl 0, by show ((0 : Nat) : Int) < _; omega⟩, .refl _⟩))
    exact List.length_pos_of_mem hx
end

theorem one_j0 {x0 : List (List Int)} {l : List Int} (h : IsDom (clean x0) l) (hl : l.length ≤ 900) (a : Int) : Ev (fun k => bywashlaw14_DomOne.j0 k x0 a true l false) true := by
  have hlen : l.length = x0.length := by rw [h.len, clean_len]
  have hz : (decide (((belowB l 0).length : Int) > 0) == decide ((x0.length : Int) > 0)) = true := by
    have := h.below_zero
    rw [clean_len] at this
    by_cases e : (belowB l 0).length > 0
    · have := this.1 e
      rw [decide_eq_true (by omega), decide_eq_true (by omega)]
      rfl
    · have := fun k => e (this.2 k)
      rw [decide_eq_false (by omega), decide_eq_false (by omega)]
      rfl
  have hb : Ev (fun k => (dom_Below.f k l 0).bind fun t => some (decide ((t.length : Int) > 0) == decide ((x0.length : Int) > 0))) true :=
    Ev.bind (f := fun _ t => some (decide ((t.length : Int) > 0) == decide ((x0.length : Int) > 0))) (below_ev l (by omega) 0) (by rw [hz]; exact Ev.now _)
  -- what is claimed of a, with whether it is in
  have key : ∀ q : Bool, (q = true ↔ Rc (clean x0) a) → Ev (fun k => (dom_Dominates.f k l a a).bind fun t => if (t == q) = true then (dom_Dominates.f k l 0 a).bind fun u => if (u == q) = true then (dom_Below.f k l 0).bind fun t => some (decide ((t.length : Int) > 0) == decide ((x0.length : Int) > 0)) else some false else some false) true := by
    intro q hq
    have e1 : decide (a ∈ chainB l a) = q := by
      rw [Bool.eq_iff_iff, decide_eq_true_iff, hq, h.dm, h.dm_refl]
    have e2 : decide ((0 : Int) ∈ chainB l a) = q := by
      rw [Bool.eq_iff_iff, decide_eq_true_iff, hq, h.dm, h.dm_zero]
    refine Ev.bind (dominates_ev l (by omega) a a) ?_
    rw [e1]
    simp only [beq_self_eq_true, if_true]
    refine Ev.bind (dominates_ev l (by omega) 0 a) ?_
    rw [e2]
    simp only [beq_self_eq_true, if_true]
    exact hb
  by_cases h1 : a ≥ 0
  · by_cases h2 : a < (l.length : Int)
    · refine Ev.step (fun k => by rw [bywashlaw14_DomOne.j0, if_neg (by simp), if_pos h1, if_pos h2, if_pos h1, if_pos rfl]) (key (rd l a != -2) ?_)
      have hn : Node (clean x0) a := ⟨h1, by rw [clean_len, ← hlen]; exact h2⟩
      rw [bne_iff_ne]
      exact ⟨fun k => ⟨hn, Classical.byContradiction fun hw => k (h.lost a hn hw)⟩, fun k => h.rd0 k⟩
    · refine Ev.step (fun k => by rw [bywashlaw14_DomOne.j0, if_neg (by simp), if_pos h1, if_neg h2, if_pos rfl]) (key false ?_)
      exact ⟨fun k => (by cases k), fun k => by have := k.1.2; rw [clean_len, ← hlen] at this; omega⟩
  · refine Ev.step (fun k => by rw [bywashlaw14_DomOne.j0, if_neg (by simp), if_neg h1, if_pos rfl]) (key false ?_)
    exact ⟨fun k => (by cases k), fun k => by have := k.1.1; omega⟩

set_option maxHeartbeats 1000000 in
theorem DomOne_pure (l0 : List (List Int)) (a1 a2 a3 : Int) (hb : l0.length ≤ 9223372036854775807) (_hw : ∀ r ∈ l0, r.length ≤ 9223372036854775807 ∧ ∀ y ∈ r, (Lit.int .i64 y).wf = true) (_ : (Lit.int .i64 a1).wf = true) (_ : (Lit.int .i64 a2).wf = true) (_ : (Lit.int .i64 a3).wf = true) :
    ∃ k, bywashlaw14_DomOne.f k l0 a1 a2 a3 = some true := by
  refine Ev.rounds (g := fun k => bywashlaw14_DomOne.f k l0 a1 a2 a3) ?_
  unfold bywashlaw14_DomOne.f
  refine Ev.bind awake14_ev ?_
  refine Ev.bind (few_ev l0 hb) ?_
  by_cases hf : few l0 = true
  · simp only [hf, if_true]
    obtain ⟨l, hl, h⟩ := idoms_now (few_small hf)
    have hll : l.length ≤ 900 := by rw [h.len, clean_len]; exact (few_small hf).2
    have hln : l.length ≤ 1000000 := by omega
    have fin := one_j0 h hll a1
    refine Ev.bind hl ?_
    refine Ev.bind (dominates_ev l hln a1 a2) ?_
    refine Ev.bind (dominates_ev l hln a2 a1) ?_
    have tail : ∀ t : Bool, t = false → Ev (fun k => (dom_Dominates.f k l a1 a3).bind fun x => if x = true then (dom_Dominates.f k l a2 a3).bind fun y => if y = true then bywashlaw14_DomOne.j0 k l0 a1 true l t else bywashlaw14_DomOne.j0 k l0 a1 true l false else bywashlaw14_DomOne.j0 k l0 a1 true l false) true := by
      intro t ht
      subst ht
      refine Ev.bind (dominates_ev l hln a1 a3) ?_
      split
      · refine Ev.bind (dominates_ev l hln a2 a3) ?_
        split
        · exact fin
        · exact fin
      · exact fin
    -- if a1 dominates a2, and a2 dominates a3, a1 dominates a3
    have mid : Dm (clean l0) a1 a2 → Ev (fun k => (dom_Dominates.f k l a2 a3).bind fun x => if x = true then (dom_Dominates.f k l a1 a3).bind fun y => if y = true then (dom_Dominates.f k l a1 a3).bind fun x => if x = true then (dom_Dominates.f k l a2 a3).bind fun y => if y = true then bywashlaw14_DomOne.j0 k l0 a1 true l false else bywashlaw14_DomOne.j0 k l0 a1 true l false else bywashlaw14_DomOne.j0 k l0 a1 true l false else bywashlaw14_DomOne.j0 k l0 a1 true l true else (dom_Dominates.f k l a1 a3).bind fun x => if x = true then (dom_Dominates.f k l a2 a3).bind fun y => if y = true then bywashlaw14_DomOne.j0 k l0 a1 true l false else bywashlaw14_DomOne.j0 k l0 a1 true l false else bywashlaw14_DomOne.j0 k l0 a1 true l false) true := by
      intro h12
      refine Ev.bind (dominates_ev l hln a2 a3) ?_
      by_cases h23 : a2 ∈ chainB l a3
      · simp only [decide_eq_true h23, if_true]
        refine Ev.bind (dominates_ev l hln a1 a3) ?_
        simp only [decide_eq_true (h.dm.2 (h.dm_trans h12 (h.dm.1 h23))), if_true]
        exact tail false rfl
      · simp only [decide_eq_false h23, Bool.false_eq_true, if_false]
        exact tail false rfl
    by_cases h12 : a1 ∈ chainB l a2
    · simp only [decide_eq_true h12, if_true]
      by_cases h21 : a2 ∈ chainB l a1
      · simp only [decide_eq_true h21, if_true]
        simp only [if_pos (h.dm_anti (h.dm.1 h12) (h.dm.1 h21))]
        exact mid (h.dm.1 h12)
      · simp only [decide_eq_false h21, Bool.false_eq_true, if_false]
        exact mid (h.dm.1 h12)
    · simp only [decide_eq_false h12, Bool.false_eq_true, if_false]
      refine Ev.bind (dominates_ev l hln a1 a3) ?_
      by_cases h13 : a1 ∈ chainB l a3
      · simp only [decide_eq_true h13, if_true]
        refine Ev.bind (dominates_ev l hln a2 a3) ?_
        by_cases h23 : a2 ∈ chainB l a3
        · simp only [decide_eq_true h23, if_true]
          have h21 : a2 ∈ chainB l a1 := h.dm.2 ((h.dm_line (h.dm.1 h13) (h.dm.1 h23)).resolve_left (fun k => h12 (h.dm.2 k)))
          rw [decide_eq_true h21, Bool.not_true]
          exact fin
        · simp only [decide_eq_false h23, Bool.false_eq_true, if_false]
          exact fin
      · simp only [decide_eq_false h13, Bool.false_eq_true, if_false]
        exact fin
  · simp only [hf]
    exact Ev.now _

end Go.Proofs.Ytemcmcnhpdkdfaa.P
