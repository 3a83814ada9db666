/- A graph that is turned around: the plain law. -/
import Derived.Test.YtnhcimhdkdgccaaPureGraphWay
import Derived.Test.YtnhcimhdkdgccaaGedges
import Derived.Test.YtnhcimhdkdgccaaPbywashlaw10GraphTurnedF
namespace Go.Proofs.Ytnhcimhdkdgccaa.P
open Go.RowKit Go.Lib Go.Proofs.YtnhcimhdkdgccaaW.PrintWords

/-- A way with an edge: it has a first edge, and a last one. -/
theorem way_edge {c : List (List Int)} {a b : Int} : (∃ x ∈ row c a, Way c x b) ↔ ∃ x, Way c a x ∧ b ∈ row c x := by
  constructor
  · rintro ⟨x, hx, h⟩
    rcases h.last with e | ⟨d, hd, hb⟩
    · subst e
      exact ⟨a, .refl _, hx⟩
    · exact ⟨d, .step hx hd, hb⟩
  · rintro ⟨x, h, hb⟩
    cases h with
    | refl => exact ⟨b, hb, .refl _⟩
    | step he hw => exact ⟨_, he, hw.trans (.edge hb)⟩

theorem GraphTurned_pure (l0 : List (List Int)) (a1 a2 : Int) (hm : l0.length ≤ 9223372036854775807) (_hw : ∀ r ∈ l0, r.length ≤ 9223372036854775807 ∧ ∀ y ∈ r, (Lit.int .i64 y).wf = true) (_h1 : (Lit.int .i64 a1).wf = true) (_h2 : (Lit.int .i64 a2).wf = true) : ∃ k, bywashlaw10_GraphTurned.f k l0 a1 a2 = some true := by
  refine Ev.rounds (g := fun k => bywashlaw10_GraphTurned.f k l0 a1 a2) ?_
  unfold bywashlaw10_GraphTurned.f
  refine Ev.bind awake10_ev ?_
  refine Ev.bind (few_ev l0 hm) ?_
  by_cases hf : few l0 = true
  · simp only [hf, if_true]
    have hs := few_small hf
    have hcv := clean_Valid l0
    have hcr := clean_rises l0
    have hcl := clean_len l0
    have hdv : Valid (turn (clean l0)) := turn_Valid hcv hcr
    have hdr := turn_rises hcv hcr
    have hdl : (turn (clean l0)).length = l0.length := by rw [turn_len, hcl]
    have hds : Small (turn (clean l0)) := small_of hdv hdr (by rw [hdl]; exact hs.2)
    have hdc : clean (turn (clean l0)) = turn (clean l0) := clean_self hdv hdr
    have ht : graph_Turn.f l0 = some (turn (clean l0)) := by unfold graph_Turn.f; rw [if_pos hs.1]
    simp only [ht, Option.bind_some]
    obtain ⟨p, hp, hpp⟩ := path_now hs a1 a2
    have hno : ¬ ((0 ≤ a1 ∧ a1 < (l0.length : Int)) ∧ (0 ≤ a2 ∧ a2 < (l0.length : Int))) → Ev (fun k => bywashlaw10_GraphTurned.j0 k l0 a1 a2 true (turn (clean l0)) false) true := by
      intro h
      have hp' : p = false := by
        cases e : p with
        | false => rfl
        | true => exact absurd ⟨(hpp.1 e).1, (hpp.1 e).2.1⟩ h
      refine Ev.step (f := fun _ => some true) (fun k => ?_) (Ev.now _)
      rw [bywashlaw10_GraphTurned.j0, if_neg (by simp), if_pos rfl, hp, Option.bind_some, hp']
      rfl
    by_cases h1a : a1 ≥ 0
    · simp only [if_pos h1a]
      by_cases h1b : a1 < (l0.length : Int)
      · simp only [if_pos h1b]
        by_cases h2a : a2 ≥ 0
        · simp only [if_pos h2a]
          by_cases h2b : a2 < (l0.length : Int)
          · simp only [decide_eq_true h2b]
            have n1 : 0 ≤ a1 ∧ a1 < (l0.length : Int) := ⟨h1a, h1b⟩
            have n2 : 0 ≤ a2 ∧ a2 < (l0.length : Int) := ⟨h2a, h2b⟩
            have c1 : Node (clean l0) a1 := clean_node.2 n1
            have c2 : Node (clean l0) a2 := clean_node.2 n2
            obtain ⟨r1, q1, l1, s1⟩ := reach_now hs a1
            obtain ⟨r2, q2, l2, s2⟩ := reach_now hds a2
            obtain ⟨p2, hp2, hpp2⟩ := path_now hds a2 a1
            rw [hdl] at l2 s2 hpp2
            rw [hdc] at s2 hpp2
            have hway : ∀ {x y : Int}, Node (clean l0) x → Node (clean l0) y → (Way (turn (clean l0)) y x ↔ Way (clean l0) x y) := by
              intro x y hx hy
              refine ⟨fun h => ?_, fun h => way_turn hcv hcr h hx⟩
              have := way_turn hdv hdr h (by unfold Node; rw [turn_len]; exact hy)
              rwa [turn_turn hcv hcr] at this
            have hback : rdOf false r1 a2 = rdOf false r2 a1 := by
              rw [Bool.eq_iff_iff, s1 a2 n2.1 n2.2, s2 a1 n1.1 n1.2, hway c1 c2]
              exact ⟨fun h => ⟨n2, h.2⟩, fun h => ⟨n1, h.2⟩⟩
            have hpath : p = p2 := by
              rw [Bool.eq_iff_iff, hpp, hpp2, way_edge]
              constructor
              · rintro ⟨_, _, x, hx, hb⟩
                have cx : Node (clean l0) x := hx.node hcv c1
                exact ⟨n2, n1, x, (mem_turn hcv hcr c2.1).2 ⟨cx, hb⟩, (hway c1 cx).2 hx⟩
              · rintro ⟨_, _, x, hx, hb⟩
                obtain ⟨cx, hx⟩ := (mem_turn hcv hcr c2.1).1 hx
                exact ⟨n1, n2, x, (hway c1 cx).1 hb, hx⟩
            have hself : a1 = a2 → rdOf false r1 a2 = true := fun e => (s1 a2 n2.1 n2.2).2 ⟨n1, e ▸ .refl _⟩
            have hother : a1 ≠ a2 → rdOf false r1 a2 = p := by
              intro hne
              rw [Bool.eq_iff_iff, s1 a2 n2.1 n2.2, hpp]
              constructor
              · rintro ⟨_, h⟩
                rcases way_first.1 h with e | h
                · exact absurd e hne
                · exact ⟨n1, n2, h⟩
              · rintro ⟨_, _, h⟩
                exact ⟨n1, way_first.2 (.inr h)⟩
            have hne : ((r2.length : Int) != (l0.length : Int)) = false := by rw [l2]; simp
            refine Ev.step (f := fun k => bywashlaw10_GraphTurned.j1 k l0 a1 a2 true (turn (clean l0)) r1 r2 false) (fun k => ?_) ?_
            · rw [bywashlaw10_GraphTurned.j0, if_pos rfl, q1, Option.bind_some, q2, Option.bind_some, if_pos (by rw [l1]), hne]
            · have ht2 : graph_Turn.f (turn (clean l0)) = some (clean l0) := by unfold graph_Turn.f; rw [if_pos hds.1, hdc, turn_turn hcv hcr]
              refine Ev.step (f := fun k => (bywashref10_Same.f k (clean l0) (clean l0)).bind fun t => if t = true then some true else some false) (fun k => ?_) ?_
              · rw [bywashlaw10_GraphTurned.j1, if_neg (by simp), if_pos rfl, ht2, Option.bind_some, clean_now hs.1, Option.bind_some]
                congr 1
                funext t
                by_cases htt : t = true
                · rw [if_pos htt, if_pos htt, if_pos n2.1, if_pos (by omega), if_pos n1.1, if_pos (by omega), hback, if_pos (by simp), hp, Option.bind_some, hp2, Option.bind_some, hpath, if_pos (by simp)]
                  by_cases he : a1 = a2
                  · rw [if_pos he, ← hback, hself he]
                    rfl
                  · rw [if_neg he, Option.bind_some, ← hback, hother he, hpath]
                    simp
                · rw [if_neg htt, if_neg htt]
              · refine Ev.bind (same_ev _ _ (by have := hs.2; omega) (fun l hl => by have := clean_row_le l hl; have := hs.2; omega)) ?_
                simp only [decide_true, if_true]
                exact Ev.now _
          · simp only [decide_eq_false h2b]
            exact hno (fun h => h2b h.2.2)
        · simp only [if_neg h2a]
          exact hno (fun h => h2a h.2.1)
      · simp only [if_neg h1b]
        exact hno (fun h => h1b h.1.2)
    · simp only [if_neg h1a]
      exact hno (fun h => h1a h.1.1)
  · rw [Bool.not_eq_true] at hf
    simp only [hf, Bool.false_eq_true, if_false]
    exact Ev.now _

end Go.Proofs.Ytnhcimhdkdgccaa.P
