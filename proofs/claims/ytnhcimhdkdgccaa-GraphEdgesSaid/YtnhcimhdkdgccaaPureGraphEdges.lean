/- An edge more, an edge less: the law. -/
import Derived.Test.YtnhcimhdkdgccaaGedges
import Derived.Test.YtnhcimhdkdgccaaPbywashlaw104
namespace Go.Proofs.Ytnhcimhdkdgccaa.P
open Go.RowKit Go.Lib Go.Proofs.YtnhcimhdkdgccaaW.PrintWords

theorem edges_l0 (x0 x10 x11 : List (List Int)) (a1 a2 : Int) (x12 x13 x14 : List Bool) (hn : x0.length ≤ 900) (h12 : x12.length = x0.length) (h13 : x13.length = x0.length) (h14 : x14.length = x0.length)
    (h1 : 0 ≤ a1 ∧ a1 < (x0.length : Int)) (hall : ∀ i : Nat, i < x0.length → (rdOf false x13 (i : Int) = true ↔ rdOf false x12 (i : Int) = true ∨ (rdOf false x12 a1 = true ∧ rdOf false x14 (i : Int) = true)))
    (hend : Ev (fun k => bywashlaw10_GraphEdges.l0 k x0 a1 a2 true x10 x11 x12 x13 x14 (x0.length : Int)) true) :
    ∀ d i : Nat, i + d = x0.length → Ev (fun k => bywashlaw10_GraphEdges.l0 k x0 a1 a2 true x10 x11 x12 x13 x14 (i : Int)) true
  | 0, i, hi => by
    obtain rfl : i = x0.length := by omega
    exact hend
  | d + 1, i, hi => by
    have hil : i < x0.length := by omega
    have hi' := hall i hil
    refine Ev.step (f := fun k => bywashlaw10_GraphEdges.l0 k x0 a1 a2 true x10 x11 x12 x13 x14 ((i + 1 : Nat) : Int)) (fun k => ?_) (edges_l0 x0 x10 x11 a1 a2 x12 x13 x14 hn h12 h13 h14 h1 hall hend d (i + 1) (by omega))
    rw [bywashlaw10_GraphEdges.l0, if_pos (by omega), if_pos (by omega), if_pos (by omega), if_pos (by omega), wrap_succ (by omega)]
    cases e12 : rdOf false x12 (i : Int) with
    | true =>
      have e13 : rdOf false x13 (i : Int) = true := hi'.2 (.inl e12)
      rw [if_pos rfl, e13, if_neg (by simp)]
    | false =>
      rw [if_neg (by simp), if_pos h1.1, if_pos (by omega)]
      rw [e12] at hi'
      cases e1 : rdOf false x12 a1 with
      | true =>
        rw [e1] at hi'
        rw [if_pos rfl, if_pos (by omega)]
        have e : rdOf false x13 (i : Int) = rdOf false x14 (i : Int) := by
          rw [Bool.eq_iff_iff, hi']
          simp
        rw [e, if_neg (by simp)]
      | false =>
        rw [e1] at hi'
        have e : rdOf false x13 (i : Int) = false := by
          cases h : rdOf false x13 (i : Int) with
          | false => rfl
          | true => exact absurd (hi'.1 h) (by simp)
        rw [if_neg (by simp), e, if_neg (by simp)]

theorem GraphEdges_pure (l0 : List (List Int)) (a1 a2 a3 : Int) (hm : l0.length ≤ 9223372036854775807) (_hw : ∀ r ∈ l0, r.length ≤ 9223372036854775807 ∧ ∀ y ∈ r, (Lit.int .i64 y).wf = true) (_h1 : (Lit.int .i64 a1).wf = true) (_h2 : (Lit.int .i64 a2).wf = true) (_h3 : (Lit.int .i64 a3).wf = true) : ∃ k, bywashlaw10_GraphEdges.f k l0 a1 a2 a3 = some true := by
  refine Ev.rounds (g := fun k => bywashlaw10_GraphEdges.f k l0 a1 a2 a3) ?_
  unfold bywashlaw10_GraphEdges.f
  refine Ev.bind awake10_ev ?_
  refine Ev.bind (few_ev l0 hm) ?_
  have hout : Ev (fun k => bywashlaw10_GraphEdges.j0 k l0 a1 a2 a3 true true) true := Ev.step (f := fun _ => some true) (fun k => by rw [bywashlaw10_GraphEdges.j0, if_pos rfl]) (Ev.now _)
  by_cases hf : few l0 = true
  · simp only [hf, if_true]
    have hs := few_small hf
    by_cases h1a : a1 < 0
    · simp only [if_pos h1a]; exact hout
    simp only [if_neg h1a]
    by_cases h1b : a1 ≥ (l0.length : Int)
    · simp only [if_pos h1b]; exact hout
    simp only [if_neg h1b]
    by_cases h2a : a2 < 0
    · simp only [if_pos h2a]; exact hout
    simp only [if_neg h2a]
    by_cases h2b : a2 ≥ (l0.length : Int)
    · simp only [if_pos h2b]; exact hout
    simp only [if_neg h2b]
    by_cases h3a : a3 < 0
    · simp only [if_pos h3a]; exact hout
    simp only [if_neg h3a]
    by_cases h3b : a3 ≥ (l0.length : Int)
    · simp only [decide_eq_true h3b]; exact hout
    simp only [decide_eq_false h3b]
    have n1 : 0 ≤ a1 ∧ a1 < (l0.length : Int) := by omega
    have n2 : 0 ≤ a2 ∧ a2 < (l0.length : Int) := by omega
    have n3 : 0 ≤ a3 ∧ a3 < (l0.length : Int) := by omega
    have c1 : Node (clean l0) a1 := clean_node.2 n1
    have c2 : Node (clean l0) a2 := clean_node.2 n2
    have c3 : Node (clean l0) a3 := clean_node.2 n3
    have hcl := clean_len l0
    have hwv : Valid (withE (clean l0) a1 a2) := withE_Valid (clean_Valid l0)
    have hwr : ∀ l ∈ withE (clean l0) a1 a2, l.Pairwise (· < ·) := withE_rises (clean_rises l0)
    have hwl : (withE (clean l0) a1 a2).length = l0.length := by rw [withE_len, hcl]
    have hws : Small (withE (clean l0) a1 a2) := small_of hwv hwr (by rw [hwl]; exact hs.2)
    have hwc : clean (withE (clean l0) a1 a2) = withE (clean l0) a1 a2 := clean_self hwv hwr
    have hov : Valid (withoutE (clean l0) a1 a2) := withoutE_Valid (clean_Valid l0)
    have hor : ∀ l ∈ withoutE (clean l0) a1 a2, l.Pairwise (· < ·) := withoutE_rises (clean_rises l0)
    have hol : (withoutE (clean l0) a1 a2).length = l0.length := by rw [withoutE_len, hcl]
    have hos : Small (withoutE (clean l0) a1 a2) := small_of hov hor (by rw [hol]; exact hs.2)
    have hoc : clean (withoutE (clean l0) a1 a2) = withoutE (clean l0) a1 a2 := clean_self hov hor
    have e1 : graph_With.f l0 a1 a2 = some (withE (clean l0) a1 a2) := by unfold graph_With.f; rw [if_pos hs.1]
    have e2 : graph_Without.f (withE (clean l0) a1 a2) a1 a2 = some (withoutE (clean l0) a1 a2) := by
      unfold graph_Without.f; rw [if_pos hws.1, hwc, without_with (clean_rises l0) c1 c2]
    have e3 : graph_Without.f l0 a1 a2 = some (withoutE (clean l0) a1 a2) := by unfold graph_Without.f; rw [if_pos hs.1]
    have e4 : graph_With.f (withoutE (clean l0) a1 a2) a1 a2 = some (withE (clean l0) a1 a2) := by
      unfold graph_With.f; rw [if_pos hos.1, hoc, with_without (clean_rises l0) c1 c2]
    obtain ⟨r3, q3, l3, s3⟩ := reach_now hs a3
    obtain ⟨rw', qw, lw, sw⟩ := reach_now hws a3
    obtain ⟨r2, q2, l2, s2⟩ := reach_now hs a2
    obtain ⟨p, hp, hpp⟩ := path_now hws a1 a2
    rw [hwl] at lw sw hpp
    rw [hwc] at sw hpp
    have hpt : p = true := hpp.2 ⟨n1, n2, a2, (mem_withE c1 c2 n1.1).2 (.inr ⟨rfl, rfl⟩), .refl _⟩
    subst hpt
    have hend : Ev (fun k => bywashlaw10_GraphEdges.l0 k l0 a1 a2 true (withE (clean l0) a1 a2) (withoutE (clean l0) a1 a2) r3 rw' r2 (l0.length : Int)) true := by
      refine Ev.step (f := fun k => (bywashref10_Same.f k (withoutE (clean l0) a1 a2) (withoutE (clean l0) a1 a2)).bind fun t276 => if t276 = true then (bywashref10_Same.f k (withE (clean l0) a1 a2) (withE (clean l0) a1 a2)).bind fun t280 => some t280 else some false) (fun k => ?_) ?_
      · rw [bywashlaw10_GraphEdges.l0, if_neg (by omega), if_pos rfl]
        simp only [hp, e3, e4, Option.bind_some, if_true]
      · have hrow : ∀ {g : List (List Int)}, Valid g → (∀ l ∈ g, l.Pairwise (· < ·)) → g.length = l0.length → ∀ l ∈ g, l.length ≤ 9223372036854775807 := by
          intro g hv hr hl l hl'
          have := few_nodes ((hr l hl').imp (fun h => by omega)) (hv l hl')
          have := hs.2
          omega
        refine Ev.bind (same_ev _ _ (by have := hs.2; omega) (hrow hov hor hol)) ?_
        simp only [decide_true, if_true]
        refine Ev.bind (same_ev _ _ (by have := hs.2; omega) (hrow hwv hwr hwl)) ?_
        simp only [decide_true]
        exact Ev.now _
    have hne : ((r2.length : Int) != (l0.length : Int)) = false := by rw [l2]; simp
    refine Ev.step (f := fun k => bywashlaw10_GraphEdges.j1 k l0 a1 a2 true (withE (clean l0) a1 a2) (withoutE (clean l0) a1 a2) r3 rw' r2 false) (fun k => ?_) ?_
    · rw [bywashlaw10_GraphEdges.j0, if_neg (by simp)]
      simp only [e1, e2, q3, qw, q2, Option.bind_some, l3, lw, if_true, hne]
    · refine Ev.step (f := fun k => bywashlaw10_GraphEdges.l0 k l0 a1 a2 true (withE (clean l0) a1 a2) (withoutE (clean l0) a1 a2) r3 rw' r2 ((0 : Nat) : Int)) (fun k => by rw [bywashlaw10_GraphEdges.j1, if_neg (by simp)]; rfl) ?_
      refine edges_l0 l0 _ _ a1 a2 r3 rw' r2 hs.2 l3 lw l2 n1 (fun i hi => ?_) hend l0.length 0 (by omega)
      rw [sw (i : Int) (by omega) (by omega), s3 (i : Int) (by omega) (by omega), s3 a1 n1.1 n1.2, s2 (i : Int) (by omega) (by omega), way_with (clean_Valid l0) c1 c2 c3]
      exact ⟨fun h => h.2.elim (fun h => .inl ⟨n3, h⟩) (fun h => .inr ⟨⟨n3, h.1⟩, n2, h.2⟩), fun h => ⟨n3, h.elim (fun h => .inl h.2) (fun h => .inr ⟨h.1.2, h.2.2⟩)⟩⟩
  · rw [Bool.not_eq_true] at hf
    simp only [hf, Bool.false_eq_true, if_false]
    exact hout

end Go.Proofs.Ytnhcimhdkdgccaa.P
