/- What is cleaned is clean: the plain law. -/
import Derived.Test.YtnhcimhdkdgccaaGclean2
import Derived.Test.YtnhcimhdkdgccaaPbywashlaw103
namespace Go.Proofs.Ytnhcimhdkdgccaa.P
open Go.RowKit Go.Lib Go.Proofs.YtnhcimhdkdgccaaW.PrintWords

theorem clean_l1 (x0 c : List (List Int)) (a1 a2 : Int) (hl : c.length = x0.length) (hn : c.length ≤ 900) (hv : Valid c) (hr : ∀ l ∈ c, l.Pairwise (· < ·)) (i : Nat) (hi : i < c.length) (hnext : Ev (fun k => bywashlaw10_GraphClean.l0 k x0 a1 a2 true c ((i + 1 : Nat) : Int)) true) :
    ∀ d j : Nat, j + d = c[i].length → Ev (fun k => bywashlaw10_GraphClean.l1 k x0 a1 a2 true c (i : Int) (j : Int)) true
  | 0, j, hj => by
    refine Ev.step (f := fun k => bywashlaw10_GraphClean.l0 k x0 a1 a2 true c ((i + 1 : Nat) : Int)) (fun k => ?_) hnext
    rw [bywashlaw10_GraphClean.l1, if_pos (by omega), if_pos (by omega), rdL1_nat hi, if_neg (by omega), wrap_succ (by omega)]
  | d + 1, j, hj => by
    have hjl : j < c[i].length := by omega
    have hmem : c[i] ∈ c := List.getElem_mem hi
    have hb := hv _ hmem _ (List.getElem_mem hjl)
    have hlen : c[i].length ≤ c.length := few_nodes ((hr _ hmem).imp (fun h => by omega)) (hv _ hmem)
    refine Ev.step (f := fun k => bywashlaw10_GraphClean.l1 k x0 a1 a2 true c (i : Int) ((j + 1 : Nat) : Int)) (fun k => ?_) (clean_l1 x0 c a1 a2 hl hn hv hr i hi hnext d (j + 1) (by omega))
    rw [bywashlaw10_GraphClean.l1, if_pos (by omega), if_pos (by omega), rdL1_nat hi, if_pos (by omega), if_pos (by omega), rd_nat' hjl, if_neg (by omega), if_neg (by omega), wrap_succ (by omega)]
    by_cases h0 : j = 0
    · rw [if_neg (by omega)]
    · have hw : wrap64 ((j : Int) - 1) = ((j - 1 : Nat) : Int) := by unfold wrap64; omega
      have hj1 : j - 1 < c[i].length := by omega
      have hlt := List.pairwise_iff_getElem.1 (hr _ hmem) (j - 1) j hj1 hjl (by omega)
      rw [if_pos (by omega), hw, if_pos (by omega), if_pos (by omega), rd_nat' hj1, if_neg (by omega)]

theorem clean_l0 (x0 c : List (List Int)) (a1 a2 : Int) (hl : c.length = x0.length) (hn : c.length ≤ 900) (hv : Valid c) (hr : ∀ l ∈ c, l.Pairwise (· < ·)) (hend : Ev (fun k => bywashlaw10_GraphClean.l0 k x0 a1 a2 true c (c.length : Int)) true) :
    ∀ d i : Nat, i + d = c.length → Ev (fun k => bywashlaw10_GraphClean.l0 k x0 a1 a2 true c (i : Int)) true
  | 0, i, hi => by
    obtain rfl : i = c.length := by omega
    exact hend
  | d + 1, i, hi => by
    have hil : i < c.length := by omega
    refine Ev.step (f := fun k => bywashlaw10_GraphClean.l1 k x0 a1 a2 true c (i : Int) ((0 : Nat) : Int)) (fun k => by rw [bywashlaw10_GraphClean.l0, if_pos (by omega)]; rfl) ?_
    exact clean_l1 x0 c a1 a2 hl hn hv hr i hil (clean_l0 x0 c a1 a2 hl hn hv hr hend d (i + 1) (by omega)) c[i].length 0 (by omega)

theorem GraphClean_pure (l0 : List (List Int)) (a1 a2 : Int) (hm : l0.length ≤ 9223372036854775807) (_hw : ∀ r ∈ l0, r.length ≤ 9223372036854775807 ∧ ∀ y ∈ r, (Lit.int .i64 y).wf = true) (_h1 : (Lit.int .i64 a1).wf = true) (_h2 : (Lit.int .i64 a2).wf = true) : ∃ k, bywashlaw10_GraphClean.f k l0 a1 a2 = some true := by
  refine Ev.rounds (g := fun k => bywashlaw10_GraphClean.f k l0 a1 a2) ?_
  unfold bywashlaw10_GraphClean.f
  refine Ev.bind awake10_ev ?_
  refine Ev.bind (few_ev l0 hm) ?_
  by_cases hf : few l0 = true
  · simp only [hf, if_true]
    have hs := few_small hf
    rw [clean_now hs.1]
    simp only [Option.bind_some]
    refine clean_l0 l0 (clean l0) a1 a2 (clean_len l0) (by rw [clean_len]; exact hs.2) (clean_Valid l0) (clean_rises l0) ?_ (clean l0).length 0 (by omega)
    obtain ⟨p, hp, _⟩ := path_now hs a1 a2
    obtain ⟨r, hr, hrl, _⟩ := reach_now hs a1
    obtain ⟨o, ho⟩ : ∃ o, graph_Order.f l0 a1 = some o ∧ o.length ≤ l0.length := by
      by_cases ha : 0 ≤ a1 ∧ a1 < (l0.length : Int)
      · obtain ⟨o, ho, _, hnd, hnn, _⟩ := order_now hs ha
        exact ⟨_, ho, few_nodes hnd hnn⟩
      · exact ⟨[], order_none hs ha, Nat.zero_le _⟩
    have hc900 : (clean l0).length ≤ 900 := by rw [clean_len]; exact hs.2
    refine Ev.step (f := fun k => (bywashref10_Same.f k (clean l0) (clean l0)).bind fun t227 => if t227 = true then (bywashref01_Ints.f k o o).bind fun t234 => if t234 = true then (bywashref10_Bools.f k r r).bind fun t241 => if t241 = true then (bywashref10_Same.f k (turn (clean l0)) (turn (clean l0))).bind fun t250 => some t250 else some false else some false else some false) (fun k => ?_) ?_
    · rw [bywashlaw10_GraphClean.l0, if_neg (by omega), if_pos rfl, if_pos (by rw [clean_len])]
      simp only [clean_now (fits_clean hs.1), clean_clean, Option.bind_some, order_clean hs.1, ho.1, reach_clean hs.1, hr, path_clean hs.1, hp, beq_self_eq_true, if_true, turn_clean hs.1]
      have ht : graph_Turn.f l0 = some (turn (clean l0)) := by unfold graph_Turn.f; rw [if_pos hs.1]
      simp only [ht, Option.bind_some]
    · refine Ev.bind (same_ev _ _ (by omega) (fun l hl => by have := clean_row_le l hl; have := hs.2; omega)) ?_
      simp only [decide_true, if_true]
      refine Ev.bind (ints_ev _ _ (by have := ho.2; omega)) ?_
      simp only [decide_true, if_true]
      refine Ev.bind (bools_ev _ _ (by omega)) ?_
      simp only [decide_true, if_true]
      refine Ev.bind (same_ev _ _ (by rw [turn_len]; omega) (fun l hl => ?_)) ?_
      · have h1 := turn_row (clean l0) (clean_Valid l0) (clean_rises l0) l hl
        have := few_nodes (h1.1.imp (fun h => by omega)) h1.2
        omega
      · simp only [decide_true]
        exact Ev.now _
  · rw [Bool.not_eq_true] at hf
    simp only [hf, Bool.false_eq_true, if_false]
    exact Ev.now _

end Go.Proofs.Ytnhcimhdkdgccaa.P
