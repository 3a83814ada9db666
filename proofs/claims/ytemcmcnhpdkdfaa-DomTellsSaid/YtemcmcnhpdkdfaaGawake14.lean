/- The document's example of layer 14 holds. -/
import Derived.Test.YtemcmcnhpdkdfaaGtree
import Derived.Test.YtemcmcnhpdkdfaaPbywashlaw14
namespace Go.Proofs.Ytemcmcnhpdkdfaa.P
open Go.RowKit Go.Lib Go.Proofs.YtemcmcnhpdkdfaaW.PrintWords

def exD : List (List Int) := [[1, 2], [3], [3], [], []]
theorem exD_clean : clean exD = exD := clean_self (by intro l hl; simp only [exD, List.mem_cons, List.not_mem_nil, or_false] at hl; rcases hl with rfl | rfl | rfl | rfl | rfl <;> intro b hb <;> simp at hb <;> (try rcases hb with rfl | rfl) <;> (try subst hb) <;> decide) (by decide)
theorem exD_fits : fits exD = true := by decide
theorem exD_told0 : toldOf exD 0 = some [3, 1, 2, 0] := by rfl
theorem exD_idoms : Ev (fun k => dom_Idoms.f k exD) [-1, 0, 0, 0, -2] := by
  have h0 : graph_Order.f exD 0 = some [0, 2, 1, 3] := by unfold graph_Order.f; rw [if_pos exD_fits, exD_clean, exD_told0]; rfl
  refine Ev.of (dom_Idoms.mono exD) (k := 20) ?_
  unfold dom_Idoms.f idF
  rw [if_pos exD_fits, if_neg (by decide), h0, Option.bind_some, exD_clean, if_pos (by decide)]
  rfl
theorem awake14_ev : Ev (fun k => bywashlaw14_awake.f k) true := by
  refine Ev.bind (f := fun k t129 => ((bywashref01_Ints.f k t129 (([(-1), 0, 0, 0, (-2)] : List Int))).bind fun t135 => (if t135 = true then ((dom_Common.f k t129 1 3).bind fun t136 => (if t136 = 0 then ((dom_Sane.f k t129).bind fun t137 => (some t137)) else (some false))) else (some false)))) exD_idoms ?_
  refine Ev.bind (ints_ev _ _ (by decide)) ?_
  simp only [decide_true, if_true]
  refine Ev.bind (common_ev [-1, 0, 0, 0, -2] (by decide) 1 3) ?_
  have e : commonB [-1, 0, 0, 0, -2] 1 3 = 0 := by decide
  simp only [e, if_true]
  refine Ev.bind (sane_ev [-1, 0, 0, 0, -2] (by decide)) ?_
  have e : saneB [-1, 0, 0, 0, -2] = true := by decide
  rw [e]
  exact Ev.now _

end Go.Proofs.Ytemcmcnhpdkdfaa.P
