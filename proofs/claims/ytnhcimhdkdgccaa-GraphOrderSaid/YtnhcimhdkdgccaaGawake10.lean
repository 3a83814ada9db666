/- The document's example of layer 10 holds. -/
import Derived.Test.YtnhcimhdkdgccaaGrefs
import Derived.Test.YtnhcimhdkdgccaaPbywashlaw10
namespace Go.Proofs.Ytnhcimhdkdgccaa.P
open Go.RowKit Go.Lib Go.Proofs.YtnhcimhdkdgccaaW.PrintWords

/-- A graph whose rows rise, of nodes alone, is clean. -/
theorem clean_self {g : List (List Int)} (hv : Valid g) (hr : ∀ l ∈ g, l.Pairwise (· < ·)) : clean g = g := by
  unfold clean
  conv => rhs; rw [← List.map_id g]
  refine List.map_congr_left fun l hl => ?_
  exact cleanRow_eq (hr l hl) (fun x => ⟨fun hx => ⟨hx, hv l hl x hx⟩, fun h => h.1⟩)

def exG : List (List Int) := [[1, 2], [3], [3], []]
theorem exG_clean : clean exG = exG := clean_self (by intro l hl; simp only [exG, List.mem_cons, List.not_mem_nil, or_false] at hl; rcases hl with rfl | rfl | rfl | rfl <;> intro b hb <;> simp at hb <;> (try rcases hb with rfl | rfl) <;> (try subst hb) <;> decide) (by decide)
theorem exG_fits : fits exG = true := by decide
theorem exG_told0 : toldOf exG 0 = some [3, 1, 2, 0] := by rfl
theorem exG_told1 : toldOf exG 1 = some [3, 1] := by rfl
theorem awake10_ev : Ev (fun k => bywashlaw10_awake.f k) true := by
  have h0 : graph_Order.f exG 0 = some [0, 2, 1, 3] := by unfold graph_Order.f; rw [if_pos exG_fits, exG_clean, exG_told0]; rfl
  have h1 : graph_Reach.f exG 1 = some [false, true, false, true] := by unfold graph_Reach.f; rw [if_pos exG_fits, exG_clean, exG_told1]; rfl
  refine Ev.congr (f := fun k => (bywashref01_Ints.f k [0, 2, 1, 3] [0, 2, 1, 3]).bind fun t => if t = true then some true else some false) (fun k => ?_) ?_
  · show (graph_Reach.f exG 1).bind _ = _
    rw [h1, Option.bind_some]
    show (graph_Order.f exG 0).bind _ = _
    rw [h0, Option.bind_some]
    rfl
  · refine Ev.bind (ints_ev _ _ (by decide)) ?_
    exact Ev.now _

end Go.Proofs.Ytnhcimhdkdgccaa.P
