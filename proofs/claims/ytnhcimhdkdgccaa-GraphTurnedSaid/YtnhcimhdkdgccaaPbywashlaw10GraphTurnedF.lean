-- Written by prn.py (a program of this work) over the seat's translation. Not trusted: Lean checks it.
import Derived.Test.YtnhcimhdkdgccaaP0
import Derived.Test.YtnhcimhdkdgccaaHclean
import Derived.Test.YtnhcimhdkdgccaaHpath
import Derived.Test.YtnhcimhdkdgccaaHreach
import Derived.Test.YtnhcimhdkdgccaaHturn
import Derived.Test.YtnhcimhdkdgccaaPbywashlaw10
import Derived.Test.YtnhcimhdkdgccaaPbywashref10
namespace Go.Proofs.Ytnhcimhdkdgccaa.P
open Go.RowKit Go.Proofs.YtnhcimhdkdgccaaW.PrintWords Go.Proofs.YtnhcimhdkdgccaaW.PrintLast Go.Proofs.YtnhcimhdkdgccaaW.PrintMore
attribute [local go_sem] max2_int min2_int max_two min_two max_three min_three max_four min_four   -- for this text's walks alone
set_option linter.unusedVariables false
set_option linter.unusedSimpArgs false

/-! ### bywashlaw10_GraphTurned: function 6 -/
mutual
def bywashlaw10_GraphTurned.j0 : Nat → List (List Int) → Int → Int → Bool → List (List Int) → Bool → Option (Bool)
  | 0, _, _, _, _, _, _ => none
  | k + 1, x0, x1, x2, x7, x8, x9 => if x9 = true then ((graph_Reach.f x0 x1).bind fun t189 => ((graph_Reach.f x8 x2).bind fun t192 => (if (t189.length : Int) = (x0.length : Int) then (bywashlaw10_GraphTurned.j1 k x0 x1 x2 x7 x8 t189 t192 ((t192.length : Int) != (x0.length : Int))) else (bywashlaw10_GraphTurned.j1 k x0 x1 x2 x7 x8 t189 t192 true)))) else (if x7 = true then ((graph_Path.f x0 x1 x2).bind fun t188 => (some (!t188))) else (some false))
def bywashlaw10_GraphTurned.j1 : Nat → List (List Int) → Int → Int → Bool → List (List Int) → List Bool → List Bool → Bool → Option (Bool)
  | 0, _, _, _, _, _, _, _, _ => none
  | k + 1, x0, x1, x2, x7, x8, x10, x11, x64 => if x64 = true then (some false) else (if x7 = true then ((graph_Turn.f x8).bind fun t195 => ((graph_Clean.f x0).bind fun t198 => ((bywashref10_Same.f k t195 t198).bind fun t201 => (if t201 = true then (if 0 ≤ x2 then (if x2 < (x10.length : Int) then (if 0 ≤ x1 then (if x1 < (x11.length : Int) then (if ((rdOf false x10 x2) == (rdOf false x11 x1)) = true then ((graph_Path.f x0 x1 x2).bind fun t204 => ((graph_Path.f x8 x2 x1).bind fun t205 => (if (t204 == t205) = true then (if x1 = x2 then (some ((rdOf false x10 x2) == true)) else ((graph_Path.f x0 x1 x2).bind fun t207 => (some ((rdOf false x10 x2) == t207)))) else (some false)))) else (some false)) else (none)) else (none)) else (none)) else (none)) else (some false))))) else (some false))
end
def bywashlaw10_GraphTurned.f (k : Nat) (l0 : List (List Int)) (a1 : Int) (a2 : Int) : Option (Bool) := (bywashlaw10_awake.f k).bind fun t183 => ((bywashref10_Few.f k l0).bind fun t184 => (if t184 = true then ((graph_Turn.f l0).bind fun t185 => (if a1 ≥ 0 then (if a1 < (l0.length : Int) then (if a2 ≥ 0 then (bywashlaw10_GraphTurned.j0 k l0 a1 a2 t183 t185 (decide (a2 < (l0.length : Int)))) else (bywashlaw10_GraphTurned.j0 k l0 a1 a2 t183 t185 false)) else (bywashlaw10_GraphTurned.j0 k l0 a1 a2 t183 t185 false)) else (bywashlaw10_GraphTurned.j0 k l0 a1 a2 t183 t185 false))) else (some t183)))
theorem bywashlaw10_GraphTurned.mono_l : ∀ k, (∀ y0 y1 y2 y3 y4 y5, LeO (bywashlaw10_GraphTurned.j0 k y0 y1 y2 y3 y4 y5) (bywashlaw10_GraphTurned.j0 (k + 1) y0 y1 y2 y3 y4 y5)) ∧ (∀ y0 y1 y2 y3 y4 y5 y6 y7, LeO (bywashlaw10_GraphTurned.j1 k y0 y1 y2 y3 y4 y5 y6 y7) (bywashlaw10_GraphTurned.j1 (k + 1) y0 y1 y2 y3 y4 y5 y6 y7))
  | 0 => ⟨fun _ _ _ _ _ _ r h => by simp [bywashlaw10_GraphTurned.j0] at h, fun _ _ _ _ _ _ _ _ r h => by simp [bywashlaw10_GraphTurned.j1] at h⟩
  | k + 1 => by
    obtain ⟨ih0, ih1⟩ := bywashlaw10_GraphTurned.mono_l k
    refine ⟨?_, ?_⟩
    · intro y0 y1 y2 y3 y4 y5
      unfold bywashlaw10_GraphTurned.j0
      repeat' first
      | (with_reducible exact ih0 _ _ _ _ _ _)
      | (with_reducible exact ih1 _ _ _ _ _ _ _ _)
      | (with_reducible exact bywashlaw10_awake.mono _)
      | (with_reducible exact bywashref10_Few.mono _ _)
      | (with_reducible exact bywashref10_Same.mono _ _ _)
      | (with_reducible exact LeO.refl _)
      | (with_reducible exact LeO.none _)
      | (with_reducible refine LeO.ite ?_ ?_)
      | (with_reducible refine LeO.bind ?_ (fun _ => ?_))
      | exact ih0 _ _ _ _ _ _
      | exact ih1 _ _ _ _ _ _ _ _
      | exact bywashlaw10_awake.mono _
      | exact bywashref10_Few.mono _ _
      | exact bywashref10_Same.mono _ _ _
      | exact LeO.none _
      | refine LeO.ite ?_ ?_
      | refine LeO.bind ?_ (fun _ => ?_)
    · intro y0 y1 y2 y3 y4 y5 y6 y7
      unfold bywashlaw10_GraphTurned.j1
      repeat' first
      | (with_reducible exact ih0 _ _ _ _ _ _)
      | (with_reducible exact ih1 _ _ _ _ _ _ _ _)
      | (with_reducible exact bywashlaw10_awake.mono _)
      | (with_reducible exact bywashref10_Few.mono _ _)
      | (with_reducible exact bywashref10_Same.mono _ _ _)
      | (with_reducible exact LeO.refl _)
      | (with_reducible exact LeO.none _)
      | (with_reducible refine LeO.ite ?_ ?_)
      | (with_reducible refine LeO.bind ?_ (fun _ => ?_))
      | exact ih0 _ _ _ _ _ _
      | exact ih1 _ _ _ _ _ _ _ _
      | exact bywashlaw10_awake.mono _
      | exact bywashref10_Few.mono _ _
      | exact bywashref10_Same.mono _ _ _
      | exact LeO.none _
      | refine LeO.ite ?_ ?_
      | refine LeO.bind ?_ (fun _ => ?_)
theorem bywashlaw10_GraphTurned.mono : ∀ a0 a1 a2 k, LeO (bywashlaw10_GraphTurned.f k a0 a1 a2) (bywashlaw10_GraphTurned.f (k + 1) a0 a1 a2) := by
  intro a0 a1 a2 k
  obtain ⟨ih0, ih1⟩ := bywashlaw10_GraphTurned.mono_l k
  unfold bywashlaw10_GraphTurned.f
  repeat' first
      | (with_reducible exact ih0 _ _ _ _ _ _)
      | (with_reducible exact ih1 _ _ _ _ _ _ _ _)
      | (with_reducible exact bywashlaw10_awake.mono _)
      | (with_reducible exact bywashref10_Few.mono _ _)
      | (with_reducible exact bywashref10_Same.mono _ _ _)
      | (with_reducible exact LeO.refl _)
      | (with_reducible exact LeO.none _)
      | (with_reducible refine LeO.ite ?_ ?_)
      | (with_reducible refine LeO.bind ?_ (fun _ => ?_))
      | exact ih0 _ _ _ _ _ _
      | exact ih1 _ _ _ _ _ _ _ _
      | exact bywashlaw10_awake.mono _
      | exact bywashref10_Few.mono _ _
      | exact bywashref10_Same.mono _ _ _
      | exact LeO.none _
      | refine LeO.ite ?_ ?_
      | refine LeO.bind ?_ (fun _ => ?_)
def bywashlaw10_GraphTurned.T12 : Bool × List (List Nat × List Nat) := (true, [([], []), ([0], [0]), ([1], [1]), ([2, 1, 1], [1, 2]), ([1], [1]), ([4, 3, 1], [1, 4]), ([3, 5, 5, 1], [1, 3, 5]), ([1, 6], [1, 6]), ([7, 6], [7]), ([8], [8]), ([8], [8]), ([9, 10, 8], [8, 9, 10]), ([11, 8], [8, 11]), ([8], [8]), ([8], [8]), ([13, 14, 8], [8, 13, 14]), ([15, 8], [8, 15]), ([12, 16, 8], [8, 12, 16]), ([8, 17], [8, 17]), ([18, 8], [18]), ([19], [19]), ([19], [19]), ([19], [19]), ([20, 21, 22, 19, 19], [19, 20, 21, 22]), ([19], [19]), ([19], [19]), ([19], [19]), ([24, 25, 26, 23, 19], [19, 24, 25, 26]), ([23, 27, 19], [19, 23, 27]), ([19, 28], [19, 28]), ([29, 27], [29]), ([30], [30]), ([30], [30]), ([31, 32, 30], [30, 31, 32]), ([33, 30], [30, 33]), ([30], [30]), ([30], [30]), ([35, 36, 30], [30, 35, 36]), ([37, 30, 30], [30, 37]), ([38], [38]), ([38], [38]), ([38], [38]), ([39, 40, 41, 38, 38], [38, 39, 40, 41]), ([38, 42, 30], [30, 38, 42]), ([34, 43, 30], [30, 34, 43]), ([30, 44], [30, 44]), ([45, 42, 0, 1, 2, 3, 4, 5, 6, 7, 8, 9, 10, 11, 12, 13, 14, 15, 16, 17, 18, 19, 20, 21, 22, 23, 24, 25, 26, 27, 28, 29, 30, 31, 32, 33, 34, 35, 36, 37, 38, 39, 40, 41, 42, 43, 44, 45], [45])])
def bywashlaw10_GraphTurned.B12 : List Nat := [0, 1, 3, 7, 3, 31, 63, 127, 255, 511, 511, 2047, 4095, 511, 511, 25087, 57855, 131071, 262143, 524287, 1048575, 1048575, 1048575, 8388607, 1048575, 1048575, 1048575, 134217727, 268435455, 536870911, 1073741823, 2147483647, 2147483647, 8589934591, 17179869183, 2147483647, 2147483647, 105226698751, 242665652223, 517543559167, 517543559167, 517543559167, 4365834256383, 8763880767487, 17592186044415, 35184372088831, 70368744177663]
theorem bywashlaw10_GraphTurned.tab12 : rtab .any (opsOf Try.f6 12) = bywashlaw10_GraphTurned.T12 := by kernel_rfl
theorem bywashlaw10_GraphTurned.bits12 : waitsOk bywashlaw10_GraphTurned.T12.2 bywashlaw10_GraphTurned.B12 = true := by kernel_rfl

end Go.Proofs.Ytnhcimhdkdgccaa.P
