-- Written by prn.py (a program of this work) over the seat's translation. Not trusted: Lean checks it.
import Derived.Test.YtnhcimhdkdgccaaP0
import Derived.Test.YtnhcimhdkdgccaaHclean
import Derived.Test.YtnhcimhdkdgccaaHheld
import Derived.Test.YtnhcimhdkdgccaaHreach
import Derived.Test.YtnhcimhdkdgccaaPbywashlaw10
import Derived.Test.YtnhcimhdkdgccaaPbywashref10
namespace Go.Proofs.Ytnhcimhdkdgccaa.P
open Go.RowKit Go.Proofs.YtnhcimhdkdgccaaW.PrintWords Go.Proofs.YtnhcimhdkdgccaaW.PrintLast Go.Proofs.YtnhcimhdkdgccaaW.PrintMore
attribute [local go_sem] max2_int min2_int max_two min_two max_three min_three max_four min_four   -- for this text's walks alone
set_option linter.unusedVariables false
set_option linter.unusedSimpArgs false

/-! ### bywashlaw10_GraphOrder: function 4 -/
mutual
def bywashlaw10_GraphOrder.j0 : Nat → List (List Int) → Int → Bool → List Int → List Bool → List (List Int) → Bool → Option (Bool)
  | 0, _, _, _, _, _, _, _ => none
  | k + 1, x0, x1, x5, x6, x7, x8, x39 => if x39 = true then (some false) else (if 0 ≤ (x0.length : Int) then (if ((x0.length : Int) : Int).toNat ≤ 35184372088832 then (bywashlaw10_GraphOrder.l0 k x0 x1 x5 x6 x7 x8 (List.replicate ((x0.length : Int) : Int).toNat 0) 0) else (none)) else (none))
def bywashlaw10_GraphOrder.l0 : Nat → List (List Int) → Int → Bool → List Int → List Bool → List (List Int) → List Int → Int → Option (Bool)
  | 0, _, _, _, _, _, _, _, _ => none
  | k + 1, x0, x1, x5, x6, x7, x8, x9, x10 => if x10 < (x6.length : Int) then (if 0 ≤ x10 then (if (rd x6 x10) < 0 then (some false) else (if (rd x6 x10) ≥ (x0.length : Int) then (some false) else (if 0 ≤ (rd x6 x10) then (if (rd x6 x10) < (x9.length : Int) then (if (rd x9 (rd x6 x10)) = 0 then (if (rd x6 x10) < (x7.length : Int) then (if (rdOf false x7 (rd x6 x10) = true) then (bywashlaw10_GraphOrder.l0 k x0 x1 x5 x6 x7 x8 (x9.set ((rd x6 x10) : Int).toNat (wrap64 (x10 + 1))) (wrap64 (x10 + 1))) else (some false)) else (none)) else (some false)) else (none)) else (none)))) else (none)) else (bywashlaw10_GraphOrder.l1 k x0 x1 x5 x6 x7 x8 x9 0 0)
def bywashlaw10_GraphOrder.l1 : Nat → List (List Int) → Int → Bool → List Int → List Bool → List (List Int) → List Int → Int → Int → Option (Bool)
  | 0, _, _, _, _, _, _, _, _, _ => none
  | k + 1, x0, x1, x5, x6, x7, x8, x9, x11, x12 => if x12 < (x0.length : Int) then (if 0 ≤ x12 then (if x12 < (x7.length : Int) then (if rdOf false x7 x12 = true then (bywashlaw10_GraphOrder.j3 k x0 x1 x5 x6 x7 x8 x9 (wrap64 (x11 + 1)) x12) else (bywashlaw10_GraphOrder.j3 k x0 x1 x5 x6 x7 x8 x9 x11 x12)) else (none)) else (none)) else (if x5 = true then (if x11 = (x6.length : Int) then (if x11 = 0 then (some true) else (if 0 < (x6.length : Int) then (some ((rd x6 0) == x1)) else (none))) else (some false)) else (some false))
def bywashlaw10_GraphOrder.j3 : Nat → List (List Int) → Int → Bool → List Int → List Bool → List (List Int) → List Int → Int → Int → Option (Bool)
  | 0, _, _, _, _, _, _, _, _, _ => none
  | k + 1, x0, x1, x5, x6, x7, x8, x9, x11, x12 => bywashlaw10_GraphOrder.l2 k x0 x1 x5 x6 x7 x8 x9 x11 x12 0
def bywashlaw10_GraphOrder.l2 : Nat → List (List Int) → Int → Bool → List Int → List Bool → List (List Int) → List Int → Int → Int → Int → Option (Bool)
  | 0, _, _, _, _, _, _, _, _, _, _ => none
  | k + 1, x0, x1, x5, x6, x7, x8, x9, x11, x12, x13 => if 0 ≤ x12 then (if x12 < (x8.length : Int) then (if x13 < ((rd_L1 x8 x12).length : Int) then (if x12 < (x7.length : Int) then (bywashlaw10_GraphOrder.j5 k x0 x1 x5 x6 x7 x8 x9 x11 x12 x13 (rdOf false x7 x12)) else (none)) else (bywashlaw10_GraphOrder.j5 k x0 x1 x5 x6 x7 x8 x9 x11 x12 x13 false)) else (none)) else (none)
def bywashlaw10_GraphOrder.j5 : Nat → List (List Int) → Int → Bool → List Int → List Bool → List (List Int) → List Int → Int → Int → Int → Bool → Option (Bool)
  | 0, _, _, _, _, _, _, _, _, _, _, _ => none
  | k + 1, x0, x1, x5, x6, x7, x8, x9, x11, x12, x13, x115 => if x115 = true then (if 0 ≤ x12 then (if x12 < (x8.length : Int) then (if 0 ≤ x13 then (if x13 < ((rd_L1 x8 x12).length : Int) then (if 0 ≤ (rd (rd_L1 x8 x12) x13) then (if (rd (rd_L1 x8 x12) x13) < (x7.length : Int) then (if (rdOf false x7 (rd (rd_L1 x8 x12) x13) = true) then (if (rd (rd_L1 x8 x12) x13) < (x9.length : Int) then (if x12 < (x9.length : Int) then (if (rd x9 (rd (rd_L1 x8 x12) x13)) ≤ (rd x9 x12) then ((graph_Reach.f x0 (rd (rd_L1 x8 x12) x13)).bind fun t159 => (if x12 < (t159.length : Int) then (if rdOf false t159 x12 = true then (bywashlaw10_GraphOrder.l2 k x0 x1 x5 x6 x7 x8 x9 x11 x12 (wrap64 (x13 + 1))) else (some false)) else (none))) else (bywashlaw10_GraphOrder.l2 k x0 x1 x5 x6 x7 x8 x9 x11 x12 (wrap64 (x13 + 1)))) else (none)) else (none)) else (some false)) else (none)) else (none)) else (none)) else (none)) else (none)) else (none)) else (bywashlaw10_GraphOrder.l1 k x0 x1 x5 x6 x7 x8 x9 x11 (wrap64 (x12 + 1)))
end
def bywashlaw10_GraphOrder.f (k : Nat) (l0 : List (List Int)) (a1 : Int) : Option (Bool) := (bywashlaw10_awake.f k).bind fun t128 => ((bywashref10_Few.f k l0).bind fun t129 => (if t129 = true then ((graph_Order.f l0 a1).bind fun t130 => ((graph_Reach.f l0 a1).bind fun t133 => ((graph_Clean.f l0).bind fun t136 => (if (t133.length : Int) = (l0.length : Int) then (bywashlaw10_GraphOrder.j0 k l0 a1 t128 t130 t133 t136 ((t136.length : Int) != (l0.length : Int))) else (bywashlaw10_GraphOrder.j0 k l0 a1 t128 t130 t133 t136 true))))) else (some t128)))
theorem bywashlaw10_GraphOrder.mono_l : ∀ k, (∀ y0 y1 y2 y3 y4 y5 y6, LeO (bywashlaw10_GraphOrder.j0 k y0 y1 y2 y3 y4 y5 y6) (bywashlaw10_GraphOrder.j0 (k + 1) y0 y1 y2 y3 y4 y5 y6)) ∧ (∀ y0 y1 y2 y3 y4 y5 y6 y7, LeO (bywashlaw10_GraphOrder.l0 k y0 y1 y2 y3 y4 y5 y6 y7) (bywashlaw10_GraphOrder.l0 (k + 1) y0 y1 y2 y3 y4 y5 y6 y7)) ∧ (∀ y0 y1 y2 y3 y4 y5 y6 y7 y8, LeO (bywashlaw10_GraphOrder.l1 k y0 y1 y2 y3 y4 y5 y6 y7 y8) (bywashlaw10_GraphOrder.l1 (k + 1) y0 y1 y2 y3 y4 y5 y6 y7 y8)) ∧ (∀ y0 y1 y2 y3 y4 y5 y6 y7 y8, LeO (bywashlaw10_GraphOrder.j3 k y0 y1 y2 y3 y4 y5 y6 y7 y8) (bywashlaw10_GraphOrder.j3 (k + 1) y0 y1 y2 y3 y4 y5 y6 y7 y8)) ∧ (∀ y0 y1 y2 y3 y4 y5 y6 y7 y8 y9, LeO (bywashlaw10_GraphOrder.l2 k y0 y1 y2 y3 y4 y5 y6 y7 y8 y9) (bywashlaw10_GraphOrder.l2 (k + 1) y0 y1 y2 y3 y4 y5 y6 y7 y8 y9)) ∧ (∀ y0 y1 y2 y3 y4 y5 y6 y7 y8 y9 y10, LeO (bywashlaw10_GraphOrder.j5 k y0 y1 y2 y3 y4 y5 y6 y7 y8 y9 y10) (bywashlaw10_GraphOrder.j5 (k + 1) y0 y1 y2 y3 y4 y5 y6 y7 y8 y9 y10))
  | 0 => ⟨fun _ _ _ _ _ _ _ r h => by simp [bywashlaw10_GraphOrder.j0] at h, fun _ _ _ _ _ _ _ _ r h => by simp [bywashlaw10_GraphOrder.l0] at h, fun _ _ _ _ _ _ _ _ _ r h => by simp [bywashlaw10_GraphOrder.l1] at h, fun _ _ _ _ _ _ _ _ _ r h => by simp [bywashlaw10_GraphOrder.j3] at h, fun _ _ _ _ _ _ _ _ _ _ r h => by simp [bywashlaw10_GraphOrder.l2] at h, fun _ _ _ _ _ _ _ _ _ _ _ r h => by simp [bywashlaw10_GraphOrder.j5] at h⟩
  | k + 1 => by
    obtain ⟨ih0, ih1, ih2, ih3, ih4, ih5⟩ := bywashlaw10_GraphOrder.mono_l k
    refine ⟨?_, ?_, ?_, ?_, ?_, ?_⟩
    · intro y0 y1 y2 y3 y4 y5 y6
      unfold bywashlaw10_GraphOrder.j0
      repeat' first
      | (with_reducible exact ih0 _ _ _ _ _ _ _)
      | (with_reducible exact ih1 _ _ _ _ _ _ _ _)
      | (with_reducible exact ih2 _ _ _ _ _ _ _ _ _)
      | (with_reducible exact ih3 _ _ _ _ _ _ _ _ _)
      | (with_reducible exact ih4 _ _ _ _ _ _ _ _ _ _)
      | (with_reducible exact ih5 _ _ _ _ _ _ _ _ _ _ _)
      | (with_reducible exact bywashlaw10_awake.mono _)
      | (with_reducible exact bywashref10_Few.mono _ _)
      | (with_reducible exact LeO.refl _)
      | (with_reducible exact LeO.none _)
      | (with_reducible refine LeO.ite ?_ ?_)
      | (with_reducible refine LeO.bind ?_ (fun _ => ?_))
      | exact ih0 _ _ _ _ _ _ _
      | exact ih1 _ _ _ _ _ _ _ _
      | exact ih2 _ _ _ _ _ _ _ _ _
      | exact ih3 _ _ _ _ _ _ _ _ _
      | exact ih4 _ _ _ _ _ _ _ _ _ _
      | exact ih5 _ _ _ _ _ _ _ _ _ _ _
      | exact bywashlaw10_awake.mono _
      | exact bywashref10_Few.mono _ _
      | exact LeO.none _
      | refine LeO.ite ?_ ?_
      | refine LeO.bind ?_ (fun _ => ?_)
    · intro y0 y1 y2 y3 y4 y5 y6 y7
      unfold bywashlaw10_GraphOrder.l0
      repeat' first
      | (with_reducible exact ih0 _ _ _ _ _ _ _)
      | (with_reducible exact ih1 _ _ _ _ _ _ _ _)
      | (with_reducible exact ih2 _ _ _ _ _ _ _ _ _)
      | (with_reducible exact ih3 _ _ _ _ _ _ _ _ _)
      | (with_reducible exact ih4 _ _ _ _ _ _ _ _ _ _)
      | (with_reducible exact ih5 _ _ _ _ _ _ _ _ _ _ _)
      | (with_reducible exact bywashlaw10_awake.mono _)
      | (with_reducible exact bywashref10_Few.mono _ _)
      | (with_reducible exact LeO.refl _)
      | (with_reducible exact LeO.none _)
      | (with_reducible refine LeO.ite ?_ ?_)
      | (with_reducible refine LeO.bind ?_ (fun _ => ?_))
      | exact ih0 _ _ _ _ _ _ _
      | exact ih1 _ _ _ _ _ _ _ _
      | exact ih2 _ _ _ _ _ _ _ _ _
      | exact ih3 _ _ _ _ _ _ _ _ _
      | exact ih4 _ _ _ _ _ _ _ _ _ _
      | exact ih5 _ _ _ _ _ _ _ _ _ _ _
      | exact bywashlaw10_awake.mono _
      | exact bywashref10_Few.mono _ _
      | exact LeO.none _
      | refine LeO.ite ?_ ?_
      | refine LeO.bind ?_ (fun _ => ?_)
    · intro y0 y1 y2 y3 y4 y5 y6 y7 y8
      unfold bywashlaw10_GraphOrder.l1
      repeat' first
      | (with_reducible exact ih0 _ _ _ _ _ _ _)
      | (with_reducible exact ih1 _ _ _ _ _ _ _ _)
      | (with_reducible exact ih2 _ _ _ _ _ _ _ _ _)
      | (with_reducible exact ih3 _ _ _ _ _ _ _ _ _)
      | (with_reducible exact ih4 _ _ _ _ _ _ _ _ _ _)
      | (with_reducible exact ih5 _ _ _ _ _ _ _ _ _ _ _)
      | (with_reducible exact bywashlaw10_awake.mono _)
      | (with_reducible exact bywashref10_Few.mono _ _)
      | (with_reducible exact LeO.refl _)
      | (with_reducible exact LeO.none _)
      | (with_reducible refine LeO.ite ?_ ?_)
      | (with_reducible refine LeO.bind ?_ (fun _ => ?_))
      | exact ih0 _ _ _ _ _ _ _
      | exact ih1 _ _ _ _ _ _ _ _
      | exact ih2 _ _ _ _ _ _ _ _ _
      | exact ih3 _ _ _ _ _ _ _ _ _
      | exact ih4 _ _ _ _ _ _ _ _ _ _
      | exact ih5 _ _ _ _ _ _ _ _ _ _ _
      | exact bywashlaw10_awake.mono _
      | exact bywashref10_Few.mono _ _
      | exact LeO.none _
      | refine LeO.ite ?_ ?_
      | refine LeO.bind ?_ (fun _ => ?_)
    · intro y0 y1 y2 y3 y4 y5 y6 y7 y8
      unfold bywashlaw10_GraphOrder.j3
      repeat' first
      | (with_reducible exact ih0 _ _ _ _ _ _ _)
      | (with_reducible exact ih1 _ _ _ _ _ _ _ _)
      | (with_reducible exact ih2 _ _ _ _ _ _ _ _ _)
      | (with_reducible exact ih3 _ _ _ _ _ _ _ _ _)
      | (with_reducible exact ih4 _ _ _ _ _ _ _ _ _ _)
      | (with_reducible exact ih5 _ _ _ _ _ _ _ _ _ _ _)
      | (with_reducible exact bywashlaw10_awake.mono _)
      | (with_reducible exact bywashref10_Few.mono _ _)
      | (with_reducible exact LeO.refl _)
      | (with_reducible exact LeO.none _)
      | (with_reducible refine LeO.ite ?_ ?_)
      | (with_reducible refine LeO.bind ?_ (fun _ => ?_))
      | exact ih0 _ _ _ _ _ _ _
      | exact ih1 _ _ _ _ _ _ _ _
      | exact ih2 _ _ _ _ _ _ _ _ _
      | exact ih3 _ _ _ _ _ _ _ _ _
      | exact ih4 _ _ _ _ _ _ _ _ _ _
      | exact ih5 _ _ _ _ _ _ _ _ _ _ _
      | exact bywashlaw10_awake.mono _
      | exact bywashref10_Few.mono _ _
      | exact LeO.none _
      | refine LeO.ite ?_ ?_
      | refine LeO.bind ?_ (fun _ => ?_)
    · intro y0 y1 y2 y3 y4 y5 y6 y7 y8 y9
      unfold bywashlaw10_GraphOrder.l2
      repeat' first
      | (with_reducible exact ih0 _ _ _ _ _ _ _)
      | (with_reducible exact ih1 _ _ _ _ _ _ _ _)
      | (with_reducible exact ih2 _ _ _ _ _ _ _ _ _)
      | (with_reducible exact ih3 _ _ _ _ _ _ _ _ _)
      | (with_reducible exact ih4 _ _ _ _ _ _ _ _ _ _)
      | (with_reducible exact ih5 _ _ _ _ _ _ _ _ _ _ _)
      | (with_reducible exact bywashlaw10_awake.mono _)
      | (with_reducible exact bywashref10_Few.mono _ _)
      | (with_reducible exact LeO.refl _)
      | (with_reducible exact LeO.none _)
      | (with_reducible refine LeO.ite ?_ ?_)
      | (with_reducible refine LeO.bind ?_ (fun _ => ?_))
      | exact ih0 _ _ _ _ _ _ _
      | exact ih1 _ _ _ _ _ _ _ _
      | exact ih2 _ _ _ _ _ _ _ _ _
      | exact ih3 _ _ _ _ _ _ _ _ _
      | exact ih4 _ _ _ _ _ _ _ _ _ _
      | exact ih5 _ _ _ _ _ _ _ _ _ _ _
      | exact bywashlaw10_awake.mono _
      | exact bywashref10_Few.mono _ _
      | exact LeO.none _
      | refine LeO.ite ?_ ?_
      | refine LeO.bind ?_ (fun _ => ?_)
    · intro y0 y1 y2 y3 y4 y5 y6 y7 y8 y9 y10
      unfold bywashlaw10_GraphOrder.j5
      repeat' first
      | (with_reducible exact ih0 _ _ _ _ _ _ _)
      | (with_reducible exact ih1 _ _ _ _ _ _ _ _)
      | (with_reducible exact ih2 _ _ _ _ _ _ _ _ _)
      | (with_reducible exact ih3 _ _ _ _ _ _ _ _ _)
      | (with_reducible exact ih4 _ _ _ _ _ _ _ _ _ _)
      | (with_reducible exact ih5 _ _ _ _ _ _ _ _ _ _ _)
      | (with_reducible exact bywashlaw10_awake.mono _)
      | (with_reducible exact bywashref10_Few.mono _ _)
      | (with_reducible exact LeO.refl _)
      | (with_reducible exact LeO.none _)
      | (with_reducible refine LeO.ite ?_ ?_)
      | (with_reducible refine LeO.bind ?_ (fun _ => ?_))
      | exact ih0 _ _ _ _ _ _ _
      | exact ih1 _ _ _ _ _ _ _ _
      | exact ih2 _ _ _ _ _ _ _ _ _
      | exact ih3 _ _ _ _ _ _ _ _ _
      | exact ih4 _ _ _ _ _ _ _ _ _ _
      | exact ih5 _ _ _ _ _ _ _ _ _ _ _
      | exact bywashlaw10_awake.mono _
      | exact bywashref10_Few.mono _ _
      | exact LeO.none _
      | refine LeO.ite ?_ ?_
      | refine LeO.bind ?_ (fun _ => ?_)
theorem bywashlaw10_GraphOrder.mono : ∀ a0 a1 k, LeO (bywashlaw10_GraphOrder.f k a0 a1) (bywashlaw10_GraphOrder.f (k + 1) a0 a1) := by
  intro a0 a1 k
  obtain ⟨ih0, ih1, ih2, ih3, ih4, ih5⟩ := bywashlaw10_GraphOrder.mono_l k
  unfold bywashlaw10_GraphOrder.f
  repeat' first
      | (with_reducible exact ih0 _ _ _ _ _ _ _)
      | (with_reducible exact ih1 _ _ _ _ _ _ _ _)
      | (with_reducible exact ih2 _ _ _ _ _ _ _ _ _)
      | (with_reducible exact ih3 _ _ _ _ _ _ _ _ _)
      | (with_reducible exact ih4 _ _ _ _ _ _ _ _ _ _)
      | (with_reducible exact ih5 _ _ _ _ _ _ _ _ _ _ _)
      | (with_reducible exact bywashlaw10_awake.mono _)
      | (with_reducible exact bywashref10_Few.mono _ _)
      | (with_reducible exact LeO.refl _)
      | (with_reducible exact LeO.none _)
      | (with_reducible refine LeO.ite ?_ ?_)
      | (with_reducible refine LeO.bind ?_ (fun _ => ?_))
      | exact ih0 _ _ _ _ _ _ _
      | exact ih1 _ _ _ _ _ _ _ _
      | exact ih2 _ _ _ _ _ _ _ _ _
      | exact ih3 _ _ _ _ _ _ _ _ _
      | exact ih4 _ _ _ _ _ _ _ _ _ _
      | exact ih5 _ _ _ _ _ _ _ _ _ _ _
      | exact bywashlaw10_awake.mono _
      | exact bywashref10_Few.mono _ _
      | exact LeO.none _
      | refine LeO.ite ?_ ?_
      | refine LeO.bind ?_ (fun _ => ?_)
def bywashlaw10_GraphOrder.T26 : Bool × List (List Nat × List Nat) := (true, [([], []), ([], []), ([0, 1], [0, 1]), ([2], [2]), ([3], [3]), ([4], [4]), ([5], [5]), ([5], [5]), ([6, 7, 5], [5, 6, 7]), ([8, 5], [5, 8]), ([5], [5]), ([5], [5]), ([10, 11, 5], [5, 10, 11]), ([12, 5], [5, 12]), ([9, 13, 5], [5, 9, 13]), ([14, 5, 5], [5, 14]), ([15], [15]), ([15], [15]), ([16, 17, 15, 15], [15, 16, 17]), ([15], [15]), ([18, 19, 15], [15, 18, 19]), ([20, 15], [15, 20]), ([21, 15], [15, 21]), ([15, 22, 5], [5, 15, 22]), ([5, 23], [5, 23])])
def bywashlaw10_GraphOrder.B26 : List Nat := [0, 0, 3, 7, 15, 31, 63, 63, 255, 511, 63, 63, 3135, 7231, 16383, 32767, 65535, 65535, 262143, 65535, 1048575, 2097151, 4194303, 8388607, 16777215]
theorem bywashlaw10_GraphOrder.tab26 : rtab .any (opsOf Try.f4 26) = bywashlaw10_GraphOrder.T26 := by kernel_rfl
theorem bywashlaw10_GraphOrder.bits26 : waitsOk bywashlaw10_GraphOrder.T26.2 bywashlaw10_GraphOrder.B26 = true := by kernel_rfl
set_option maxHeartbeats 60000000 in
set_option maxRecDepth 100000 in
theorem bywashlaw10_GraphOrder.calls (k : Nat) (A0 : Option Addr) (c0 : Nat) (l0 : List (List Int)) (a1 : Int) (r : Bool) (w : World) (hr0 : Kd.C (Kd.slice 3 (Kd.int .i64)) w A0 l0.length l0) (hc0 : l0.length ≤ c0) (h : bywashlaw10_GraphOrder.f k l0 a1 = some r) :
    Calls Try.prog 4 #[.slice A0 l0.length c0, .int .i64 a1] w fun e w' => e = .returned (.bool r) ∧ Below w.heap.size w w' := by
  have HR0 := Aside0.mk hr0
  have HC0 := Aside0.mk hc0
  clear hr0 hc0
  have HB := Aside0.mk (Below.refl w.heap.size w)
  have H : ((bywashlaw10_awake.f k).bind fun t128 => ((bywashref10_Few.f k l0).bind fun t129 => (if t129 = true then ((graph_Order.f l0 a1).bind fun t130 => ((graph_Reach.f l0 a1).bind fun t133 => ((graph_Clean.f l0).bind fun t136 => (if (t133.length : Int) = (l0.length : Int) then (bywashlaw10_GraphOrder.j0 k l0 a1 t128 t130 t133 t136 ((t136.length : Int) != (l0.length : Int))) else (bywashlaw10_GraphOrder.j0 k l0 a1 t128 t130 t133 t136 true))))) else (some t128)))) = some r := h
  clear h
  replace H := Option.bind_eq_some_iff.mp H
  obtain ⟨t128, A30, H⟩ := H
  replace H : ((bywashref10_Few.f k l0).bind fun t129 => (if t129 = true then ((graph_Order.f l0 a1).bind fun t130 => ((graph_Reach.f l0 a1).bind fun t133 => ((graph_Clean.f l0).bind fun t136 => (if (t133.length : Int) = (l0.length : Int) then (bywashlaw10_GraphOrder.j0 k l0 a1 t128 t130 t133 t136 ((t136.length : Int) != (l0.length : Int))) else (bywashlaw10_GraphOrder.j0 k l0 a1 t128 t130 t133 t136 true))))) else (some t128))) = some r := H
  have A3 := Aside0.mk A30
  clear A30
  replace H := Option.bind_eq_some_iff.mp H
  obtain ⟨t129, A40, H⟩ := H
  replace H : (if t129 = true then ((graph_Order.f l0 a1).bind fun t130 => ((graph_Reach.f l0 a1).bind fun t133 => ((graph_Clean.f l0).bind fun t136 => (if (t133.length : Int) = (l0.length : Int) then (bywashlaw10_GraphOrder.j0 k l0 a1 t128 t130 t133 t136 ((t136.length : Int) != (l0.length : Int))) else (bywashlaw10_GraphOrder.j0 k l0 a1 t128 t130 t133 t136 true))))) else (some t128)) = some r := H
  have A4 := Aside0.mk A40
  clear A40
  by_cases c5 : t129 = true
  · subst c5
    have H1 : ((graph_Order.f l0 a1).bind fun t130 => ((graph_Reach.f l0 a1).bind fun t133 => ((graph_Clean.f l0).bind fun t136 => (if (t133.length : Int) = (l0.length : Int) then (bywashlaw10_GraphOrder.j0 k l0 a1 t128 t130 t133 t136 ((t136.length : Int) != (l0.length : Int))) else (bywashlaw10_GraphOrder.j0 k l0 a1 t128 t130 t133 t136 true))))) = some r := by rw [if_pos rfl] at H; exact H
    clear H
    have H := H1
    clear H1
    replace H := Option.bind_eq_some_iff.mp H
    obtain ⟨t130, A60, H⟩ := H
    replace H : ((graph_Reach.f l0 a1).bind fun t133 => ((graph_Clean.f l0).bind fun t136 => (if (t133.length : Int) = (l0.length : Int) then (bywashlaw10_GraphOrder.j0 k l0 a1 t128 t130 t133 t136 ((t136.length : Int) != (l0.length : Int))) else (bywashlaw10_GraphOrder.j0 k l0 a1 t128 t130 t133 t136 true)))) = some r := H
    have A6 := Aside0.mk A60
    clear A60
    replace H := Option.bind_eq_some_iff.mp H
    obtain ⟨t133, A70, H⟩ := H
    replace H : ((graph_Clean.f l0).bind fun t136 => (if (t133.length : Int) = (l0.length : Int) then (bywashlaw10_GraphOrder.j0 k l0 a1 t128 t130 t133 t136 ((t136.length : Int) != (l0.length : Int))) else (bywashlaw10_GraphOrder.j0 k l0 a1 t128 t130 t133 t136 true))) = some r := H
    have A7 := Aside0.mk A70
    clear A70
    replace H := Option.bind_eq_some_iff.mp H
    obtain ⟨t136, A80, H⟩ := H
    replace H : (if (t133.length : Int) = (l0.length : Int) then (bywashlaw10_GraphOrder.j0 k l0 a1 t128 t130 t133 t136 ((t136.length : Int) != (l0.length : Int))) else (bywashlaw10_GraphOrder.j0 k l0 a1 t128 t130 t133 t136 true)) = some r := H
    have A8 := Aside0.mk A80
    clear A80
    have HC9 := Aside0.mk H
    clear H
    go_enter Try.func4, Try.ntmps4
    go_upto_region 7 with (first | ((with_reducible refine gate_callee (f := 20) rfl ?_); refine goesL_ (some 15) rfl rfl Try.func20 (by kernel_rfl) rfl #[] rfl (by (try simp only [List.map_toArray, List.map_cons, List.map_nil]); first | done | rfl | (simp only [List.length_drop, List.length_take]; rfl)) ?_; (with_reducible refine (bywashlaw10_awake.calls k  t128 _ A3.out).mono ?_); rintro e w10 ⟨rfl, hb⟩; refine ⟨_, rfl, ?_⟩; have n0_ := Aside0.mk (below_step (by repeat (first | (with_reducible first | exact HB.out | apply below_alloc | apply pw_below_drewN | apply below_drew1) | exact HB.out)) hb); clear HB; have HB := n0_; clear n0_; (try clear hb); (try clear hb2); (try clear hk); (try clear hi)) | ((with_reducible refine gate_callee (f := 21) rfl ?_); refine goesL_ (some 17) rfl rfl Try.func21 (by kernel_rfl) rfl #[.slice A0 l0.length c0] rfl (by (try simp only [List.map_toArray, List.map_cons, List.map_nil]); first | done | rfl | (simp only [List.length_drop, List.length_take]; rfl)) ?_; (with_reducible refine (bywashref10_Few.calls k _ _ l0 true _ ?side1 ?side2 A4.out).mono ?_); (case side1 => repeat (first | exact (Kd.C_below HR0.out HB.out) | (with_reducible refine Kd.C_alloc ?_ _) | (with_reducible refine Kd.C_drewN ?_ _) | (with_reducible refine Kd.C_drew ?_))); (case side2 => exact HC0.out); rintro e w' ⟨rfl, ⟨nd, rfl⟩⟩; refine ⟨_, rfl, ?_⟩) | ((with_reducible refine gate_callee (f := 22) rfl ?_); refine goesL_ (some 22) rfl rfl Try.func22 (by kernel_rfl) rfl #[.slice A0 l0.length c0, .int .i64 a1] rfl (by (try simp only [List.map_toArray, List.map_cons, List.map_nil]); first | done | rfl | (simp only [List.length_drop, List.length_take]; rfl)) ?_; (with_reducible refine (graph_Order.calls _ _ l0 a1 t130 _ ?side1 ?side2 A6.out).mono ?_); (case side1 => repeat (first | exact (Kd.C_below HR0.out (by repeat (first | (with_reducible first | exact HB.out | apply below_alloc | apply pw_below_drewN | apply below_drew1) | exact HB.out))) | (with_reducible refine Kd.C_alloc ?_ _) | (with_reducible refine Kd.C_drewN ?_ _) | (with_reducible refine Kd.C_drew ?_))); (case side2 => exact HC0.out); rintro e w11 ⟨v131, rfl, ho0, hb⟩; refine ⟨_, rfl, ?_⟩; have n0_ := Aside0.mk (Kd.R_lower ho0 (below_size (by repeat (first | (with_reducible first | exact HB.out | apply below_alloc | apply pw_below_drewN | apply below_drew1) | exact HB.out)))); have n1_ := Aside0.mk (below_step (by repeat (first | (with_reducible first | exact HB.out | apply below_alloc | apply pw_below_drewN | apply below_drew1) | exact HB.out)) hb); clear HB; have HO132 := n0_; have HB := n1_; clear n0_ n1_; (try clear hb); (try clear hb2); (try clear hk); (try clear hi); (try clear ho0)) | ((with_reducible refine gate_callee (f := 23) rfl ?_); refine goesL_ (some 25) rfl rfl Try.func23 (by kernel_rfl) rfl #[.slice A0 l0.length c0, .int .i64 a1] rfl (by (try simp only [List.map_toArray, List.map_cons, List.map_nil]); first | done | rfl | (simp only [List.length_drop, List.length_take]; rfl)) ?_; (with_reducible refine (graph_Reach.calls _ _ l0 a1 t133 _ ?side1 ?side2 A7.out).mono ?_); (case side1 => repeat (first | exact (Kd.C_below HR0.out HB.out) | (with_reducible refine Kd.C_alloc ?_ _) | (with_reducible refine Kd.C_drewN ?_ _) | (with_reducible refine Kd.C_drew ?_))); (case side2 => exact HC0.out); rintro e w12 ⟨v134, rfl, ho0, hb⟩; refine ⟨_, rfl, ?_⟩; have n0_ := Aside0.mk (Kd.R_below (by (with_reducible repeat (first | apply Kd.R_alloc | apply Kd.R_drewN | apply Kd.R_drew)); exact HO132.out) hb); have n1_ := Aside0.mk (Kd.R_lower ho0 (below_size (by repeat (first | (with_reducible first | exact HB.out | apply below_alloc | apply pw_below_drewN | apply below_drew1) | exact HB.out)))); have n2_ := Aside0.mk (below_step (by repeat (first | (with_reducible first | exact HB.out | apply below_alloc | apply pw_below_drewN | apply below_drew1) | exact HB.out)) hb); clear HO132; clear HB; have HO132 := n0_; have HO135 := n1_; have HB := n2_; clear n0_ n1_ n2_; (try clear hb); (try clear hb2); (try clear hk); (try clear hi); (try clear ho0)) | ((with_reducible refine gate_callee (f := 24) rfl ?_); refine goesL_ (some 27) rfl rfl Try.func24 (by kernel_rfl) rfl #[.slice A0 l0.length c0] rfl (by (try simp only [List.map_toArray, List.map_cons, List.map_nil]); first | done | rfl | (simp only [List.length_drop, List.length_take]; rfl)) ?_; (with_reducible refine (graph_Clean.calls _ _ l0 t136 _ ?side1 ?side2 A8.out).mono ?_); (case side1 => repeat (first | exact (Kd.C_below HR0.out HB.out) | (with_reducible refine Kd.C_alloc ?_ _) | (with_reducible refine Kd.C_drewN ?_ _) | (with_reducible refine Kd.C_drew ?_))); (case side2 => exact HC0.out); rintro e w13 ⟨v137, rfl, ho0, hb⟩; refine ⟨_, rfl, ?_⟩; have n0_ := Aside0.mk (Kd.R_below (by (with_reducible repeat (first | apply Kd.R_alloc | apply Kd.R_drewN | apply Kd.R_drew)); exact HO132.out) hb); have n1_ := Aside0.mk (Kd.R_below (by (with_reducible repeat (first | apply Kd.R_alloc | apply Kd.R_drewN | apply Kd.R_drew)); exact HO135.out) hb); have n2_ := Aside0.mk (Kd.S_lower (Kd.S_new' ho0 (Kd.R_lt (by (with_reducible repeat (first | apply Kd.R_alloc | apply Kd.R_drewN | apply Kd.R_drew)); exact HO132.out))) (below_size (by repeat (first | (with_reducible first | exact HB.out | apply below_alloc | apply pw_below_drewN | apply below_drew1) | exact HB.out)))); have n3_ := Aside0.mk (below_step (by repeat (first | (with_reducible first | exact HB.out | apply below_alloc | apply pw_below_drewN | apply below_drew1) | exact HB.out)) hb); clear HO132; clear HO135; clear HB; have HO132 := n0_; have HO135 := n1_; have HO138 := n2_; have HB := n3_; clear n0_ n1_ n2_ n3_; (try clear hb); (try clear hb2); (try clear hk); (try clear hi); (try clear ho0)))
    (try simp only [Act.put, List.setIfInBounds_toArray, List.set_cons_zero, List.set_cons_succ])
    go_cut [39] (fun v39 wc => ∃ (kq : Nat) (x39_8 : Bool), v39 = .bool x39_8 ∧ Aside0 (bywashlaw10_GraphOrder.j0 kq l0 a1 t128 t130 t133 t136 x39_8 = some r) ∧ Aside0 (kq ≤ k) ∧ Aside0 (Kd.R (Kd.int .i64) 3 wc w.heap.size (fun _ => True) v131 t130) ∧ Aside0 (Kd.R Kd.bool 4 wc w.heap.size (fun _ => True) v134 t133) ∧ Aside0 (Kd.S (Kd.slice 3 (Kd.int .i64)) 22 wc w.heap.size (fun k_ => some k_ ≠ (v131 : Value).ownBlock) v137 t136) ∧ Aside0 (Below w.heap.size w wc))
    case first =>
      have H := HC9.out
      clear HC9
      by_cases c14 : (t133.length : Int) = (l0.length : Int)
      · rw [if_pos c14] at H
        have c14b0 : ((t133.length : Int) == (l0.length : Int)) = true := beq_iff_eq.mpr c14
        have c14b1 : ((t133.length : Int) != (l0.length : Int)) = false := bne_eq_false_iff_eq.mpr c14
        have c14b2 : (t133.length == l0.length) = true := by first | simpa using c14 | (simp at c14 ⊢; omega)
        clear c14
        (first | rw [c14b0] | (simp only [i64_w, i32_w]; rw [c14b0]) | skip)
        have H' := Aside0.mk H
        clear H
        obtain ⟨Ao15, co15, eo15⟩ := Kd.R_slice HO135.out
        subst eo15
        obtain ⟨Ao16, co16, eo16⟩ := Kd.S_slice HO138.out
        subst eo16
        go_wp2
        go_meet
        case rel => exact ⟨_, (((t136.length : Int) != (l0.length : Int))), (by first | rfl | (simp; done) | (simp [*]; done)), H', ⟨by first | omega | exact Nat.le_refl _⟩, ⟨by (with_reducible repeat (first | apply Kd.R_alloc | apply Kd.R_drewN | apply Kd.R_drew)); exact HO132.out⟩, ⟨by (with_reducible repeat (first | apply Kd.R_alloc | apply Kd.R_drewN | apply Kd.R_drew)); exact HO135.out⟩, ⟨by (with_reducible repeat (first | apply Kd.S_alloc | apply Kd.S_drewN | apply Kd.S_drew)); exact Kd.S_mono HO138.out (fun _ hk => hk.2)⟩, ⟨by repeat (first | (with_reducible first | exact HB.out | apply below_alloc | apply pw_below_drewN | apply below_drew1) | exact HB.out)⟩⟩
      · rw [if_neg c14] at H
        have c14b0 : ((t133.length : Int) == (l0.length : Int)) = false := beq_eq_false_iff_ne.mpr c14
        have c14b1 : ((t133.length : Int) != (l0.length : Int)) = true := bne_iff_ne.mpr c14
        have c14b2 : (t133.length == l0.length) = false := by first | simpa using c14 | (simp at c14 ⊢; omega)
        (first | rw [c14b0] | (simp only [i64_w, i32_w]; rw [c14b0]) | skip)
        have H' := Aside0.mk H
        clear H
        obtain ⟨Ao17, co17, eo17⟩ := Kd.R_slice HO135.out
        subst eo17
        go_wp2
        go_meet
        case rel => exact ⟨_, (true), (by first | rfl | (simp; done) | (simp [*]; done)), H', ⟨by first | omega | exact Nat.le_refl _⟩, ⟨by (with_reducible repeat (first | apply Kd.R_alloc | apply Kd.R_drewN | apply Kd.R_drew)); exact HO132.out⟩, ⟨by (with_reducible repeat (first | apply Kd.R_alloc | apply Kd.R_drewN | apply Kd.R_drew)); exact HO135.out⟩, ⟨by (with_reducible repeat (first | apply Kd.S_alloc | apply Kd.S_drewN | apply Kd.S_drew)); exact Kd.S_mono HO138.out (fun _ hk => hk.2)⟩, ⟨by repeat (first | (with_reducible first | exact HB.out | apply below_alloc | apply pw_below_drewN | apply below_drew1) | exact HB.out)⟩⟩
    case rest =>
      clear HC9
      try clear c1
      try clear c2
      try clear p2
      try clear c4
      try clear c5
      try clear c14
      try clear c14b0
      try clear c14b1
      try clear c14b2
      obtain ⟨kq, x39_8, rfl, HA, HJ8, HO_6, HO_7, HO_8, HB⟩ := hcut
      cases kq with
      | zero => exact absurd HA.out (by simp [bywashlaw10_GraphOrder.j0])
      | succ kj8 =>
        have H := HA.out
        clear HA
        simp only [bywashlaw10_GraphOrder.j0] at H
        by_cases c18 : x39_8 = true
        · subst c18
          have H1 : (some false) = some r := by rw [if_pos rfl] at H; exact H
          clear H
          have H := H1
          clear H1
          obtain rfl := Option.some.inj H
          go_wp2
          go_ret
          exact ⟨by first | rfl | (simp [errW_none, errW_some] <;> rfl) | (simp [*, errW_none, errW_some] <;> rfl), by repeat (first | (with_reducible first | exact HB.out | apply below_alloc | apply pw_below_drewN | apply below_drew1) | exact HB.out)⟩
        · replace c18 := Bool.eq_false_iff.mpr c18
          subst c18
          have H1 : (if 0 ≤ (l0.length : Int) then (if ((l0.length : Int) : Int).toNat ≤ 35184372088832 then (bywashlaw10_GraphOrder.l0 kj8 l0 a1 t128 t130 t133 t136 (List.replicate ((l0.length : Int) : Int).toNat 0) 0) else (none)) else (none)) = some r := by rw [if_neg (show ¬ (false = true) by decide)] at H; exact H
          clear H
          have H := H1
          clear H1
          by_cases c19 : 0 ≤ (l0.length : Int)
          · rw [if_pos c19] at H
            have c19b0 := eq_true c19
            have c19b1 : decide (0 ≤ (l0.length : Int)) = true := decide_eq_true c19
            clear c19
            by_cases c20 : ((l0.length : Int) : Int).toNat ≤ 35184372088832
            · rw [if_pos c20] at H
              have c20b0 := eq_true c20
              have c20b1 : decide (((l0.length : Int) : Int).toNat ≤ 35184372088832) = true := decide_eq_true c20
              clear c20
              obtain ⟨y139, hy139⟩ : ∃ y_ : List Int, y_ = (List.replicate ((l0.length : Int) : Int).toNat 0) := ⟨_, rfl⟩
              replace H : (bywashlaw10_GraphOrder.l0 kj8 l0 a1 t128 t130 t133 t136 y139 0) = some r := by first | (rw [hy139]; with_reducible exact H) | (have H2_ := (Option.bind_some _ _).symm.trans H; rw [hy139]; with_reducible exact H2_) | (have H2_ := (Option.bind_some _ _).symm.trans H; with_reducible exact H2_) | with_reducible exact H | (rw [hy139]; exact H) | exact H
              have Ny139 := Aside0.mk hy139
              clear hy139
              have H' := Aside0.mk H
              clear H
              go_wp2_with (first | ((with_reducible refine gate_dst (N := 42) rfl ?_); (try (refine gate_guard (by rfl) ?_; dsimp only)); refine Kd.R_make (Kd.int .i64) _ 3 rfl (N := 42) rfl 22 _ _ rfl (l0.length : Int) rfl rfl Try.underlying22 (.int .i64 0) 8 info3 rfl (by decide) (by omega) 0 (ok := fun _ => True) (okp := fun _ => True) rfl (fun _ hk => hk) trivial (of_decide_eq_true (by first | (with_reducible assumption) | assumption)) (Nat.le_trans (Nat.mul_le_mul_right _ (of_decide_eq_true (by first | (with_reducible assumption) | assumption) : (l0.length : Int).toNat ≤ 35184372088832)) (by omega)) (Below.refl _ _) (Nat.le_refl _) ?_; intro v140 w21 ho22 hb hg_ hnew_; clear hg_ hnew_; (first | rw [← Ny139.out] at ho22 | (simp only [Int.reduceToNat] at ho22; rw [← Ny139.out] at ho22)); have n0_ := Aside0.mk (Kd.R_elder' (by (with_reducible repeat (first | apply Kd.R_alloc | apply Kd.R_drewN | apply Kd.R_drew)); exact HO_6.out) (Kd.R_base ho22) hb); have n1_ := Aside0.mk (Kd.R_below (by (with_reducible repeat (first | apply Kd.R_alloc | apply Kd.R_drewN | apply Kd.R_drew)); exact HO_7.out) hb); have n2_ := Aside0.mk (Kd.S_elder' (by (with_reducible repeat (first | apply Kd.S_alloc | apply Kd.S_drewN | apply Kd.S_drew)); exact HO_8.out) (Kd.R_base ho22) hb); have n3_ := Aside0.mk (Kd.R_lower (Kd.R_new' ho22 (Kd.R_lt (by (with_reducible repeat (first | apply Kd.R_alloc | apply Kd.R_drewN | apply Kd.R_drew)); exact HO_6.out))) (below_size (by repeat (first | (with_reducible first | exact HB.out | apply below_alloc | apply pw_below_drewN | apply below_drew1) | exact HB.out)))); have n4_ := Aside0.mk (below_step (by repeat (first | (with_reducible first | exact HB.out | apply below_alloc | apply pw_below_drewN | apply below_drew1) | exact HB.out)) hb); clear HO_6; clear HO_7; clear HO_8; clear HB; have HO_6 := n0_; have HO_7 := n1_; have HO_8 := n2_; have HO141 := n3_; have HB := n4_; clear n0_ n1_ n2_ n3_ n4_; clear hb ho22))
              go_loopg [10] kj8 (fun kq v10 w' => ∃ (x9_2 : List Int) (x10_2 : Int), v10 = .int .i64 x10_2 ∧ Aside0 (bywashlaw10_GraphOrder.l0 kq l0 a1 t128 t130 t133 t136 x9_2 x10_2 = some r) ∧ Aside0 (kq ≤ kj8) ∧ Aside0 (Kd.R (Kd.int .i64) 3 w' w.heap.size (fun k_ => some k_ ≠ (v140 : Value).ownBlock) v131 t130) ∧ Aside0 (Kd.R Kd.bool 4 w' w.heap.size (fun _ => True) v134 t133) ∧ Aside0 (Kd.S (Kd.slice 3 (Kd.int .i64)) 22 w' w.heap.size (fun k_ => some k_ ≠ (v131 : Value).ownBlock ∧ some k_ ≠ (v140 : Value).ownBlock) v137 t136) ∧ Aside0 (Kd.R (Kd.int .i64) 3 w' w.heap.size (fun k_ => some k_ ≠ (v131 : Value).ownBlock) v140 x9_2) ∧ Aside0 (Below w.heap.size w w'))
              case atStart => exact ⟨(y139), (0), (by first | rfl | (simp; done) | (simp [*]; done)), H', ⟨Nat.le_refl _⟩, ⟨by (with_reducible repeat (first | apply Kd.R_alloc | apply Kd.R_drewN | apply Kd.R_drew)); exact Kd.R_mono HO_6.out (fun _ hk => hk.2)⟩, ⟨by (with_reducible repeat (first | apply Kd.R_alloc | apply Kd.R_drewN | apply Kd.R_drew)); exact HO_7.out⟩, ⟨by (with_reducible repeat (first | apply Kd.S_alloc | apply Kd.S_drewN | apply Kd.S_drew)); exact HO_8.out⟩, ⟨by (with_reducible repeat (first | apply Kd.R_alloc | apply Kd.R_drewN | apply Kd.R_drew)); exact Kd.R_mono HO141.out (fun _ hk => hk.2)⟩, ⟨by repeat (first | (with_reducible first | exact HB.out | apply below_alloc | apply pw_below_drewN | apply below_drew1) | exact HB.out)⟩⟩
              case round =>
                clear H'
                try clear c1
                try clear c2
                try clear p2
                try clear c4
                try clear c5
                try clear c14
                try clear c14b0
                try clear c14b1
                try clear c14b2
                try clear c18
                try clear c19
                try clear c19b0
                try clear c19b1
                try clear c20
                try clear c20b0
                try clear c20b1
                try clear c21
                try clear c22
                try clear p2
                obtain ⟨x9_2, x10_2, rfl, HA, HK2, HO_6, HO_7, HO_8, HO_9, HB⟩ := hrel
                cases gk with
                | zero => exact absurd HA.out (by simp [bywashlaw10_GraphOrder.l0])
                | succ k2 =>
                  have H := HA.out
                  clear HA
                  simp only [bywashlaw10_GraphOrder.l0] at H
                  by_cases c23 : x10_2 < (t130.length : Int)
                  · rw [if_pos c23] at H
                    have c23b0 : decide (x10_2 < (t130.length : Int)) = true := decide_eq_true c23
                    clear c23
                    by_cases c24 : 0 ≤ x10_2
                    · rw [if_pos c24] at H
                      have c24b0 : decide (0 ≤ x10_2) = true := decide_eq_true c24
                      clear c24
                      by_cases c25 : (rd t130 x10_2) < 0
                      · rw [if_pos c25] at H
                        have c25b0 : decide ((rd t130 x10_2) < 0) = true := decide_eq_true c25
                        clear c25
                        obtain rfl := Option.some.inj H
                        obtain ⟨Ao26, co26, eo26⟩ := Kd.R_slice HO_6.out
                        subst eo26
                        have p142 : 0 ≤ (x10_2 : Int) := of_decide_eq_true (by first | (with_reducible assumption) | assumption)
                        have q142 : x10_2 < (t130.length : Int) := of_decide_eq_true (by first | (with_reducible assumption) | assumption)
                        obtain ⟨ad142, e142, hx142_0⟩ := Kd.at_int (Kd.R_reads' HO_6.out).2.2 x10_2 p142 q142
                        cases e142
                        replace p142 := eq_true p142
                        replace q142 := eq_true q142
                        go_wp2
                        go_ret
                        exact ⟨by first | rfl | (simp [errW_none, errW_some] <;> rfl) | (simp [*, errW_none, errW_some] <;> rfl), by repeat (first | (with_reducible first | exact HB.out | apply below_alloc | apply pw_below_drewN | apply below_drew1) | exact HB.out)⟩
                      · rw [if_neg c25] at H
                        have c25b0 : decide ((rd t130 x10_2) < 0) = false := decide_eq_false c25
                        clear c25
                        by_cases c27 : (rd t130 x10_2) ≥ (l0.length : Int)
                        · rw [if_pos c27] at H
                          have c27b0 : decide ((l0.length : Int) ≤ (rd t130 x10_2)) = true := decide_eq_true c27
                          clear c27
                          obtain rfl := Option.some.inj H
                          obtain ⟨Ao28, co28, eo28⟩ := Kd.R_slice HO_6.out
                          subst eo28
                          have p142 : 0 ≤ (x10_2 : Int) := of_decide_eq_true (by first | (with_reducible assumption) | assumption)
                          have q142 : x10_2 < (t130.length : Int) := of_decide_eq_true (by first | (with_reducible assumption) | assumption)
                          obtain ⟨ad142, e142, hx142_0⟩ := Kd.at_int (Kd.R_reads' HO_6.out).2.2 x10_2 p142 q142
                          cases e142
                          replace p142 := eq_true p142
                          replace q142 := eq_true q142
                          have p143 : 0 ≤ (x10_2 : Int) := of_decide_eq_true (by first | (with_reducible assumption) | assumption)
                          have q143 : x10_2 < (t130.length : Int) := of_decide_eq_true (by first | (with_reducible assumption) | assumption)
                          obtain ⟨ad143, e143, hx143_0⟩ := Kd.at_int (Kd.R_reads' HO_6.out).2.2 x10_2 p143 q143
                          obtain rfl : ad142 = ad143 := (by injection e143)
                          replace p143 := eq_true p143
                          replace q143 := eq_true q143
                          go_wp2
                          go_ret
                          exact ⟨by first | rfl | (simp [errW_none, errW_some] <;> rfl) | (simp [*, errW_none, errW_some] <;> rfl), by repeat (first | (with_reducible first | exact HB.out | apply below_alloc | apply pw_below_drewN | apply below_drew1) | exact HB.out)⟩
                        · rw [if_neg c27] at H
                          have c27b0 : decide ((l0.length : Int) ≤ (rd t130 x10_2)) = false := decide_eq_false c27
                          clear c27
                          by_cases c29 : 0 ≤ (rd t130 x10_2)
                          · rw [if_pos c29] at H
                            have c29b0 : decide (0 ≤ (rd t130 x10_2)) = true := decide_eq_true c29
                            clear c29
                            by_cases c30 : (rd t130 x10_2) < (x9_2.length : Int)
                            · rw [if_pos c30] at H
                              have c30b0 : decide ((rd t130 x10_2) < (x9_2.length : Int)) = true := decide_eq_true c30
                              clear c30
                              by_cases c31 : (rd x9_2 (rd t130 x10_2)) = 0
                              · rw [if_pos c31] at H
                                have c31b0 : ((rd x9_2 (rd t130 x10_2)) == 0) = true := beq_iff_eq.mpr c31
                                have c31b1 : ((rd x9_2 (rd t130 x10_2)) != 0) = false := bne_eq_false_iff_eq.mpr c31
                                clear c31
                                by_cases c32 : (rd t130 x10_2) < (t133.length : Int)
                                · rw [if_pos c32] at H
                                  have c32b0 : decide ((rd t130 x10_2) < (t133.length : Int)) = true := decide_eq_true c32
                                  clear c32
                                  obtain ⟨bq33, hbq33⟩ : ∃ b_ : Bool, b_ = (rdOf false t133 (rd t130 x10_2)) := ⟨_, rfl⟩
                                  replace H : (if (bq33 = true) then (bywashlaw10_GraphOrder.l0 k2 l0 a1 t128 t130 t133 t136 (x9_2.set ((rd t130 x10_2) : Int).toNat (wrap64 (x10_2 + 1))) (wrap64 (x10_2 + 1))) else (some false)) = some r := by rw [← hbq33] at H; exact H
                                  have Nbq33 := Aside0.mk hbq33
                                  clear hbq33
                                  by_cases c34 : (bq33 = true)
                                  · subst c34
                                    have H1 : (bywashlaw10_GraphOrder.l0 k2 l0 a1 t128 t130 t133 t136 (x9_2.set ((rd t130 x10_2) : Int).toNat (wrap64 (x10_2 + 1))) (wrap64 (x10_2 + 1))) = some r := by rw [if_pos rfl] at H; exact H
                                    clear H
                                    have H := H1
                                    clear H1
                                    obtain ⟨y149, hy149⟩ : ∃ y_ : List Int, y_ = (x9_2.set ((rd t130 x10_2) : Int).toNat (wrap64 (x10_2 + 1))) := ⟨_, rfl⟩
                                    replace H : (bywashlaw10_GraphOrder.l0 k2 l0 a1 t128 t130 t133 t136 y149 (wrap64 (x10_2 + 1))) = some r := by first | (rw [hy149]; with_reducible exact H) | (have H2_ := (Option.bind_some _ _).symm.trans H; rw [hy149]; with_reducible exact H2_) | (have H2_ := (Option.bind_some _ _).symm.trans H; with_reducible exact H2_) | with_reducible exact H | (rw [hy149]; exact H) | exact H
                                    have Ny149 := Aside0.mk hy149
                                    clear hy149
                                    have H' := Aside0.mk H
                                    clear H
                                    obtain ⟨Ao36, co36, eo36⟩ := Kd.R_slice HO_6.out
                                    subst eo36
                                    have p142 : 0 ≤ (x10_2 : Int) := of_decide_eq_true (by first | (with_reducible assumption) | assumption)
                                    have q142 : x10_2 < (t130.length : Int) := of_decide_eq_true (by first | (with_reducible assumption) | assumption)
                                    obtain ⟨ad142, e142, hx142_0⟩ := Kd.at_int (Kd.R_reads' HO_6.out).2.2 x10_2 p142 q142
                                    cases e142
                                    replace p142 := eq_true p142
                                    replace q142 := eq_true q142
                                    have p143 : 0 ≤ (x10_2 : Int) := of_decide_eq_true (by first | (with_reducible assumption) | assumption)
                                    have q143 : x10_2 < (t130.length : Int) := of_decide_eq_true (by first | (with_reducible assumption) | assumption)
                                    obtain ⟨ad143, e143, hx143_0⟩ := Kd.at_int (Kd.R_reads' HO_6.out).2.2 x10_2 p143 q143
                                    obtain rfl : ad142 = ad143 := (by injection e143)
                                    replace p143 := eq_true p143
                                    replace q143 := eq_true q143
                                    have p144 : 0 ≤ (x10_2 : Int) := of_decide_eq_true (by first | (with_reducible assumption) | assumption)
                                    have q144 : x10_2 < (t130.length : Int) := of_decide_eq_true (by first | (with_reducible assumption) | assumption)
                                    obtain ⟨ad144, e144, hx144_0⟩ := Kd.at_int (Kd.R_reads' HO_6.out).2.2 x10_2 p144 q144
                                    obtain rfl : ad142 = ad144 := (by injection e144)
                                    replace p144 := eq_true p144
                                    replace q144 := eq_true q144
                                    obtain ⟨Ao37, co37, eo37⟩ := Kd.R_slice HO_9.out
                                    subst eo37
                                    have p145 : 0 ≤ ((rd t130 x10_2) : Int) := of_decide_eq_true (by first | (with_reducible assumption) | assumption)
                                    have q145 : (rd t130 x10_2) < (x9_2.length : Int) := of_decide_eq_true (by first | (with_reducible assumption) | assumption)
                                    obtain ⟨ad145, e145, hx145_0⟩ := Kd.at_int (Kd.R_reads' HO_9.out).2.2 (rd t130 x10_2) p145 q145
                                    cases e145
                                    replace p145 := eq_true p145
                                    replace q145 := eq_true q145
                                    have p146 : 0 ≤ (x10_2 : Int) := of_decide_eq_true (by first | (with_reducible assumption) | assumption)
                                    have q146 : x10_2 < (t130.length : Int) := of_decide_eq_true (by first | (with_reducible assumption) | assumption)
                                    obtain ⟨ad146, e146, hx146_0⟩ := Kd.at_int (Kd.R_reads' HO_6.out).2.2 x10_2 p146 q146
                                    obtain rfl : ad142 = ad146 := (by injection e146)
                                    replace p146 := eq_true p146
                                    replace q146 := eq_true q146
                                    obtain ⟨Ao38, co38, eo38⟩ := Kd.R_slice HO_7.out
                                    subst eo38
                                    have p147 : 0 ≤ ((rd t130 x10_2) : Int) := of_decide_eq_true (by first | (with_reducible assumption) | assumption)
                                    have q147 : (rd t130 x10_2) < (t133.length : Int) := of_decide_eq_true (by first | (with_reducible assumption) | assumption)
                                    obtain ⟨ad147, e147, hx147_0⟩ := Kd.at_bool (Kd.R_reads' HO_7.out).2.2 (rd t130 x10_2) p147 q147
                                    (try rw [← Nbq33.out] at hx147_0)
                                    cases e147
                                    replace p147 := eq_true p147
                                    replace q147 := eq_true q147
                                    have p148 : 0 ≤ (x10_2 : Int) := of_decide_eq_true (by first | (with_reducible assumption) | assumption)
                                    have q148 : x10_2 < (t130.length : Int) := of_decide_eq_true (by first | (with_reducible assumption) | assumption)
                                    obtain ⟨ad148, e148, hx148_0⟩ := Kd.at_int (Kd.R_reads' HO_6.out).2.2 x10_2 p148 q148
                                    obtain rfl : ad142 = ad148 := (by injection e148)
                                    replace p148 := eq_true p148
                                    replace q148 := eq_true q148
                                    have p35 : 0 ≤ ((rd t130 x10_2) : Int) := of_decide_eq_true (by first | (with_reducible assumption) | assumption)
                                    have q35 : ((rd t130 x10_2) : Int) < ((x9_2.length : Int) : Int) := of_decide_eq_true (by first | (with_reducible assumption) | assumption)
                                    obtain ⟨go35, co35, eo35, gb35, gl35, cl35, HG35⟩ := Kd.R_form HO_9.out (by omega)
                                    (first | cases eo35 | (injection eo35 with ea_ en_ ec_; (first | subst ea_ | (injection ea_ with ea_; subst ea_)); subst ec_; clear en_))
                                    have GB35 := Aside0.mk gb35
                                    have GG35 := Aside0.mk HG35
                                    clear gb35 gl35 HG35
                                    (first | simp only [add_plain] at hx145_0 | skip)
                                    obtain ⟨hx35_0, hf35_0⟩ := Kd.R_celln 0 HO_9.out ((rd t130 x10_2) : Int) p35 q35
                                    replace p35 := eq_true p35
                                    replace q35 := eq_true q35
                                    have HP39 := Kd.R_putg HO_9.out ((rd t130 x10_2) : Int) (wrap64 (x10_2 + 1))
                                    go_wp2_with (first | ((with_reducible refine gate_store (t := 3) (p := 90) rfl ?_); refine store_event (t := 3) (p := 90) (v := ?vo_w40) (w1 := (wr.setCell ⟨go35, ((rd t130 x10_2) : Int).toNat, none⟩ (.int .i64 (wrap64 (x10_2 + 1))))) ?hg ?ho ?hn ?hr ?_; (case ho => rfl); (case hg => rfl); (case hn => rfl); (case hr => first | (go_simp; done) | (go_simp; rfl)); intro w40 hw; have hg : wr.grownBy w40 (some go35) := (by rw [hw]; exact HP39.2); have hp_ : Kd.R (Kd.int .i64) 3 w40 w.heap.size (fun k_ => some k_ ≠ (.slice (some ad142) t130.length co36 : Value).ownBlock) (.slice (some ⟨go35, 0, none⟩) x9_2.length co37) y149 := (by rw [hw, Ny149.out]; exact HP39.1); clear HP39; have n0_ := Aside0.mk (Kd.R_after (v := (.slice (some ⟨go35, 0, none⟩) x9_2.length co37)) (v1 := (.slice (some ⟨go35, 0, none⟩) x9_2.length co37)) (ok := (fun _ => True)) (by (with_reducible repeat (first | apply Kd.R_alloc | apply Kd.R_drewN | apply Kd.R_drew)); exact Kd.R_mono HO_6.out (fun _ hk => ⟨trivial, hk⟩)) hg (.inl rfl)); have n1_ := Aside0.mk (Kd.R_over' (v := (.slice (some ⟨go35, 0, none⟩) x9_2.length co37)) (by (with_reducible repeat (first | apply Kd.R_alloc | apply Kd.R_drewN | apply Kd.R_drew)); exact HO_7.out) (Kd.R_typed HO_9.out) (by decide) hg); have n2_ := Aside0.mk (Kd.S_after (v := (.slice (some ⟨go35, 0, none⟩) x9_2.length co37)) (v1 := (.slice (some ⟨go35, 0, none⟩) x9_2.length co37)) (ok := (fun k_ => some k_ ≠ (.slice (some ad142) t130.length co36 : Value).ownBlock)) (by (with_reducible repeat (first | apply Kd.S_alloc | apply Kd.S_drewN | apply Kd.S_drew)); exact HO_8.out) hg (.inl rfl)); have n3_ := Aside0.mk (hp_); have n4_ := Aside0.mk ((by rw [hw]; exact below_set (HB.out) GB35.out : Below w.heap.size w w40)); clear HO_6; clear HO_7; clear HO_8; clear HO_9; clear HB; have HO_6 := n0_; have HO_7 := n1_; have HO_8 := n2_; have HO_9 := n3_; have HB := n4_; clear n0_ n1_ n2_ n3_ n4_; clear hg hw hp_))
                                    go_roundg k2
                                    case measure => have := HJ8.out; have := HK2.out; omega
                                    case rel => exact ⟨(y149), (wrap64 (x10_2 + 1)), (by first | rfl | (simp; done) | (simp [*]; done)), H', ⟨by have := HJ8.out; have := HK2.out; omega⟩, ⟨by (with_reducible repeat (first | apply Kd.R_alloc | apply Kd.R_drewN | apply Kd.R_drew)); exact Kd.R_mono HO_6.out (fun _ hk => hk.2)⟩, ⟨by (with_reducible repeat (first | apply Kd.R_alloc | apply Kd.R_drewN | apply Kd.R_drew)); exact HO_7.out⟩, ⟨by (with_reducible repeat (first | apply Kd.S_alloc | apply Kd.S_drewN | apply Kd.S_drew)); exact HO_8.out⟩, ⟨by (with_reducible repeat (first | apply Kd.R_alloc | apply Kd.R_drewN | apply Kd.R_drew)); exact HO_9.out⟩, ⟨by repeat (first | (with_reducible first | exact HB.out | apply below_alloc | apply pw_below_drewN | apply below_drew1) | exact HB.out)⟩⟩
                                  · replace c34 := Bool.eq_false_iff.mpr c34
                                    subst c34
                                    have H1 : (some false) = some r := by rw [if_neg (show ¬ (false = true) by decide)] at H; exact H
                                    clear H
                                    have H := H1
                                    clear H1
                                    obtain rfl := Option.some.inj H
                                    obtain ⟨Ao41, co41, eo41⟩ := Kd.R_slice HO_6.out
                                    subst eo41
                                    have p142 : 0 ≤ (x10_2 : Int) := of_decide_eq_true (by first | (with_reducible assumption) | assumption)
                                    have q142 : x10_2 < (t130.length : Int) := of_decide_eq_true (by first | (with_reducible assumption) | assumption)
                                    obtain ⟨ad142, e142, hx142_0⟩ := Kd.at_int (Kd.R_reads' HO_6.out).2.2 x10_2 p142 q142
                                    cases e142
                                    replace p142 := eq_true p142
                                    replace q142 := eq_true q142
                                    have p143 : 0 ≤ (x10_2 : Int) := of_decide_eq_true (by first | (with_reducible assumption) | assumption)
                                    have q143 : x10_2 < (t130.length : Int) := of_decide_eq_true (by first | (with_reducible assumption) | assumption)
                                    obtain ⟨ad143, e143, hx143_0⟩ := Kd.at_int (Kd.R_reads' HO_6.out).2.2 x10_2 p143 q143
                                    obtain rfl : ad142 = ad143 := (by injection e143)
                                    replace p143 := eq_true p143
                                    replace q143 := eq_true q143
                                    have p144 : 0 ≤ (x10_2 : Int) := of_decide_eq_true (by first | (with_reducible assumption) | assumption)
                                    have q144 : x10_2 < (t130.length : Int) := of_decide_eq_true (by first | (with_reducible assumption) | assumption)
                                    obtain ⟨ad144, e144, hx144_0⟩ := Kd.at_int (Kd.R_reads' HO_6.out).2.2 x10_2 p144 q144
                                    obtain rfl : ad142 = ad144 := (by injection e144)
                                    replace p144 := eq_true p144
                                    replace q144 := eq_true q144
                                    obtain ⟨Ao42, co42, eo42⟩ := Kd.R_slice HO_9.out
                                    subst eo42
                                    have p145 : 0 ≤ ((rd t130 x10_2) : Int) := of_decide_eq_true (by first | (with_reducible assumption) | assumption)
                                    have q145 : (rd t130 x10_2) < (x9_2.length : Int) := of_decide_eq_true (by first | (with_reducible assumption) | assumption)
                                    obtain ⟨ad145, e145, hx145_0⟩ := Kd.at_int (Kd.R_reads' HO_9.out).2.2 (rd t130 x10_2) p145 q145
                                    cases e145
                                    replace p145 := eq_true p145
                                    replace q145 := eq_true q145
                                    have p146 : 0 ≤ (x10_2 : Int) := of_decide_eq_true (by first | (with_reducible assumption) | assumption)
                                    have q146 : x10_2 < (t130.length : Int) := of_decide_eq_true (by first | (with_reducible assumption) | assumption)
                                    obtain ⟨ad146, e146, hx146_0⟩ := Kd.at_int (Kd.R_reads' HO_6.out).2.2 x10_2 p146 q146
                                    obtain rfl : ad142 = ad146 := (by injection e146)
                                    replace p146 := eq_true p146
                                    replace q146 := eq_true q146
                                    obtain ⟨Ao43, co43, eo43⟩ := Kd.R_slice HO_7.out
                                    subst eo43
                                    have p147 : 0 ≤ ((rd t130 x10_2) : Int) := of_decide_eq_true (by first | (with_reducible assumption) | assumption)
                                    have q147 : (rd t130 x10_2) < (t133.length : Int) := of_decide_eq_true (by first | (with_reducible assumption) | assumption)
                                    obtain ⟨ad147, e147, hx147_0⟩ := Kd.at_bool (Kd.R_reads' HO_7.out).2.2 (rd t130 x10_2) p147 q147
                                    (try rw [← Nbq33.out] at hx147_0)
                                    cases e147
                                    replace p147 := eq_true p147
                                    replace q147 := eq_true q147
                                    go_wp2
                                    go_ret
                                    exact ⟨by first | rfl | (simp [errW_none, errW_some] <;> rfl) | (simp [*, errW_none, errW_some] <;> rfl), by repeat (first | (with_reducible first | exact HB.out | apply below_alloc | apply pw_below_drewN | apply below_drew1) | exact HB.out)⟩
                                · rw [if_neg c32] at H
                                  exact absurd H (by simp)
                              · rw [if_neg c31] at H
                                have c31b0 : ((rd x9_2 (rd t130 x10_2)) == 0) = false := beq_eq_false_iff_ne.mpr c31
                                have c31b1 : ((rd x9_2 (rd t130 x10_2)) != 0) = true := bne_iff_ne.mpr c31
                                obtain rfl := Option.some.inj H
                                obtain ⟨Ao44, co44, eo44⟩ := Kd.R_slice HO_6.out
                                subst eo44
                                have p142 : 0 ≤ (x10_2 : Int) := of_decide_eq_true (by first | (with_reducible assumption) | assumption)
                                have q142 : x10_2 < (t130.length : Int) := of_decide_eq_true (by first | (with_reducible assumption) | assumption)
                                obtain ⟨ad142, e142, hx142_0⟩ := Kd.at_int (Kd.R_reads' HO_6.out).2.2 x10_2 p142 q142
                                cases e142
                                replace p142 := eq_true p142
                                replace q142 := eq_true q142
                                have p143 : 0 ≤ (x10_2 : Int) := of_decide_eq_true (by first | (with_reducible assumption) | assumption)
                                have q143 : x10_2 < (t130.length : Int) := of_decide_eq_true (by first | (with_reducible assumption) | assumption)
                                obtain ⟨ad143, e143, hx143_0⟩ := Kd.at_int (Kd.R_reads' HO_6.out).2.2 x10_2 p143 q143
                                obtain rfl : ad142 = ad143 := (by injection e143)
                                replace p143 := eq_true p143
                                replace q143 := eq_true q143
                                have p144 : 0 ≤ (x10_2 : Int) := of_decide_eq_true (by first | (with_reducible assumption) | assumption)
                                have q144 : x10_2 < (t130.length : Int) := of_decide_eq_true (by first | (with_reducible assumption) | assumption)
                                obtain ⟨ad144, e144, hx144_0⟩ := Kd.at_int (Kd.R_reads' HO_6.out).2.2 x10_2 p144 q144
                                obtain rfl : ad142 = ad144 := (by injection e144)
                                replace p144 := eq_true p144
                                replace q144 := eq_true q144
                                obtain ⟨Ao45, co45, eo45⟩ := Kd.R_slice HO_9.out
                                subst eo45
                                have p145 : 0 ≤ ((rd t130 x10_2) : Int) := of_decide_eq_true (by first | (with_reducible assumption) | assumption)
                                have q145 : (rd t130 x10_2) < (x9_2.length : Int) := of_decide_eq_true (by first | (with_reducible assumption) | assumption)
                                obtain ⟨ad145, e145, hx145_0⟩ := Kd.at_int (Kd.R_reads' HO_9.out).2.2 (rd t130 x10_2) p145 q145
                                cases e145
                                replace p145 := eq_true p145
                                replace q145 := eq_true q145
                                go_wp2
                                go_ret
                                exact ⟨by first | rfl | (simp [errW_none, errW_some] <;> rfl) | (simp [*, errW_none, errW_some] <;> rfl), by repeat (first | (with_reducible first | exact HB.out | apply below_alloc | apply pw_below_drewN | apply below_drew1) | exact HB.out)⟩
                            · rw [if_neg c30] at H
                              exact absurd H (by simp)
                          · rw [if_neg c29] at H
                            exact absurd H (by simp)
                    · rw [if_neg c24] at H
                      exact absurd H (by simp)
                  · rw [if_neg c23] at H
                    have c23b0 : decide (x10_2 < (t130.length : Int)) = false := decide_eq_false c23
                    clear c23
                    have H' := Aside0.mk H
                    clear H
                    obtain ⟨Ao46, co46, eo46⟩ := Kd.R_slice HO_6.out
                    subst eo46
                    go_wp2
                    go_loopg [11, 12] k2 (fun kq v11 v12 w' => ∃ (x11_3 : Int) (x12_3 : Int), v11 = .int .i64 x11_3 ∧ v12 = .int .i64 x12_3 ∧ Aside0 (bywashlaw10_GraphOrder.l1 kq l0 a1 t128 t130 t133 t136 x9_2 x11_3 x12_3 = some r) ∧ Aside0 (kq ≤ k2) ∧ Aside0 (Kd.R (Kd.int .i64) 3 w' w.heap.size (fun k_ => some k_ ≠ (v140 : Value).ownBlock) (.slice Ao46 t130.length co46) t130) ∧ Aside0 (Kd.R Kd.bool 4 w' w.heap.size (fun _ => True) v134 t133) ∧ Aside0 (Kd.S (Kd.slice 3 (Kd.int .i64)) 22 w' w.heap.size (fun k_ => some k_ ≠ ((.slice Ao46 t130.length co46) : Value).ownBlock ∧ some k_ ≠ (v140 : Value).ownBlock) v137 t136) ∧ Aside0 (Kd.R (Kd.int .i64) 3 w' w.heap.size (fun k_ => some k_ ≠ ((.slice Ao46 t130.length co46) : Value).ownBlock) v140 x9_2) ∧ Aside0 (Below w.heap.size w w'))
                    case atStart => exact ⟨(0), (0), (by first | rfl | (simp; done) | (simp [*]; done)), (by first | rfl | (simp; done) | (simp [*]; done)), H', ⟨Nat.le_refl _⟩, ⟨by (with_reducible repeat (first | apply Kd.R_alloc | apply Kd.R_drewN | apply Kd.R_drew)); exact HO_6.out⟩, ⟨by (with_reducible repeat (first | apply Kd.R_alloc | apply Kd.R_drewN | apply Kd.R_drew)); exact HO_7.out⟩, ⟨by (with_reducible repeat (first | apply Kd.S_alloc | apply Kd.S_drewN | apply Kd.S_drew)); exact HO_8.out⟩, ⟨by (with_reducible repeat (first | apply Kd.R_alloc | apply Kd.R_drewN | apply Kd.R_drew)); exact HO_9.out⟩, ⟨by repeat (first | (with_reducible first | exact HB.out | apply below_alloc | apply pw_below_drewN | apply below_drew1) | exact HB.out)⟩⟩
                    case round =>
                      clear H'
                      try clear c1
                      try clear p1
                      try clear q1
                      try clear hx1
                      try clear c2
                      try clear p2
                      try clear c3
                      try clear p3
                      try clear q3
                      try clear hx3
                      try clear hf3
                      try clear c4
                      try clear c5
                      try clear p6
                      try clear c14
                      try clear c14b0
                      try clear c14b1
                      try clear c14b2
                      try clear p14
                      try clear q14
                      try clear hx14
                      try clear c18
                      try clear c19
                      try clear c19b0
                      try clear c19b1
                      try clear c20
                      try clear c20b0
                      try clear c20b1
                      try clear c21
                      try clear c22
                      try clear c23
                      try clear c23b0
                      try clear c24
                      try clear c24b0
                      try clear c25
                      try clear c25b0
                      try clear c27
                      try clear c27b0
                      try clear c29
                      try clear c29b0
                      try clear c30
                      try clear c30b0
                      try clear c31
                      try clear c31b0
                      try clear c31b1
                      try clear c32
                      try clear c32b0
                      try clear q33
                      try clear c34
                      try clear p35
                      try clear q35
                      try clear hx35
                      try clear hf35
                      try clear hx142_0
                      try clear hx143_0
                      try clear hx144_0
                      try clear hx145_0
                      try clear hx146_0
                      try clear hx147_0
                      try clear hx148_0
                      try clear hx35_0
                      try clear p142
                      try clear p143
                      try clear p144
                      try clear p145
                      try clear p146
                      try clear p147
                      try clear p148
                      try clear p2
                      try clear p35
                      try clear q142
                      try clear q143
                      try clear q144
                      try clear q145
                      try clear q146
                      try clear q147
                      try clear q148
                      try clear q35
                      obtain ⟨x11_3, x12_3, rfl, rfl, HA, HK3, HO_6, HO_7, HO_8, HO_9, HB⟩ := hrel
                      cases gk with
                      | zero => exact absurd HA.out (by simp [bywashlaw10_GraphOrder.l1])
                      | succ k3 =>
                        have H := HA.out
                        clear HA
                        simp only [bywashlaw10_GraphOrder.l1] at H
                        by_cases c47 : x12_3 < (l0.length : Int)
                        · rw [if_pos c47] at H
                          have c47b0 : decide (x12_3 < (l0.length : Int)) = true := decide_eq_true c47
                          clear c47
                          by_cases c48 : 0 ≤ x12_3
                          · rw [if_pos c48] at H
                            have c48b0 : decide (0 ≤ x12_3) = true := decide_eq_true c48
                            clear c48
                            by_cases c49 : x12_3 < (t133.length : Int)
                            · rw [if_pos c49] at H
                              have c49b0 : decide (x12_3 < (t133.length : Int)) = true := decide_eq_true c49
                              clear c49
                              have HC50 := Aside0.mk H
                              clear H
                              obtain ⟨Ao51, co51, eo51⟩ := Kd.R_slice HO_7.out
                              subst eo51
                              have p151 : 0 ≤ (x12_3 : Int) := of_decide_eq_true (by first | (with_reducible assumption) | assumption)
                              have q151 : x12_3 < (t133.length : Int) := of_decide_eq_true (by first | (with_reducible assumption) | assumption)
                              obtain ⟨ad151, e151, hx151_0⟩ := Kd.at_bool (Kd.R_reads' HO_7.out).2.2 x12_3 p151 q151
                              cases e151
                              replace p151 := eq_true p151
                              replace q151 := eq_true q151
                              go_upto_if 100 with (fail)
                              go_cut [11] (fun v11 wc => ∃ (kq : Nat) (x11_49 : Int), v11 = .int .i64 x11_49 ∧ Aside0 (bywashlaw10_GraphOrder.j3 kq l0 a1 t128 t130 t133 t136 x9_2 x11_49 x12_3 = some r) ∧ Aside0 (kq ≤ k3) ∧ Aside0 (Kd.R (Kd.int .i64) 3 wc w.heap.size (fun k_ => some k_ ≠ (v140 : Value).ownBlock) (.slice Ao46 t130.length co46) t130) ∧ Aside0 (Kd.R Kd.bool 4 wc w.heap.size (fun _ => True) (.slice (some ad151) t133.length co51) t133) ∧ Aside0 (Kd.S (Kd.slice 3 (Kd.int .i64)) 22 wc w.heap.size (fun k_ => some k_ ≠ ((.slice Ao46 t130.length co46) : Value).ownBlock ∧ some k_ ≠ (v140 : Value).ownBlock) v137 t136) ∧ Aside0 (Kd.R (Kd.int .i64) 3 wc w.heap.size (fun k_ => some k_ ≠ ((.slice Ao46 t130.length co46) : Value).ownBlock) v140 x9_2) ∧ Aside0 (Below w.heap.size w wc))
                              case first =>
                                have H := HC50.out
                                clear HC50
                                obtain ⟨bq52, hbq52⟩ : ∃ b_ : Bool, b_ = (rdOf false t133 x12_3) := ⟨_, rfl⟩
                                replace H : (if bq52 = true then (bywashlaw10_GraphOrder.j3 k3 l0 a1 t128 t130 t133 t136 x9_2 (wrap64 (x11_3 + 1)) x12_3) else (bywashlaw10_GraphOrder.j3 k3 l0 a1 t128 t130 t133 t136 x9_2 x11_3 x12_3)) = some r := by rw [← hbq52] at H; exact H
                                have Nbq52 := Aside0.mk hbq52
                                clear hbq52
                                (try rw [← Nbq52.out])
                                by_cases c53 : bq52 = true
                                · subst c53
                                  have H1 : (bywashlaw10_GraphOrder.j3 k3 l0 a1 t128 t130 t133 t136 x9_2 (wrap64 (x11_3 + 1)) x12_3) = some r := by rw [if_pos rfl] at H; exact H
                                  clear H
                                  have H := H1
                                  clear H1
                                  have H' := Aside0.mk H
                                  clear H
                                  go_wp2
                                  go_meet
                                  case rel => exact ⟨_, (wrap64 (x11_3 + 1)), (by first | rfl | (simp; done) | (simp [*]; done)), H', ⟨by have := HJ8.out; have := HK2.out; have := HK3.out; first | omega | exact Nat.le_refl _⟩, ⟨by (with_reducible repeat (first | apply Kd.R_alloc | apply Kd.R_drewN | apply Kd.R_drew)); exact HO_6.out⟩, ⟨by (with_reducible repeat (first | apply Kd.R_alloc | apply Kd.R_drewN | apply Kd.R_drew)); exact HO_7.out⟩, ⟨by (with_reducible repeat (first | apply Kd.S_alloc | apply Kd.S_drewN | apply Kd.S_drew)); exact HO_8.out⟩, ⟨by (with_reducible repeat (first | apply Kd.R_alloc | apply Kd.R_drewN | apply Kd.R_drew)); exact HO_9.out⟩, ⟨by repeat (first | (with_reducible first | exact HB.out | apply below_alloc | apply pw_below_drewN | apply below_drew1) | exact HB.out)⟩⟩
                                · replace c53 := Bool.eq_false_iff.mpr c53
                                  subst c53
                                  have H1 : (bywashlaw10_GraphOrder.j3 k3 l0 a1 t128 t130 t133 t136 x9_2 x11_3 x12_3) = some r := by rw [if_neg (show ¬ (false = true) by decide)] at H; exact H
                                  clear H
                                  have H := H1
                                  clear H1
                                  have H' := Aside0.mk H
                                  clear H
                                  go_wp2
                                  go_meet
                                  case rel => exact ⟨_, (x11_3), (by first | rfl | (simp; done) | (simp [*]; done)), H', ⟨by have := HJ8.out; have := HK2.out; have := HK3.out; first | omega | exact Nat.le_refl _⟩, ⟨by (with_reducible repeat (first | apply Kd.R_alloc | apply Kd.R_drewN | apply Kd.R_drew)); exact HO_6.out⟩, ⟨by (with_reducible repeat (first | apply Kd.R_alloc | apply Kd.R_drewN | apply Kd.R_drew)); exact HO_7.out⟩, ⟨by (with_reducible repeat (first | apply Kd.S_alloc | apply Kd.S_drewN | apply Kd.S_drew)); exact HO_8.out⟩, ⟨by (with_reducible repeat (first | apply Kd.R_alloc | apply Kd.R_drewN | apply Kd.R_drew)); exact HO_9.out⟩, ⟨by repeat (first | (with_reducible first | exact HB.out | apply below_alloc | apply pw_below_drewN | apply below_drew1) | exact HB.out)⟩⟩
                              case rest =>
                                clear HC50
                                try clear c1
                                try clear p1
                                try clear q1
                                try clear hx1
                                try clear c2
                                try clear p2
                                try clear c3
                                try clear p3
                                try clear q3
                                try clear hx3
                                try clear hf3
                                try clear c4
                                try clear c5
                                try clear q5
                                try clear p6
                                try clear c14
                                try clear c14b0
                                try clear c14b1
                                try clear c14b2
                                try clear p14
                                try clear q14
                                try clear hx14
                                try clear p15
                                try clear q15
                                try clear hx15
                                try clear c18
                                try clear c19
                                try clear c19b0
                                try clear c19b1
                                try clear c20
                                try clear c20b0
                                try clear c20b1
                                try clear c21
                                try clear c22
                                try clear c23
                                try clear c23b0
                                try clear c24
                                try clear c24b0
                                try clear c25
                                try clear c25b0
                                try clear c27
                                try clear c27b0
                                try clear c29
                                try clear c29b0
                                try clear c30
                                try clear c30b0
                                try clear c31
                                try clear c31b0
                                try clear c31b1
                                try clear c32
                                try clear c32b0
                                try clear q33
                                try clear c34
                                try clear p35
                                try clear q35
                                try clear hx35
                                try clear hf35
                                try clear c47
                                try clear c47b0
                                try clear c48
                                try clear c48b0
                                try clear c49
                                try clear c49b0
                                try clear q52
                                try clear c53
                                try clear hx142_0
                                try clear hx143_0
                                try clear hx144_0
                                try clear hx145_0
                                try clear hx146_0
                                try clear hx147_0
                                try clear hx148_0
                                try clear hx151_0
                                try clear hx35_0
                                try clear p1
                                try clear p14
                                try clear p142
                                try clear p143
                                try clear p144
                                try clear p145
                                try clear p146
                                try clear p147
                                try clear p148
                                try clear p151
                                try clear p2
                                try clear p3
                                try clear p35
                                try clear p6
                                try clear q1
                                try clear q14
                                try clear q142
                                try clear q143
                                try clear q144
                                try clear q145
                                try clear q146
                                try clear q147
                                try clear q148
                                try clear q151
                                try clear q3
                                try clear q33
                                try clear q35
                                obtain ⟨kq, x11_49, rfl, HA, HJ49, HO_6, HO_7, HO_8, HO_9, HB⟩ := hcut
                                cases kq with
                                | zero => exact absurd HA.out (by simp [bywashlaw10_GraphOrder.j3])
                                | succ kj49 =>
                                  have H := HA.out
                                  clear HA
                                  simp only [bywashlaw10_GraphOrder.j3] at H
                                  have H' := Aside0.mk H
                                  clear H
                                  go_wp2
                                  go_loopg [13] kj49 (fun kq v13 w' => ∃ (x13_5 : Int), v13 = .int .i64 x13_5 ∧ Aside0 (bywashlaw10_GraphOrder.l2 kq l0 a1 t128 t130 t133 t136 x9_2 x11_49 x12_3 x13_5 = some r) ∧ Aside0 (kq ≤ kj49) ∧ Aside0 (Kd.R (Kd.int .i64) 3 w' w.heap.size (fun k_ => some k_ ≠ (v140 : Value).ownBlock) (.slice Ao46 t130.length co46) t130) ∧ Aside0 (Kd.R Kd.bool 4 w' w.heap.size (fun _ => True) (.slice (some ad151) t133.length co51) t133) ∧ Aside0 (Kd.S (Kd.slice 3 (Kd.int .i64)) 22 w' w.heap.size (fun k_ => some k_ ≠ ((.slice Ao46 t130.length co46) : Value).ownBlock ∧ some k_ ≠ (v140 : Value).ownBlock) v137 t136) ∧ Aside0 (Kd.R (Kd.int .i64) 3 w' w.heap.size (fun k_ => some k_ ≠ ((.slice Ao46 t130.length co46) : Value).ownBlock) v140 x9_2) ∧ Aside0 (Below w.heap.size w w'))
                                  case atStart => exact ⟨(0), (by first | rfl | (simp; done) | (simp [*]; done)), H', ⟨Nat.le_refl _⟩, ⟨by (with_reducible repeat (first | apply Kd.R_alloc | apply Kd.R_drewN | apply Kd.R_drew)); exact HO_6.out⟩, ⟨by (with_reducible repeat (first | apply Kd.R_alloc | apply Kd.R_drewN | apply Kd.R_drew)); exact HO_7.out⟩, ⟨by (with_reducible repeat (first | apply Kd.S_alloc | apply Kd.S_drewN | apply Kd.S_drew)); exact HO_8.out⟩, ⟨by (with_reducible repeat (first | apply Kd.R_alloc | apply Kd.R_drewN | apply Kd.R_drew)); exact HO_9.out⟩, ⟨by repeat (first | (with_reducible first | exact HB.out | apply below_alloc | apply pw_below_drewN | apply below_drew1) | exact HB.out)⟩⟩
                                  case round =>
                                    clear H'
                                    try clear c1
                                    try clear p1
                                    try clear q1
                                    try clear hx1
                                    try clear c2
                                    try clear p2
                                    try clear c3
                                    try clear p3
                                    try clear q3
                                    try clear hx3
                                    try clear hf3
                                    try clear c4
                                    try clear c5
                                    try clear q5
                                    try clear p6
                                    try clear c14
                                    try clear c14b0
                                    try clear c14b1
                                    try clear c14b2
                                    try clear p14
                                    try clear q14
                                    try clear hx14
                                    try clear p15
                                    try clear q15
                                    try clear hx15
                                    try clear c18
                                    try clear c19
                                    try clear c19b0
                                    try clear c19b1
                                    try clear c20
                                    try clear c20b0
                                    try clear c20b1
                                    try clear c21
                                    try clear c22
                                    try clear c23
                                    try clear c23b0
                                    try clear c24
                                    try clear c24b0
                                    try clear c25
                                    try clear c25b0
                                    try clear c27
                                    try clear c27b0
                                    try clear c29
                                    try clear c29b0
                                    try clear c30
                                    try clear c30b0
                                    try clear c31
                                    try clear c31b0
                                    try clear c31b1
                                    try clear c32
                                    try clear c32b0
                                    try clear q33
                                    try clear c34
                                    try clear p35
                                    try clear q35
                                    try clear hx35
                                    try clear hf35
                                    try clear c47
                                    try clear c47b0
                                    try clear c48
                                    try clear c48b0
                                    try clear c49
                                    try clear c49b0
                                    try clear q52
                                    try clear c53
                                    try clear hx142_0
                                    try clear hx143_0
                                    try clear hx144_0
                                    try clear hx145_0
                                    try clear hx146_0
                                    try clear hx147_0
                                    try clear hx148_0
                                    try clear hx151_0
                                    try clear hx35_0
                                    try clear p1
                                    try clear p14
                                    try clear p142
                                    try clear p143
                                    try clear p144
                                    try clear p145
                                    try clear p146
                                    try clear p147
                                    try clear p148
                                    try clear p15
                                    try clear p151
                                    try clear p2
                                    try clear p3
                                    try clear p35
                                    try clear p6
                                    try clear q1
                                    try clear q14
                                    try clear q142
                                    try clear q143
                                    try clear q144
                                    try clear q145
                                    try clear q146
                                    try clear q147
                                    try clear q148
                                    try clear q15
                                    try clear q151
                                    try clear q3
                                    try clear q33
                                    try clear q35
                                    try clear q5
                                    try clear q52
                                    obtain ⟨x13_5, rfl, HA, HK5, HO_6, HO_7, HO_8, HO_9, HB⟩ := hrel
                                    cases gk with
                                    | zero => exact absurd HA.out (by simp [bywashlaw10_GraphOrder.l2])
                                    | succ k5 =>
                                      have H := HA.out
                                      clear HA
                                      simp only [bywashlaw10_GraphOrder.l2] at H
                                      have HC54 := Aside0.mk H
                                      clear H
                                      go_upto_region 23 with (fail)
                                      go_cut [115] (fun v115 wc => ∃ (kq : Nat) (x115_53 : Bool), v115 = .bool x115_53 ∧ Aside0 (bywashlaw10_GraphOrder.j5 kq l0 a1 t128 t130 t133 t136 x9_2 x11_49 x12_3 x13_5 x115_53 = some r) ∧ Aside0 (kq ≤ k5) ∧ Aside0 (Kd.R (Kd.int .i64) 3 wc w.heap.size (fun k_ => some k_ ≠ (v140 : Value).ownBlock) (.slice Ao46 t130.length co46) t130) ∧ Aside0 (Kd.R Kd.bool 4 wc w.heap.size (fun _ => True) (.slice (some ad151) t133.length co51) t133) ∧ Aside0 (Kd.S (Kd.slice 3 (Kd.int .i64)) 22 wc w.heap.size (fun k_ => some k_ ≠ ((.slice Ao46 t130.length co46) : Value).ownBlock ∧ some k_ ≠ (v140 : Value).ownBlock) v137 t136) ∧ Aside0 (Kd.R (Kd.int .i64) 3 wc w.heap.size (fun k_ => some k_ ≠ ((.slice Ao46 t130.length co46) : Value).ownBlock) v140 x9_2) ∧ Aside0 (Below w.heap.size w wc))
                                      case first =>
                                        have H := HC54.out
                                        clear HC54
                                        by_cases c55 : 0 ≤ x12_3
                                        · rw [if_pos c55] at H
                                          have c55b0 : decide (0 ≤ x12_3) = true := decide_eq_true c55
                                          clear c55
                                          (first | rw [c55b0] | (simp only [i64_w, i32_w]; rw [c55b0]) | skip)
                                          by_cases c56 : x12_3 < (t136.length : Int)
                                          · rw [if_pos c56] at H
                                            have c56b0 : decide (x12_3 < (t136.length : Int)) = true := decide_eq_true c56
                                            clear c56
                                            by_cases c57 : x13_5 < ((rd_L1 t136 x12_3).length : Int)
                                            · rw [if_pos c57] at H
                                              have c57b0 : decide (x13_5 < ((rd_L1 t136 x12_3).length : Int)) = true := decide_eq_true c57
                                              clear c57
                                              by_cases c58 : x12_3 < (t133.length : Int)
                                              · rw [if_pos c58] at H
                                                have c58b0 : decide (x12_3 < (t133.length : Int)) = true := decide_eq_true c58
                                                clear c58
                                                have H' := Aside0.mk H
                                                clear H
                                                obtain ⟨Ao59, co59, eo59⟩ := Kd.S_slice HO_8.out
                                                subst eo59
                                                have p152 : 0 ≤ (x12_3 : Int) := of_decide_eq_true (by first | (with_reducible assumption) | assumption)
                                                have q152 : x12_3 < (t136.length : Int) := of_decide_eq_true (by first | (with_reducible assumption) | assumption)
                                                obtain ⟨ad152, A152_0, c152_0, e152, hx152_0, hl152_0, hi152_0⟩ := at_L1 (Kd.S_reads' HO_8.out).2.2 x12_3 p152 q152
                                                cases e152
                                                obtain ⟨ce152, hce152, hMe152, hcc152⟩ := Kd.S_get HO_8.out [] x12_3 p152 (by first | exact q152 | exact of_decide_eq_true (by first | (with_reducible assumption) | assumption) | (have e_ := (Kd.S_reads' HO_8.out).1; omega))
                                                obtain ⟨ve152_0, rfl, ge152_0⟩ := hMe152
                                                have hv152_0 := hcc152 0 _ rfl
                                                rw [Nat.add_zero, show ((Kd.slice 3 (Kd.int .i64))).sz = 1 from rfl, Nat.mul_one] at hv152_0
                                                replace hv152_0 := Option.some.inj (hv152_0.symm.trans hx152_0)
                                                rw [hv152_0] at ge152_0
                                                have HL152_0 := Aside0.mk (show Kd.R (Kd.int .i64) 3 _ _ _ _ (rd_L1 t136 x12_3) from ge152_0)
                                                clear hv152_0 ge152_0
                                                clear hcc152 hce152
                                                have HR152_0 := Aside0.mk hi152_0
                                                have HC152_0 := Aside0.mk hl152_0
                                                clear hi152_0 hl152_0
                                                replace p152 := eq_true p152
                                                replace q152 := eq_true q152
                                                have p153 : 0 ≤ (x12_3 : Int) := of_decide_eq_true (by first | (with_reducible assumption) | assumption)
                                                have q153 : x12_3 < (t133.length : Int) := of_decide_eq_true (by first | (with_reducible assumption) | assumption)
                                                obtain ⟨ad153, e153, hx153_0⟩ := Kd.at_bool (Kd.R_reads' HO_7.out).2.2 x12_3 p153 q153
                                                obtain rfl : ad151 = ad153 := (by injection e153)
                                                replace p153 := eq_true p153
                                                replace q153 := eq_true q153
                                                go_wp2
                                                go_meet
                                                case rel => exact ⟨_, (rdOf false t133 x12_3), (by first | rfl | (simp; done) | (simp [*]; done)), H', ⟨by have := HJ8.out; have := HK2.out; have := HK3.out; have := HJ49.out; have := HK5.out; first | omega | exact Nat.le_refl _⟩, ⟨by (with_reducible repeat (first | apply Kd.R_alloc | apply Kd.R_drewN | apply Kd.R_drew)); exact HO_6.out⟩, ⟨by (with_reducible repeat (first | apply Kd.R_alloc | apply Kd.R_drewN | apply Kd.R_drew)); exact HO_7.out⟩, ⟨by (with_reducible repeat (first | apply Kd.S_alloc | apply Kd.S_drewN | apply Kd.S_drew)); exact HO_8.out⟩, ⟨by (with_reducible repeat (first | apply Kd.R_alloc | apply Kd.R_drewN | apply Kd.R_drew)); exact HO_9.out⟩, ⟨by repeat (first | (with_reducible first | exact HB.out | apply below_alloc | apply pw_below_drewN | apply below_drew1) | exact HB.out)⟩⟩
                                              · rw [if_neg c58] at H
                                                exact absurd H (by simp)
                                            · rw [if_neg c57] at H
                                              have c57b0 : decide (x13_5 < ((rd_L1 t136 x12_3).length : Int)) = false := decide_eq_false c57
                                              clear c57
                                              have H' := Aside0.mk H
                                              clear H
                                              obtain ⟨Ao60, co60, eo60⟩ := Kd.S_slice HO_8.out
                                              subst eo60
                                              have p152 : 0 ≤ (x12_3 : Int) := of_decide_eq_true (by first | (with_reducible assumption) | assumption)
                                              have q152 : x12_3 < (t136.length : Int) := of_decide_eq_true (by first | (with_reducible assumption) | assumption)
                                              obtain ⟨ad152, A152_0, c152_0, e152, hx152_0, hl152_0, hi152_0⟩ := at_L1 (Kd.S_reads' HO_8.out).2.2 x12_3 p152 q152
                                              cases e152
                                              obtain ⟨ce152, hce152, hMe152, hcc152⟩ := Kd.S_get HO_8.out [] x12_3 p152 (by first | exact q152 | exact of_decide_eq_true (by first | (with_reducible assumption) | assumption) | (have e_ := (Kd.S_reads' HO_8.out).1; omega))
                                              obtain ⟨ve152_0, rfl, ge152_0⟩ := hMe152
                                              have hv152_0 := hcc152 0 _ rfl
                                              rw [Nat.add_zero, show ((Kd.slice 3 (Kd.int .i64))).sz = 1 from rfl, Nat.mul_one] at hv152_0
                                              replace hv152_0 := Option.some.inj (hv152_0.symm.trans hx152_0)
                                              rw [hv152_0] at ge152_0
                                              have HL152_0 := Aside0.mk (show Kd.R (Kd.int .i64) 3 _ _ _ _ (rd_L1 t136 x12_3) from ge152_0)
                                              clear hv152_0 ge152_0
                                              clear hcc152 hce152
                                              have HR152_0 := Aside0.mk hi152_0
                                              have HC152_0 := Aside0.mk hl152_0
                                              clear hi152_0 hl152_0
                                              replace p152 := eq_true p152
                                              replace q152 := eq_true q152
                                              go_wp2
                                              go_meet
                                              case rel => exact ⟨_, (false), (by first | rfl | (simp; done) | (simp [*]; done)), H', ⟨by have := HJ8.out; have := HK2.out; have := HK3.out; have := HJ49.out; have := HK5.out; first | omega | exact Nat.le_refl _⟩, ⟨by (with_reducible repeat (first | apply Kd.R_alloc | apply Kd.R_drewN | apply Kd.R_drew)); exact HO_6.out⟩, ⟨by (with_reducible repeat (first | apply Kd.R_alloc | apply Kd.R_drewN | apply Kd.R_drew)); exact HO_7.out⟩, ⟨by (with_reducible repeat (first | apply Kd.S_alloc | apply Kd.S_drewN | apply Kd.S_drew)); exact HO_8.out⟩, ⟨by (with_reducible repeat (first | apply Kd.R_alloc | apply Kd.R_drewN | apply Kd.R_drew)); exact HO_9.out⟩, ⟨by repeat (first | (with_reducible first | exact HB.out | apply below_alloc | apply pw_below_drewN | apply below_drew1) | exact HB.out)⟩⟩
                                          · rw [if_neg c56] at H
                                            exact absurd H (by simp)
                                        · rw [if_neg c55] at H
                                          exact absurd H (by simp)
                                      case rest =>
                                        clear HC54
                                        try clear c1
                                        try clear p1
                                        try clear q1
                                        try clear hx1
                                        try clear c2
                                        try clear p2
                                        try clear c3
                                        try clear p3
                                        try clear q3
                                        try clear hx3
                                        try clear hf3
                                        try clear c4
                                        try clear c5
                                        try clear q5
                                        try clear p6
                                        try clear c14
                                        try clear c14b0
                                        try clear c14b1
                                        try clear c14b2
                                        try clear p14
                                        try clear q14
                                        try clear hx14
                                        try clear c15
                                        try clear p15
                                        try clear q15
                                        try clear hx15
                                        try clear c18
                                        try clear c19
                                        try clear c19b0
                                        try clear c19b1
                                        try clear c20
                                        try clear c20b0
                                        try clear c20b1
                                        try clear c21
                                        try clear c22
                                        try clear c23
                                        try clear c23b0
                                        try clear c24
                                        try clear c24b0
                                        try clear c25
                                        try clear c25b0
                                        try clear c27
                                        try clear c27b0
                                        try clear c29
                                        try clear c29b0
                                        try clear c30
                                        try clear c30b0
                                        try clear c31
                                        try clear c31b0
                                        try clear c31b1
                                        try clear c32
                                        try clear c32b0
                                        try clear q33
                                        try clear c34
                                        try clear p35
                                        try clear q35
                                        try clear hx35
                                        try clear hf35
                                        try clear c47
                                        try clear c47b0
                                        try clear c48
                                        try clear c48b0
                                        try clear c49
                                        try clear c49b0
                                        try clear q52
                                        try clear c53
                                        try clear c55
                                        try clear c55b0
                                        try clear c56
                                        try clear c56b0
                                        try clear c57
                                        try clear c57b0
                                        try clear c58
                                        try clear c58b0
                                        try clear hx142_0
                                        try clear hx143_0
                                        try clear hx144_0
                                        try clear hx145_0
                                        try clear hx146_0
                                        try clear hx147_0
                                        try clear hx148_0
                                        try clear hx151_0
                                        try clear hx152_0
                                        try clear hx153_0
                                        try clear hx35_0
                                        try clear p1
                                        try clear p14
                                        try clear p142
                                        try clear p143
                                        try clear p144
                                        try clear p145
                                        try clear p146
                                        try clear p147
                                        try clear p148
                                        try clear p15
                                        try clear p151
                                        try clear p152
                                        try clear p153
                                        try clear p2
                                        try clear p3
                                        try clear p35
                                        try clear p6
                                        try clear q1
                                        try clear q14
                                        try clear q142
                                        try clear q143
                                        try clear q144
                                        try clear q145
                                        try clear q146
                                        try clear q147
                                        try clear q148
                                        try clear q15
                                        try clear q151
                                        try clear q152
                                        try clear q153
                                        try clear q3
                                        try clear q33
                                        try clear q35
                                        try clear q5
                                        try clear q52
                                        obtain ⟨kq, x115_53, rfl, HA, HJ53, HO_6, HO_7, HO_8, HO_9, HB⟩ := hcut
                                        cases kq with
                                        | zero => exact absurd HA.out (by simp [bywashlaw10_GraphOrder.j5])
                                        | succ kj53 =>
                                          have H := HA.out
                                          clear HA
                                          simp only [bywashlaw10_GraphOrder.j5] at H
                                          by_cases c61 : x115_53 = true
                                          · subst c61
                                            have H1 : (if 0 ≤ x12_3 then (if x12_3 < (t136.length : Int) then (if 0 ≤ x13_5 then (if x13_5 < ((rd_L1 t136 x12_3).length : Int) then (if 0 ≤ (rd (rd_L1 t136 x12_3) x13_5) then (if (rd (rd_L1 t136 x12_3) x13_5) < (t133.length : Int) then (if (rdOf false t133 (rd (rd_L1 t136 x12_3) x13_5) = true) then (if (rd (rd_L1 t136 x12_3) x13_5) < (x9_2.length : Int) then (if x12_3 < (x9_2.length : Int) then (if (rd x9_2 (rd (rd_L1 t136 x12_3) x13_5)) ≤ (rd x9_2 x12_3) then ((graph_Reach.f l0 (rd (rd_L1 t136 x12_3) x13_5)).bind fun t159 => (if x12_3 < (t159.length : Int) then (if rdOf false t159 x12_3 = true then (bywashlaw10_GraphOrder.l2 kj53 l0 a1 t128 t130 t133 t136 x9_2 x11_49 x12_3 (wrap64 (x13_5 + 1))) else (some false)) else (none))) else (bywashlaw10_GraphOrder.l2 kj53 l0 a1 t128 t130 t133 t136 x9_2 x11_49 x12_3 (wrap64 (x13_5 + 1)))) else (none)) else (none)) else (some false)) else (none)) else (none)) else (none)) else (none)) else (none)) else (none)) = some r := by rw [if_pos rfl] at H; exact H
                                            clear H
                                            have H := H1
                                            clear H1
                                            by_cases c62 : 0 ≤ x12_3
                                            · rw [if_pos c62] at H
                                              have c62b0 : decide (0 ≤ x12_3) = true := decide_eq_true c62
                                              clear c62
                                              by_cases c63 : x12_3 < (t136.length : Int)
                                              · rw [if_pos c63] at H
                                                have c63b0 : decide (x12_3 < (t136.length : Int)) = true := decide_eq_true c63
                                                clear c63
                                                by_cases c64 : 0 ≤ x13_5
                                                · rw [if_pos c64] at H
                                                  have c64b0 : decide (0 ≤ x13_5) = true := decide_eq_true c64
                                                  clear c64
                                                  by_cases c65 : x13_5 < ((rd_L1 t136 x12_3).length : Int)
                                                  · rw [if_pos c65] at H
                                                    have c65b0 : decide (x13_5 < ((rd_L1 t136 x12_3).length : Int)) = true := decide_eq_true c65
                                                    clear c65
                                                    by_cases c66 : 0 ≤ (rd (rd_L1 t136 x12_3) x13_5)
                                                    · rw [if_pos c66] at H
                                                      have c66b0 : decide (0 ≤ (rd (rd_L1 t136 x12_3) x13_5)) = true := decide_eq_true c66
                                                      clear c66
                                                      by_cases c67 : (rd (rd_L1 t136 x12_3) x13_5) < (t133.length : Int)
                                                      · rw [if_pos c67] at H
                                                        have c67b0 : decide ((rd (rd_L1 t136 x12_3) x13_5) < (t133.length : Int)) = true := decide_eq_true c67
                                                        clear c67
                                                        obtain ⟨bq68, hbq68⟩ : ∃ b_ : Bool, b_ = (rdOf false t133 (rd (rd_L1 t136 x12_3) x13_5)) := ⟨_, rfl⟩
                                                        replace H : (if (bq68 = true) then (if (rd (rd_L1 t136 x12_3) x13_5) < (x9_2.length : Int) then (if x12_3 < (x9_2.length : Int) then (if (rd x9_2 (rd (rd_L1 t136 x12_3) x13_5)) ≤ (rd x9_2 x12_3) then ((graph_Reach.f l0 (rd (rd_L1 t136 x12_3) x13_5)).bind fun t159 => (if x12_3 < (t159.length : Int) then (if rdOf false t159 x12_3 = true then (bywashlaw10_GraphOrder.l2 kj53 l0 a1 t128 t130 t133 t136 x9_2 x11_49 x12_3 (wrap64 (x13_5 + 1))) else (some false)) else (none))) else (bywashlaw10_GraphOrder.l2 kj53 l0 a1 t128 t130 t133 t136 x9_2 x11_49 x12_3 (wrap64 (x13_5 + 1)))) else (none)) else (none)) else (some false)) = some r := by rw [← hbq68] at H; exact H
                                                        have Nbq68 := Aside0.mk hbq68
                                                        clear hbq68
                                                        by_cases c69 : (bq68 = true)
                                                        · subst c69
                                                          have H1 : (if (rd (rd_L1 t136 x12_3) x13_5) < (x9_2.length : Int) then (if x12_3 < (x9_2.length : Int) then (if (rd x9_2 (rd (rd_L1 t136 x12_3) x13_5)) ≤ (rd x9_2 x12_3) then ((graph_Reach.f l0 (rd (rd_L1 t136 x12_3) x13_5)).bind fun t159 => (if x12_3 < (t159.length : Int) then (if rdOf false t159 x12_3 = true then (bywashlaw10_GraphOrder.l2 kj53 l0 a1 t128 t130 t133 t136 x9_2 x11_49 x12_3 (wrap64 (x13_5 + 1))) else (some false)) else (none))) else (bywashlaw10_GraphOrder.l2 kj53 l0 a1 t128 t130 t133 t136 x9_2 x11_49 x12_3 (wrap64 (x13_5 + 1)))) else (none)) else (none)) = some r := by rw [if_pos rfl] at H; exact H
                                                          clear H
                                                          have H := H1
                                                          clear H1
                                                          by_cases c70 : (rd (rd_L1 t136 x12_3) x13_5) < (x9_2.length : Int)
                                                          · rw [if_pos c70] at H
                                                            have c70b0 : decide ((rd (rd_L1 t136 x12_3) x13_5) < (x9_2.length : Int)) = true := decide_eq_true c70
                                                            clear c70
                                                            by_cases c71 : x12_3 < (x9_2.length : Int)
                                                            · rw [if_pos c71] at H
                                                              have c71b0 : decide (x12_3 < (x9_2.length : Int)) = true := decide_eq_true c71
                                                              clear c71
                                                              by_cases c72 : (rd x9_2 (rd (rd_L1 t136 x12_3) x13_5)) ≤ (rd x9_2 x12_3)
                                                              · rw [if_pos c72] at H
                                                                have c72b0 : decide ((rd x9_2 (rd (rd_L1 t136 x12_3) x13_5)) ≤ (rd x9_2 x12_3)) = true := decide_eq_true c72
                                                                clear c72
                                                                replace H := Option.bind_eq_some_iff.mp H
                                                                obtain ⟨t159, A730, H⟩ := H
                                                                replace H : (if x12_3 < (t159.length : Int) then (if rdOf false t159 x12_3 = true then (bywashlaw10_GraphOrder.l2 kj53 l0 a1 t128 t130 t133 t136 x9_2 x11_49 x12_3 (wrap64 (x13_5 + 1))) else (some false)) else (none)) = some r := H
                                                                have A73 := Aside0.mk A730
                                                                clear A730
                                                                by_cases c74 : x12_3 < (t159.length : Int)
                                                                · rw [if_pos c74] at H
                                                                  have c74b0 : decide (x12_3 < (t159.length : Int)) = true := decide_eq_true c74
                                                                  clear c74
                                                                  obtain ⟨bq75, hbq75⟩ : ∃ b_ : Bool, b_ = (rdOf false t159 x12_3) := ⟨_, rfl⟩
                                                                  replace H : (if bq75 = true then (bywashlaw10_GraphOrder.l2 kj53 l0 a1 t128 t130 t133 t136 x9_2 x11_49 x12_3 (wrap64 (x13_5 + 1))) else (some false)) = some r := by rw [← hbq75] at H; exact H
                                                                  have Nbq75 := Aside0.mk hbq75
                                                                  clear hbq75
                                                                  by_cases c76 : bq75 = true
                                                                  · subst c76
                                                                    have H1 : (bywashlaw10_GraphOrder.l2 kj53 l0 a1 t128 t130 t133 t136 x9_2 x11_49 x12_3 (wrap64 (x13_5 + 1))) = some r := by rw [if_pos rfl] at H; exact H
                                                                    clear H
                                                                    have H := H1
                                                                    clear H1
                                                                    have H' := Aside0.mk H
                                                                    clear H
                                                                    obtain ⟨Ao77, co77, eo77⟩ := Kd.S_slice HO_8.out
                                                                    subst eo77
                                                                    have p154 : 0 ≤ (x12_3 : Int) := of_decide_eq_true (by first | (with_reducible assumption) | assumption)
                                                                    have q154 : x12_3 < (t136.length : Int) := of_decide_eq_true (by first | (with_reducible assumption) | assumption)
                                                                    obtain ⟨ad154, A154_0, c154_0, e154, hx154_0, hl154_0, hi154_0⟩ := at_L1 (Kd.S_reads' HO_8.out).2.2 x12_3 p154 q154
                                                                    cases e154
                                                                    obtain ⟨ce154, hce154, hMe154, hcc154⟩ := Kd.S_get HO_8.out [] x12_3 p154 (by first | exact q154 | exact of_decide_eq_true (by first | (with_reducible assumption) | assumption) | (have e_ := (Kd.S_reads' HO_8.out).1; omega))
                                                                    obtain ⟨ve154_0, rfl, ge154_0⟩ := hMe154
                                                                    have hv154_0 := hcc154 0 _ rfl
                                                                    rw [Nat.add_zero, show ((Kd.slice 3 (Kd.int .i64))).sz = 1 from rfl, Nat.mul_one] at hv154_0
                                                                    replace hv154_0 := Option.some.inj (hv154_0.symm.trans hx154_0)
                                                                    rw [hv154_0] at ge154_0
                                                                    have HL154_0 := Aside0.mk (show Kd.R (Kd.int .i64) 3 _ _ _ _ (rd_L1 t136 x12_3) from ge154_0)
                                                                    clear hv154_0 ge154_0
                                                                    clear hcc154 hce154
                                                                    have HR154_0 := Aside0.mk hi154_0
                                                                    have HC154_0 := Aside0.mk hl154_0
                                                                    clear hi154_0 hl154_0
                                                                    replace p154 := eq_true p154
                                                                    replace q154 := eq_true q154
                                                                    have p155 : 0 ≤ (x13_5 : Int) := of_decide_eq_true (by first | (with_reducible assumption) | assumption)
                                                                    have q155 : x13_5 < ((rd_L1 t136 x12_3).length : Int) := of_decide_eq_true (by first | (with_reducible assumption) | assumption)
                                                                    obtain ⟨ad155, e155, hx155_0⟩ := Kd.at_int (by repeat (first | (with_reducible exact HR154_0.out) | (with_reducible refine Kd.C_alloc ?_ _) | (with_reducible refine Kd.C_drewN ?_ _) | (with_reducible refine Kd.C_drew ?_) | exact HR154_0.out)) x13_5 p155 q155
                                                                    cases e155
                                                                    replace p155 := eq_true p155
                                                                    replace q155 := eq_true q155
                                                                    try go_wp2
                                                                    have n0_ := Aside0.mk (Kd.R_drew HO_6.out)
                                                                    have n1_ := Aside0.mk (Kd.R_drew HO_7.out)
                                                                    have n2_ := Aside0.mk (Kd.S_drew HO_8.out)
                                                                    have n3_ := Aside0.mk (Kd.R_drew HO_9.out)
                                                                    have n4_ := Aside0.mk (Kd.R_drew HL154_0.out)
                                                                    have n5_ := Aside0.mk (Kd.C_drew HR154_0.out)
                                                                    have n6_ := Aside0.mk (below_drew1 HB.out)
                                                                    clear HO_6
                                                                    clear HO_7
                                                                    clear HO_8
                                                                    clear HO_9
                                                                    clear HL154_0
                                                                    clear HR154_0
                                                                    clear HB
                                                                    have HO_6 := n0_
                                                                    have HO_7 := n1_
                                                                    have HO_8 := n2_
                                                                    have HO_9 := n3_
                                                                    have HL154_0 := n4_
                                                                    have HR154_0 := n5_
                                                                    have HB := n6_
                                                                    clear n0_ n1_ n2_ n3_ n4_ n5_ n6_
                                                                    have p156 : 0 ≤ ((rd (rd_L1 t136 x12_3) x13_5) : Int) := of_decide_eq_true (by first | (with_reducible assumption) | assumption)
                                                                    have q156 : (rd (rd_L1 t136 x12_3) x13_5) < (t133.length : Int) := of_decide_eq_true (by first | (with_reducible assumption) | assumption)
                                                                    obtain ⟨ad156, e156, hx156_0⟩ := Kd.at_bool (Kd.R_reads' HO_7.out).2.2 (rd (rd_L1 t136 x12_3) x13_5) p156 q156
                                                                    (try rw [← Nbq68.out] at hx156_0)
                                                                    (try rw [← Nbq75.out] at hx156_0)
                                                                    obtain rfl : ad151 = ad156 := (by injection e156)
                                                                    replace p156 := eq_true p156
                                                                    replace q156 := eq_true q156
                                                                    obtain ⟨Ao79, co79, eo79⟩ := Kd.R_slice HO_9.out
                                                                    (first | subst eo79 | (injection eo79 with f1_ f2_ f3_; have f4_ := f1_.symm; have f5_ := f3_.symm; clear f1_ f2_ f3_; subst f4_; subst f5_))
                                                                    have p157 : 0 ≤ ((rd (rd_L1 t136 x12_3) x13_5) : Int) := of_decide_eq_true (by first | (with_reducible assumption) | assumption)
                                                                    have q157 : (rd (rd_L1 t136 x12_3) x13_5) < (x9_2.length : Int) := of_decide_eq_true (by first | (with_reducible assumption) | assumption)
                                                                    obtain ⟨ad157, e157, hx157_0⟩ := Kd.at_int (Kd.R_reads' HO_9.out).2.2 (rd (rd_L1 t136 x12_3) x13_5) p157 q157
                                                                    cases e157
                                                                    replace p157 := eq_true p157
                                                                    replace q157 := eq_true q157
                                                                    have p158 : 0 ≤ (x12_3 : Int) := of_decide_eq_true (by first | (with_reducible assumption) | assumption)
                                                                    have q158 : x12_3 < (x9_2.length : Int) := of_decide_eq_true (by first | (with_reducible assumption) | assumption)
                                                                    obtain ⟨ad158, e158, hx158_0⟩ := Kd.at_int (Kd.R_reads' HO_9.out).2.2 x12_3 p158 q158
                                                                    obtain rfl : ad157 = ad158 := (by injection e158)
                                                                    replace p158 := eq_true p158
                                                                    replace q158 := eq_true q158
                                                                    refine start_ (n := 25) (S := fun w' => w'.cell? (ad151.add ((rd (rd_L1 t136 x12_3) x13_5)).toNat) = some (.bool true) ∧ w'.cell? (ad157.add ((rd (rd_L1 t136 x12_3) x13_5)).toNat) = some (.int .i64 (rd x9_2 (rd (rd_L1 t136 x12_3) x13_5))) ∧ w'.cell? (ad157.add (x12_3).toNat) = some (.int .i64 (rd x9_2 x12_3))) (ds := []) #[false, false, false, false, false, false, false, false, false, false, false, false, false, false, false, false, false, false, false, false, false, false, false, false, false] (by kernel_rfl) rfl rfl ⟨hx156_0, hx157_0, hx158_0⟩ (fun hHeld => ?_); refine with_tabW bywashlaw10_GraphOrder.tab26 bywashlaw10_GraphOrder.bits26 (fun HT_ HW_ => ?_)
                                                                    generalize wc.drew = w78 at HO_6 HO_7 HO_8 HO_9 HL154_0 HR154_0 HB hx156_0 hx157_0 hx158_0 hHeld ⊢
                                                                    refine pure_ (i := 0) (N := some 125) (v := ?_) (a' := ?_) #[true, false, false, false, false, false, false, false, false, false, false, false, false, false, false, false, false, false, false, false, false, false, false, false, false] rfl rfl (any_of HT_.out (by kernel_rfl)) (fun _ _ _ h => h) (Or.inl ⟨by rfl, ?_⟩) ?_ ?_
                                                                    rotate_left
                                                                    · intro w'
                                                                      go_simp
                                                                      with_reducible rfl
                                                                    rotate_left
                                                                    · simp only [Act.put, List.setIfInBounds_toArray, List.set_cons_zero, List.set_cons_succ, i64_w, i32_w]
                                                                      rfl
                                                                    refine pure_ (i := 1) (N := some 126) (v := ?_) (a' := ?_) #[true, true, false, false, false, false, false, false, false, false, false, false, false, false, false, false, false, false, false, false, false, false, false, false, false] rfl rfl (any_of HT_.out (by kernel_rfl)) (fun _ _ _ h => h) (Or.inl ⟨by rfl, ?_⟩) ?_ ?_
                                                                    rotate_left
                                                                    · intro w'
                                                                      go_simp
                                                                      with_reducible rfl
                                                                    rotate_left
                                                                    · simp only [Act.put, List.setIfInBounds_toArray, List.set_cons_zero, List.set_cons_succ, i64_w, i32_w]
                                                                      rfl
                                                                    refine pure_ (i := 2) (N := some 127) (v := ?_) (a' := ?_) #[true, true, true, false, false, false, false, false, false, false, false, false, false, false, false, false, false, false, false, false, false, false, false, false, false] rfl rfl (any_of HT_.out (by kernel_rfl)) (fun _ _ _ h => h) (Or.inl ⟨by rfl, ?_⟩) ?_ ?_
                                                                    rotate_left
                                                                    · intro w'
                                                                      go_simp
                                                                      with_reducible rfl
                                                                    rotate_left
                                                                    · simp only [Act.put, List.setIfInBounds_toArray, List.set_cons_zero, List.set_cons_succ, i64_w, i32_w]
                                                                      rfl
                                                                    refine take_ (i := 3) (N := some 128) (v := ?_) (a' := ?_) #[true, true, true, true, false, false, false, false, false, false, false, false, false, false, false, false, false, false, false, false, false, false, false, false, false] rfl rfl (take_ofW HT_.out HW_.out (by kernel_rfl)) (fun _ _ _ h => h) (Or.inl ⟨by rfl, ?_⟩) hHeld ?_ ?_
                                                                    rotate_left
                                                                    · rintro w' ⟨s0, s1, s2⟩
                                                                      go_simp
                                                                      with_reducible rfl
                                                                    rotate_left
                                                                    · simp only [Act.put, List.setIfInBounds_toArray, List.set_cons_zero, List.set_cons_succ, i64_w, i32_w]
                                                                      rfl
                                                                    refine pure_ (i := 4) (N := some 129) (v := ?_) (a' := ?_) #[true, true, true, true, true, false, false, false, false, false, false, false, false, false, false, false, false, false, false, false, false, false, false, false, false] rfl rfl (any_of HT_.out (by kernel_rfl)) (fun _ _ _ h => h) (Or.inl ⟨by rfl, ?_⟩) ?_ ?_
                                                                    rotate_left
                                                                    · intro w'
                                                                      go_simp
                                                                      with_reducible rfl
                                                                    rotate_left
                                                                    · simp only [Act.put, List.setIfInBounds_toArray, List.set_cons_zero, List.set_cons_succ, i64_w, i32_w]
                                                                      rfl
                                                                    refine pure_ (i := 5) (N := some 130) (v := ?_) (a' := ?_) #[true, true, true, true, true, true, false, false, false, false, false, false, false, false, false, false, false, false, false, false, false, false, false, false, false] rfl rfl (any_of HT_.out (by kernel_rfl)) (fun _ _ _ h => h) (Or.inl ⟨by rfl, ?_⟩) ?_ ?_
                                                                    rotate_left
                                                                    · intro w'
                                                                      go_simp
                                                                      with_reducible rfl
                                                                    rotate_left
                                                                    · simp only [Act.put, List.setIfInBounds_toArray, List.set_cons_zero, List.set_cons_succ, i64_w, i32_w]
                                                                      rfl
                                                                    refine pure_ (i := 6) (N := some 131) (v := ?_) (a' := ?_) #[true, true, true, true, true, true, true, false, false, false, false, false, false, false, false, false, false, false, false, false, false, false, false, false, false] rfl rfl (any_of HT_.out (by kernel_rfl)) (fun _ _ _ h => h) (Or.inl ⟨by rfl, ?_⟩) ?_ ?_
                                                                    rotate_left
                                                                    · intro w'
                                                                      go_simp
                                                                      with_reducible rfl
                                                                    rotate_left
                                                                    · simp only [Act.put, List.setIfInBounds_toArray, List.set_cons_zero, List.set_cons_succ, i64_w, i32_w]
                                                                      rfl
                                                                    refine pure_ (i := 7) (N := some 132) (v := ?_) (a' := ?_) #[true, true, true, true, true, true, true, true, false, false, false, false, false, false, false, false, false, false, false, false, false, false, false, false, false] rfl rfl (any_of HT_.out (by kernel_rfl)) (fun _ _ _ h => h) (Or.inl ⟨by rfl, ?_⟩) ?_ ?_
                                                                    rotate_left
                                                                    · intro w'
                                                                      go_simp
                                                                      with_reducible rfl
                                                                    rotate_left
                                                                    · simp only [Act.put, List.setIfInBounds_toArray, List.set_cons_zero, List.set_cons_succ, i64_w, i32_w]
                                                                      rfl
                                                                    refine pure_ (i := 8) (N := some 133) (v := ?_) (a' := ?_) #[true, true, true, true, true, true, true, true, true, false, false, false, false, false, false, false, false, false, false, false, false, false, false, false, false] rfl rfl (any_of HT_.out (by kernel_rfl)) (fun _ _ _ h => h) (Or.inl ⟨by rfl, ?_⟩) ?_ ?_
                                                                    rotate_left
                                                                    · intro w'
                                                                      go_simp
                                                                      with_reducible rfl
                                                                    rotate_left
                                                                    · simp only [Act.put, List.setIfInBounds_toArray, List.set_cons_zero, List.set_cons_succ, i64_w, i32_w]
                                                                      rfl
                                                                    refine pure_ (i := 10) (N := some 135) (v := ?_) (a' := ?_) #[true, true, true, true, true, true, true, true, true, false, true, false, false, false, false, false, false, false, false, false, false, false, false, false, false] rfl rfl (any_of HT_.out (by kernel_rfl)) (fun _ _ _ h => h) (Or.inl ⟨by rfl, ?_⟩) ?_ ?_
                                                                    rotate_left
                                                                    · intro w'
                                                                      go_simp
                                                                      with_reducible rfl
                                                                    rotate_left
                                                                    · simp only [Act.put, List.setIfInBounds_toArray, List.set_cons_zero, List.set_cons_succ, i64_w, i32_w]
                                                                      rfl
                                                                    refine pure_ (i := 11) (N := some 136) (v := ?_) (a' := ?_) #[true, true, true, true, true, true, true, true, true, false, true, true, false, false, false, false, false, false, false, false, false, false, false, false, false] rfl rfl (any_of HT_.out (by kernel_rfl)) (fun _ _ _ h => h) (Or.inl ⟨by rfl, ?_⟩) ?_ ?_
                                                                    rotate_left
                                                                    · intro w'
                                                                      go_simp
                                                                      with_reducible rfl
                                                                    rotate_left
                                                                    · simp only [Act.put, List.setIfInBounds_toArray, List.set_cons_zero, List.set_cons_succ, i64_w, i32_w]
                                                                      rfl
                                                                    refine pure_ (i := 12) (N := some 137) (v := ?_) (a' := ?_) #[true, true, true, true, true, true, true, true, true, false, true, true, true, false, false, false, false, false, false, false, false, false, false, false, false] rfl rfl (any_of HT_.out (by kernel_rfl)) (fun _ _ _ h => h) (Or.inl ⟨by rfl, ?_⟩) ?_ ?_
                                                                    rotate_left
                                                                    · intro w'
                                                                      go_simp
                                                                      with_reducible rfl
                                                                    rotate_left
                                                                    · simp only [Act.put, List.setIfInBounds_toArray, List.set_cons_zero, List.set_cons_succ, i64_w, i32_w]
                                                                      rfl
                                                                    refine take_ (i := 9) (N := some 134) (v := ?_) (a' := ?_) #[true, true, true, true, true, true, true, true, true, true, true, true, true, false, false, false, false, false, false, false, false, false, false, false, false] rfl rfl (take_ofW HT_.out HW_.out (by kernel_rfl)) (fun _ _ _ h => h) (Or.inl ⟨by rfl, ?_⟩) hHeld ?_ ?_
                                                                    rotate_left
                                                                    · rintro w' ⟨s0, s1, s2⟩
                                                                      go_simp
                                                                      with_reducible rfl
                                                                    rotate_left
                                                                    · simp only [Act.put, List.setIfInBounds_toArray, List.set_cons_zero, List.set_cons_succ, i64_w, i32_w]
                                                                      rfl
                                                                    refine take_ (i := 13) (N := some 138) (v := ?_) (a' := ?_) #[true, true, true, true, true, true, true, true, true, true, true, true, true, true, false, false, false, false, false, false, false, false, false, false, false] rfl rfl (take_ofW HT_.out HW_.out (by kernel_rfl)) (fun _ _ _ h => h) (Or.inl ⟨by rfl, ?_⟩) hHeld ?_ ?_
                                                                    rotate_left
                                                                    · rintro w' ⟨s0, s1, s2⟩
                                                                      go_simp
                                                                      with_reducible rfl
                                                                    rotate_left
                                                                    · simp only [Act.put, List.setIfInBounds_toArray, List.set_cons_zero, List.set_cons_succ, i64_w, i32_w]
                                                                      rfl
                                                                    refine pure_ (i := 14) (N := some 139) (v := ?_) (a' := ?_) #[true, true, true, true, true, true, true, true, true, true, true, true, true, true, true, false, false, false, false, false, false, false, false, false, false] rfl rfl (any_of HT_.out (by kernel_rfl)) (fun _ _ _ h => h) (Or.inl ⟨by rfl, ?_⟩) ?_ ?_
                                                                    rotate_left
                                                                    · intro w'
                                                                      go_simp
                                                                      with_reducible rfl
                                                                    rotate_left
                                                                    · simp only [Act.put, List.setIfInBounds_toArray, List.set_cons_zero, List.set_cons_succ, i64_w, i32_w]
                                                                      rfl
                                                                    refine pure_ (i := 15) (N := some 140) (v := ?_) (a' := ?_) #[true, true, true, true, true, true, true, true, true, true, true, true, true, true, true, true, false, false, false, false, false, false, false, false, false] rfl rfl (any_of HT_.out (by kernel_rfl)) (fun _ _ _ h => h) (Or.inl ⟨by rfl, ?_⟩) ?_ ?_
                                                                    rotate_left
                                                                    · intro w'
                                                                      go_simp
                                                                      with_reducible rfl
                                                                    rotate_left
                                                                    · simp only [Act.put, List.setIfInBounds_toArray, List.set_cons_zero, List.set_cons_succ, i64_w, i32_w]
                                                                      rfl
                                                                    refine pure_ (i := 16) (N := some 141) (v := ?_) (a' := ?_) #[true, true, true, true, true, true, true, true, true, true, true, true, true, true, true, true, true, false, false, false, false, false, false, false, false] rfl rfl (any_of HT_.out (by kernel_rfl)) (fun _ _ _ h => h) (Or.inl ⟨by rfl, ?_⟩) ?_ ?_
                                                                    rotate_left
                                                                    · intro w'
                                                                      go_simp
                                                                      with_reducible rfl
                                                                    rotate_left
                                                                    · simp only [Act.put, List.setIfInBounds_toArray, List.set_cons_zero, List.set_cons_succ, i64_w, i32_w]
                                                                      rfl
                                                                    refine pure_ (i := 17) (N := some 142) (v := ?_) (a' := ?_) #[true, true, true, true, true, true, true, true, true, true, true, true, true, true, true, true, true, true, false, false, false, false, false, false, false] rfl rfl (any_of HT_.out (by kernel_rfl)) (fun _ _ _ h => h) (Or.inl ⟨by rfl, ?_⟩) ?_ ?_
                                                                    rotate_left
                                                                    · intro w'
                                                                      go_simp
                                                                      with_reducible rfl
                                                                    rotate_left
                                                                    · simp only [Act.put, List.setIfInBounds_toArray, List.set_cons_zero, List.set_cons_succ, i64_w, i32_w]
                                                                      rfl
                                                                    refine pure_ (i := 19) (N := some 144) (v := ?_) (a' := ?_) #[true, true, true, true, true, true, true, true, true, true, true, true, true, true, true, true, true, true, false, true, false, false, false, false, false] rfl rfl (any_of HT_.out (by kernel_rfl)) (fun _ _ _ h => h) (Or.inl ⟨by rfl, ?_⟩) ?_ ?_
                                                                    rotate_left
                                                                    · intro w'
                                                                      go_simp
                                                                      with_reducible rfl
                                                                    rotate_left
                                                                    · simp only [Act.put, List.setIfInBounds_toArray, List.set_cons_zero, List.set_cons_succ, i64_w, i32_w]
                                                                      rfl
                                                                    refine one_ (i := 18) (N := some 143) #[true, true, true, true, true, true, true, true, true, true, true, true, true, true, true, true, true, true, true, true, false, false, false, false, false] rfl rfl (one_of HT_.out (by kernel_rfl)) (by decide) (fun K hK => ?_)
                                                                    refine goes_ Try.func23 (by kernel_rfl) rfl #[.slice A0 l0.length c0, .int .i64 (rd (rd_L1 t136 x12_3) x13_5)] (by rfl) rfl rfl (by (try simp only [List.map_toArray, List.map_cons, List.map_nil]); first | done | rfl | (simp only [List.length_drop, List.length_take]; rfl)) ?_
                                                                    with_reducible refine (graph_Reach.calls _ _ l0 (rd (rd_L1 t136 x12_3) x13_5) t159 _ ?side1 ?side2 A73.out).mono ?_
                                                                    (case side1 => repeat (first | exact (Kd.C_below HR0.out HB.out) | (with_reducible refine Kd.C_alloc ?_ _) | (with_reducible refine Kd.C_drewN ?_ _) | (with_reducible refine Kd.C_drew ?_)))
                                                                    (case side2 => exact HC0.out)
                                                                    rintro e w80 ⟨v160, rfl, ho0, hb⟩
                                                                    have HS0_ := (hb.cell (World.block_lt_of_cell? _ _ (hHeld.1))).trans (hHeld.1)
                                                                    have HS1_ := (hb.cell (World.block_lt_of_cell? _ _ (hHeld.2.1))).trans (hHeld.2.1)
                                                                    have HS2_ := (hb.cell (World.block_lt_of_cell? _ _ (hHeld.2.2))).trans (hHeld.2.2)
                                                                    skip
                                                                    refine ⟨_, rfl, ?_⟩
                                                                    have n0_ := Aside0.mk (Kd.R_below (by (with_reducible repeat (first | apply Kd.R_alloc | apply Kd.R_drewN | apply Kd.R_drew)); exact HO_6.out) hb)
                                                                    have n1_ := Aside0.mk (Kd.R_elder' (by (with_reducible repeat (first | apply Kd.R_alloc | apply Kd.R_drewN | apply Kd.R_drew)); exact HO_7.out) (Kd.R_base ho0) hb)
                                                                    have n2_ := Aside0.mk (Kd.S_below (by (with_reducible repeat (first | apply Kd.S_alloc | apply Kd.S_drewN | apply Kd.S_drew)); exact HO_8.out) hb)
                                                                    have n3_ := Aside0.mk (Kd.R_below (by (with_reducible repeat (first | apply Kd.R_alloc | apply Kd.R_drewN | apply Kd.R_drew)); exact HO_9.out) hb)
                                                                    have n4_ := Aside0.mk (Kd.R_below (by (with_reducible repeat (first | apply Kd.R_alloc | apply Kd.R_drewN | apply Kd.R_drew)); exact HL154_0.out) hb)
                                                                    have n5_ := Aside0.mk (Kd.R_lower (Kd.R_new' ho0 (Kd.R_lt (by (with_reducible repeat (first | apply Kd.R_alloc | apply Kd.R_drewN | apply Kd.R_drew)); exact HO_7.out))) (below_size (by repeat (first | (with_reducible first | exact HB.out | apply below_alloc | apply pw_below_drewN | apply below_drew1) | exact HB.out))))
                                                                    have n6_ := Aside0.mk (Kd.C_below (by repeat (first | (with_reducible exact HR154_0.out) | (with_reducible refine Kd.C_alloc ?_ _) | (with_reducible refine Kd.C_drewN ?_ _) | (with_reducible refine Kd.C_drew ?_) | exact HR154_0.out)) hb)
                                                                    have n7_ := Aside0.mk (below_step (by repeat (first | (with_reducible first | exact HB.out | apply below_alloc | apply pw_below_drewN | apply below_drew1) | exact HB.out)) hb)
                                                                    clear HO_6
                                                                    clear HO_7
                                                                    clear HO_8
                                                                    clear HO_9
                                                                    clear HL154_0
                                                                    clear HR154_0
                                                                    clear HB
                                                                    have HO_6 := n0_
                                                                    have HO_7 := n1_
                                                                    have HO_8 := n2_
                                                                    have HO_9 := n3_
                                                                    have HL154_0 := n4_
                                                                    have HO161 := n5_
                                                                    have HR154_0 := n6_
                                                                    have HB := n7_
                                                                    clear n0_ n1_ n2_ n3_ n4_ n5_ n6_ n7_
                                                                    (try clear hb)
                                                                    (try clear hb2)
                                                                    (try clear hk)
                                                                    (try clear hi)
                                                                    (try clear ho0)
                                                                    obtain ⟨Ao81, co81, eo81⟩ := Kd.R_slice HO161.out
                                                                    (first | subst eo81 | (injection eo81 with f1_ f2_ f3_; have f4_ := f1_.symm; have f5_ := f3_.symm; clear f1_ f2_ f3_; subst f4_; subst f5_))
                                                                    have p162 : 0 ≤ (x12_3 : Int) := of_decide_eq_true (by first | (with_reducible assumption) | assumption)
                                                                    have q162 : x12_3 < (t159.length : Int) := of_decide_eq_true (by first | (with_reducible assumption) | assumption)
                                                                    obtain ⟨ad162, e162, hx162_0⟩ := Kd.at_bool (Kd.R_reads' HO161.out).2.2 x12_3 p162 q162
                                                                    (try rw [← Nbq68.out] at hx162_0)
                                                                    (try rw [← Nbq75.out] at hx162_0)
                                                                    cases e162
                                                                    replace p162 := eq_true p162
                                                                    replace q162 := eq_true q162
                                                                    refine hK.out _ _ ⟨HS0_, HS1_, HS2_⟩ (fun hHeld => ?_)
                                                                    refine anyLast_more (S' := fun w' => w'.cell? (ad151.add ((rd (rd_L1 t136 x12_3) x13_5)).toNat) = some (.bool true) ∧ w'.cell? (ad157.add ((rd (rd_L1 t136 x12_3) x13_5)).toNat) = some (.int .i64 (rd x9_2 (rd (rd_L1 t136 x12_3) x13_5))) ∧ w'.cell? (ad157.add (x12_3).toNat) = some (.int .i64 (rd x9_2 x12_3)) ∧ w'.cell? (ad162.add (x12_3).toNat) = some (.bool true)) (fun w' h => ⟨h.1, h.2.1, h.2.2.1⟩) _ _ _ _ ⟨hHeld.1, hHeld.2.1, hHeld.2.2, hx162_0⟩ ?_
                                                                    replace hHeld := And.intro hHeld.1 (And.intro hHeld.2.1 (And.intro hHeld.2.2 (hx162_0)))
                                                                    clear hK K
                                                                    refine norm_ (a' := ?_) ?_ ?_
                                                                    rotate_left
                                                                    · show Act.put _ (some 143) _ = _
                                                                      simp only [Act.put, List.setIfInBounds_toArray, List.set_cons_zero, List.set_cons_succ, i64_w, i32_w]
                                                                      rfl
                                                                    refine pure_ (i := 20) (N := some 145) (v := ?_) (a' := ?_) #[true, true, true, true, true, true, true, true, true, true, true, true, true, true, true, true, true, true, true, true, true, false, false, false, false] rfl rfl (any_of HT_.out (by kernel_rfl)) (fun _ _ _ h => h) (Or.inl ⟨by rfl, ?_⟩) ?_ ?_
                                                                    rotate_left
                                                                    · intro w'
                                                                      go_simp
                                                                      with_reducible rfl
                                                                    rotate_left
                                                                    · simp only [Act.put, List.setIfInBounds_toArray, List.set_cons_zero, List.set_cons_succ, i64_w, i32_w]
                                                                      rfl
                                                                    refine take_ (i := 21) (N := some 146) (v := ?_) (a' := ?_) #[true, true, true, true, true, true, true, true, true, true, true, true, true, true, true, true, true, true, true, true, true, true, false, false, false] rfl rfl (take_ofW HT_.out HW_.out (by kernel_rfl)) (fun _ _ _ h => h) (Or.inl ⟨by rfl, ?_⟩) hHeld ?_ ?_
                                                                    rotate_left
                                                                    · rintro w' ⟨s0, s1, s2, s3⟩
                                                                      go_simp
                                                                      with_reducible rfl
                                                                    rotate_left
                                                                    · simp only [Act.put, List.setIfInBounds_toArray, List.set_cons_zero, List.set_cons_succ, i64_w, i32_w]
                                                                      rfl
                                                                    refine pure_ (i := 22) (N := some 147) (v := ?_) (a' := ?_) #[true, true, true, true, true, true, true, true, true, true, true, true, true, true, true, true, true, true, true, true, true, true, true, false, false] rfl rfl (any_of HT_.out (by kernel_rfl)) (fun _ _ _ h => h) (Or.inl ⟨by rfl, ?_⟩) ?_ ?_
                                                                    rotate_left
                                                                    · intro w'
                                                                      go_simp
                                                                      with_reducible rfl
                                                                    rotate_left
                                                                    · simp only [Act.put, List.setIfInBounds_toArray, List.set_cons_zero, List.set_cons_succ, i64_w, i32_w]
                                                                      rfl
                                                                    refine pure_ (i := 23) (N := some 148) (v := ?_) (a' := ?_) #[true, true, true, true, true, true, true, true, true, true, true, true, true, true, true, true, true, true, true, true, true, true, true, true, false] rfl rfl (any_of HT_.out (by kernel_rfl)) (fun _ _ _ h => h) (Or.inl ⟨by rfl, ?_⟩) ?_ ?_
                                                                    rotate_left
                                                                    · intro w'
                                                                      go_simp
                                                                      with_reducible rfl
                                                                    rotate_left
                                                                    · simp only [Act.put, List.setIfInBounds_toArray, List.set_cons_zero, List.set_cons_succ, i64_w, i32_w]
                                                                      rfl
                                                                    refine pure_ (i := 24) (N := some 149) (v := ?_) (a' := ?_) #[true, true, true, true, true, true, true, true, true, true, true, true, true, true, true, true, true, true, true, true, true, true, true, true, true] rfl rfl (any_of HT_.out (by kernel_rfl)) (fun _ _ _ h => h) (Or.inl ⟨by rfl, ?_⟩) ?_ ?_
                                                                    rotate_left
                                                                    · intro w'
                                                                      go_simp
                                                                      with_reducible rfl
                                                                    rotate_left
                                                                    · simp only [Act.put, List.setIfInBounds_toArray, List.set_cons_zero, List.set_cons_succ, i64_w, i32_w]
                                                                      rfl
                                                                    refine done_ (done_of HT_.out (by kernel_rfl)) ?_
                                                                    try go_wp2
                                                                    go_roundg kj53
                                                                    case measure => have := HJ8.out; have := HK2.out; have := HK3.out; have := HJ49.out; have := HK5.out; have := HJ53.out; omega
                                                                    case rel => exact ⟨(wrap64 (x13_5 + 1)), (by first | rfl | (simp; done) | (simp [*]; done)), H', ⟨by have := HJ8.out; have := HK2.out; have := HK3.out; have := HJ49.out; have := HK5.out; have := HJ53.out; omega⟩, ⟨by (with_reducible repeat (first | apply Kd.R_alloc | apply Kd.R_drewN | apply Kd.R_drew)); exact HO_6.out⟩, ⟨by (with_reducible repeat (first | apply Kd.R_alloc | apply Kd.R_drewN | apply Kd.R_drew)); exact Kd.R_mono HO_7.out (fun _ hk => trivial)⟩, ⟨by (with_reducible repeat (first | apply Kd.S_alloc | apply Kd.S_drewN | apply Kd.S_drew)); exact HO_8.out⟩, ⟨by (with_reducible repeat (first | apply Kd.R_alloc | apply Kd.R_drewN | apply Kd.R_drew)); exact HO_9.out⟩, ⟨by repeat (first | (with_reducible first | exact HB.out | apply below_alloc | apply pw_below_drewN | apply below_drew1) | exact HB.out)⟩⟩
                                                                  · replace c76 := Bool.eq_false_iff.mpr c76
                                                                    subst c76
                                                                    have H1 : (some false) = some r := by rw [if_neg (show ¬ (false = true) by decide)] at H; exact H
                                                                    clear H
                                                                    have H := H1
                                                                    clear H1
                                                                    obtain rfl := Option.some.inj H
                                                                    obtain ⟨Ao82, co82, eo82⟩ := Kd.S_slice HO_8.out
                                                                    subst eo82
                                                                    have p154 : 0 ≤ (x12_3 : Int) := of_decide_eq_true (by first | (with_reducible assumption) | assumption)
                                                                    have q154 : x12_3 < (t136.length : Int) := of_decide_eq_true (by first | (with_reducible assumption) | assumption)
                                                                    obtain ⟨ad154, A154_0, c154_0, e154, hx154_0, hl154_0, hi154_0⟩ := at_L1 (Kd.S_reads' HO_8.out).2.2 x12_3 p154 q154
                                                                    cases e154
                                                                    obtain ⟨ce154, hce154, hMe154, hcc154⟩ := Kd.S_get HO_8.out [] x12_3 p154 (by first | exact q154 | exact of_decide_eq_true (by first | (with_reducible assumption) | assumption) | (have e_ := (Kd.S_reads' HO_8.out).1; omega))
                                                                    obtain ⟨ve154_0, rfl, ge154_0⟩ := hMe154
                                                                    have hv154_0 := hcc154 0 _ rfl
                                                                    rw [Nat.add_zero, show ((Kd.slice 3 (Kd.int .i64))).sz = 1 from rfl, Nat.mul_one] at hv154_0
                                                                    replace hv154_0 := Option.some.inj (hv154_0.symm.trans hx154_0)
                                                                    rw [hv154_0] at ge154_0
                                                                    have HL154_0 := Aside0.mk (show Kd.R (Kd.int .i64) 3 _ _ _ _ (rd_L1 t136 x12_3) from ge154_0)
                                                                    clear hv154_0 ge154_0
                                                                    clear hcc154 hce154
                                                                    have HR154_0 := Aside0.mk hi154_0
                                                                    have HC154_0 := Aside0.mk hl154_0
                                                                    clear hi154_0 hl154_0
                                                                    replace p154 := eq_true p154
                                                                    replace q154 := eq_true q154
                                                                    have p155 : 0 ≤ (x13_5 : Int) := of_decide_eq_true (by first | (with_reducible assumption) | assumption)
                                                                    have q155 : x13_5 < ((rd_L1 t136 x12_3).length : Int) := of_decide_eq_true (by first | (with_reducible assumption) | assumption)
                                                                    obtain ⟨ad155, e155, hx155_0⟩ := Kd.at_int (by repeat (first | (with_reducible exact HR154_0.out) | (with_reducible refine Kd.C_alloc ?_ _) | (with_reducible refine Kd.C_drewN ?_ _) | (with_reducible refine Kd.C_drew ?_) | exact HR154_0.out)) x13_5 p155 q155
                                                                    cases e155
                                                                    replace p155 := eq_true p155
                                                                    replace q155 := eq_true q155
                                                                    try go_wp2
                                                                    have n0_ := Aside0.mk (Kd.R_drew HO_6.out)
                                                                    have n1_ := Aside0.mk (Kd.R_drew HO_7.out)
                                                                    have n2_ := Aside0.mk (Kd.S_drew HO_8.out)
                                                                    have n3_ := Aside0.mk (Kd.R_drew HO_9.out)
                                                                    have n4_ := Aside0.mk (Kd.R_drew HL154_0.out)
                                                                    have n5_ := Aside0.mk (Kd.C_drew HR154_0.out)
                                                                    have n6_ := Aside0.mk (below_drew1 HB.out)
                                                                    clear HO_6
                                                                    clear HO_7
                                                                    clear HO_8
                                                                    clear HO_9
                                                                    clear HL154_0
                                                                    clear HR154_0
                                                                    clear HB
                                                                    have HO_6 := n0_
                                                                    have HO_7 := n1_
                                                                    have HO_8 := n2_
                                                                    have HO_9 := n3_
                                                                    have HL154_0 := n4_
                                                                    have HR154_0 := n5_
                                                                    have HB := n6_
                                                                    clear n0_ n1_ n2_ n3_ n4_ n5_ n6_
                                                                    have p156 : 0 ≤ ((rd (rd_L1 t136 x12_3) x13_5) : Int) := of_decide_eq_true (by first | (with_reducible assumption) | assumption)
                                                                    have q156 : (rd (rd_L1 t136 x12_3) x13_5) < (t133.length : Int) := of_decide_eq_true (by first | (with_reducible assumption) | assumption)
                                                                    obtain ⟨ad156, e156, hx156_0⟩ := Kd.at_bool (Kd.R_reads' HO_7.out).2.2 (rd (rd_L1 t136 x12_3) x13_5) p156 q156
                                                                    (try rw [← Nbq68.out] at hx156_0)
                                                                    (try rw [← Nbq75.out] at hx156_0)
                                                                    obtain rfl : ad151 = ad156 := (by injection e156)
                                                                    replace p156 := eq_true p156
                                                                    replace q156 := eq_true q156
                                                                    obtain ⟨Ao84, co84, eo84⟩ := Kd.R_slice HO_9.out
                                                                    (first | subst eo84 | (injection eo84 with f1_ f2_ f3_; have f4_ := f1_.symm; have f5_ := f3_.symm; clear f1_ f2_ f3_; subst f4_; subst f5_))
                                                                    have p157 : 0 ≤ ((rd (rd_L1 t136 x12_3) x13_5) : Int) := of_decide_eq_true (by first | (with_reducible assumption) | assumption)
                                                                    have q157 : (rd (rd_L1 t136 x12_3) x13_5) < (x9_2.length : Int) := of_decide_eq_true (by first | (with_reducible assumption) | assumption)
                                                                    obtain ⟨ad157, e157, hx157_0⟩ := Kd.at_int (Kd.R_reads' HO_9.out).2.2 (rd (rd_L1 t136 x12_3) x13_5) p157 q157
                                                                    cases e157
                                                                    replace p157 := eq_true p157
                                                                    replace q157 := eq_true q157
                                                                    have p158 : 0 ≤ (x12_3 : Int) := of_decide_eq_true (by first | (with_reducible assumption) | assumption)
                                                                    have q158 : x12_3 < (x9_2.length : Int) := of_decide_eq_true (by first | (with_reducible assumption) | assumption)
                                                                    obtain ⟨ad158, e158, hx158_0⟩ := Kd.at_int (Kd.R_reads' HO_9.out).2.2 x12_3 p158 q158
                                                                    obtain rfl : ad157 = ad158 := (by injection e158)
                                                                    replace p158 := eq_true p158
                                                                    replace q158 := eq_true q158
                                                                    refine start_ (n := 25) (S := fun w' => w'.cell? (ad151.add ((rd (rd_L1 t136 x12_3) x13_5)).toNat) = some (.bool true) ∧ w'.cell? (ad157.add ((rd (rd_L1 t136 x12_3) x13_5)).toNat) = some (.int .i64 (rd x9_2 (rd (rd_L1 t136 x12_3) x13_5))) ∧ w'.cell? (ad157.add (x12_3).toNat) = some (.int .i64 (rd x9_2 x12_3))) (ds := []) #[false, false, false, false, false, false, false, false, false, false, false, false, false, false, false, false, false, false, false, false, false, false, false, false, false] (by kernel_rfl) rfl rfl ⟨hx156_0, hx157_0, hx158_0⟩ (fun hHeld => ?_); refine with_tabW bywashlaw10_GraphOrder.tab26 bywashlaw10_GraphOrder.bits26 (fun HT_ HW_ => ?_)
                                                                    generalize wc.drew = w83 at HO_6 HO_7 HO_8 HO_9 HL154_0 HR154_0 HB hx156_0 hx157_0 hx158_0 hHeld ⊢
                                                                    refine pure_ (i := 0) (N := some 125) (v := ?_) (a' := ?_) #[true, false, false, false, false, false, false, false, false, false, false, false, false, false, false, false, false, false, false, false, false, false, false, false, false] rfl rfl (any_of HT_.out (by kernel_rfl)) (fun _ _ _ h => h) (Or.inl ⟨by rfl, ?_⟩) ?_ ?_
                                                                    rotate_left
                                                                    · intro w'
                                                                      go_simp
                                                                      with_reducible rfl
                                                                    rotate_left
                                                                    · simp only [Act.put, List.setIfInBounds_toArray, List.set_cons_zero, List.set_cons_succ, i64_w, i32_w]
                                                                      rfl
                                                                    refine pure_ (i := 1) (N := some 126) (v := ?_) (a' := ?_) #[true, true, false, false, false, false, false, false, false, false, false, false, false, false, false, false, false, false, false, false, false, false, false, false, false] rfl rfl (any_of HT_.out (by kernel_rfl)) (fun _ _ _ h => h) (Or.inl ⟨by rfl, ?_⟩) ?_ ?_
                                                                    rotate_left
                                                                    · intro w'
                                                                      go_simp
                                                                      with_reducible rfl
                                                                    rotate_left
                                                                    · simp only [Act.put, List.setIfInBounds_toArray, List.set_cons_zero, List.set_cons_succ, i64_w, i32_w]
                                                                      rfl
                                                                    refine pure_ (i := 2) (N := some 127) (v := ?_) (a' := ?_) #[true, true, true, false, false, false, false, false, false, false, false, false, false, false, false, false, false, false, false, false, false, false, false, false, false] rfl rfl (any_of HT_.out (by kernel_rfl)) (fun _ _ _ h => h) (Or.inl ⟨by rfl, ?_⟩) ?_ ?_
                                                                    rotate_left
                                                                    · intro w'
                                                                      go_simp
                                                                      with_reducible rfl
                                                                    rotate_left
                                                                    · simp only [Act.put, List.setIfInBounds_toArray, List.set_cons_zero, List.set_cons_succ, i64_w, i32_w]
                                                                      rfl
                                                                    refine take_ (i := 3) (N := some 128) (v := ?_) (a' := ?_) #[true, true, true, true, false, false, false, false, false, false, false, false, false, false, false, false, false, false, false, false, false, false, false, false, false] rfl rfl (take_ofW HT_.out HW_.out (by kernel_rfl)) (fun _ _ _ h => h) (Or.inl ⟨by rfl, ?_⟩) hHeld ?_ ?_
                                                                    rotate_left
                                                                    · rintro w' ⟨s0, s1, s2⟩
                                                                      go_simp
                                                                      with_reducible rfl
                                                                    rotate_left
                                                                    · simp only [Act.put, List.setIfInBounds_toArray, List.set_cons_zero, List.set_cons_succ, i64_w, i32_w]
                                                                      rfl
                                                                    refine pure_ (i := 4) (N := some 129) (v := ?_) (a' := ?_) #[true, true, true, true, true, false, false, false, false, false, false, false, false, false, false, false, false, false, false, false, false, false, false, false, false] rfl rfl (any_of HT_.out (by kernel_rfl)) (fun _ _ _ h => h) (Or.inl ⟨by rfl, ?_⟩) ?_ ?_
                                                                    rotate_left
                                                                    · intro w'
                                                                      go_simp
                                                                      with_reducible rfl
                                                                    rotate_left
                                                                    · simp only [Act.put, List.setIfInBounds_toArray, List.set_cons_zero, List.set_cons_succ, i64_w, i32_w]
                                                                      rfl
                                                                    refine pure_ (i := 5) (N := some 130) (v := ?_) (a' := ?_) #[true, true, true, true, true, true, false, false, false, false, false, false, false, false, false, false, false, false, false, false, false, false, false, false, false] rfl rfl (any_of HT_.out (by kernel_rfl)) (fun _ _ _ h => h) (Or.inl ⟨by rfl, ?_⟩) ?_ ?_
                                                                    rotate_left
                                                                    · intro w'
                                                                      go_simp
                                                                      with_reducible rfl
                                                                    rotate_left
                                                                    · simp only [Act.put, List.setIfInBounds_toArray, List.set_cons_zero, List.set_cons_succ, i64_w, i32_w]
                                                                      rfl
                                                                    refine pure_ (i := 6) (N := some 131) (v := ?_) (a' := ?_) #[true, true, true, true, true, true, true, false, false, false, false, false, false, false, false, false, false, false, false, false, false, false, false, false, false] rfl rfl (any_of HT_.out (by kernel_rfl)) (fun _ _ _ h => h) (Or.inl ⟨by rfl, ?_⟩) ?_ ?_
                                                                    rotate_left
                                                                    · intro w'
                                                                      go_simp
                                                                      with_reducible rfl
                                                                    rotate_left
                                                                    · simp only [Act.put, List.setIfInBounds_toArray, List.set_cons_zero, List.set_cons_succ, i64_w, i32_w]
                                                                      rfl
                                                                    refine pure_ (i := 7) (N := some 132) (v := ?_) (a' := ?_) #[true, true, true, true, true, true, true, true, false, false, false, false, false, false, false, false, false, false, false, false, false, false, false, false, false] rfl rfl (any_of HT_.out (by kernel_rfl)) (fun _ _ _ h => h) (Or.inl ⟨by rfl, ?_⟩) ?_ ?_
                                                                    rotate_left
                                                                    · intro w'
                                                                      go_simp
                                                                      with_reducible rfl
                                                                    rotate_left
                                                                    · simp only [Act.put, List.setIfInBounds_toArray, List.set_cons_zero, List.set_cons_succ, i64_w, i32_w]
                                                                      rfl
                                                                    refine pure_ (i := 8) (N := some 133) (v := ?_) (a' := ?_) #[true, true, true, true, true, true, true, true, true, false, false, false, false, false, false, false, false, false, false, false, false, false, false, false, false] rfl rfl (any_of HT_.out (by kernel_rfl)) (fun _ _ _ h => h) (Or.inl ⟨by rfl, ?_⟩) ?_ ?_
                                                                    rotate_left
                                                                    · intro w'
                                                                      go_simp
                                                                      with_reducible rfl
                                                                    rotate_left
                                                                    · simp only [Act.put, List.setIfInBounds_toArray, List.set_cons_zero, List.set_cons_succ, i64_w, i32_w]
                                                                      rfl
                                                                    refine pure_ (i := 10) (N := some 135) (v := ?_) (a' := ?_) #[true, true, true, true, true, true, true, true, true, false, true, false, false, false, false, false, false, false, false, false, false, false, false, false, false] rfl rfl (any_of HT_.out (by kernel_rfl)) (fun _ _ _ h => h) (Or.inl ⟨by rfl, ?_⟩) ?_ ?_
                                                                    rotate_left
                                                                    · intro w'
                                                                      go_simp
                                                                      with_reducible rfl
                                                                    rotate_left
                                                                    · simp only [Act.put, List.setIfInBounds_toArray, List.set_cons_zero, List.set_cons_succ, i64_w, i32_w]
                                                                      rfl
                                                                    refine pure_ (i := 11) (N := some 136) (v := ?_) (a' := ?_) #[true, true, true, true, true, true, true, true, true, false, true, true, false, false, false, false, false, false, false, false, false, false, false, false, false] rfl rfl (any_of HT_.out (by kernel_rfl)) (fun _ _ _ h => h) (Or.inl ⟨by rfl, ?_⟩) ?_ ?_
                                                                    rotate_left
                                                                    · intro w'
                                                                      go_simp
                                                                      with_reducible rfl
                                                                    rotate_left
                                                                    · simp only [Act.put, List.setIfInBounds_toArray, List.set_cons_zero, List.set_cons_succ, i64_w, i32_w]
                                                                      rfl
                                                                    refine pure_ (i := 12) (N := some 137) (v := ?_) (a' := ?_) #[true, true, true, true, true, true, true, true, true, false, true, true, true, false, false, false, false, false, false, false, false, false, false, false, false] rfl rfl (any_of HT_.out (by kernel_rfl)) (fun _ _ _ h => h) (Or.inl ⟨by rfl, ?_⟩) ?_ ?_
                                                                    rotate_left
                                                                    · intro w'
                                                                      go_simp
                                                                      with_reducible rfl
                                                                    rotate_left
                                                                    · simp only [Act.put, List.setIfInBounds_toArray, List.set_cons_zero, List.set_cons_succ, i64_w, i32_w]
                                                                      rfl
                                                                    refine take_ (i := 9) (N := some 134) (v := ?_) (a' := ?_) #[true, true, true, true, true, true, true, true, true, true, true, true, true, false, false, false, false, false, false, false, false, false, false, false, false] rfl rfl (take_ofW HT_.out HW_.out (by kernel_rfl)) (fun _ _ _ h => h) (Or.inl ⟨by rfl, ?_⟩) hHeld ?_ ?_
                                                                    rotate_left
                                                                    · rintro w' ⟨s0, s1, s2⟩
                                                                      go_simp
                                                                      with_reducible rfl
                                                                    rotate_left
                                                                    · simp only [Act.put, List.setIfInBounds_toArray, List.set_cons_zero, List.set_cons_succ, i64_w, i32_w]
                                                                      rfl
                                                                    refine take_ (i := 13) (N := some 138) (v := ?_) (a' := ?_) #[true, true, true, true, true, true, true, true, true, true, true, true, true, true, false, false, false, false, false, false, false, false, false, false, false] rfl rfl (take_ofW HT_.out HW_.out (by kernel_rfl)) (fun _ _ _ h => h) (Or.inl ⟨by rfl, ?_⟩) hHeld ?_ ?_
                                                                    rotate_left
                                                                    · rintro w' ⟨s0, s1, s2⟩
                                                                      go_simp
                                                                      with_reducible rfl
                                                                    rotate_left
                                                                    · simp only [Act.put, List.setIfInBounds_toArray, List.set_cons_zero, List.set_cons_succ, i64_w, i32_w]
                                                                      rfl
                                                                    refine pure_ (i := 14) (N := some 139) (v := ?_) (a' := ?_) #[true, true, true, true, true, true, true, true, true, true, true, true, true, true, true, false, false, false, false, false, false, false, false, false, false] rfl rfl (any_of HT_.out (by kernel_rfl)) (fun _ _ _ h => h) (Or.inl ⟨by rfl, ?_⟩) ?_ ?_
                                                                    rotate_left
                                                                    · intro w'
                                                                      go_simp
                                                                      with_reducible rfl
                                                                    rotate_left
                                                                    · simp only [Act.put, List.setIfInBounds_toArray, List.set_cons_zero, List.set_cons_succ, i64_w, i32_w]
                                                                      rfl
                                                                    refine pure_ (i := 15) (N := some 140) (v := ?_) (a' := ?_) #[true, true, true, true, true, true, true, true, true, true, true, true, true, true, true, true, false, false, false, false, false, false, false, false, false] rfl rfl (any_of HT_.out (by kernel_rfl)) (fun _ _ _ h => h) (Or.inl ⟨by rfl, ?_⟩) ?_ ?_
                                                                    rotate_left
                                                                    · intro w'
                                                                      go_simp
                                                                      with_reducible rfl
                                                                    rotate_left
                                                                    · simp only [Act.put, List.setIfInBounds_toArray, List.set_cons_zero, List.set_cons_succ, i64_w, i32_w]
                                                                      rfl
                                                                    refine pure_ (i := 16) (N := some 141) (v := ?_) (a' := ?_) #[true, true, true, true, true, true, true, true, true, true, true, true, true, true, true, true, true, false, false, false, false, false, false, false, false] rfl rfl (any_of HT_.out (by kernel_rfl)) (fun _ _ _ h => h) (Or.inl ⟨by rfl, ?_⟩) ?_ ?_
                                                                    rotate_left
                                                                    · intro w'
                                                                      go_simp
                                                                      with_reducible rfl
                                                                    rotate_left
                                                                    · simp only [Act.put, List.setIfInBounds_toArray, List.set_cons_zero, List.set_cons_succ, i64_w, i32_w]
                                                                      rfl
                                                                    refine pure_ (i := 17) (N := some 142) (v := ?_) (a' := ?_) #[true, true, true, true, true, true, true, true, true, true, true, true, true, true, true, true, true, true, false, false, false, false, false, false, false] rfl rfl (any_of HT_.out (by kernel_rfl)) (fun _ _ _ h => h) (Or.inl ⟨by rfl, ?_⟩) ?_ ?_
                                                                    rotate_left
                                                                    · intro w'
                                                                      go_simp
                                                                      with_reducible rfl
                                                                    rotate_left
                                                                    · simp only [Act.put, List.setIfInBounds_toArray, List.set_cons_zero, List.set_cons_succ, i64_w, i32_w]
                                                                      rfl
                                                                    refine pure_ (i := 19) (N := some 144) (v := ?_) (a' := ?_) #[true, true, true, true, true, true, true, true, true, true, true, true, true, true, true, true, true, true, false, true, false, false, false, false, false] rfl rfl (any_of HT_.out (by kernel_rfl)) (fun _ _ _ h => h) (Or.inl ⟨by rfl, ?_⟩) ?_ ?_
                                                                    rotate_left
                                                                    · intro w'
                                                                      go_simp
                                                                      with_reducible rfl
                                                                    rotate_left
                                                                    · simp only [Act.put, List.setIfInBounds_toArray, List.set_cons_zero, List.set_cons_succ, i64_w, i32_w]
                                                                      rfl
                                                                    refine one_ (i := 18) (N := some 143) #[true, true, true, true, true, true, true, true, true, true, true, true, true, true, true, true, true, true, true, true, false, false, false, false, false] rfl rfl (one_of HT_.out (by kernel_rfl)) (by decide) (fun K hK => ?_)
                                                                    refine goes_ Try.func23 (by kernel_rfl) rfl #[.slice A0 l0.length c0, .int .i64 (rd (rd_L1 t136 x12_3) x13_5)] (by rfl) rfl rfl (by (try simp only [List.map_toArray, List.map_cons, List.map_nil]); first | done | rfl | (simp only [List.length_drop, List.length_take]; rfl)) ?_
                                                                    with_reducible refine (graph_Reach.calls _ _ l0 (rd (rd_L1 t136 x12_3) x13_5) t159 _ ?side1 ?side2 A73.out).mono ?_
                                                                    (case side1 => repeat (first | exact (Kd.C_below HR0.out HB.out) | (with_reducible refine Kd.C_alloc ?_ _) | (with_reducible refine Kd.C_drewN ?_ _) | (with_reducible refine Kd.C_drew ?_)))
                                                                    (case side2 => exact HC0.out)
                                                                    rintro e w85 ⟨v160, rfl, ho0, hb⟩
                                                                    have HS0_ := (hb.cell (World.block_lt_of_cell? _ _ (hHeld.1))).trans (hHeld.1)
                                                                    have HS1_ := (hb.cell (World.block_lt_of_cell? _ _ (hHeld.2.1))).trans (hHeld.2.1)
                                                                    have HS2_ := (hb.cell (World.block_lt_of_cell? _ _ (hHeld.2.2))).trans (hHeld.2.2)
                                                                    skip
                                                                    refine ⟨_, rfl, ?_⟩
                                                                    have n0_ := Aside0.mk (Kd.R_below (by (with_reducible repeat (first | apply Kd.R_alloc | apply Kd.R_drewN | apply Kd.R_drew)); exact HO_6.out) hb)
                                                                    have n1_ := Aside0.mk (Kd.R_elder' (by (with_reducible repeat (first | apply Kd.R_alloc | apply Kd.R_drewN | apply Kd.R_drew)); exact HO_7.out) (Kd.R_base ho0) hb)
                                                                    have n2_ := Aside0.mk (Kd.S_below (by (with_reducible repeat (first | apply Kd.S_alloc | apply Kd.S_drewN | apply Kd.S_drew)); exact HO_8.out) hb)
                                                                    have n3_ := Aside0.mk (Kd.R_below (by (with_reducible repeat (first | apply Kd.R_alloc | apply Kd.R_drewN | apply Kd.R_drew)); exact HO_9.out) hb)
                                                                    have n4_ := Aside0.mk (Kd.R_below (by (with_reducible repeat (first | apply Kd.R_alloc | apply Kd.R_drewN | apply Kd.R_drew)); exact HL154_0.out) hb)
                                                                    have n5_ := Aside0.mk (Kd.R_lower (Kd.R_new' ho0 (Kd.R_lt (by (with_reducible repeat (first | apply Kd.R_alloc | apply Kd.R_drewN | apply Kd.R_drew)); exact HO_7.out))) (below_size (by repeat (first | (with_reducible first | exact HB.out | apply below_alloc | apply pw_below_drewN | apply below_drew1) | exact HB.out))))
                                                                    have n6_ := Aside0.mk (Kd.C_below (by repeat (first | (with_reducible exact HR154_0.out) | (with_reducible refine Kd.C_alloc ?_ _) | (with_reducible refine Kd.C_drewN ?_ _) | (with_reducible refine Kd.C_drew ?_) | exact HR154_0.out)) hb)
                                                                    have n7_ := Aside0.mk (below_step (by repeat (first | (with_reducible first | exact HB.out | apply below_alloc | apply pw_below_drewN | apply below_drew1) | exact HB.out)) hb)
                                                                    clear HO_6
                                                                    clear HO_7
                                                                    clear HO_8
                                                                    clear HO_9
                                                                    clear HL154_0
                                                                    clear HR154_0
                                                                    clear HB
                                                                    have HO_6 := n0_
                                                                    have HO_7 := n1_
                                                                    have HO_8 := n2_
                                                                    have HO_9 := n3_
                                                                    have HL154_0 := n4_
                                                                    have HO161 := n5_
                                                                    have HR154_0 := n6_
                                                                    have HB := n7_
                                                                    clear n0_ n1_ n2_ n3_ n4_ n5_ n6_ n7_
                                                                    (try clear hb)
                                                                    (try clear hb2)
                                                                    (try clear hk)
                                                                    (try clear hi)
                                                                    (try clear ho0)
                                                                    obtain ⟨Ao86, co86, eo86⟩ := Kd.R_slice HO161.out
                                                                    (first | subst eo86 | (injection eo86 with f1_ f2_ f3_; have f4_ := f1_.symm; have f5_ := f3_.symm; clear f1_ f2_ f3_; subst f4_; subst f5_))
                                                                    have p162 : 0 ≤ (x12_3 : Int) := of_decide_eq_true (by first | (with_reducible assumption) | assumption)
                                                                    have q162 : x12_3 < (t159.length : Int) := of_decide_eq_true (by first | (with_reducible assumption) | assumption)
                                                                    obtain ⟨ad162, e162, hx162_0⟩ := Kd.at_bool (Kd.R_reads' HO161.out).2.2 x12_3 p162 q162
                                                                    (try rw [← Nbq68.out] at hx162_0)
                                                                    (try rw [← Nbq75.out] at hx162_0)
                                                                    cases e162
                                                                    replace p162 := eq_true p162
                                                                    replace q162 := eq_true q162
                                                                    refine hK.out _ _ ⟨HS0_, HS1_, HS2_⟩ (fun hHeld => ?_)
                                                                    refine anyLast_more (S' := fun w' => w'.cell? (ad151.add ((rd (rd_L1 t136 x12_3) x13_5)).toNat) = some (.bool true) ∧ w'.cell? (ad157.add ((rd (rd_L1 t136 x12_3) x13_5)).toNat) = some (.int .i64 (rd x9_2 (rd (rd_L1 t136 x12_3) x13_5))) ∧ w'.cell? (ad157.add (x12_3).toNat) = some (.int .i64 (rd x9_2 x12_3)) ∧ w'.cell? (ad162.add (x12_3).toNat) = some (.bool false)) (fun w' h => ⟨h.1, h.2.1, h.2.2.1⟩) _ _ _ _ ⟨hHeld.1, hHeld.2.1, hHeld.2.2, hx162_0⟩ ?_
                                                                    replace hHeld := And.intro hHeld.1 (And.intro hHeld.2.1 (And.intro hHeld.2.2 (hx162_0)))
                                                                    clear hK K
                                                                    refine norm_ (a' := ?_) ?_ ?_
                                                                    rotate_left
                                                                    · show Act.put _ (some 143) _ = _
                                                                      simp only [Act.put, List.setIfInBounds_toArray, List.set_cons_zero, List.set_cons_succ, i64_w, i32_w]
                                                                      rfl
                                                                    refine pure_ (i := 20) (N := some 145) (v := ?_) (a' := ?_) #[true, true, true, true, true, true, true, true, true, true, true, true, true, true, true, true, true, true, true, true, true, false, false, false, false] rfl rfl (any_of HT_.out (by kernel_rfl)) (fun _ _ _ h => h) (Or.inl ⟨by rfl, ?_⟩) ?_ ?_
                                                                    rotate_left
                                                                    · intro w'
                                                                      go_simp
                                                                      with_reducible rfl
                                                                    rotate_left
                                                                    · simp only [Act.put, List.setIfInBounds_toArray, List.set_cons_zero, List.set_cons_succ, i64_w, i32_w]
                                                                      rfl
                                                                    refine take_ (i := 21) (N := some 146) (v := ?_) (a' := ?_) #[true, true, true, true, true, true, true, true, true, true, true, true, true, true, true, true, true, true, true, true, true, true, false, false, false] rfl rfl (take_ofW HT_.out HW_.out (by kernel_rfl)) (fun _ _ _ h => h) (Or.inl ⟨by rfl, ?_⟩) hHeld ?_ ?_
                                                                    rotate_left
                                                                    · rintro w' ⟨s0, s1, s2, s3⟩
                                                                      go_simp
                                                                      with_reducible rfl
                                                                    rotate_left
                                                                    · simp only [Act.put, List.setIfInBounds_toArray, List.set_cons_zero, List.set_cons_succ, i64_w, i32_w]
                                                                      rfl
                                                                    refine pure_ (i := 22) (N := some 147) (v := ?_) (a' := ?_) #[true, true, true, true, true, true, true, true, true, true, true, true, true, true, true, true, true, true, true, true, true, true, true, false, false] rfl rfl (any_of HT_.out (by kernel_rfl)) (fun _ _ _ h => h) (Or.inl ⟨by rfl, ?_⟩) ?_ ?_
                                                                    rotate_left
                                                                    · intro w'
                                                                      go_simp
                                                                      with_reducible rfl
                                                                    rotate_left
                                                                    · simp only [Act.put, List.setIfInBounds_toArray, List.set_cons_zero, List.set_cons_succ, i64_w, i32_w]
                                                                      rfl
                                                                    refine pure_ (i := 23) (N := some 148) (v := ?_) (a' := ?_) #[true, true, true, true, true, true, true, true, true, true, true, true, true, true, true, true, true, true, true, true, true, true, true, true, false] rfl rfl (any_of HT_.out (by kernel_rfl)) (fun _ _ _ h => h) (Or.inl ⟨by rfl, ?_⟩) ?_ ?_
                                                                    rotate_left
                                                                    · intro w'
                                                                      go_simp
                                                                      with_reducible rfl
                                                                    rotate_left
                                                                    · simp only [Act.put, List.setIfInBounds_toArray, List.set_cons_zero, List.set_cons_succ, i64_w, i32_w]
                                                                      rfl
                                                                    refine pure_ (i := 24) (N := some 149) (v := ?_) (a' := ?_) #[true, true, true, true, true, true, true, true, true, true, true, true, true, true, true, true, true, true, true, true, true, true, true, true, true] rfl rfl (any_of HT_.out (by kernel_rfl)) (fun _ _ _ h => h) (Or.inl ⟨by rfl, ?_⟩) ?_ ?_
                                                                    rotate_left
                                                                    · intro w'
                                                                      go_simp
                                                                      with_reducible rfl
                                                                    rotate_left
                                                                    · simp only [Act.put, List.setIfInBounds_toArray, List.set_cons_zero, List.set_cons_succ, i64_w, i32_w]
                                                                      rfl
                                                                    refine done_ (done_of HT_.out (by kernel_rfl)) ?_
                                                                    try go_wp2
                                                                    go_ret
                                                                    exact ⟨by first | rfl | (simp [errW_none, errW_some] <;> rfl) | (simp [*, errW_none, errW_some] <;> rfl), by repeat (first | (with_reducible first | exact HB.out | apply below_alloc | apply pw_below_drewN | apply below_drew1) | exact HB.out)⟩
                                                                · rw [if_neg c74] at H
                                                                  exact absurd H (by simp)
                                                              · rw [if_neg c72] at H
                                                                have c72b0 : decide ((rd x9_2 (rd (rd_L1 t136 x12_3) x13_5)) ≤ (rd x9_2 x12_3)) = false := decide_eq_false c72
                                                                clear c72
                                                                have H' := Aside0.mk H
                                                                clear H
                                                                obtain ⟨Ao87, co87, eo87⟩ := Kd.S_slice HO_8.out
                                                                subst eo87
                                                                have p154 : 0 ≤ (x12_3 : Int) := of_decide_eq_true (by first | (with_reducible assumption) | assumption)
                                                                have q154 : x12_3 < (t136.length : Int) := of_decide_eq_true (by first | (with_reducible assumption) | assumption)
                                                                obtain ⟨ad154, A154_0, c154_0, e154, hx154_0, hl154_0, hi154_0⟩ := at_L1 (Kd.S_reads' HO_8.out).2.2 x12_3 p154 q154
                                                                cases e154
                                                                obtain ⟨ce154, hce154, hMe154, hcc154⟩ := Kd.S_get HO_8.out [] x12_3 p154 (by first | exact q154 | exact of_decide_eq_true (by first | (with_reducible assumption) | assumption) | (have e_ := (Kd.S_reads' HO_8.out).1; omega))
                                                                obtain ⟨ve154_0, rfl, ge154_0⟩ := hMe154
                                                                have hv154_0 := hcc154 0 _ rfl
                                                                rw [Nat.add_zero, show ((Kd.slice 3 (Kd.int .i64))).sz = 1 from rfl, Nat.mul_one] at hv154_0
                                                                replace hv154_0 := Option.some.inj (hv154_0.symm.trans hx154_0)
                                                                rw [hv154_0] at ge154_0
                                                                have HL154_0 := Aside0.mk (show Kd.R (Kd.int .i64) 3 _ _ _ _ (rd_L1 t136 x12_3) from ge154_0)
                                                                clear hv154_0 ge154_0
                                                                clear hcc154 hce154
                                                                have HR154_0 := Aside0.mk hi154_0
                                                                have HC154_0 := Aside0.mk hl154_0
                                                                clear hi154_0 hl154_0
                                                                replace p154 := eq_true p154
                                                                replace q154 := eq_true q154
                                                                have p155 : 0 ≤ (x13_5 : Int) := of_decide_eq_true (by first | (with_reducible assumption) | assumption)
                                                                have q155 : x13_5 < ((rd_L1 t136 x12_3).length : Int) := of_decide_eq_true (by first | (with_reducible assumption) | assumption)
                                                                obtain ⟨ad155, e155, hx155_0⟩ := Kd.at_int (by repeat (first | (with_reducible exact HR154_0.out) | (with_reducible refine Kd.C_alloc ?_ _) | (with_reducible refine Kd.C_drewN ?_ _) | (with_reducible refine Kd.C_drew ?_) | exact HR154_0.out)) x13_5 p155 q155
                                                                cases e155
                                                                replace p155 := eq_true p155
                                                                replace q155 := eq_true q155
                                                                try go_wp2
                                                                have n0_ := Aside0.mk (Kd.R_drew HO_6.out)
                                                                have n1_ := Aside0.mk (Kd.R_drew HO_7.out)
                                                                have n2_ := Aside0.mk (Kd.S_drew HO_8.out)
                                                                have n3_ := Aside0.mk (Kd.R_drew HO_9.out)
                                                                have n4_ := Aside0.mk (Kd.R_drew HL154_0.out)
                                                                have n5_ := Aside0.mk (Kd.C_drew HR154_0.out)
                                                                have n6_ := Aside0.mk (below_drew1 HB.out)
                                                                clear HO_6
                                                                clear HO_7
                                                                clear HO_8
                                                                clear HO_9
                                                                clear HL154_0
                                                                clear HR154_0
                                                                clear HB
                                                                have HO_6 := n0_
                                                                have HO_7 := n1_
                                                                have HO_8 := n2_
                                                                have HO_9 := n3_
                                                                have HL154_0 := n4_
                                                                have HR154_0 := n5_
                                                                have HB := n6_
                                                                clear n0_ n1_ n2_ n3_ n4_ n5_ n6_
                                                                have p156 : 0 ≤ ((rd (rd_L1 t136 x12_3) x13_5) : Int) := of_decide_eq_true (by first | (with_reducible assumption) | assumption)
                                                                have q156 : (rd (rd_L1 t136 x12_3) x13_5) < (t133.length : Int) := of_decide_eq_true (by first | (with_reducible assumption) | assumption)
                                                                obtain ⟨ad156, e156, hx156_0⟩ := Kd.at_bool (Kd.R_reads' HO_7.out).2.2 (rd (rd_L1 t136 x12_3) x13_5) p156 q156
                                                                (try rw [← Nbq68.out] at hx156_0)
                                                                obtain rfl : ad151 = ad156 := (by injection e156)
                                                                replace p156 := eq_true p156
                                                                replace q156 := eq_true q156
                                                                obtain ⟨Ao89, co89, eo89⟩ := Kd.R_slice HO_9.out
                                                                (first | subst eo89 | (injection eo89 with f1_ f2_ f3_; have f4_ := f1_.symm; have f5_ := f3_.symm; clear f1_ f2_ f3_; subst f4_; subst f5_))
                                                                have p157 : 0 ≤ ((rd (rd_L1 t136 x12_3) x13_5) : Int) := of_decide_eq_true (by first | (with_reducible assumption) | assumption)
                                                                have q157 : (rd (rd_L1 t136 x12_3) x13_5) < (x9_2.length : Int) := of_decide_eq_true (by first | (with_reducible assumption) | assumption)
                                                                obtain ⟨ad157, e157, hx157_0⟩ := Kd.at_int (Kd.R_reads' HO_9.out).2.2 (rd (rd_L1 t136 x12_3) x13_5) p157 q157
                                                                cases e157
                                                                replace p157 := eq_true p157
                                                                replace q157 := eq_true q157
                                                                have p158 : 0 ≤ (x12_3 : Int) := of_decide_eq_true (by first | (with_reducible assumption) | assumption)
                                                                have q158 : x12_3 < (x9_2.length : Int) := of_decide_eq_true (by first | (with_reducible assumption) | assumption)
                                                                obtain ⟨ad158, e158, hx158_0⟩ := Kd.at_int (Kd.R_reads' HO_9.out).2.2 x12_3 p158 q158
                                                                obtain rfl : ad157 = ad158 := (by injection e158)
                                                                replace p158 := eq_true p158
                                                                replace q158 := eq_true q158
                                                                refine start_ (n := 25) (S := fun w' => w'.cell? (ad151.add ((rd (rd_L1 t136 x12_3) x13_5)).toNat) = some (.bool true) ∧ w'.cell? (ad157.add ((rd (rd_L1 t136 x12_3) x13_5)).toNat) = some (.int .i64 (rd x9_2 (rd (rd_L1 t136 x12_3) x13_5))) ∧ w'.cell? (ad157.add (x12_3).toNat) = some (.int .i64 (rd x9_2 x12_3))) (ds := []) #[false, false, false, false, false, false, false, false, false, false, false, false, false, false, false, false, false, false, false, false, false, false, false, false, false] (by kernel_rfl) rfl rfl ⟨hx156_0, hx157_0, hx158_0⟩ (fun hHeld => ?_); refine with_tabW bywashlaw10_GraphOrder.tab26 bywashlaw10_GraphOrder.bits26 (fun HT_ HW_ => ?_)
                                                                generalize wc.drew = w88 at HO_6 HO_7 HO_8 HO_9 HL154_0 HR154_0 HB hx156_0 hx157_0 hx158_0 hHeld ⊢
                                                                refine pure_ (i := 0) (N := some 125) (v := ?_) (a' := ?_) #[true, false, false, false, false, false, false, false, false, false, false, false, false, false, false, false, false, false, false, false, false, false, false, false, false] rfl rfl (any_of HT_.out (by kernel_rfl)) (fun _ _ _ h => h) (Or.inl ⟨by rfl, ?_⟩) ?_ ?_
                                                                rotate_left
                                                                · intro w'
                                                                  go_simp
                                                                  with_reducible rfl
                                                                rotate_left
                                                                · simp only [Act.put, List.setIfInBounds_toArray, List.set_cons_zero, List.set_cons_succ, i64_w, i32_w]
                                                                  rfl
                                                                refine pure_ (i := 1) (N := some 126) (v := ?_) (a' := ?_) #[true, true, false, false, false, false, false, false, false, false, false, false, false, false, false, false, false, false, false, false, false, false, false, false, false] rfl rfl (any_of HT_.out (by kernel_rfl)) (fun _ _ _ h => h) (Or.inl ⟨by rfl, ?_⟩) ?_ ?_
                                                                rotate_left
                                                                · intro w'
                                                                  go_simp
                                                                  with_reducible rfl
                                                                rotate_left
                                                                · simp only [Act.put, List.setIfInBounds_toArray, List.set_cons_zero, List.set_cons_succ, i64_w, i32_w]
                                                                  rfl
                                                                refine pure_ (i := 2) (N := some 127) (v := ?_) (a' := ?_) #[true, true, true, false, false, false, false, false, false, false, false, false, false, false, false, false, false, false, false, false, false, false, false, false, false] rfl rfl (any_of HT_.out (by kernel_rfl)) (fun _ _ _ h => h) (Or.inl ⟨by rfl, ?_⟩) ?_ ?_
                                                                rotate_left
                                                                · intro w'
                                                                  go_simp
                                                                  with_reducible rfl
                                                                rotate_left
                                                                · simp only [Act.put, List.setIfInBounds_toArray, List.set_cons_zero, List.set_cons_succ, i64_w, i32_w]
                                                                  rfl
                                                                refine take_ (i := 3) (N := some 128) (v := ?_) (a' := ?_) #[true, true, true, true, false, false, false, false, false, false, false, false, false, false, false, false, false, false, false, false, false, false, false, false, false] rfl rfl (take_ofW HT_.out HW_.out (by kernel_rfl)) (fun _ _ _ h => h) (Or.inl ⟨by rfl, ?_⟩) hHeld ?_ ?_
                                                                rotate_left
                                                                · rintro w' ⟨s0, s1, s2⟩
                                                                  go_simp
                                                                  with_reducible rfl
                                                                rotate_left
                                                                · simp only [Act.put, List.setIfInBounds_toArray, List.set_cons_zero, List.set_cons_succ, i64_w, i32_w]
                                                                  rfl
                                                                refine pure_ (i := 4) (N := some 129) (v := ?_) (a' := ?_) #[true, true, true, true, true, false, false, false, false, false, false, false, false, false, false, false, false, false, false, false, false, false, false, false, false] rfl rfl (any_of HT_.out (by kernel_rfl)) (fun _ _ _ h => h) (Or.inl ⟨by rfl, ?_⟩) ?_ ?_
                                                                rotate_left
                                                                · intro w'
                                                                  go_simp
                                                                  with_reducible rfl
                                                                rotate_left
                                                                · simp only [Act.put, List.setIfInBounds_toArray, List.set_cons_zero, List.set_cons_succ, i64_w, i32_w]
                                                                  rfl
                                                                refine pure_ (i := 5) (N := some 130) (v := ?_) (a' := ?_) #[true, true, true, true, true, true, false, false, false, false, false, false, false, false, false, false, false, false, false, false, false, false, false, false, false] rfl rfl (any_of HT_.out (by kernel_rfl)) (fun _ _ _ h => h) (Or.inl ⟨by rfl, ?_⟩) ?_ ?_
                                                                rotate_left
                                                                · intro w'
                                                                  go_simp
                                                                  with_reducible rfl
                                                                rotate_left
                                                                · simp only [Act.put, List.setIfInBounds_toArray, List.set_cons_zero, List.set_cons_succ, i64_w, i32_w]
                                                                  rfl
                                                                refine pure_ (i := 6) (N := some 131) (v := ?_) (a' := ?_) #[true, true, true, true, true, true, true, false, false, false, false, false, false, false, false, false, false, false, false, false, false, false, false, false, false] rfl rfl (any_of HT_.out (by kernel_rfl)) (fun _ _ _ h => h) (Or.inl ⟨by rfl, ?_⟩) ?_ ?_
                                                                rotate_left
                                                                · intro w'
                                                                  go_simp
                                                                  with_reducible rfl
                                                                rotate_left
                                                                · simp only [Act.put, List.setIfInBounds_toArray, List.set_cons_zero, List.set_cons_succ, i64_w, i32_w]
                                                                  rfl
                                                                refine pure_ (i := 7) (N := some 132) (v := ?_) (a' := ?_) #[true, true, true, true, true, true, true, true, false, false, false, false, false, false, false, false, false, false, false, false, false, false, false, false, false] rfl rfl (any_of HT_.out (by kernel_rfl)) (fun _ _ _ h => h) (Or.inl ⟨by rfl, ?_⟩) ?_ ?_
                                                                rotate_left
                                                                · intro w'
                                                                  go_simp
                                                                  with_reducible rfl
                                                                rotate_left
                                                                · simp only [Act.put, List.setIfInBounds_toArray, List.set_cons_zero, List.set_cons_succ, i64_w, i32_w]
                                                                  rfl
                                                                refine pure_ (i := 8) (N := some 133) (v := ?_) (a' := ?_) #[true, true, true, true, true, true, true, true, true, false, false, false, false, false, false, false, false, false, false, false, false, false, false, false, false] rfl rfl (any_of HT_.out (by kernel_rfl)) (fun _ _ _ h => h) (Or.inl ⟨by rfl, ?_⟩) ?_ ?_
                                                                rotate_left
                                                                · intro w'
                                                                  go_simp
                                                                  with_reducible rfl
                                                                rotate_left
                                                                · simp only [Act.put, List.setIfInBounds_toArray, List.set_cons_zero, List.set_cons_succ, i64_w, i32_w]
                                                                  rfl
                                                                refine pure_ (i := 10) (N := some 135) (v := ?_) (a' := ?_) #[true, true, true, true, true, true, true, true, true, false, true, false, false, false, false, false, false, false, false, false, false, false, false, false, false] rfl rfl (any_of HT_.out (by kernel_rfl)) (fun _ _ _ h => h) (Or.inl ⟨by rfl, ?_⟩) ?_ ?_
                                                                rotate_left
                                                                · intro w'
                                                                  go_simp
                                                                  with_reducible rfl
                                                                rotate_left
                                                                · simp only [Act.put, List.setIfInBounds_toArray, List.set_cons_zero, List.set_cons_succ, i64_w, i32_w]
                                                                  rfl
                                                                refine pure_ (i := 11) (N := some 136) (v := ?_) (a' := ?_) #[true, true, true, true, true, true, true, true, true, false, true, true, false, false, false, false, false, false, false, false, false, false, false, false, false] rfl rfl (any_of HT_.out (by kernel_rfl)) (fun _ _ _ h => h) (Or.inl ⟨by rfl, ?_⟩) ?_ ?_
                                                                rotate_left
                                                                · intro w'
                                                                  go_simp
                                                                  with_reducible rfl
                                                                rotate_left
                                                                · simp only [Act.put, List.setIfInBounds_toArray, List.set_cons_zero, List.set_cons_succ, i64_w, i32_w]
                                                                  rfl
                                                                refine pure_ (i := 12) (N := some 137) (v := ?_) (a' := ?_) #[true, true, true, true, true, true, true, true, true, false, true, true, true, false, false, false, false, false, false, false, false, false, false, false, false] rfl rfl (any_of HT_.out (by kernel_rfl)) (fun _ _ _ h => h) (Or.inl ⟨by rfl, ?_⟩) ?_ ?_
                                                                rotate_left
                                                                · intro w'
                                                                  go_simp
                                                                  with_reducible rfl
                                                                rotate_left
                                                                · simp only [Act.put, List.setIfInBounds_toArray, List.set_cons_zero, List.set_cons_succ, i64_w, i32_w]
                                                                  rfl
                                                                refine take_ (i := 9) (N := some 134) (v := ?_) (a' := ?_) #[true, true, true, true, true, true, true, true, true, true, true, true, true, false, false, false, false, false, false, false, false, false, false, false, false] rfl rfl (take_ofW HT_.out HW_.out (by kernel_rfl)) (fun _ _ _ h => h) (Or.inl ⟨by rfl, ?_⟩) hHeld ?_ ?_
                                                                rotate_left
                                                                · rintro w' ⟨s0, s1, s2⟩
                                                                  go_simp
                                                                  with_reducible rfl
                                                                rotate_left
                                                                · simp only [Act.put, List.setIfInBounds_toArray, List.set_cons_zero, List.set_cons_succ, i64_w, i32_w]
                                                                  rfl
                                                                refine take_ (i := 13) (N := some 138) (v := ?_) (a' := ?_) #[true, true, true, true, true, true, true, true, true, true, true, true, true, true, false, false, false, false, false, false, false, false, false, false, false] rfl rfl (take_ofW HT_.out HW_.out (by kernel_rfl)) (fun _ _ _ h => h) (Or.inl ⟨by rfl, ?_⟩) hHeld ?_ ?_
                                                                rotate_left
                                                                · rintro w' ⟨s0, s1, s2⟩
                                                                  go_simp
                                                                  with_reducible rfl
                                                                rotate_left
                                                                · simp only [Act.put, List.setIfInBounds_toArray, List.set_cons_zero, List.set_cons_succ, i64_w, i32_w]
                                                                  rfl
                                                                refine pure_ (i := 14) (N := some 139) (v := ?_) (a' := ?_) #[true, true, true, true, true, true, true, true, true, true, true, true, true, true, true, false, false, false, false, false, false, false, false, false, false] rfl rfl (any_of HT_.out (by kernel_rfl)) (fun _ _ _ h => h) (Or.inl ⟨by rfl, ?_⟩) ?_ ?_
                                                                rotate_left
                                                                · intro w'
                                                                  go_simp
                                                                  with_reducible rfl
                                                                rotate_left
                                                                · simp only [Act.put, List.setIfInBounds_toArray, List.set_cons_zero, List.set_cons_succ, i64_w, i32_w]
                                                                  rfl
                                                                refine pure_ (i := 15) (N := some 140) (v := ?_) (a' := ?_) #[true, true, true, true, true, true, true, true, true, true, true, true, true, true, true, true, false, false, false, false, false, false, false, false, false] rfl rfl (any_of HT_.out (by kernel_rfl)) (fun _ _ _ h => h) (Or.inl ⟨by rfl, ?_⟩) ?_ ?_
                                                                rotate_left
                                                                · intro w'
                                                                  go_simp
                                                                  with_reducible rfl
                                                                rotate_left
                                                                · simp only [Act.put, List.setIfInBounds_toArray, List.set_cons_zero, List.set_cons_succ, i64_w, i32_w]
                                                                  rfl
                                                                refine pure_ (i := 16) (N := some 141) (v := undef) (a' := ?_) #[true, true, true, true, true, true, true, true, true, true, true, true, true, true, true, true, true, false, false, false, false, false, false, false, false] rfl rfl (any_of HT_.out (by kernel_rfl)) (fun _ _ _ h => h) (Or.inr ⟨by rfl, rfl⟩) ?_ ?_
                                                                rotate_left
                                                                · simp only [Act.put, List.setIfInBounds_toArray, List.set_cons_zero, List.set_cons_succ, i64_w, i32_w]
                                                                  rfl
                                                                refine pure_ (i := 17) (N := some 142) (v := undef) (a' := ?_) #[true, true, true, true, true, true, true, true, true, true, true, true, true, true, true, true, true, true, false, false, false, false, false, false, false] rfl rfl (any_of HT_.out (by kernel_rfl)) (fun _ _ _ h => h) (Or.inr ⟨by rfl, rfl⟩) ?_ ?_
                                                                rotate_left
                                                                · simp only [Act.put, List.setIfInBounds_toArray, List.set_cons_zero, List.set_cons_succ, i64_w, i32_w]
                                                                  rfl
                                                                refine pure_ (i := 18) (N := some 143) (v := undef) (a' := ?_) #[true, true, true, true, true, true, true, true, true, true, true, true, true, true, true, true, true, true, true, false, false, false, false, false, false] rfl rfl (any_of HT_.out (by kernel_rfl)) (fun _ _ _ h => h) (Or.inr ⟨by rfl, rfl⟩) ?_ ?_
                                                                rotate_left
                                                                · simp only [Act.put, List.setIfInBounds_toArray, List.set_cons_zero, List.set_cons_succ, i64_w, i32_w]
                                                                  rfl
                                                                refine pure_ (i := 19) (N := some 144) (v := undef) (a' := ?_) #[true, true, true, true, true, true, true, true, true, true, true, true, true, true, true, true, true, true, true, true, false, false, false, false, false] rfl rfl (any_of HT_.out (by kernel_rfl)) (fun _ _ _ h => h) (Or.inr ⟨by rfl, rfl⟩) ?_ ?_
                                                                rotate_left
                                                                · simp only [Act.put, List.setIfInBounds_toArray, List.set_cons_zero, List.set_cons_succ, i64_w, i32_w]
                                                                  rfl
                                                                refine pure_ (i := 20) (N := some 145) (v := undef) (a' := ?_) #[true, true, true, true, true, true, true, true, true, true, true, true, true, true, true, true, true, true, true, true, true, false, false, false, false] rfl rfl (any_of HT_.out (by kernel_rfl)) (fun _ _ _ h => h) (Or.inr ⟨by rfl, rfl⟩) ?_ ?_
                                                                rotate_left
                                                                · simp only [Act.put, List.setIfInBounds_toArray, List.set_cons_zero, List.set_cons_succ, i64_w, i32_w]
                                                                  rfl
                                                                refine pure_ (i := 21) (N := some 146) (v := undef) (a' := ?_) #[true, true, true, true, true, true, true, true, true, true, true, true, true, true, true, true, true, true, true, true, true, true, false, false, false] rfl rfl (any_of HT_.out (by kernel_rfl)) (fun _ _ _ h => h) (Or.inr ⟨by rfl, rfl⟩) ?_ ?_
                                                                rotate_left
                                                                · simp only [Act.put, List.setIfInBounds_toArray, List.set_cons_zero, List.set_cons_succ, i64_w, i32_w]
                                                                  rfl
                                                                refine pure_ (i := 22) (N := some 147) (v := undef) (a' := ?_) #[true, true, true, true, true, true, true, true, true, true, true, true, true, true, true, true, true, true, true, true, true, true, true, false, false] rfl rfl (any_of HT_.out (by kernel_rfl)) (fun _ _ _ h => h) (Or.inr ⟨by rfl, rfl⟩) ?_ ?_
                                                                rotate_left
                                                                · simp only [Act.put, List.setIfInBounds_toArray, List.set_cons_zero, List.set_cons_succ, i64_w, i32_w]
                                                                  rfl
                                                                refine pure_ (i := 23) (N := some 148) (v := ?_) (a' := ?_) #[true, true, true, true, true, true, true, true, true, true, true, true, true, true, true, true, true, true, true, true, true, true, true, true, false] rfl rfl (any_of HT_.out (by kernel_rfl)) (fun _ _ _ h => h) (Or.inl ⟨by rfl, ?_⟩) ?_ ?_
                                                                rotate_left
                                                                · intro w'
                                                                  go_simp
                                                                  with_reducible rfl
                                                                rotate_left
                                                                · simp only [Act.put, List.setIfInBounds_toArray, List.set_cons_zero, List.set_cons_succ, i64_w, i32_w]
                                                                  rfl
                                                                refine pure_ (i := 24) (N := some 149) (v := ?_) (a' := ?_) #[true, true, true, true, true, true, true, true, true, true, true, true, true, true, true, true, true, true, true, true, true, true, true, true, true] rfl rfl (any_of HT_.out (by kernel_rfl)) (fun _ _ _ h => h) (Or.inl ⟨by rfl, ?_⟩) ?_ ?_
                                                                rotate_left
                                                                · intro w'
                                                                  go_simp
                                                                  with_reducible rfl
                                                                rotate_left
                                                                · simp only [Act.put, List.setIfInBounds_toArray, List.set_cons_zero, List.set_cons_succ, i64_w, i32_w]
                                                                  rfl
                                                                refine done_ (done_of HT_.out (by kernel_rfl)) ?_
                                                                try go_wp2
                                                                go_roundg kj53
                                                                case measure => have := HJ8.out; have := HK2.out; have := HK3.out; have := HJ49.out; have := HK5.out; have := HJ53.out; omega
                                                                case rel => exact ⟨(wrap64 (x13_5 + 1)), (by first | rfl | (simp; done) | (simp [*]; done)), H', ⟨by have := HJ8.out; have := HK2.out; have := HK3.out; have := HJ49.out; have := HK5.out; have := HJ53.out; omega⟩, ⟨by (with_reducible repeat (first | apply Kd.R_alloc | apply Kd.R_drewN | apply Kd.R_drew)); exact HO_6.out⟩, ⟨by (with_reducible repeat (first | apply Kd.R_alloc | apply Kd.R_drewN | apply Kd.R_drew)); exact HO_7.out⟩, ⟨by (with_reducible repeat (first | apply Kd.S_alloc | apply Kd.S_drewN | apply Kd.S_drew)); exact HO_8.out⟩, ⟨by (with_reducible repeat (first | apply Kd.R_alloc | apply Kd.R_drewN | apply Kd.R_drew)); exact HO_9.out⟩, ⟨by repeat (first | (with_reducible first | exact HB.out | apply below_alloc | apply pw_below_drewN | apply below_drew1) | exact HB.out)⟩⟩
                                                            · rw [if_neg c71] at H
                                                              exact absurd H (by simp)
                                                          · rw [if_neg c70] at H
                                                            exact absurd H (by simp)
                                                        · replace c69 := Bool.eq_false_iff.mpr c69
                                                          subst c69
                                                          have H1 : (some false) = some r := by rw [if_neg (show ¬ (false = true) by decide)] at H; exact H
                                                          clear H
                                                          have H := H1
                                                          clear H1
                                                          obtain rfl := Option.some.inj H
                                                          obtain ⟨Ao90, co90, eo90⟩ := Kd.S_slice HO_8.out
                                                          subst eo90
                                                          have p154 : 0 ≤ (x12_3 : Int) := of_decide_eq_true (by first | (with_reducible assumption) | assumption)
                                                          have q154 : x12_3 < (t136.length : Int) := of_decide_eq_true (by first | (with_reducible assumption) | assumption)
                                                          obtain ⟨ad154, A154_0, c154_0, e154, hx154_0, hl154_0, hi154_0⟩ := at_L1 (Kd.S_reads' HO_8.out).2.2 x12_3 p154 q154
                                                          cases e154
                                                          obtain ⟨ce154, hce154, hMe154, hcc154⟩ := Kd.S_get HO_8.out [] x12_3 p154 (by first | exact q154 | exact of_decide_eq_true (by first | (with_reducible assumption) | assumption) | (have e_ := (Kd.S_reads' HO_8.out).1; omega))
                                                          obtain ⟨ve154_0, rfl, ge154_0⟩ := hMe154
                                                          have hv154_0 := hcc154 0 _ rfl
                                                          rw [Nat.add_zero, show ((Kd.slice 3 (Kd.int .i64))).sz = 1 from rfl, Nat.mul_one] at hv154_0
                                                          replace hv154_0 := Option.some.inj (hv154_0.symm.trans hx154_0)
                                                          rw [hv154_0] at ge154_0
                                                          have HL154_0 := Aside0.mk (show Kd.R (Kd.int .i64) 3 _ _ _ _ (rd_L1 t136 x12_3) from ge154_0)
                                                          clear hv154_0 ge154_0
                                                          clear hcc154 hce154
                                                          have HR154_0 := Aside0.mk hi154_0
                                                          have HC154_0 := Aside0.mk hl154_0
                                                          clear hi154_0 hl154_0
                                                          replace p154 := eq_true p154
                                                          replace q154 := eq_true q154
                                                          have p155 : 0 ≤ (x13_5 : Int) := of_decide_eq_true (by first | (with_reducible assumption) | assumption)
                                                          have q155 : x13_5 < ((rd_L1 t136 x12_3).length : Int) := of_decide_eq_true (by first | (with_reducible assumption) | assumption)
                                                          obtain ⟨ad155, e155, hx155_0⟩ := Kd.at_int (by repeat (first | (with_reducible exact HR154_0.out) | (with_reducible refine Kd.C_alloc ?_ _) | (with_reducible refine Kd.C_drewN ?_ _) | (with_reducible refine Kd.C_drew ?_) | exact HR154_0.out)) x13_5 p155 q155
                                                          cases e155
                                                          replace p155 := eq_true p155
                                                          replace q155 := eq_true q155
                                                          try go_wp2
                                                          have n0_ := Aside0.mk (Kd.R_drew HO_6.out)
                                                          have n1_ := Aside0.mk (Kd.R_drew HO_7.out)
                                                          have n2_ := Aside0.mk (Kd.S_drew HO_8.out)
                                                          have n3_ := Aside0.mk (Kd.R_drew HO_9.out)
                                                          have n4_ := Aside0.mk (Kd.R_drew HL154_0.out)
                                                          have n5_ := Aside0.mk (Kd.C_drew HR154_0.out)
                                                          have n6_ := Aside0.mk (below_drew1 HB.out)
                                                          clear HO_6
                                                          clear HO_7
                                                          clear HO_8
                                                          clear HO_9
                                                          clear HL154_0
                                                          clear HR154_0
                                                          clear HB
                                                          have HO_6 := n0_
                                                          have HO_7 := n1_
                                                          have HO_8 := n2_
                                                          have HO_9 := n3_
                                                          have HL154_0 := n4_
                                                          have HR154_0 := n5_
                                                          have HB := n6_
                                                          clear n0_ n1_ n2_ n3_ n4_ n5_ n6_
                                                          have p156 : 0 ≤ ((rd (rd_L1 t136 x12_3) x13_5) : Int) := of_decide_eq_true (by first | (with_reducible assumption) | assumption)
                                                          have q156 : (rd (rd_L1 t136 x12_3) x13_5) < (t133.length : Int) := of_decide_eq_true (by first | (with_reducible assumption) | assumption)
                                                          obtain ⟨ad156, e156, hx156_0⟩ := Kd.at_bool (Kd.R_reads' HO_7.out).2.2 (rd (rd_L1 t136 x12_3) x13_5) p156 q156
                                                          (try rw [← Nbq68.out] at hx156_0)
                                                          obtain rfl : ad151 = ad156 := (by injection e156)
                                                          replace p156 := eq_true p156
                                                          replace q156 := eq_true q156
                                                          refine start_ (n := 25) (S := fun w' => w'.cell? (ad151.add ((rd (rd_L1 t136 x12_3) x13_5)).toNat) = some (.bool false)) (ds := []) #[false, false, false, false, false, false, false, false, false, false, false, false, false, false, false, false, false, false, false, false, false, false, false, false, false] (by kernel_rfl) rfl rfl (hx156_0) (fun hHeld => ?_); refine with_tabW bywashlaw10_GraphOrder.tab26 bywashlaw10_GraphOrder.bits26 (fun HT_ HW_ => ?_)
                                                          generalize wc.drew = w91 at HO_6 HO_7 HO_8 HO_9 HL154_0 HR154_0 HB hx156_0 hHeld ⊢
                                                          refine pure_ (i := 0) (N := some 125) (v := ?_) (a' := ?_) #[true, false, false, false, false, false, false, false, false, false, false, false, false, false, false, false, false, false, false, false, false, false, false, false, false] rfl rfl (any_of HT_.out (by kernel_rfl)) (fun _ _ _ h => h) (Or.inl ⟨by rfl, ?_⟩) ?_ ?_
                                                          rotate_left
                                                          · intro w'
                                                            go_simp
                                                            with_reducible rfl
                                                          rotate_left
                                                          · simp only [Act.put, List.setIfInBounds_toArray, List.set_cons_zero, List.set_cons_succ, i64_w, i32_w]
                                                            rfl
                                                          refine pure_ (i := 1) (N := some 126) (v := ?_) (a' := ?_) #[true, true, false, false, false, false, false, false, false, false, false, false, false, false, false, false, false, false, false, false, false, false, false, false, false] rfl rfl (any_of HT_.out (by kernel_rfl)) (fun _ _ _ h => h) (Or.inl ⟨by rfl, ?_⟩) ?_ ?_
                                                          rotate_left
                                                          · intro w'
                                                            go_simp
                                                            with_reducible rfl
                                                          rotate_left
                                                          · simp only [Act.put, List.setIfInBounds_toArray, List.set_cons_zero, List.set_cons_succ, i64_w, i32_w]
                                                            rfl
                                                          refine pure_ (i := 2) (N := some 127) (v := ?_) (a' := ?_) #[true, true, true, false, false, false, false, false, false, false, false, false, false, false, false, false, false, false, false, false, false, false, false, false, false] rfl rfl (any_of HT_.out (by kernel_rfl)) (fun _ _ _ h => h) (Or.inl ⟨by rfl, ?_⟩) ?_ ?_
                                                          rotate_left
                                                          · intro w'
                                                            go_simp
                                                            with_reducible rfl
                                                          rotate_left
                                                          · simp only [Act.put, List.setIfInBounds_toArray, List.set_cons_zero, List.set_cons_succ, i64_w, i32_w]
                                                            rfl
                                                          refine take_ (i := 3) (N := some 128) (v := ?_) (a' := ?_) #[true, true, true, true, false, false, false, false, false, false, false, false, false, false, false, false, false, false, false, false, false, false, false, false, false] rfl rfl (take_ofW HT_.out HW_.out (by kernel_rfl)) (fun _ _ _ h => h) (Or.inl ⟨by rfl, ?_⟩) hHeld ?_ ?_
                                                          rotate_left
                                                          · intro w' s0
                                                            go_simp
                                                            with_reducible rfl
                                                          rotate_left
                                                          · simp only [Act.put, List.setIfInBounds_toArray, List.set_cons_zero, List.set_cons_succ, i64_w, i32_w]
                                                            rfl
                                                          refine pure_ (i := 4) (N := some 129) (v := ?_) (a' := ?_) #[true, true, true, true, true, false, false, false, false, false, false, false, false, false, false, false, false, false, false, false, false, false, false, false, false] rfl rfl (any_of HT_.out (by kernel_rfl)) (fun _ _ _ h => h) (Or.inl ⟨by rfl, ?_⟩) ?_ ?_
                                                          rotate_left
                                                          · intro w'
                                                            go_simp
                                                            with_reducible rfl
                                                          rotate_left
                                                          · simp only [Act.put, List.setIfInBounds_toArray, List.set_cons_zero, List.set_cons_succ, i64_w, i32_w]
                                                            rfl
                                                          refine pure_ (i := 5) (N := some 130) (v := ?_) (a' := ?_) #[true, true, true, true, true, true, false, false, false, false, false, false, false, false, false, false, false, false, false, false, false, false, false, false, false] rfl rfl (any_of HT_.out (by kernel_rfl)) (fun _ _ _ h => h) (Or.inl ⟨by rfl, ?_⟩) ?_ ?_
                                                          rotate_left
                                                          · intro w'
                                                            go_simp
                                                            with_reducible rfl
                                                          rotate_left
                                                          · simp only [Act.put, List.setIfInBounds_toArray, List.set_cons_zero, List.set_cons_succ, i64_w, i32_w]
                                                            rfl
                                                          refine pure_ (i := 6) (N := some 131) (v := undef) (a' := ?_) #[true, true, true, true, true, true, true, false, false, false, false, false, false, false, false, false, false, false, false, false, false, false, false, false, false] rfl rfl (any_of HT_.out (by kernel_rfl)) (fun _ _ _ h => h) (Or.inr ⟨by rfl, rfl⟩) ?_ ?_
                                                          rotate_left
                                                          · simp only [Act.put, List.setIfInBounds_toArray, List.set_cons_zero, List.set_cons_succ, i64_w, i32_w]
                                                            rfl
                                                          refine pure_ (i := 7) (N := some 132) (v := undef) (a' := ?_) #[true, true, true, true, true, true, true, true, false, false, false, false, false, false, false, false, false, false, false, false, false, false, false, false, false] rfl rfl (any_of HT_.out (by kernel_rfl)) (fun _ _ _ h => h) (Or.inr ⟨by rfl, rfl⟩) ?_ ?_
                                                          rotate_left
                                                          · simp only [Act.put, List.setIfInBounds_toArray, List.set_cons_zero, List.set_cons_succ, i64_w, i32_w]
                                                            rfl
                                                          refine pure_ (i := 8) (N := some 133) (v := undef) (a' := ?_) #[true, true, true, true, true, true, true, true, true, false, false, false, false, false, false, false, false, false, false, false, false, false, false, false, false] rfl rfl (any_of HT_.out (by kernel_rfl)) (fun _ _ _ h => h) (Or.inr ⟨by rfl, rfl⟩) ?_ ?_
                                                          rotate_left
                                                          · simp only [Act.put, List.setIfInBounds_toArray, List.set_cons_zero, List.set_cons_succ, i64_w, i32_w]
                                                            rfl
                                                          refine pure_ (i := 9) (N := some 134) (v := undef) (a' := ?_) #[true, true, true, true, true, true, true, true, true, true, false, false, false, false, false, false, false, false, false, false, false, false, false, false, false] rfl rfl (any_of HT_.out (by kernel_rfl)) (fun _ _ _ h => h) (Or.inr ⟨by rfl, rfl⟩) ?_ ?_
                                                          rotate_left
                                                          · simp only [Act.put, List.setIfInBounds_toArray, List.set_cons_zero, List.set_cons_succ, i64_w, i32_w]
                                                            rfl
                                                          refine pure_ (i := 10) (N := some 135) (v := undef) (a' := ?_) #[true, true, true, true, true, true, true, true, true, true, true, false, false, false, false, false, false, false, false, false, false, false, false, false, false] rfl rfl (any_of HT_.out (by kernel_rfl)) (fun _ _ _ h => h) (Or.inr ⟨by rfl, rfl⟩) ?_ ?_
                                                          rotate_left
                                                          · simp only [Act.put, List.setIfInBounds_toArray, List.set_cons_zero, List.set_cons_succ, i64_w, i32_w]
                                                            rfl
                                                          refine pure_ (i := 11) (N := some 136) (v := undef) (a' := ?_) #[true, true, true, true, true, true, true, true, true, true, true, true, false, false, false, false, false, false, false, false, false, false, false, false, false] rfl rfl (any_of HT_.out (by kernel_rfl)) (fun _ _ _ h => h) (Or.inr ⟨by rfl, rfl⟩) ?_ ?_
                                                          rotate_left
                                                          · simp only [Act.put, List.setIfInBounds_toArray, List.set_cons_zero, List.set_cons_succ, i64_w, i32_w]
                                                            rfl
                                                          refine pure_ (i := 12) (N := some 137) (v := undef) (a' := ?_) #[true, true, true, true, true, true, true, true, true, true, true, true, true, false, false, false, false, false, false, false, false, false, false, false, false] rfl rfl (any_of HT_.out (by kernel_rfl)) (fun _ _ _ h => h) (Or.inr ⟨by rfl, rfl⟩) ?_ ?_
                                                          rotate_left
                                                          · simp only [Act.put, List.setIfInBounds_toArray, List.set_cons_zero, List.set_cons_succ, i64_w, i32_w]
                                                            rfl
                                                          refine pure_ (i := 13) (N := some 138) (v := undef) (a' := ?_) #[true, true, true, true, true, true, true, true, true, true, true, true, true, true, false, false, false, false, false, false, false, false, false, false, false] rfl rfl (any_of HT_.out (by kernel_rfl)) (fun _ _ _ h => h) (Or.inr ⟨by rfl, rfl⟩) ?_ ?_
                                                          rotate_left
                                                          · simp only [Act.put, List.setIfInBounds_toArray, List.set_cons_zero, List.set_cons_succ, i64_w, i32_w]
                                                            rfl
                                                          refine pure_ (i := 14) (N := some 139) (v := undef) (a' := ?_) #[true, true, true, true, true, true, true, true, true, true, true, true, true, true, true, false, false, false, false, false, false, false, false, false, false] rfl rfl (any_of HT_.out (by kernel_rfl)) (fun _ _ _ h => h) (Or.inr ⟨by rfl, rfl⟩) ?_ ?_
                                                          rotate_left
                                                          · simp only [Act.put, List.setIfInBounds_toArray, List.set_cons_zero, List.set_cons_succ, i64_w, i32_w]
                                                            rfl
                                                          refine pure_ (i := 15) (N := some 140) (v := undef) (a' := ?_) #[true, true, true, true, true, true, true, true, true, true, true, true, true, true, true, true, false, false, false, false, false, false, false, false, false] rfl rfl (any_of HT_.out (by kernel_rfl)) (fun _ _ _ h => h) (Or.inr ⟨by rfl, rfl⟩) ?_ ?_
                                                          rotate_left
                                                          · simp only [Act.put, List.setIfInBounds_toArray, List.set_cons_zero, List.set_cons_succ, i64_w, i32_w]
                                                            rfl
                                                          refine pure_ (i := 16) (N := some 141) (v := undef) (a' := ?_) #[true, true, true, true, true, true, true, true, true, true, true, true, true, true, true, true, true, false, false, false, false, false, false, false, false] rfl rfl (any_of HT_.out (by kernel_rfl)) (fun _ _ _ h => h) (Or.inr ⟨by rfl, rfl⟩) ?_ ?_
                                                          rotate_left
                                                          · simp only [Act.put, List.setIfInBounds_toArray, List.set_cons_zero, List.set_cons_succ, i64_w, i32_w]
                                                            rfl
                                                          refine pure_ (i := 17) (N := some 142) (v := undef) (a' := ?_) #[true, true, true, true, true, true, true, true, true, true, true, true, true, true, true, true, true, true, false, false, false, false, false, false, false] rfl rfl (any_of HT_.out (by kernel_rfl)) (fun _ _ _ h => h) (Or.inr ⟨by rfl, rfl⟩) ?_ ?_
                                                          rotate_left
                                                          · simp only [Act.put, List.setIfInBounds_toArray, List.set_cons_zero, List.set_cons_succ, i64_w, i32_w]
                                                            rfl
                                                          refine pure_ (i := 18) (N := some 143) (v := undef) (a' := ?_) #[true, true, true, true, true, true, true, true, true, true, true, true, true, true, true, true, true, true, true, false, false, false, false, false, false] rfl rfl (any_of HT_.out (by kernel_rfl)) (fun _ _ _ h => h) (Or.inr ⟨by rfl, rfl⟩) ?_ ?_
                                                          rotate_left
                                                          · simp only [Act.put, List.setIfInBounds_toArray, List.set_cons_zero, List.set_cons_succ, i64_w, i32_w]
                                                            rfl
                                                          refine pure_ (i := 19) (N := some 144) (v := undef) (a' := ?_) #[true, true, true, true, true, true, true, true, true, true, true, true, true, true, true, true, true, true, true, true, false, false, false, false, false] rfl rfl (any_of HT_.out (by kernel_rfl)) (fun _ _ _ h => h) (Or.inr ⟨by rfl, rfl⟩) ?_ ?_
                                                          rotate_left
                                                          · simp only [Act.put, List.setIfInBounds_toArray, List.set_cons_zero, List.set_cons_succ, i64_w, i32_w]
                                                            rfl
                                                          refine pure_ (i := 20) (N := some 145) (v := undef) (a' := ?_) #[true, true, true, true, true, true, true, true, true, true, true, true, true, true, true, true, true, true, true, true, true, false, false, false, false] rfl rfl (any_of HT_.out (by kernel_rfl)) (fun _ _ _ h => h) (Or.inr ⟨by rfl, rfl⟩) ?_ ?_
                                                          rotate_left
                                                          · simp only [Act.put, List.setIfInBounds_toArray, List.set_cons_zero, List.set_cons_succ, i64_w, i32_w]
                                                            rfl
                                                          refine pure_ (i := 21) (N := some 146) (v := undef) (a' := ?_) #[true, true, true, true, true, true, true, true, true, true, true, true, true, true, true, true, true, true, true, true, true, true, false, false, false] rfl rfl (any_of HT_.out (by kernel_rfl)) (fun _ _ _ h => h) (Or.inr ⟨by rfl, rfl⟩) ?_ ?_
                                                          rotate_left
                                                          · simp only [Act.put, List.setIfInBounds_toArray, List.set_cons_zero, List.set_cons_succ, i64_w, i32_w]
                                                            rfl
                                                          refine pure_ (i := 22) (N := some 147) (v := undef) (a' := ?_) #[true, true, true, true, true, true, true, true, true, true, true, true, true, true, true, true, true, true, true, true, true, true, true, false, false] rfl rfl (any_of HT_.out (by kernel_rfl)) (fun _ _ _ h => h) (Or.inr ⟨by rfl, rfl⟩) ?_ ?_
                                                          rotate_left
                                                          · simp only [Act.put, List.setIfInBounds_toArray, List.set_cons_zero, List.set_cons_succ, i64_w, i32_w]
                                                            rfl
                                                          refine pure_ (i := 23) (N := some 148) (v := undef) (a' := ?_) #[true, true, true, true, true, true, true, true, true, true, true, true, true, true, true, true, true, true, true, true, true, true, true, true, false] rfl rfl (any_of HT_.out (by kernel_rfl)) (fun _ _ _ h => h) (Or.inr ⟨by rfl, rfl⟩) ?_ ?_
                                                          rotate_left
                                                          · simp only [Act.put, List.setIfInBounds_toArray, List.set_cons_zero, List.set_cons_succ, i64_w, i32_w]
                                                            rfl
                                                          refine pure_ (i := 24) (N := some 149) (v := ?_) (a' := ?_) #[true, true, true, true, true, true, true, true, true, true, true, true, true, true, true, true, true, true, true, true, true, true, true, true, true] rfl rfl (any_of HT_.out (by kernel_rfl)) (fun _ _ _ h => h) (Or.inl ⟨by rfl, ?_⟩) ?_ ?_
                                                          rotate_left
                                                          · intro w'
                                                            go_simp
                                                            with_reducible rfl
                                                          rotate_left
                                                          · simp only [Act.put, List.setIfInBounds_toArray, List.set_cons_zero, List.set_cons_succ, i64_w, i32_w]
                                                            rfl
                                                          refine done_ (done_of HT_.out (by kernel_rfl)) ?_
                                                          try go_wp2
                                                          go_ret
                                                          exact ⟨by first | rfl | (simp [errW_none, errW_some] <;> rfl) | (simp [*, errW_none, errW_some] <;> rfl), by repeat (first | (with_reducible first | exact HB.out | apply below_alloc | apply pw_below_drewN | apply below_drew1) | exact HB.out)⟩
                                                      · rw [if_neg c67] at H
                                                        exact absurd H (by simp)
                                                    · rw [if_neg c66] at H
                                                      exact absurd H (by simp)
                                                  · rw [if_neg c65] at H
                                                    exact absurd H (by simp)
                                                · rw [if_neg c64] at H
                                                  exact absurd H (by simp)
                                              · rw [if_neg c63] at H
                                                exact absurd H (by simp)
                                            · rw [if_neg c62] at H
                                              exact absurd H (by simp)
                                          · replace c61 := Bool.eq_false_iff.mpr c61
                                            subst c61
                                            have H1 : (bywashlaw10_GraphOrder.l1 kj53 l0 a1 t128 t130 t133 t136 x9_2 x11_49 (wrap64 (x12_3 + 1))) = some r := by rw [if_neg (show ¬ (false = true) by decide)] at H; exact H
                                            clear H
                                            have H := H1
                                            clear H1
                                            have H' := Aside0.mk H
                                            clear H
                                            go_wp2
                                            go_roundg kj53
                                            case measure => have := HJ8.out; have := HK2.out; have := HK3.out; have := HJ49.out; have := HK5.out; have := HJ53.out; omega
                                            case rel => exact ⟨(x11_49), (wrap64 (x12_3 + 1)), (by first | rfl | (simp; done) | (simp [*]; done)), (by first | rfl | (simp; done) | (simp [*]; done)), H', ⟨by have := HJ8.out; have := HK2.out; have := HK3.out; have := HJ49.out; have := HK5.out; have := HJ53.out; omega⟩, ⟨by (with_reducible repeat (first | apply Kd.R_alloc | apply Kd.R_drewN | apply Kd.R_drew)); exact HO_6.out⟩, ⟨by (with_reducible repeat (first | apply Kd.R_alloc | apply Kd.R_drewN | apply Kd.R_drew)); exact HO_7.out⟩, ⟨by (with_reducible repeat (first | apply Kd.S_alloc | apply Kd.S_drewN | apply Kd.S_drew)); exact HO_8.out⟩, ⟨by (with_reducible repeat (first | apply Kd.R_alloc | apply Kd.R_drewN | apply Kd.R_drew)); exact HO_9.out⟩, ⟨by repeat (first | (with_reducible first | exact HB.out | apply below_alloc | apply pw_below_drewN | apply below_drew1) | exact HB.out)⟩⟩
                            · rw [if_neg c49] at H
                              exact absurd H (by simp)
                          · rw [if_neg c48] at H
                            exact absurd H (by simp)
                        · rw [if_neg c47] at H
                          have c47b0 : decide (x12_3 < (l0.length : Int)) = false := decide_eq_false c47
                          clear c47
                          by_cases c92 : t128 = true
                          · subst c92
                            have H1 : (if x11_3 = (t130.length : Int) then (if x11_3 = 0 then (some true) else (if 0 < (t130.length : Int) then (some ((rd t130 0) == a1)) else (none))) else (some false)) = some r := by rw [if_pos rfl] at H; exact H
                            clear H
                            have H := H1
                            clear H1
                            by_cases c93 : x11_3 = (t130.length : Int)
                            · rw [if_pos c93] at H
                              have c93b0 : (x11_3 == (t130.length : Int)) = true := beq_iff_eq.mpr c93
                              have c93b1 : (x11_3 != (t130.length : Int)) = false := bne_eq_false_iff_eq.mpr c93
                              clear c93
                              by_cases c94 : x11_3 = 0
                              · rw [if_pos c94] at H
                                have c94b0 : (x11_3 == 0) = true := beq_iff_eq.mpr c94
                                have c94b1 : (x11_3 != 0) = false := bne_eq_false_iff_eq.mpr c94
                                clear c94
                                obtain rfl := Option.some.inj H
                                go_wp2
                                go_ret
                                exact ⟨by first | rfl | (simp [errW_none, errW_some] <;> rfl) | (simp [*, errW_none, errW_some] <;> rfl), by repeat (first | (with_reducible first | exact HB.out | apply below_alloc | apply pw_below_drewN | apply below_drew1) | exact HB.out)⟩
                              · rw [if_neg c94] at H
                                have c94b0 : (x11_3 == 0) = false := beq_eq_false_iff_ne.mpr c94
                                have c94b1 : (x11_3 != 0) = true := bne_iff_ne.mpr c94
                                by_cases c95 : 0 < (t130.length : Int)
                                · rw [if_pos c95] at H
                                  have c95b0 : decide (0 < (t130.length : Int)) = true := decide_eq_true c95
                                  have c95b1 : decide (0 < t130.length) = true := decide_eq_true (by omega)
                                  clear c95
                                  obtain rfl := Option.some.inj H
                                  have p150 : 0 ≤ (0 : Int) := (by omega)
                                  have q150 : 0 < (t130.length : Int) := of_decide_eq_true (by first | (with_reducible assumption) | assumption)
                                  obtain ⟨ad150, e150, hx150_0⟩ := Kd.at_int (Kd.R_reads' HO_6.out).2.2 0 p150 q150
                                  cases e150
                                  have qi150 : (0 < t130.length) = True := eq_true (by omega)
                                  (try rw [show ((0 : Int)).toNat = 0 from rfl] at hx150_0)
                                  (try rw [Addr.add_zero'] at hx150_0)
                                  replace p150 := eq_true p150
                                  replace q150 := eq_true q150
                                  go_wp2
                                  go_ret
                                  exact ⟨by first | rfl | (simp [errW_none, errW_some] <;> rfl) | (simp [*, errW_none, errW_some] <;> rfl), by repeat (first | (with_reducible first | exact HB.out | apply below_alloc | apply pw_below_drewN | apply below_drew1) | exact HB.out)⟩
                                · rw [if_neg c95] at H
                                  exact absurd H (by simp)
                            · rw [if_neg c93] at H
                              have c93b0 : (x11_3 == (t130.length : Int)) = false := beq_eq_false_iff_ne.mpr c93
                              have c93b1 : (x11_3 != (t130.length : Int)) = true := bne_iff_ne.mpr c93
                              obtain rfl := Option.some.inj H
                              go_wp2
                              go_ret
                              exact ⟨by first | rfl | (simp [errW_none, errW_some] <;> rfl) | (simp [*, errW_none, errW_some] <;> rfl), by repeat (first | (with_reducible first | exact HB.out | apply below_alloc | apply pw_below_drewN | apply below_drew1) | exact HB.out)⟩
                          · replace c92 := Bool.eq_false_iff.mpr c92
                            subst c92
                            have H1 : (some false) = some r := by rw [if_neg (show ¬ (false = true) by decide)] at H; exact H
                            clear H
                            have H := H1
                            clear H1
                            obtain rfl := Option.some.inj H
                            go_wp2
                            go_ret
                            exact ⟨by first | rfl | (simp [errW_none, errW_some] <;> rfl) | (simp [*, errW_none, errW_some] <;> rfl), by repeat (first | (with_reducible first | exact HB.out | apply below_alloc | apply pw_below_drewN | apply below_drew1) | exact HB.out)⟩
            · rw [if_neg c20] at H
              exact absurd H (by simp)
          · rw [if_neg c19] at H
            exact absurd H (by simp)
  · replace c5 := Bool.eq_false_iff.mpr c5
    subst c5
    have H1 : (some t128) = some r := by rw [if_neg (show ¬ (false = true) by decide)] at H; exact H
    clear H
    have H := H1
    clear H1
    obtain rfl := Option.some.inj H
    go_enter Try.func4, Try.ntmps4
    go_wp2_with (first | ((with_reducible refine gate_callee (f := 20) rfl ?_); refine goesL_ (some 15) rfl rfl Try.func20 (by kernel_rfl) rfl #[] rfl (by (try simp only [List.map_toArray, List.map_cons, List.map_nil]); first | done | rfl | (simp only [List.length_drop, List.length_take]; rfl)) ?_; (with_reducible refine (bywashlaw10_awake.calls k  t128 _ A3.out).mono ?_); rintro e w96 ⟨rfl, hb⟩; refine ⟨_, rfl, ?_⟩; have n0_ := Aside0.mk (below_step (by repeat (first | (with_reducible first | exact HB.out | apply below_alloc | apply pw_below_drewN | apply below_drew1) | exact HB.out)) hb); clear HB; have HB := n0_; clear n0_; (try clear hb); (try clear hb2); (try clear hk); (try clear hi)) | ((with_reducible refine gate_callee (f := 21) rfl ?_); refine goesL_ (some 17) rfl rfl Try.func21 (by kernel_rfl) rfl #[.slice A0 l0.length c0] rfl (by (try simp only [List.map_toArray, List.map_cons, List.map_nil]); first | done | rfl | (simp only [List.length_drop, List.length_take]; rfl)) ?_; (with_reducible refine (bywashref10_Few.calls k _ _ l0 false _ ?side1 ?side2 A4.out).mono ?_); (case side1 => repeat (first | exact (Kd.C_below HR0.out HB.out) | (with_reducible refine Kd.C_alloc ?_ _) | (with_reducible refine Kd.C_drewN ?_ _) | (with_reducible refine Kd.C_drew ?_))); (case side2 => exact HC0.out); rintro e w' ⟨rfl, ⟨nd, rfl⟩⟩; refine ⟨_, rfl, ?_⟩))
    go_ret
    exact ⟨by first | rfl | (simp [errW_none, errW_some] <;> rfl) | (simp [*, errW_none, errW_some] <;> rfl), by repeat (first | (with_reducible first | exact HB.out | apply below_alloc | apply pw_below_drewN | apply below_drew1) | exact HB.out)⟩

end Go.Proofs.Ytnhcimhdkdgccaa.P
