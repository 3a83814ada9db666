/- What the claim uses of: PlawDomupUnder PureDomupUnder -/
import Derived.Test.YtemcmcnhpdkdfaaQU4
namespace Go.Proofs.Ytemcmcnhpdkdfaa.P
open Go.RowKit Go.Proofs.YtemcmcnhpdkdfaaW.PrintWords Go.Proofs.YtemcmcnhpdkdfaaW.PrintLast Go.Proofs.YtemcmcnhpdkdfaaW.PrintMore
attribute [local go_sem] max2_int min2_int max_two min_two max_three min_three max_four min_four
set_option linter.unusedVariables false
set_option linter.unusedSimpArgs false
mutual
def bywashlaw15_DomupUnder.j0 : Nat → List (List Int) → Int → Int → Bool → Bool → Bool → Option (Bool)
  | 0, _, _, _, _, _, _ => none
  | k + 1, x0, x1, x2, x3, x9, x40 => if x40 = true then (some x9) else ((domup_New.f k x0).bind fun bt615 => (if (bt615.2.1.length : Int) = (x0.length : Int) then ((domup_Add.f k bt615.1 bt615.2.1 bt615.2.2 x1 x2).bind fun bt623 => ((domup_Top.f k bt615.1 bt615.2.1 bt615.2.2 x1 x2).bind fun t634 => (if x3 = true then ((domup_Del.f k bt615.1 bt615.2.1 bt615.2.2 x1 x2).bind fun bt635 => (if 0 ≤ x2 then (if x2 < (bt615.2.1.length : Int) then (bywashlaw15_DomupUnder.j1 k x0 x1 x2 x3 x9 bt635.2.2.2 (rd bt615.2.1 x2) bt615.1 bt615.2.1 bt615.2.2 bt635.1 bt635.2.1 bt635.2.2.1) else (none)) else (none))) else (bywashlaw15_DomupUnder.j1 k x0 x1 x2 x3 x9 bt623.2.2.2 t634 bt615.1 bt615.2.1 bt615.2.2 bt623.1 bt623.2.1 bt623.2.2.1)))) else (some false)))
def bywashlaw15_DomupUnder.j1 : Nat → List (List Int) → Int → Int → Bool → Bool → List Int → Int → List (List Int) → List Int → Bool → List (List Int) → List Int → Bool → Option (Bool)
  | 0, _, _, _, _, _, _, _, _, _, _, _, _, _ => none
  | k + 1, x0, x1, x2, x3, x9, x12, x13, x623000, x623001, x623002, x634000, x634001, x634002 => if 0 ≤ x1 then (if x1 < (x623001.length : Int) then (if (rd x623001 x1) = (-2) then (if x9 = true then (some ((x12.length : Int) == 0)) else (some false)) else (if 0 ≤ x2 then (if x2 < (x623001.length : Int) then (if (rd x623001 x2) = (-2) then (if x9 = true then (if x3 = true then (if (x12.length : Int) = 0 then (some ((x634000.length : Int) == (x0.length : Int))) else (some false)) else (some ((x634000.length : Int) == (x0.length : Int)))) else (some false)) else (if (x634001.length : Int) = (x0.length : Int) then (if x3 = true then (if x2 < (x634001.length : Int) then (bywashlaw15_DomupUnder.j2 k x0 x9 x12 x13 ((rd x634001 x2) == (-2)) x623000 x623001 x623002 x634000 x634001 x634002) else (none)) else (bywashlaw15_DomupUnder.j2 k x0 x9 x12 x13 false x623000 x623001 x623002 x634000 x634001 x634002)) else (bywashlaw15_DomupUnder.j2 k x0 x9 x12 x13 true x623000 x623001 x623002 x634000 x634001 x634002))) else (none)) else (none))) else (none)) else (none)
def bywashlaw15_DomupUnder.j2 : Nat → List (List Int) → Bool → List Int → Int → Bool → List (List Int) → List Int → Bool → List (List Int) → List Int → Bool → Option (Bool)
  | 0, _, _, _, _, _, _, _, _, _, _, _ => none
  | k + 1, x0, x9, x12, x13, x128, x623000, x623001, x623002, x634000, x634001, x634002 => if x128 = true then (if x9 = true then (some ((x634001.length : Int) == (x0.length : Int))) else (some false)) else (bywashlaw15_DomupUnder.l0 k x0 x9 x12 x13 0 x623000 x623001 x623002 x634000 x634001 x634002)
def bywashlaw15_DomupUnder.l0 : Nat → List (List Int) → Bool → List Int → Int → Int → List (List Int) → List Int → Bool → List (List Int) → List Int → Bool → Option (Bool)
  | 0, _, _, _, _, _, _, _, _, _, _, _ => none
  | k + 1, x0, x9, x12, x13, x16, x623000, x623001, x623002, x634000, x634001, x634002 => if x16 < (x12.length : Int) then (if 0 ≤ x16 then (if (rd x12 x16) = x13 then (some false) else ((dom_Dominates.f k x623001 x13 (rd x12 x16)).bind fun t652 => (if t652 = true then (bywashlaw15_DomupUnder.l0 k x0 x9 x12 x13 (wrap64 (x16 + 1)) x623000 x623001 x623002 x634000 x634001 x634002) else (some false)))) else (none)) else (if x9 = true then (some ((x634001.length : Int) == (x0.length : Int))) else (some false))
end
def bywashlaw15_DomupUnder.f (k : Nat) (l0 : List (List Int)) (a1 : Int) (a2 : Int) (a3 : Bool) : Option (Bool) := (bywashlaw15_awake.f k).bind fun t613 => ((bywashref10_Few.f k l0).bind fun t614 => (if t614 = true then (if a1 < 0 then (bywashlaw15_DomupUnder.j0 k l0 a1 a2 a3 t613 true) else (if a1 ≥ (l0.length : Int) then (bywashlaw15_DomupUnder.j0 k l0 a1 a2 a3 t613 true) else (if a2 < 0 then (bywashlaw15_DomupUnder.j0 k l0 a1 a2 a3 t613 true) else (bywashlaw15_DomupUnder.j0 k l0 a1 a2 a3 t613 (decide (a2 ≥ (l0.length : Int))))))) else (bywashlaw15_DomupUnder.j0 k l0 a1 a2 a3 t613 true)))
theorem bywashlaw15_DomupUnder.mono_l : ∀ k, (∀ y0 y1 y2 y3 y4 y5, LeO (bywashlaw15_DomupUnder.j0 k y0 y1 y2 y3 y4 y5) (bywashlaw15_DomupUnder.j0 (k + 1) y0 y1 y2 y3 y4 y5)) ∧ (∀ y0 y1 y2 y3 y4 y5 y6 y7 y8 y9 y10 y11 y12, LeO (bywashlaw15_DomupUnder.j1 k y0 y1 y2 y3 y4 y5 y6 y7 y8 y9 y10 y11 y12) (bywashlaw15_DomupUnder.j1 (k + 1) y0 y1 y2 y3 y4 y5 y6 y7 y8 y9 y10 y11 y12)) ∧ (∀ y0 y1 y2 y3 y4 y5 y6 y7 y8 y9 y10, LeO (bywashlaw15_DomupUnder.j2 k y0 y1 y2 y3 y4 y5 y6 y7 y8 y9 y10) (bywashlaw15_DomupUnder.j2 (k + 1) y0 y1 y2 y3 y4 y5 y6 y7 y8 y9 y10)) ∧ (∀ y0 y1 y2 y3 y4 y5 y6 y7 y8 y9 y10, LeO (bywashlaw15_DomupUnder.l0 k y0 y1 y2 y3 y4 y5 y6 y7 y8 y9 y10) (bywashlaw15_DomupUnder.l0 (k + 1) y0 y1 y2 y3 y4 y5 y6 y7 y8 y9 y10))
  | 0 => ⟨fun _ _ _ _ _ _ r h => by simp [bywashlaw15_DomupUnder.j0] at h, fun _ _ _ _ _ _ _ _ _ _ _ _ _ r h => by simp [bywashlaw15_DomupUnder.j1] at h, fun _ _ _ _ _ _ _ _ _ _ _ r h => by simp [bywashlaw15_DomupUnder.j2] at h, fun _ _ _ _ _ _ _ _ _ _ _ r h => by simp [bywashlaw15_DomupUnder.l0] at h⟩
  | k + 1 => by
    obtain ⟨ih0, ih1, ih2, ih3⟩ := bywashlaw15_DomupUnder.mono_l k
    refine ⟨?_, ?_, ?_, ?_⟩
    · intro y0 y1 y2 y3 y4 y5
      unfold bywashlaw15_DomupUnder.j0
      repeat' first
      | (with_reducible exact ih0 _ _ _ _ _ _)
      | (with_reducible exact ih1 _ _ _ _ _ _ _ _ _ _ _ _ _)
      | (with_reducible exact ih2 _ _ _ _ _ _ _ _ _ _ _)
      | (with_reducible exact ih3 _ _ _ _ _ _ _ _ _ _ _)
      | (with_reducible exact bywashlaw15_awake.mono _)
      | (with_reducible exact bywashref10_Few.mono _ _)
      | (with_reducible exact dom_Dominates.mono _ _ _ _)
      | (with_reducible exact domup_Add.mono _ _ _ _ _ _)
      | (with_reducible exact domup_Del.mono _ _ _ _ _ _)
      | (with_reducible exact domup_New.mono _ _)
      | (with_reducible exact domup_Top.mono _ _ _ _ _ _)
      | (with_reducible exact LeO.refl _)
      | (with_reducible exact LeO.none _)
      | (with_reducible refine LeO.ite ?_ ?_)
      | (with_reducible refine LeO.bind ?_ (fun _ => ?_))
      | exact ih0 _ _ _ _ _ _
      | exact ih1 _ _ _ _ _ _ _ _ _ _ _ _ _
      | exact ih2 _ _ _ _ _ _ _ _ _ _ _
      | exact ih3 _ _ _ _ _ _ _ _ _ _ _
      | exact bywashlaw15_awake.mono _
      | exact bywashref10_Few.mono _ _
      | exact dom_Dominates.mono _ _ _ _
      | exact domup_Add.mono _ _ _ _ _ _
      | exact domup_Del.mono _ _ _ _ _ _
      | exact domup_New.mono _ _
      | exact domup_Top.mono _ _ _ _ _ _
      | exact LeO.none _
      | refine LeO.ite ?_ ?_
      | refine LeO.bind ?_ (fun _ => ?_)
    · intro y0 y1 y2 y3 y4 y5 y6 y7 y8 y9 y10 y11 y12
      unfold bywashlaw15_DomupUnder.j1
      repeat' first
      | (with_reducible exact ih0 _ _ _ _ _ _)
      | (with_reducible exact ih1 _ _ _ _ _ _ _ _ _ _ _ _ _)
      | (with_reducible exact ih2 _ _ _ _ _ _ _ _ _ _ _)
      | (with_reducible exact ih3 _ _ _ _ _ _ _ _ _ _ _)
      | (with_reducible exact bywashlaw15_awake.mono _)
      | (with_reducible exact bywashref10_Few.mono _ _)
      | (with_reducible exact dom_Dominates.mono _ _ _ _)
      | (with_reducible exact domup_Add.mono _ _ _ _ _ _)
      | (with_reducible exact domup_Del.mono _ _ _ _ _ _)
      | (with_reducible exact domup_New.mono _ _)
      | (with_reducible exact domup_Top.mono _ _ _ _ _ _)
      | (with_reducible exact LeO.refl _)
      | (with_reducible exact LeO.none _)
      | (with_reducible refine LeO.ite ?_ ?_)
      | (with_reducible refine LeO.bind ?_ (fun _ => ?_))
      | exact ih0 _ _ _ _ _ _
      | exact ih1 _ _ _ _ _ _ _ _ _ _ _ _ _
      | exact ih2 _ _ _ _ _ _ _ _ _ _ _
      | exact ih3 _ _ _ _ _ _ _ _ _ _ _
      | exact bywashlaw15_awake.mono _
      | exact bywashref10_Few.mono _ _
      | exact dom_Dominates.mono _ _ _ _
      | exact domup_Add.mono _ _ _ _ _ _
      | exact domup_Del.mono _ _ _ _ _ _
      | exact domup_New.mono _ _
      | exact domup_Top.mono _ _ _ _ _ _
      | exact LeO.none _
      | refine LeO.ite ?_ ?_
      | refine LeO.bind ?_ (fun _ => ?_)
    · intro y0 y1 y2 y3 y4 y5 y6 y7 y8 y9 y10
      unfold bywashlaw15_DomupUnder.j2
      repeat' first
      | (with_reducible exact ih0 _ _ _ _ _ _)
      | (with_reducible exact ih1 _ _ _ _ _ _ _ _ _ _ _ _ _)
      | (with_reducible exact ih2 _ _ _ _ _ _ _ _ _ _ _)
      | (with_reducible exact ih3 _ _ _ _ _ _ _ _ _ _ _)
      | (with_reducible exact bywashlaw15_awake.mono _)
      | (with_reducible exact bywashref10_Few.mono _ _)
      | (with_reducible exact dom_Dominates.mono _ _ _ _)
      | (with_reducible exact domup_Add.mono _ _ _ _ _ _)
      | (with_reducible exact domup_Del.mono _ _ _ _ _ _)
      | (with_reducible exact domup_New.mono _ _)
      | (with_reducible exact domup_Top.mono _ _ _ _ _ _)
      | (with_reducible exact LeO.refl _)
      | (with_reducible exact LeO.none _)
      | (with_reducible refine LeO.ite ?_ ?_)
      | (with_reducible refine LeO.bind ?_ (fun _ => ?_))
      | exact ih0 _ _ _ _ _ _
      | exact ih1 _ _ _ _ _ _ _ _ _ _ _ _ _
      | exact ih2 _ _ _ _ _ _ _ _ _ _ _
      | exact ih3 _ _ _ _ _ _ _ _ _ _ _
      | exact bywashlaw15_awake.mono _
      | exact bywashref10_Few.mono _ _
      | exact dom_Dominates.mono _ _ _ _
      | exact domup_Add.mono _ _ _ _ _ _
      | exact domup_Del.mono _ _ _ _ _ _
      | exact domup_New.mono _ _
      | exact domup_Top.mono _ _ _ _ _ _
      | exact LeO.none _
      | refine LeO.ite ?_ ?_
      | refine LeO.bind ?_ (fun _ => ?_)
    · intro y0 y1 y2 y3 y4 y5 y6 y7 y8 y9 y10
      unfold bywashlaw15_DomupUnder.l0
      repeat' first
      | (with_reducible exact ih0 _ _ _ _ _ _)
      | (with_reducible exact ih1 _ _ _ _ _ _ _ _ _ _ _ _ _)
      | (with_reducible exact ih2 _ _ _ _ _ _ _ _ _ _ _)
      | (with_reducible exact ih3 _ _ _ _ _ _ _ _ _ _ _)
      | (with_reducible exact bywashlaw15_awake.mono _)
      | (with_reducible exact bywashref10_Few.mono _ _)
      | (with_reducible exact dom_Dominates.mono _ _ _ _)
      | (with_reducible exact domup_Add.mono _ _ _ _ _ _)
      | (with_reducible exact domup_Del.mono _ _ _ _ _ _)
      | (with_reducible exact domup_New.mono _ _)
      | (with_reducible exact domup_Top.mono _ _ _ _ _ _)
      | (with_reducible exact LeO.refl _)
      | (with_reducible exact LeO.none _)
      | (with_reducible refine LeO.ite ?_ ?_)
      | (with_reducible refine LeO.bind ?_ (fun _ => ?_))
      | exact ih0 _ _ _ _ _ _
      | exact ih1 _ _ _ _ _ _ _ _ _ _ _ _ _
      | exact ih2 _ _ _ _ _ _ _ _ _ _ _
      | exact ih3 _ _ _ _ _ _ _ _ _ _ _
      | exact bywashlaw15_awake.mono _
      | exact bywashref10_Few.mono _ _
      | exact dom_Dominates.mono _ _ _ _
      | exact domup_Add.mono _ _ _ _ _ _
      | exact domup_Del.mono _ _ _ _ _ _
      | exact domup_New.mono _ _
      | exact domup_Top.mono _ _ _ _ _ _
      | exact LeO.none _
      | refine LeO.ite ?_ ?_
      | refine LeO.bind ?_ (fun _ => ?_)
theorem bywashlaw15_DomupUnder.mono : ∀ a0 a1 a2 a3 k, LeO (bywashlaw15_DomupUnder.f k a0 a1 a2 a3) (bywashlaw15_DomupUnder.f (k + 1) a0 a1 a2 a3) := by
  intro a0 a1 a2 a3 k
  obtain ⟨ih0, ih1, ih2, ih3⟩ := bywashlaw15_DomupUnder.mono_l k
  unfold bywashlaw15_DomupUnder.f
  repeat' first
      | (with_reducible exact ih0 _ _ _ _ _ _)
      | (with_reducible exact ih1 _ _ _ _ _ _ _ _ _ _ _ _ _)
      | (with_reducible exact ih2 _ _ _ _ _ _ _ _ _ _ _)
      | (with_reducible exact ih3 _ _ _ _ _ _ _ _ _ _ _)
      | (with_reducible exact bywashlaw15_awake.mono _)
      | (with_reducible exact bywashref10_Few.mono _ _)
      | (with_reducible exact dom_Dominates.mono _ _ _ _)
      | (with_reducible exact domup_Add.mono _ _ _ _ _ _)
      | (with_reducible exact domup_Del.mono _ _ _ _ _ _)
      | (with_reducible exact domup_New.mono _ _)
      | (with_reducible exact domup_Top.mono _ _ _ _ _ _)
      | (with_reducible exact LeO.refl _)
      | (with_reducible exact LeO.none _)
      | (with_reducible refine LeO.ite ?_ ?_)
      | (with_reducible refine LeO.bind ?_ (fun _ => ?_))
      | exact ih0 _ _ _ _ _ _
      | exact ih1 _ _ _ _ _ _ _ _ _ _ _ _ _
      | exact ih2 _ _ _ _ _ _ _ _ _ _ _
      | exact ih3 _ _ _ _ _ _ _ _ _ _ _
      | exact bywashlaw15_awake.mono _
      | exact bywashref10_Few.mono _ _
      | exact dom_Dominates.mono _ _ _ _
      | exact domup_Add.mono _ _ _ _ _ _
      | exact domup_Del.mono _ _ _ _ _ _
      | exact domup_New.mono _ _
      | exact domup_Top.mono _ _ _ _ _ _
      | exact LeO.none _
      | refine LeO.ite ?_ ?_
      | refine LeO.bind ?_ (fun _ => ?_)
def bywashlaw15_DomupUnder.T23 : Bool × List (List Nat × List Nat) := (true, [([], []), ([], []), ([0, 1], [0, 1]), ([2], [2]), ([], []), ([3, 4], [3, 4]), ([5], [5]), ([6], [6]), ([7, 6], [6, 7]), ([6], [6]), ([6], [6]), ([6], [6]), ([10, 11, 6], [6, 10, 11]), ([12, 6], [6, 12]), ([8, 9, 13, 6, 6], [6, 8, 9, 13]), ([14, 6], [6, 14]), ([6, 15], [6, 15])])
def bywashlaw15_DomupUnder.B23 : List Nat := [0, 0, 3, 7, 0, 31, 63, 127, 255, 127, 127, 127, 3199, 7295, 16383, 32767, 65535]
theorem bywashlaw15_DomupUnder.tab23 : rtab .any (opsOf Try.f9 23) = bywashlaw15_DomupUnder.T23 := by kernel_rfl
theorem bywashlaw15_DomupUnder.bits23 : waitsOk bywashlaw15_DomupUnder.T23.2 bywashlaw15_DomupUnder.B23 = true := by kernel_rfl
set_option maxHeartbeats 8000000 in
set_option maxRecDepth 100000 in
theorem bywashlaw15_DomupUnder.calls (k : Nat) (A0 : Option Addr) (c0 : Nat) (l0 : List (List Int)) (a1 : Int) (a2 : Int) (a3 : Bool) (r : Bool) (w : World) (hr0 : Kd.C (Kd.slice 3 (Kd.int .i64)) w A0 l0.length l0) (hc0 : l0.length ≤ c0) (h : bywashlaw15_DomupUnder.f k l0 a1 a2 a3 = some r) :
    Calls Try.prog 9 #[.slice A0 l0.length c0, .int .i64 a1, .int .i64 a2, .bool a3] w fun e w' => e = .returned (.bool r) ∧ Below w.heap.size w w' := by
  have hu40 := Try.underlying40
  have HR0 := Aside0.mk hr0
  have HC0 := Aside0.mk hc0
  clear hr0 hc0
  have HB := Aside0.mk (Below.refl w.heap.size w)
  have H : ((bywashlaw15_awake.f k).bind fun t613 => ((bywashref10_Few.f k l0).bind fun t614 => (if t614 = true then (if a1 < 0 then (bywashlaw15_DomupUnder.j0 k l0 a1 a2 a3 t613 true) else (if a1 ≥ (l0.length : Int) then (bywashlaw15_DomupUnder.j0 k l0 a1 a2 a3 t613 true) else (if a2 < 0 then (bywashlaw15_DomupUnder.j0 k l0 a1 a2 a3 t613 true) else (bywashlaw15_DomupUnder.j0 k l0 a1 a2 a3 t613 (decide (a2 ≥ (l0.length : Int))))))) else (bywashlaw15_DomupUnder.j0 k l0 a1 a2 a3 t613 true)))) = some r := h
  clear h
  replace H := Option.bind_eq_some_iff.mp H
  obtain ⟨t613, A50, H⟩ := H
  replace H : ((bywashref10_Few.f k l0).bind fun t614 => (if t614 = true then (if a1 < 0 then (bywashlaw15_DomupUnder.j0 k l0 a1 a2 a3 t613 true) else (if a1 ≥ (l0.length : Int) then (bywashlaw15_DomupUnder.j0 k l0 a1 a2 a3 t613 true) else (if a2 < 0 then (bywashlaw15_DomupUnder.j0 k l0 a1 a2 a3 t613 true) else (bywashlaw15_DomupUnder.j0 k l0 a1 a2 a3 t613 (decide (a2 ≥ (l0.length : Int))))))) else (bywashlaw15_DomupUnder.j0 k l0 a1 a2 a3 t613 true))) = some r := H
  have A5 := Aside0.mk A50
  clear A50
  have HC6 := Aside0.mk H
  clear H
  go_enter Try.func9, Try.ntmps9
  go_upto_region 2 with (first | ((with_reducible refine gate_callee (f := 31) rfl ?_); refine goesL_ (some 17) rfl rfl Try.func31 (by kernel_rfl) rfl #[] rfl (by (try simp only [List.map_toArray, List.map_cons, List.map_nil]); first | done | rfl | (simp only [List.length_drop, List.length_take]; rfl)) ?_; (with_reducible refine (bywashlaw15_awake.calls k  t613 _ A5.out).mono ?_); rintro e w7 ⟨rfl, hb⟩; refine ⟨_, rfl, ?_⟩; have n0_ := Aside0.mk (below_step (by repeat (first | (with_reducible first | exact HB.out | apply below_alloc | apply pw_below_drewN | apply below_drew1) | exact HB.out)) hb); clear HB; have HB := n0_; clear n0_; (try clear hb); (try clear hb2); (try clear hk); (try clear hi)))
  (try simp only [Act.put, List.setIfInBounds_toArray, List.set_cons_zero, List.set_cons_succ])
  go_cut [40] (fun v40 wc => ∃ (kq : Nat) (x40_5 : Bool), v40 = .bool x40_5 ∧ Aside0 (bywashlaw15_DomupUnder.j0 kq l0 a1 a2 a3 t613 x40_5 = some r) ∧ Aside0 (kq ≤ k) ∧ Aside0 (Below w.heap.size w wc))
  case first =>
    have H := HC6.out
    clear HC6
    replace H := Option.bind_eq_some_iff.mp H
    obtain ⟨t614, A80, H⟩ := H
    replace H : (if t614 = true then (if a1 < 0 then (bywashlaw15_DomupUnder.j0 k l0 a1 a2 a3 t613 true) else (if a1 ≥ (l0.length : Int) then (bywashlaw15_DomupUnder.j0 k l0 a1 a2 a3 t613 true) else (if a2 < 0 then (bywashlaw15_DomupUnder.j0 k l0 a1 a2 a3 t613 true) else (bywashlaw15_DomupUnder.j0 k l0 a1 a2 a3 t613 (decide (a2 ≥ (l0.length : Int))))))) else (bywashlaw15_DomupUnder.j0 k l0 a1 a2 a3 t613 true)) = some r := H
    have A8 := Aside0.mk A80
    clear A80
    by_cases c9 : t614 = true
    · subst c9
      have H1 : (if a1 < 0 then (bywashlaw15_DomupUnder.j0 k l0 a1 a2 a3 t613 true) else (if a1 ≥ (l0.length : Int) then (bywashlaw15_DomupUnder.j0 k l0 a1 a2 a3 t613 true) else (if a2 < 0 then (bywashlaw15_DomupUnder.j0 k l0 a1 a2 a3 t613 true) else (bywashlaw15_DomupUnder.j0 k l0 a1 a2 a3 t613 (decide (a2 ≥ (l0.length : Int))))))) = some r := by rw [if_pos rfl] at H; exact H
      clear H
      have H := H1
      clear H1
      by_cases c10 : a1 < 0
      · rw [if_pos c10] at H
        have c10b0 : decide (a1 < 0) = true := decide_eq_true c10
        clear c10
        (first | rw [c10b0] | (simp only [i64_w, i32_w]; rw [c10b0]) | skip)
        have H' := Aside0.mk H
        clear H
        go_wp2_with (first | ((with_reducible refine gate_callee (f := 14) rfl ?_); refine goesL_ (some 19) rfl rfl Try.func14 (by kernel_rfl) rfl #[.slice A0 l0.length c0] rfl (by (try simp only [List.map_toArray, List.map_cons, List.map_nil]); first | done | rfl | (simp only [List.length_drop, List.length_take]; rfl)) ?_; (with_reducible refine (bywashref10_Few.calls k _ _ l0 true _ ?side1 ?side2 A8.out).mono ?_); (case side1 => repeat (first | exact (Kd.C_below HR0.out HB.out) | (with_reducible refine Kd.C_alloc ?_ _) | (with_reducible refine Kd.C_drewN ?_ _) | (with_reducible refine Kd.C_drew ?_))); (case side2 => exact HC0.out); rintro e w' ⟨rfl, ⟨nd, rfl⟩⟩; refine ⟨_, rfl, ?_⟩))
        go_meet
        case rel => exact ⟨_, (true), (by first | rfl | (simp; done) | (simp [*]; done)), H', ⟨by first | omega | exact Nat.le_refl _⟩, ⟨by repeat (first | (with_reducible first | exact HB.out | apply below_alloc | apply pw_below_drewN | apply below_drew1) | exact HB.out)⟩⟩
      · rw [if_neg c10] at H
        have c10b0 : decide (a1 < 0) = false := decide_eq_false c10
        clear c10
        (first | rw [c10b0] | (simp only [i64_w, i32_w]; rw [c10b0]) | skip)
        by_cases c11 : a1 ≥ (l0.length : Int)
        · rw [if_pos c11] at H
          have c11b0 : decide ((l0.length : Int) ≤ a1) = true := decide_eq_true c11
          clear c11
          have H' := Aside0.mk H
          clear H
          go_wp2_with (first | ((with_reducible refine gate_callee (f := 14) rfl ?_); refine goesL_ (some 19) rfl rfl Try.func14 (by kernel_rfl) rfl #[.slice A0 l0.length c0] rfl (by (try simp only [List.map_toArray, List.map_cons, List.map_nil]); first | done | rfl | (simp only [List.length_drop, List.length_take]; rfl)) ?_; (with_reducible refine (bywashref10_Few.calls k _ _ l0 true _ ?side1 ?side2 A8.out).mono ?_); (case side1 => repeat (first | exact (Kd.C_below HR0.out HB.out) | (with_reducible refine Kd.C_alloc ?_ _) | (with_reducible refine Kd.C_drewN ?_ _) | (with_reducible refine Kd.C_drew ?_))); (case side2 => exact HC0.out); rintro e w' ⟨rfl, ⟨nd, rfl⟩⟩; refine ⟨_, rfl, ?_⟩))
          go_meet
          case rel => exact ⟨_, (true), (by first | rfl | (simp; done) | (simp [*]; done)), H', ⟨by first | omega | exact Nat.le_refl _⟩, ⟨by repeat (first | (with_reducible first | exact HB.out | apply below_alloc | apply pw_below_drewN | apply below_drew1) | exact HB.out)⟩⟩
        · rw [if_neg c11] at H
          have c11b0 : decide ((l0.length : Int) ≤ a1) = false := decide_eq_false c11
          clear c11
          by_cases c12 : a2 < 0
          · rw [if_pos c12] at H
            have c12b0 : decide (a2 < 0) = true := decide_eq_true c12
            clear c12
            have H' := Aside0.mk H
            clear H
            go_wp2_with (first | ((with_reducible refine gate_callee (f := 14) rfl ?_); refine goesL_ (some 19) rfl rfl Try.func14 (by kernel_rfl) rfl #[.slice A0 l0.length c0] rfl (by (try simp only [List.map_toArray, List.map_cons, List.map_nil]); first | done | rfl | (simp only [List.length_drop, List.length_take]; rfl)) ?_; (with_reducible refine (bywashref10_Few.calls k _ _ l0 true _ ?side1 ?side2 A8.out).mono ?_); (case side1 => repeat (first | exact (Kd.C_below HR0.out HB.out) | (with_reducible refine Kd.C_alloc ?_ _) | (with_reducible refine Kd.C_drewN ?_ _) | (with_reducible refine Kd.C_drew ?_))); (case side2 => exact HC0.out); rintro e w' ⟨rfl, ⟨nd, rfl⟩⟩; refine ⟨_, rfl, ?_⟩))
            go_meet
            case rel => exact ⟨_, (true), (by first | rfl | (simp; done) | (simp [*]; done)), H', ⟨by first | omega | exact Nat.le_refl _⟩, ⟨by repeat (first | (with_reducible first | exact HB.out | apply below_alloc | apply pw_below_drewN | apply below_drew1) | exact HB.out)⟩⟩
          · rw [if_neg c12] at H
            have c12b0 : decide (a2 < 0) = false := decide_eq_false c12
            clear c12
            have H' := Aside0.mk H
            clear H
            go_wp2_with (first | ((with_reducible refine gate_callee (f := 14) rfl ?_); refine goesL_ (some 19) rfl rfl Try.func14 (by kernel_rfl) rfl #[.slice A0 l0.length c0] rfl (by (try simp only [List.map_toArray, List.map_cons, List.map_nil]); first | done | rfl | (simp only [List.length_drop, List.length_take]; rfl)) ?_; (with_reducible refine (bywashref10_Few.calls k _ _ l0 true _ ?side1 ?side2 A8.out).mono ?_); (case side1 => repeat (first | exact (Kd.C_below HR0.out HB.out) | (with_reducible refine Kd.C_alloc ?_ _) | (with_reducible refine Kd.C_drewN ?_ _) | (with_reducible refine Kd.C_drew ?_))); (case side2 => exact HC0.out); rintro e w' ⟨rfl, ⟨nd, rfl⟩⟩; refine ⟨_, rfl, ?_⟩))
            go_meet
            case rel => exact ⟨_, (decide (a2 ≥ (l0.length : Int))), (by first | rfl | (simp; done) | (simp [*]; done)), H', ⟨by first | omega | exact Nat.le_refl _⟩, ⟨by repeat (first | (with_reducible first | exact HB.out | apply below_alloc | apply pw_below_drewN | apply below_drew1) | exact HB.out)⟩⟩
    · replace c9 := Bool.eq_false_iff.mpr c9
      subst c9
      have H1 : (bywashlaw15_DomupUnder.j0 k l0 a1 a2 a3 t613 true) = some r := by rw [if_neg (show ¬ (false = true) by decide)] at H; exact H
      clear H
      have H := H1
      clear H1
      have H' := Aside0.mk H
      clear H
      go_wp2_with (first | ((with_reducible refine gate_callee (f := 14) rfl ?_); refine goesL_ (some 19) rfl rfl Try.func14 (by kernel_rfl) rfl #[.slice A0 l0.length c0] rfl (by (try simp only [List.map_toArray, List.map_cons, List.map_nil]); first | done | rfl | (simp only [List.length_drop, List.length_take]; rfl)) ?_; (with_reducible refine (bywashref10_Few.calls k _ _ l0 false _ ?side1 ?side2 A8.out).mono ?_); (case side1 => repeat (first | exact (Kd.C_below HR0.out HB.out) | (with_reducible refine Kd.C_alloc ?_ _) | (with_reducible refine Kd.C_drewN ?_ _) | (with_reducible refine Kd.C_drew ?_))); (case side2 => exact HC0.out); rintro e w' ⟨rfl, ⟨nd, rfl⟩⟩; refine ⟨_, rfl, ?_⟩))
      go_meet
      case rel => exact ⟨_, (true), (by first | rfl | (simp; done) | (simp [*]; done)), H', ⟨by first | omega | exact Nat.le_refl _⟩, ⟨by repeat (first | (with_reducible first | exact HB.out | apply below_alloc | apply pw_below_drewN | apply below_drew1) | exact HB.out)⟩⟩
  case rest =>
    clear HC6
    try clear c1
    try clear p2
    try clear c3
    try clear c9
    try clear c10
    try clear c10b0
    try clear c11
    try clear c11b0
    try clear c12
    try clear c12b0
    obtain ⟨kq, x40_5, rfl, HA, HJ5, HB⟩ := hcut
    cases kq with
    | zero => exact absurd HA.out (by simp [bywashlaw15_DomupUnder.j0])
    | succ kj5 =>
      have H := HA.out
      clear HA
      simp only [bywashlaw15_DomupUnder.j0] at H
      by_cases c13 : x40_5 = true
      · subst c13
        have H1 : (some t613) = some r := by rw [if_pos rfl] at H; exact H
        clear H
        have H := H1
        clear H1
        obtain rfl := Option.some.inj H
        go_wp2
        go_ret
        exact ⟨by first | rfl | (simp [errW_none, errW_some] <;> rfl) | (simp [*, errW_none, errW_some] <;> rfl) | (exfalso; (try simp_all); (try omega); done), by repeat (first | (with_reducible first | exact HB.out | apply below_alloc | apply pw_below_drewN | apply below_drew1) | exact HB.out)⟩
      · replace c13 := Bool.eq_false_iff.mpr c13
        subst c13
        have H1 : ((domup_New.f kj5 l0).bind fun bt615 => (if (bt615.2.1.length : Int) = (l0.length : Int) then ((domup_Add.f kj5 bt615.1 bt615.2.1 bt615.2.2 a1 a2).bind fun bt623 => ((domup_Top.f kj5 bt615.1 bt615.2.1 bt615.2.2 a1 a2).bind fun t634 => (if a3 = true then ((domup_Del.f kj5 bt615.1 bt615.2.1 bt615.2.2 a1 a2).bind fun bt635 => (if 0 ≤ a2 then (if a2 < (bt615.2.1.length : Int) then (bywashlaw15_DomupUnder.j1 kj5 l0 a1 a2 a3 t613 bt635.2.2.2 (rd bt615.2.1 a2) bt615.1 bt615.2.1 bt615.2.2 bt635.1 bt635.2.1 bt635.2.2.1) else (none)) else (none))) else (bywashlaw15_DomupUnder.j1 kj5 l0 a1 a2 a3 t613 bt623.2.2.2 t634 bt615.1 bt615.2.1 bt615.2.2 bt623.1 bt623.2.1 bt623.2.2.1)))) else (some false))) = some r := by rw [if_neg (show ¬ (false = true) by decide)] at H; exact H
        clear H
        have H := H1
        clear H1
        replace H := Option.bind_eq_some_iff.mp H
        obtain ⟨⟨t615, t618, t621⟩, A140, H⟩ := H
        replace H : (if (t618.length : Int) = (l0.length : Int) then ((domup_Add.f kj5 t615 t618 t621 a1 a2).bind fun bt623 => ((domup_Top.f kj5 t615 t618 t621 a1 a2).bind fun t634 => (if a3 = true then ((domup_Del.f kj5 t615 t618 t621 a1 a2).bind fun bt635 => (if 0 ≤ a2 then (if a2 < (t618.length : Int) then (bywashlaw15_DomupUnder.j1 kj5 l0 a1 a2 a3 t613 bt635.2.2.2 (rd t618 a2) t615 t618 t621 bt635.1 bt635.2.1 bt635.2.2.1) else (none)) else (none))) else (bywashlaw15_DomupUnder.j1 kj5 l0 a1 a2 a3 t613 bt623.2.2.2 t634 t615 t618 t621 bt623.1 bt623.2.1 bt623.2.2.1)))) else (some false)) = some r := H
        have A14 := Aside0.mk A140
        clear A140
        by_cases c15 : (t618.length : Int) = (l0.length : Int)
        · rw [if_pos c15] at H
          have c15b0 : ((t618.length : Int) == (l0.length : Int)) = true := beq_iff_eq.mpr c15
          have c15b1 : ((t618.length : Int) != (l0.length : Int)) = false := bne_eq_false_iff_eq.mpr c15
          have c15b2 : (t618.length == l0.length) = true := by first | simpa using c15 | (simp at c15 ⊢; omega)
          clear c15
          replace H := Option.bind_eq_some_iff.mp H
          obtain ⟨⟨t623, t626, t629, t630⟩, A160, H⟩ := H
          replace H : ((domup_Top.f kj5 t615 t618 t621 a1 a2).bind fun t634 => (if a3 = true then ((domup_Del.f kj5 t615 t618 t621 a1 a2).bind fun bt635 => (if 0 ≤ a2 then (if a2 < (t618.length : Int) then (bywashlaw15_DomupUnder.j1 kj5 l0 a1 a2 a3 t613 bt635.2.2.2 (rd t618 a2) t615 t618 t621 bt635.1 bt635.2.1 bt635.2.2.1) else (none)) else (none))) else (bywashlaw15_DomupUnder.j1 kj5 l0 a1 a2 a3 t613 t630 t634 t615 t618 t621 t623 t626 t629))) = some r := H
          have A16 := Aside0.mk A160
          clear A160
          replace H := Option.bind_eq_some_iff.mp H
          obtain ⟨t634, A170, H⟩ := H
          replace H : (if a3 = true then ((domup_Del.f kj5 t615 t618 t621 a1 a2).bind fun bt635 => (if 0 ≤ a2 then (if a2 < (t618.length : Int) then (bywashlaw15_DomupUnder.j1 kj5 l0 a1 a2 a3 t613 bt635.2.2.2 (rd t618 a2) t615 t618 t621 bt635.1 bt635.2.1 bt635.2.2.1) else (none)) else (none))) else (bywashlaw15_DomupUnder.j1 kj5 l0 a1 a2 a3 t613 t630 t634 t615 t618 t621 t623 t626 t629)) = some r := H
          have A17 := Aside0.mk A170
          clear A170
          have HC18 := Aside0.mk H
          clear H
          go_upto_if 61 with (first | ((with_reducible refine gate_callee (f := 32) rfl ?_); refine goesL_ (some 43) rfl rfl Try.func32 (by kernel_rfl) rfl #[.slice A0 l0.length c0] rfl (by (try simp only [List.map_toArray, List.map_cons, List.map_nil]); first | done | rfl | (simp only [List.length_drop, List.length_take]; rfl)) ?_; (with_reducible refine (domup_New.calls kj5 _ _ l0 t615 t618 t621 _ ?side1 ?side2 A14.out).mono ?_); (case side1 => repeat (first | exact (Kd.C_below HR0.out HB.out) | (with_reducible refine Kd.C_alloc ?_ _) | (with_reducible refine Kd.C_drewN ?_ _) | (with_reducible refine Kd.C_drew ?_))); (case side2 => exact HC0.out); rintro e w19 ⟨v616, v619, rfl, ho0, ho1, hb⟩; refine ⟨_, rfl, ?_⟩; have n0_ := Aside0.mk (Kd.S_lower ho0 (below_size (by repeat (first | (with_reducible first | exact HB.out | apply below_alloc | apply pw_below_drewN | apply below_drew1) | exact HB.out)))); have n1_ := Aside0.mk (Kd.R_lower ho1 (below_size (by repeat (first | (with_reducible first | exact HB.out | apply below_alloc | apply pw_below_drewN | apply below_drew1) | exact HB.out)))); have n2_ := Aside0.mk (below_step (by repeat (first | (with_reducible first | exact HB.out | apply below_alloc | apply pw_below_drewN | apply below_drew1) | exact HB.out)) hb); clear HB; have HO617 := n0_; have HO620 := n1_; have HB := n2_; clear n0_ n1_ n2_; (try clear hb); (try clear hb2); (try clear hk); (try clear hi); (try clear ho0); (try clear ho1)) | ((with_reducible refine gate_dst (N := 10) rfl ?_); (try (refine gate_guard (by rfl) ?_; dsimp only)); refine box_event ?hg (N := 10) ?hd (cs := #[.slice none 0 0, .slice none 0 0, .bool false]) (t := 40) ?hr ?_; (case hd => rfl); (case hg => rfl); (case hr => first | (go_simp; done) | (go_simp; rfl)); intro gb622 hg w20 hbox hb; have n0_ := Aside0.mk (Kd.S_below (by (with_reducible repeat (first | apply Kd.S_alloc | apply Kd.S_drewN | apply Kd.S_drew)); exact HO617.out) hb); have n1_ := Aside0.mk (Kd.R_below (by (with_reducible repeat (first | apply Kd.R_alloc | apply Kd.R_drewN | apply Kd.R_drew)); exact HO620.out) hb); have n2_ := Aside0.mk (below_step (by repeat (first | (with_reducible first | exact HB.out | apply below_alloc | apply pw_below_drewN | apply below_drew1) | exact HB.out)) hb); have n3_ := Aside0.mk (hbox); have n4_ := Aside0.mk ((by rw [hg]; exact (below_size (by repeat (first | (with_reducible first | exact HB.out | apply below_alloc | apply pw_below_drewN | apply below_drew1) | exact HB.out))) : w.heap.size ≤ gb622)); have n5_ := Aside0.mk ((by rw [hg]; exact (below_size (by repeat (first | (with_reducible first | exact HB.out | apply below_alloc | apply pw_below_drewN | apply below_drew1) | exact HB.out))) : w.heap.size ≤ gb622)); clear HO617; clear HO620; clear HB; have HO617 := n0_; have HO620 := n1_; have HB := n2_; have BK622 := n3_; have GW622 := n4_; have GE622 := n5_; clear n0_ n1_ n2_ n3_ n4_ n5_; clear hb hbox hg; obtain ⟨Ao21, co21, eo21⟩ := Kd.S_slice HO617.out; subst eo21; have hcz22_0 : w20.cell? ⟨gb622, 0, none⟩ = some (.slice none 0 0) := (blk_cell BK622.out 0).trans rfl; have hcz22_1 : w20.cell? ⟨gb622, 1, none⟩ = some (.slice none 0 0) := (blk_cell BK622.out 1).trans rfl; have hcz22_2 : w20.cell? ⟨gb622, 2, none⟩ = some (.bool false) := (blk_cell BK622.out 2).trans rfl; have hfz22_0 := blk_frozen BK622.out 0; have hfz22_1 := blk_frozen BK622.out 1; have hfz22_2 := blk_frozen BK622.out 2; obtain ⟨Ao23, co23, eo23⟩ := Kd.R_slice HO620.out; subst eo23) | ((with_reducible refine gate_callee (f := 33) rfl ?_); refine goesL_ (some 54) rfl rfl Try.func33 (by kernel_rfl) rfl #[.agg #[.slice Ao21 t615.length co21, .slice Ao23 t618.length co23, .bool t621], .int .i64 a1, .int .i64 a2] rfl (by (try simp only [List.map_toArray, List.map_cons, List.map_nil]); first | done | rfl | (simp only [List.length_drop, List.length_take]; rfl)) ?_; (with_reducible refine (domup_Add.calls kj5 _ _ t615 _ _ t618 t621 a1 a2 t623 t626 t629 t630 _ ?side1 ?side2 ?side3 ?side4 A16.out).mono ?_); (case side1 => refine (Kd.S_reads' (e := 25) (base := w.heap.size) (ok := fun k_ => some k_ ≠ (.slice Ao23 t618.length co23 : Value).ownBlock) (n := t615.length) (c := co21) ?_).2.2; exact (by (with_reducible repeat (first | apply Kd.S_alloc | apply Kd.S_drewN | apply Kd.S_drew)); exact (Kd.S_mono (Kd.S_far (p := ⟨gb622, 2, none⟩) (Kd.S_far (p := ⟨gb622, 1, none⟩) (Kd.S_far (p := ⟨gb622, 0, none⟩) (Kd.S_types HO617.out BK622.out (by decide)) (fun _ hk => hk.2) (.slice Ao21 t615.length co21)) (fun _ hk => hk.2) (.slice Ao23 t618.length co23)) (fun _ hk => hk.2) (.bool t621)) (fun _ h_ => h_.1)))); (case side2 => exact (Kd.S_reads' HO617.out).2.1); (case side3 => refine (Kd.R_reads' (e := 3) (base := w.heap.size) (ok := fun k_ => True) (n := t618.length) (c := co23) ?_).2.2; exact (by (with_reducible repeat (first | apply Kd.R_alloc | apply Kd.R_drewN | apply Kd.R_drew)); exact (Kd.R_mono (Kd.R_far (p := ⟨gb622, 2, none⟩) (Kd.R_far (p := ⟨gb622, 1, none⟩) (Kd.R_far (p := ⟨gb622, 0, none⟩) (Kd.R_types HO620.out BK622.out (by decide)) (fun _ hk => hk.2) (.slice Ao21 t615.length co21)) (fun _ hk => hk.2) (.slice Ao23 t618.length co23)) (fun _ hk => hk.2) (.bool t621)) (fun _ h_ => h_.1)))); (case side4 => exact (Kd.R_reads' HO620.out).2.1); rintro e w24 ⟨v624, v627, v631, rfl, ho0, ho1, ho2, hb⟩; refine ⟨_, rfl, ?_⟩; have n0_ := Aside0.mk (Kd.S_mono (Kd.S_told (Kd.S_told (Kd.S_told (Kd.S_old (by (with_reducible repeat (first | apply Kd.S_alloc | apply Kd.S_drewN | apply Kd.S_drew)); exact (Kd.S_mono (Kd.S_far (p := ⟨gb622, 2, none⟩) (Kd.S_far (p := ⟨gb622, 1, none⟩) (Kd.S_far (p := ⟨gb622, 0, none⟩) (Kd.S_types HO617.out BK622.out (by decide)) (fun _ hk => hk.2) (.slice Ao21 t615.length co21)) (fun _ hk => hk.2) (.slice Ao23 t618.length co23)) (fun _ hk => hk.2) (.bool t621)) (fun _ h_ => h_.1))) hb) (Kd.S_base ho0)) (Kd.R_base ho1)) (Kd.R_base ho2)) (fun _ h_ => h_.1)); have n1_ := Aside0.mk (Kd.R_mono (Kd.R_told (Kd.R_told (Kd.R_old (by (with_reducible repeat (first | apply Kd.R_alloc | apply Kd.R_drewN | apply Kd.R_drew)); exact (Kd.R_mono (Kd.R_far (p := ⟨gb622, 2, none⟩) (Kd.R_far (p := ⟨gb622, 1, none⟩) (Kd.R_far (p := ⟨gb622, 0, none⟩) (Kd.R_types HO620.out BK622.out (by decide)) (fun _ hk => hk.2) (.slice Ao21 t615.length co21)) (fun _ hk => hk.2) (.slice Ao23 t618.length co23)) (fun _ hk => hk.2) (.bool t621)) (fun _ h_ => h_.1))) hb) (Kd.R_base ho1)) (Kd.R_base ho2)) (fun _ h_ => h_.1)); have n2_ := Aside0.mk (Kd.S_lower (Kd.S_new' (Kd.S_new' ho0 (Kd.S_lt (by (with_reducible repeat (first | apply Kd.S_alloc | apply Kd.S_drewN | apply Kd.S_drew)); exact (Kd.S_mono (Kd.S_far (p := ⟨gb622, 2, none⟩) (Kd.S_far (p := ⟨gb622, 1, none⟩) (Kd.S_far (p := ⟨gb622, 0, none⟩) (Kd.S_types HO617.out BK622.out (by decide)) (fun _ hk => hk.2) (.slice Ao21 t615.length co21)) (fun _ hk => hk.2) (.slice Ao23 t618.length co23)) (fun _ hk => hk.2) (.bool t621)) (fun _ h_ => h_.1))))) (Kd.R_lt (by (with_reducible repeat (first | apply Kd.R_alloc | apply Kd.R_drewN | apply Kd.R_drew)); exact (Kd.R_mono (Kd.R_far (p := ⟨gb622, 2, none⟩) (Kd.R_far (p := ⟨gb622, 1, none⟩) (Kd.R_far (p := ⟨gb622, 0, none⟩) (Kd.R_types HO620.out BK622.out (by decide)) (fun _ hk => hk.2) (.slice Ao21 t615.length co21)) (fun _ hk => hk.2) (.slice Ao23 t618.length co23)) (fun _ hk => hk.2) (.bool t621)) (fun _ h_ => h_.1))))) (below_size (by repeat (first | (with_reducible first | exact HB.out | apply below_alloc | apply pw_below_drewN | apply below_drew1 | refine below_set ?_ GE622.out) | exact HB.out)))); have n3_ := Aside0.mk (Kd.R_lower (Kd.R_new' ho1 (Kd.R_lt (by (with_reducible repeat (first | apply Kd.R_alloc | apply Kd.R_drewN | apply Kd.R_drew)); exact (Kd.R_mono (Kd.R_far (p := ⟨gb622, 2, none⟩) (Kd.R_far (p := ⟨gb622, 1, none⟩) (Kd.R_far (p := ⟨gb622, 0, none⟩) (Kd.R_types HO620.out BK622.out (by decide)) (fun _ hk => hk.2) (.slice Ao21 t615.length co21)) (fun _ hk => hk.2) (.slice Ao23 t618.length co23)) (fun _ hk => hk.2) (.bool t621)) (fun _ h_ => h_.1))))) (below_size (by repeat (first | (with_reducible first | exact HB.out | apply below_alloc | apply pw_below_drewN | apply below_drew1 | refine below_set ?_ GE622.out) | exact HB.out)))); have n4_ := Aside0.mk (Kd.R_lower (Kd.R_new' ho2 (Kd.R_lt (by (with_reducible repeat (first | apply Kd.R_alloc | apply Kd.R_drewN | apply Kd.R_drew)); exact (Kd.R_mono (Kd.R_far (p := ⟨gb622, 2, none⟩) (Kd.R_far (p := ⟨gb622, 1, none⟩) (Kd.R_far (p := ⟨gb622, 0, none⟩) (Kd.R_types HO620.out BK622.out (by decide)) (fun _ hk => hk.2) (.slice Ao21 t615.length co21)) (fun _ hk => hk.2) (.slice Ao23 t618.length co23)) (fun _ hk => hk.2) (.bool t621)) (fun _ h_ => h_.1))))) (below_size (by repeat (first | (with_reducible first | exact HB.out | apply below_alloc | apply pw_below_drewN | apply below_drew1 | refine below_set ?_ GE622.out) | exact HB.out)))); have n5_ := Aside0.mk (blk_below (g := gb622) (o := .cells #[.slice Ao21 t615.length co21, .slice Ao23 t618.length co23, .bool t621] 40 (0, 0)) (by (with_reducible repeat (first | refine blk_drewN ?_ _ | refine blk_drew ?_ | refine blk_alloc ?_ _)); refine blk_put (cs := #[.slice Ao21 t615.length co21, .slice Ao23 t618.length co23, .bool false]) ?_ 2 _ rfl; (with_reducible repeat (first | refine blk_drewN ?_ _ | refine blk_drew ?_ | refine blk_alloc ?_ _)); refine blk_put (cs := #[.slice Ao21 t615.length co21, .slice none 0 0, .bool false]) ?_ 1 _ rfl; (with_reducible repeat (first | refine blk_drewN ?_ _ | refine blk_drew ?_ | refine blk_alloc ?_ _)); refine blk_put (cs := #[.slice none 0 0, .slice none 0 0, .bool false]) ?_ 0 _ rfl; (with_reducible repeat (first | refine blk_drewN ?_ _ | refine blk_drew ?_ | refine blk_alloc ?_ _)); exact BK622.out) hb); have n6_ := Aside0.mk (below_step (by repeat (first | (with_reducible first | exact HB.out | apply below_alloc | apply pw_below_drewN | apply below_drew1 | refine below_set ?_ GE622.out) | exact HB.out)) hb); clear HO617; clear HO620; clear BK622; clear HB; have HO617 := n0_; have HO620 := n1_; have HO625 := n2_; have HO628 := n3_; have HO632 := n4_; have BK622 := n5_; have HB := n6_; clear n0_ n1_ n2_ n3_ n4_ n5_ n6_; (try clear hb); (try clear hb2); (try clear hk); (try clear hi); (try clear ho0); (try clear ho1); (try clear ho2)) | ((with_reducible refine gate_dst (N := 11) rfl ?_); (try (refine gate_guard (by rfl) ?_; dsimp only)); refine box_event ?hg (N := 11) ?hd (cs := #[.slice none 0 0, .slice none 0 0, .bool false]) (t := 40) ?hr ?_; (case hd => rfl); (case hg => rfl); (case hr => first | (go_simp; done) | (go_simp; rfl)); intro gb633 hg w25 hbox hb; have n0_ := Aside0.mk (Kd.S_below (by (with_reducible repeat (first | apply Kd.S_alloc | apply Kd.S_drewN | apply Kd.S_drew)); exact HO617.out) hb); have n1_ := Aside0.mk (Kd.R_below (by (with_reducible repeat (first | apply Kd.R_alloc | apply Kd.R_drewN | apply Kd.R_drew)); exact HO620.out) hb); have n2_ := Aside0.mk (Kd.S_below (by (with_reducible repeat (first | apply Kd.S_alloc | apply Kd.S_drewN | apply Kd.S_drew)); exact HO625.out) hb); have n3_ := Aside0.mk (Kd.R_below (by (with_reducible repeat (first | apply Kd.R_alloc | apply Kd.R_drewN | apply Kd.R_drew)); exact HO628.out) hb); have n4_ := Aside0.mk (Kd.R_below (by (with_reducible repeat (first | apply Kd.R_alloc | apply Kd.R_drewN | apply Kd.R_drew)); exact HO632.out) hb); have n5_ := Aside0.mk (blk_below (g := gb622) (o := .cells #[.slice Ao21 t615.length co21, .slice Ao23 t618.length co23, .bool t621] 40 (0, 0)) (by (with_reducible repeat (first | refine blk_drewN ?_ _ | refine blk_drew ?_ | refine blk_alloc ?_ _)); exact BK622.out) hb); have n6_ := Aside0.mk (below_step (by repeat (first | (with_reducible first | exact HB.out | apply below_alloc | apply pw_below_drewN | apply below_drew1 | refine below_set ?_ GE622.out) | exact HB.out)) hb); have n7_ := Aside0.mk (hbox); have n8_ := Aside0.mk ((by rw [hg]; exact (below_size (by repeat (first | (with_reducible first | exact HB.out | apply below_alloc | apply pw_below_drewN | apply below_drew1 | refine below_set ?_ GE622.out) | exact HB.out))) : w.heap.size ≤ gb633)); have n9_ := Aside0.mk ((by rw [hg]; exact (below_size (by repeat (first | (with_reducible first | exact HB.out | apply below_alloc | apply pw_below_drewN | apply below_drew1 | refine below_set ?_ GE622.out) | exact HB.out))) : w.heap.size ≤ gb633)); have n10_ := Aside0.mk ((by rw [hg]; exact Nat.ne_of_lt (blk_lt (g := gb622) (o := .cells #[.slice Ao21 t615.length co21, .slice Ao23 t618.length co23, .bool t621] 40 (0, 0)) (by (with_reducible repeat (first | refine blk_drewN ?_ _ | refine blk_drew ?_ | refine blk_alloc ?_ _)); exact BK622.out)) : gb622 ≠ gb633)); have n11_ := Aside0.mk ((by rw [hg]; exact Nat.ne_of_gt (blk_lt (g := gb622) (o := .cells #[.slice Ao21 t615.length co21, .slice Ao23 t618.length co23, .bool t621] 40 (0, 0)) (by (with_reducible repeat (first | refine blk_drewN ?_ _ | refine blk_drew ?_ | refine blk_alloc ?_ _)); exact BK622.out)) : gb633 ≠ gb622)); clear HO617; clear HO620; clear HO625; clear HO628; clear HO632; clear BK622; clear HB; have HO617 := n0_; have HO620 := n1_; have HO625 := n2_; have HO628 := n3_; have HO632 := n4_; have BK622 := n5_; have HB := n6_; have BK633 := n7_; have GW633 := n8_; have GE633 := n9_; have NB622_633 := n10_; have NB633_622 := n11_; clear n0_ n1_ n2_ n3_ n4_ n5_ n6_ n7_ n8_ n9_ n10_ n11_; clear hb hbox hg; obtain ⟨Ao26, co26, eo26⟩ := Kd.S_slice HO625.out; subst eo26; have hnb27 := NB633_622.out; have hnc27 := NB622_633.out; have hcz28_0 : w25.cell? ⟨gb633, 0, none⟩ = some (.slice none 0 0) := (blk_cell BK633.out 0).trans rfl; have hcz28_1 : w25.cell? ⟨gb633, 1, none⟩ = some (.slice none 0 0) := (blk_cell BK633.out 1).trans rfl; have hcz28_2 : w25.cell? ⟨gb633, 2, none⟩ = some (.bool false) := (blk_cell BK633.out 2).trans rfl; have hfz28_0 := blk_frozen BK633.out 0; have hfz28_1 := blk_frozen BK633.out 1; have hfz28_2 := blk_frozen BK633.out 2; obtain ⟨Ao29, co29, eo29⟩ := Kd.R_slice HO628.out; subst eo29; have hcz30_0 : w25.cell? ⟨gb622, 0, none⟩ = some (.slice Ao21 t615.length co21) := (blk_cell BK622.out 0).trans rfl; have hcz30_1 : w25.cell? ⟨gb622, 1, none⟩ = some (.slice Ao23 t618.length co23) := (blk_cell BK622.out 1).trans rfl; have hcz30_2 : w25.cell? ⟨gb622, 2, none⟩ = some (.bool t621) := (blk_cell BK622.out 2).trans rfl; have hfz30_0 := blk_frozen BK622.out 0; have hfz30_1 := blk_frozen BK622.out 1; have hfz30_2 := blk_frozen BK622.out 2) | ((with_reducible refine gate_callee (f := 34) rfl ?_); refine goesL_ (some 60) rfl rfl Try.func34 (by kernel_rfl) rfl #[.agg #[.slice Ao21 t615.length co21, .slice Ao23 t618.length co23, .bool t621], .int .i64 a1, .int .i64 a2] rfl (by (try simp only [List.map_toArray, List.map_cons, List.map_nil]); first | done | rfl | (simp only [List.length_drop, List.length_take]; rfl)) ?_; (with_reducible refine (domup_Top.calls kj5 _ _ t615 _ _ t618 t621 a1 a2 t634 _ ?side1 ?side2 ?side3 ?side4 A17.out).mono ?_); (case side1 => refine (Kd.S_reads' (e := 25) (base := w.heap.size) (ok := fun k_ => (((some k_ ≠ (.slice Ao23 t618.length co23 : Value).ownBlock ∧ some k_ ≠ (.slice Ao26 t623.length co26 : Value).ownBlock) ∧ some k_ ≠ (.slice Ao29 t626.length co29 : Value).ownBlock) ∧ some k_ ≠ (v631 : Value).ownBlock)) (n := t615.length) (c := co21) ?_).2.2; exact (by (with_reducible repeat (first | apply Kd.S_alloc | apply Kd.S_drewN | apply Kd.S_drew)); exact (Kd.S_mono (Kd.S_far (p := ⟨gb633, 2, none⟩) (Kd.S_far (p := ⟨gb633, 1, none⟩) (Kd.S_far (p := ⟨gb633, 0, none⟩) (Kd.S_types HO617.out BK633.out (by decide)) (fun _ hk => hk.2) (.slice Ao26 t623.length co26)) (fun _ hk => hk.2) (.slice Ao29 t626.length co29)) (fun _ hk => hk.2) (.bool t629)) (fun _ h_ => h_.1)))); (case side2 => exact (Kd.S_reads' HO617.out).2.1); (case side3 => refine (Kd.R_reads' (e := 3) (base := w.heap.size) (ok := fun k_ => ((True ∧ some k_ ≠ (.slice Ao29 t626.length co29 : Value).ownBlock) ∧ some k_ ≠ (v631 : Value).ownBlock)) (n := t618.length) (c := co23) ?_).2.2; exact (by (with_reducible repeat (first | apply Kd.R_alloc | apply Kd.R_drewN | apply Kd.R_drew)); exact (Kd.R_mono (Kd.R_far (p := ⟨gb633, 2, none⟩) (Kd.R_far (p := ⟨gb633, 1, none⟩) (Kd.R_far (p := ⟨gb633, 0, none⟩) (Kd.R_types HO620.out BK633.out (by decide)) (fun _ hk => hk.2) (.slice Ao26 t623.length co26)) (fun _ hk => hk.2) (.slice Ao29 t626.length co29)) (fun _ hk => hk.2) (.bool t629)) (fun _ h_ => h_.1)))); (case side4 => exact (Kd.R_reads' HO620.out).2.1); rintro e w31 ⟨rfl, hb⟩; refine ⟨_, rfl, ?_⟩; have n0_ := Aside0.mk (Kd.S_below (by (with_reducible repeat (first | apply Kd.S_alloc | apply Kd.S_drewN | apply Kd.S_drew)); exact (Kd.S_mono (Kd.S_far (p := ⟨gb633, 2, none⟩) (Kd.S_far (p := ⟨gb633, 1, none⟩) (Kd.S_far (p := ⟨gb633, 0, none⟩) (Kd.S_types HO617.out BK633.out (by decide)) (fun _ hk => hk.2) (.slice Ao26 t623.length co26)) (fun _ hk => hk.2) (.slice Ao29 t626.length co29)) (fun _ hk => hk.2) (.bool t629)) (fun _ h_ => h_.1))) hb); have n1_ := Aside0.mk (Kd.R_below (by (with_reducible repeat (first | apply Kd.R_alloc | apply Kd.R_drewN | apply Kd.R_drew)); exact (Kd.R_mono (Kd.R_far (p := ⟨gb633, 2, none⟩) (Kd.R_far (p := ⟨gb633, 1, none⟩) (Kd.R_far (p := ⟨gb633, 0, none⟩) (Kd.R_types HO620.out BK633.out (by decide)) (fun _ hk => hk.2) (.slice Ao26 t623.length co26)) (fun _ hk => hk.2) (.slice Ao29 t626.length co29)) (fun _ hk => hk.2) (.bool t629)) (fun _ h_ => h_.1))) hb); have n2_ := Aside0.mk (Kd.S_below (by (with_reducible repeat (first | apply Kd.S_alloc | apply Kd.S_drewN | apply Kd.S_drew)); exact (Kd.S_mono (Kd.S_far (p := ⟨gb633, 2, none⟩) (Kd.S_far (p := ⟨gb633, 1, none⟩) (Kd.S_far (p := ⟨gb633, 0, none⟩) (Kd.S_types HO625.out BK633.out (by decide)) (fun _ hk => hk.2) (.slice Ao26 t623.length co26)) (fun _ hk => hk.2) (.slice Ao29 t626.length co29)) (fun _ hk => hk.2) (.bool t629)) (fun _ h_ => h_.1))) hb); have n3_ := Aside0.mk (Kd.R_below (by (with_reducible repeat (first | apply Kd.R_alloc | apply Kd.R_drewN | apply Kd.R_drew)); exact (Kd.R_mono (Kd.R_far (p := ⟨gb633, 2, none⟩) (Kd.R_far (p := ⟨gb633, 1, none⟩) (Kd.R_far (p := ⟨gb633, 0, none⟩) (Kd.R_types HO628.out BK633.out (by decide)) (fun _ hk => hk.2) (.slice Ao26 t623.length co26)) (fun _ hk => hk.2) (.slice Ao29 t626.length co29)) (fun _ hk => hk.2) (.bool t629)) (fun _ h_ => h_.1))) hb); have n4_ := Aside0.mk (Kd.R_below (by (with_reducible repeat (first | apply Kd.R_alloc | apply Kd.R_drewN | apply Kd.R_drew)); exact (Kd.R_mono (Kd.R_far (p := ⟨gb633, 2, none⟩) (Kd.R_far (p := ⟨gb633, 1, none⟩) (Kd.R_far (p := ⟨gb633, 0, none⟩) (Kd.R_types HO632.out BK633.out (by decide)) (fun _ hk => hk.2) (.slice Ao26 t623.length co26)) (fun _ hk => hk.2) (.slice Ao29 t626.length co29)) (fun _ hk => hk.2) (.bool t629)) (fun _ h_ => h_.1))) hb); have n5_ := Aside0.mk (blk_below (g := gb622) (o := .cells #[.slice Ao21 t615.length co21, .slice Ao23 t618.length co23, .bool t621] 40 (0, 0)) (by (with_reducible repeat (first | refine blk_drewN ?_ _ | refine blk_drew ?_ | refine blk_alloc ?_ _)); refine blk_far ?_ NB622_633.out _; (with_reducible repeat (first | refine blk_drewN ?_ _ | refine blk_drew ?_ | refine blk_alloc ?_ _)); refine blk_far ?_ NB622_633.out _; (with_reducible repeat (first | refine blk_drewN ?_ _ | refine blk_drew ?_ | refine blk_alloc ?_ _)); refine blk_far ?_ NB622_633.out _; (with_reducible repeat (first | refine blk_drewN ?_ _ | refine blk_drew ?_ | refine blk_alloc ?_ _)); exact BK622.out) hb); have n6_ := Aside0.mk (blk_below (g := gb633) (o := .cells #[.slice Ao26 t623.length co26, .slice Ao29 t626.length co29, .bool t629] 40 (0, 0)) (by (with_reducible repeat (first | refine blk_drewN ?_ _ | refine blk_drew ?_ | refine blk_alloc ?_ _)); refine blk_put (cs := #[.slice Ao26 t623.length co26, .slice Ao29 t626.length co29, .bool false]) ?_ 2 _ rfl; (with_reducible repeat (first | refine blk_drewN ?_ _ | refine blk_drew ?_ | refine blk_alloc ?_ _)); refine blk_put (cs := #[.slice Ao26 t623.length co26, .slice none 0 0, .bool false]) ?_ 1 _ rfl; (with_reducible repeat (first | refine blk_drewN ?_ _ | refine blk_drew ?_ | refine blk_alloc ?_ _)); refine blk_put (cs := #[.slice none 0 0, .slice none 0 0, .bool false]) ?_ 0 _ rfl; (with_reducible repeat (first | refine blk_drewN ?_ _ | refine blk_drew ?_ | refine blk_alloc ?_ _)); exact BK633.out) hb); have n7_ := Aside0.mk (below_step (by repeat (first | (with_reducible first | exact HB.out | apply below_alloc | apply pw_below_drewN | apply below_drew1 | refine below_set ?_ GE622.out | refine below_set ?_ GE633.out) | exact HB.out)) hb); clear HO617; clear HO620; clear HO625; clear HO628; clear HO632; clear BK622; clear BK633; clear HB; have HO617 := n0_; have HO620 := n1_; have HO625 := n2_; have HO628 := n3_; have HO632 := n4_; have BK622 := n5_; have BK633 := n6_; have HB := n7_; clear n0_ n1_ n2_ n3_ n4_ n5_ n6_ n7_; (try clear hb); (try clear hb2); (try clear hk); (try clear hi)))
          (try simp only [Act.put, List.setIfInBounds_toArray, List.set_cons_zero, List.set_cons_succ])
          go_cut [12, 13] (fun v12 v13 wc => ∃ (kq : Nat) (x12_17 : List Int) (x13_17 : Int) (x634000_17 : List (List Int)) (x634001_17 : List Int) (x634002_17 : Bool) (u634000 : Value) (u634001 : Value), v13 = .int .i64 x13_17 ∧ Aside0 (bywashlaw15_DomupUnder.j1 kq l0 a1 a2 a3 t613 x12_17 x13_17 t615 t618 t621 x634000_17 x634001_17 x634002_17 = some r) ∧ Aside0 (kq ≤ kj5) ∧ Aside0 (Kd.R (Kd.int .i64) 3 wc w.heap.size (fun k_ => some k_ ≠ ((.slice Ao23 t618.length co23) : Value).ownBlock ∧ some k_ ≠ (u634001 : Value).ownBlock) v12 x12_17) ∧ Aside0 (Kd.S (Kd.slice 3 (Kd.int .i64)) 25 wc w.heap.size (fun k_ => some k_ ≠ (v12 : Value).ownBlock ∧ some k_ ≠ ((.slice Ao23 t618.length co23) : Value).ownBlock ∧ some k_ ≠ (u634000 : Value).ownBlock ∧ some k_ ≠ (u634001 : Value).ownBlock) (.slice Ao21 t615.length co21) t615) ∧ Aside0 (Kd.R (Kd.int .i64) 3 wc w.heap.size (fun k_ => some k_ ≠ (v12 : Value).ownBlock ∧ some k_ ≠ (u634001 : Value).ownBlock) (.slice Ao23 t618.length co23) t618) ∧ Aside0 (Kd.S (Kd.slice 3 (Kd.int .i64)) 25 wc w.heap.size (fun k_ => some k_ ≠ (v12 : Value).ownBlock ∧ some k_ ≠ ((.slice Ao21 t615.length co21) : Value).ownBlock ∧ some k_ ≠ ((.slice Ao23 t618.length co23) : Value).ownBlock ∧ some k_ ≠ (u634001 : Value).ownBlock) u634000 x634000_17) ∧ Aside0 (Kd.R (Kd.int .i64) 3 wc w.heap.size (fun k_ => some k_ ≠ (v12 : Value).ownBlock ∧ some k_ ≠ ((.slice Ao23 t618.length co23) : Value).ownBlock) u634001 x634001_17) ∧ Aside0 (wc.heap[gb622]? = some (.cells #[(.slice Ao21 t615.length co21), (.slice Ao23 t618.length co23), .bool t621] 40 (0, 0))) ∧ Aside0 (wc.heap[gb633]? = some (.cells #[u634000, u634001, .bool x634002_17] 40 (0, 0))) ∧ Aside0 (Below w.heap.size w wc))
          case first =>
            have H := HC18.out
            clear HC18
            by_cases c32 : a3 = true
            · subst c32
              have H1 : ((domup_Del.f kj5 t615 t618 t621 a1 a2).bind fun bt635 => (if 0 ≤ a2 then (if a2 < (t618.length : Int) then (bywashlaw15_DomupUnder.j1 kj5 l0 a1 a2 true t613 bt635.2.2.2 (rd t618 a2) t615 t618 t621 bt635.1 bt635.2.1 bt635.2.2.1) else (none)) else (none))) = some r := by rw [if_pos rfl] at H; exact H
              clear H
              have H := H1
              clear H1
              replace H := Option.bind_eq_some_iff.mp H
              obtain ⟨⟨t635, t638, t641, t642⟩, A330, H⟩ := H
              replace H : (if 0 ≤ a2 then (if a2 < (t618.length : Int) then (bywashlaw15_DomupUnder.j1 kj5 l0 a1 a2 true t613 t642 (rd t618 a2) t615 t618 t621 t635 t638 t641) else (none)) else (none)) = some r := H
              have A33 := Aside0.mk A330
              clear A330
              by_cases c34 : 0 ≤ a2
              · rw [if_pos c34] at H
                have c34b0 : decide (0 ≤ a2) = true := decide_eq_true c34
                clear c34
                (first | rw [c34b0] | (simp only [i64_w, i32_w]; rw [c34b0]) | skip)
                by_cases c35 : a2 < (t618.length : Int)
                · rw [if_pos c35] at H
                  have c35b0 : decide (a2 < (t618.length : Int)) = true := decide_eq_true c35
                  clear c35
                  have H' := Aside0.mk H
                  clear H
                  have hnb36 := NB622_633.out
                  have hnc36 := NB633_622.out
                  have hcz37_0 : w31.cell? ⟨gb622, 0, none⟩ = some (.slice Ao21 t615.length co21) := (blk_cell BK622.out 0).trans rfl
                  have hcz37_1 : w31.cell? ⟨gb622, 1, none⟩ = some (.slice Ao23 t618.length co23) := (blk_cell BK622.out 1).trans rfl
                  have hcz37_2 : w31.cell? ⟨gb622, 2, none⟩ = some (.bool t621) := (blk_cell BK622.out 2).trans rfl
                  have hfz37_0 := blk_frozen BK622.out 0
                  have hfz37_1 := blk_frozen BK622.out 1
                  have hfz37_2 := blk_frozen BK622.out 2
                  go_wp2_with (first | ((with_reducible refine gate_callee (f := 35) rfl ?_); refine goesL_ (some 66) rfl rfl Try.func35 (by kernel_rfl) rfl #[.agg #[.slice Ao21 t615.length co21, .slice Ao23 t618.length co23, .bool t621], .int .i64 a1, .int .i64 a2] rfl (by (try simp only [List.map_toArray, List.map_cons, List.map_nil]); first | done | rfl | (simp only [List.length_drop, List.length_take]; rfl)) ?_; (with_reducible refine (domup_Del.calls kj5 _ _ t615 _ _ t618 t621 a1 a2 t635 t638 t641 t642 _ ?side1 ?side2 ?side3 ?side4 A33.out).mono ?_); (case side1 => repeat (first | exact (Kd.S_reads' HO617.out).2.2 | (with_reducible refine Kd.C_alloc ?_ _) | (with_reducible refine Kd.C_drewN ?_ _) | (with_reducible refine Kd.C_drew ?_))); (case side2 => exact (Kd.S_reads' HO617.out).2.1); (case side3 => repeat (first | exact (Kd.R_reads' HO620.out).2.2 | (with_reducible refine Kd.C_alloc ?_ _) | (with_reducible refine Kd.C_drewN ?_ _) | (with_reducible refine Kd.C_drew ?_))); (case side4 => exact (Kd.R_reads' HO620.out).2.1); rintro e w38 ⟨v636, v639, v643, rfl, ho0, ho1, ho2, hb⟩; refine ⟨_, rfl, ?_⟩; have n0_ := Aside0.mk (Kd.S_mono (Kd.S_told (Kd.S_told (Kd.S_told (Kd.S_old (by (with_reducible repeat (first | apply Kd.S_alloc | apply Kd.S_drewN | apply Kd.S_drew)); exact HO617.out) hb) (Kd.S_base ho0)) (Kd.R_base ho1)) (Kd.R_base ho2)) (fun _ h_ => h_.1)); have n1_ := Aside0.mk (Kd.R_mono (Kd.R_told (Kd.R_told (Kd.R_old (by (with_reducible repeat (first | apply Kd.R_alloc | apply Kd.R_drewN | apply Kd.R_drew)); exact HO620.out) hb) (Kd.R_base ho1)) (Kd.R_base ho2)) (fun _ h_ => h_.1)); have n2_ := Aside0.mk (Kd.S_mono (Kd.S_told (Kd.S_told (Kd.S_told (Kd.S_old (by (with_reducible repeat (first | apply Kd.S_alloc | apply Kd.S_drewN | apply Kd.S_drew)); exact HO625.out) hb) (Kd.S_base ho0)) (Kd.R_base ho1)) (Kd.R_base ho2)) (fun _ h_ => h_.1)); have n3_ := Aside0.mk (Kd.R_mono (Kd.R_told (Kd.R_told (Kd.R_old (by (with_reducible repeat (first | apply Kd.R_alloc | apply Kd.R_drewN | apply Kd.R_drew)); exact HO628.out) hb) (Kd.R_base ho1)) (Kd.R_base ho2)) (fun _ h_ => h_.1)); have n4_ := Aside0.mk (Kd.R_mono (Kd.R_told (Kd.R_told (Kd.R_old (by (with_reducible repeat (first | apply Kd.R_alloc | apply Kd.R_drewN | apply Kd.R_drew)); exact HO632.out) hb) (Kd.R_base ho1)) (Kd.R_base ho2)) (fun _ h_ => h_.1)); have n5_ := Aside0.mk (Kd.S_lower (Kd.S_new' (Kd.S_new' (Kd.S_new' (Kd.S_new' (Kd.S_new' ho0 (Kd.S_lt (by (with_reducible repeat (first | apply Kd.S_alloc | apply Kd.S_drewN | apply Kd.S_drew)); exact HO617.out))) (Kd.R_lt (by (with_reducible repeat (first | apply Kd.R_alloc | apply Kd.R_drewN | apply Kd.R_drew)); exact HO620.out))) (Kd.S_lt (by (with_reducible repeat (first | apply Kd.S_alloc | apply Kd.S_drewN | apply Kd.S_drew)); exact HO625.out))) (Kd.R_lt (by (with_reducible repeat (first | apply Kd.R_alloc | apply Kd.R_drewN | apply Kd.R_drew)); exact HO628.out))) (Kd.R_lt (by (with_reducible repeat (first | apply Kd.R_alloc | apply Kd.R_drewN | apply Kd.R_drew)); exact HO632.out))) (below_size (by repeat (first | (with_reducible first | exact HB.out | apply below_alloc | apply pw_below_drewN | apply below_drew1 | refine below_set ?_ GE622.out | refine below_set ?_ GE633.out) | exact HB.out)))); have n6_ := Aside0.mk (Kd.R_lower (Kd.R_new' (Kd.R_new' (Kd.R_new' ho1 (Kd.R_lt (by (with_reducible repeat (first | apply Kd.R_alloc | apply Kd.R_drewN | apply Kd.R_drew)); exact HO620.out))) (Kd.R_lt (by (with_reducible repeat (first | apply Kd.R_alloc | apply Kd.R_drewN | apply Kd.R_drew)); exact HO628.out))) (Kd.R_lt (by (with_reducible repeat (first | apply Kd.R_alloc | apply Kd.R_drewN | apply Kd.R_drew)); exact HO632.out))) (below_size (by repeat (first | (with_reducible first | exact HB.out | apply below_alloc | apply pw_below_drewN | apply below_drew1 | refine below_set ?_ GE622.out | refine below_set ?_ GE633.out) | exact HB.out)))); have n7_ := Aside0.mk (Kd.R_lower (Kd.R_new' (Kd.R_new' (Kd.R_new' ho2 (Kd.R_lt (by (with_reducible repeat (first | apply Kd.R_alloc | apply Kd.R_drewN | apply Kd.R_drew)); exact HO620.out))) (Kd.R_lt (by (with_reducible repeat (first | apply Kd.R_alloc | apply Kd.R_drewN | apply Kd.R_drew)); exact HO628.out))) (Kd.R_lt (by (with_reducible repeat (first | apply Kd.R_alloc | apply Kd.R_drewN | apply Kd.R_drew)); exact HO632.out))) (below_size (by repeat (first | (with_reducible first | exact HB.out | apply below_alloc | apply pw_below_drewN | apply below_drew1 | refine below_set ?_ GE622.out | refine below_set ?_ GE633.out) | exact HB.out)))); have n8_ := Aside0.mk (blk_below (g := gb622) (o := .cells #[.slice Ao21 t615.length co21, .slice Ao23 t618.length co23, .bool t621] 40 (0, 0)) (by (with_reducible repeat (first | refine blk_drewN ?_ _ | refine blk_drew ?_ | refine blk_alloc ?_ _)); exact BK622.out) hb); have n9_ := Aside0.mk (blk_below (g := gb633) (o := .cells #[.slice Ao26 t623.length co26, .slice Ao29 t626.length co29, .bool t629] 40 (0, 0)) (by (with_reducible repeat (first | refine blk_drewN ?_ _ | refine blk_drew ?_ | refine blk_alloc ?_ _)); exact BK633.out) hb); have n10_ := Aside0.mk (below_step (by repeat (first | (with_reducible first | exact HB.out | apply below_alloc | apply pw_below_drewN | apply below_drew1 | refine below_set ?_ GE622.out | refine below_set ?_ GE633.out) | exact HB.out)) hb); clear HO617; clear HO620; clear HO625; clear HO628; clear HO632; clear BK622; clear BK633; clear HB; have HO617 := n0_; have HO620 := n1_; have HO625 := n2_; have HO628 := n3_; have HO632 := n4_; have HO637 := n5_; have HO640 := n6_; have HO644 := n7_; have BK622 := n8_; have BK633 := n9_; have HB := n10_; clear n0_ n1_ n2_ n3_ n4_ n5_ n6_ n7_ n8_ n9_ n10_; (try clear hb); (try clear hb2); (try clear hk); (try clear hi); (try clear ho0); (try clear ho1); (try clear ho2)) | ((with_reducible refine gate_dst (N := 14) rfl ?_); (try (refine gate_guard (by rfl) ?_; dsimp only)); refine box_event ?hg (N := 14) ?hd (cs := #[.slice none 0 0, .slice none 0 0, .bool false]) (t := 40) ?hr ?_; (case hd => rfl); (case hg => rfl); (case hr => first | (go_simp; done) | (go_simp; rfl)); intro gb645 hg w39 hbox hb; have n0_ := Aside0.mk (Kd.S_below (by (with_reducible repeat (first | apply Kd.S_alloc | apply Kd.S_drewN | apply Kd.S_drew)); exact HO617.out) hb); have n1_ := Aside0.mk (Kd.R_below (by (with_reducible repeat (first | apply Kd.R_alloc | apply Kd.R_drewN | apply Kd.R_drew)); exact HO620.out) hb); have n2_ := Aside0.mk (Kd.S_below (by (with_reducible repeat (first | apply Kd.S_alloc | apply Kd.S_drewN | apply Kd.S_drew)); exact HO625.out) hb); have n3_ := Aside0.mk (Kd.R_below (by (with_reducible repeat (first | apply Kd.R_alloc | apply Kd.R_drewN | apply Kd.R_drew)); exact HO628.out) hb); have n4_ := Aside0.mk (Kd.R_below (by (with_reducible repeat (first | apply Kd.R_alloc | apply Kd.R_drewN | apply Kd.R_drew)); exact HO632.out) hb); have n5_ := Aside0.mk (Kd.S_below (by (with_reducible repeat (first | apply Kd.S_alloc | apply Kd.S_drewN | apply Kd.S_drew)); exact HO637.out) hb); have n6_ := Aside0.mk (Kd.R_below (by (with_reducible repeat (first | apply Kd.R_alloc | apply Kd.R_drewN | apply Kd.R_drew)); exact HO640.out) hb); have n7_ := Aside0.mk (Kd.R_below (by (with_reducible repeat (first | apply Kd.R_alloc | apply Kd.R_drewN | apply Kd.R_drew)); exact HO644.out) hb); have n8_ := Aside0.mk (blk_below (g := gb622) (o := .cells #[.slice Ao21 t615.length co21, .slice Ao23 t618.length co23, .bool t621] 40 (0, 0)) (by (with_reducible repeat (first | refine blk_drewN ?_ _ | refine blk_drew ?_ | refine blk_alloc ?_ _)); exact BK622.out) hb); have n9_ := Aside0.mk (blk_below (g := gb633) (o := .cells #[.slice Ao26 t623.length co26, .slice Ao29 t626.length co29, .bool t629] 40 (0, 0)) (by (with_reducible repeat (first | refine blk_drewN ?_ _ | refine blk_drew ?_ | refine blk_alloc ?_ _)); exact BK633.out) hb); have n10_ := Aside0.mk (below_step (by repeat (first | (with_reducible first | exact HB.out | apply below_alloc | apply pw_below_drewN | apply below_drew1 | refine below_set ?_ GE622.out | refine below_set ?_ GE633.out) | exact HB.out)) hb); have n11_ := Aside0.mk (hbox); have n12_ := Aside0.mk ((by rw [hg]; exact (below_size (by repeat (first | (with_reducible first | exact HB.out | apply below_alloc | apply pw_below_drewN | apply below_drew1 | refine below_set ?_ GE622.out | refine below_set ?_ GE633.out) | exact HB.out))) : w.heap.size ≤ gb645)); have n13_ := Aside0.mk ((by rw [hg]; exact (below_size (by repeat (first | (with_reducible first | exact HB.out | apply below_alloc | apply pw_below_drewN | apply below_drew1 | refine below_set ?_ GE622.out | refine below_set ?_ GE633.out) | exact HB.out))) : w.heap.size ≤ gb645)); have n14_ := Aside0.mk ((by rw [hg]; exact Nat.ne_of_lt (blk_lt (g := gb622) (o := .cells #[.slice Ao21 t615.length co21, .slice Ao23 t618.length co23, .bool t621] 40 (0, 0)) (by (with_reducible repeat (first | refine blk_drewN ?_ _ | refine blk_drew ?_ | refine blk_alloc ?_ _)); exact BK622.out)) : gb622 ≠ gb645)); have n15_ := Aside0.mk ((by rw [hg]; exact Nat.ne_of_gt (blk_lt (g := gb622) (o := .cells #[.slice Ao21 t615.length co21, .slice Ao23 t618.length co23, .bool t621] 40 (0, 0)) (by (with_reducible repeat (first | refine blk_drewN ?_ _ | refine blk_drew ?_ | refine blk_alloc ?_ _)); exact BK622.out)) : gb645 ≠ gb622)); have n16_ := Aside0.mk ((by rw [hg]; exact Nat.ne_of_lt (blk_lt (g := gb633) (o := .cells #[.slice Ao26 t623.length co26, .slice Ao29 t626.length co29, .bool t629] 40 (0, 0)) (by (with_reducible repeat (first | refine blk_drewN ?_ _ | refine blk_drew ?_ | refine blk_alloc ?_ _)); exact BK633.out)) : gb633 ≠ gb645)); have n17_ := Aside0.mk ((by rw [hg]; exact Nat.ne_of_gt (blk_lt (g := gb633) (o := .cells #[.slice Ao26 t623.length co26, .slice Ao29 t626.length co29, .bool t629] 40 (0, 0)) (by (with_reducible repeat (first | refine blk_drewN ?_ _ | refine blk_drew ?_ | refine blk_alloc ?_ _)); exact BK633.out)) : gb645 ≠ gb633)); clear HO617; clear HO620; clear HO625; clear HO628; clear HO632; clear HO637; clear HO640; clear HO644; clear BK622; clear BK633; clear HB; have HO617 := n0_; have HO620 := n1_; have HO625 := n2_; have HO628 := n3_; have HO632 := n4_; have HO637 := n5_; have HO640 := n6_; have HO644 := n7_; have BK622 := n8_; have BK633 := n9_; have HB := n10_; have BK645 := n11_; have GW645 := n12_; have GE645 := n13_; have NB622_645 := n14_; have NB645_622 := n15_; have NB633_645 := n16_; have NB645_633 := n17_; clear n0_ n1_ n2_ n3_ n4_ n5_ n6_ n7_ n8_ n9_ n10_ n11_ n12_ n13_ n14_ n15_ n16_ n17_; clear hb hbox hg; obtain ⟨Ao40, co40, eo40⟩ := Kd.S_slice HO637.out; subst eo40; have hnb41 := NB645_622.out; have hnc41 := NB622_645.out; have hnb42 := NB645_633.out; have hnc42 := NB633_645.out; have hcz43_0 : w39.cell? ⟨gb645, 0, none⟩ = some (.slice none 0 0) := (blk_cell BK645.out 0).trans rfl; have hcz43_1 : w39.cell? ⟨gb645, 1, none⟩ = some (.slice none 0 0) := (blk_cell BK645.out 1).trans rfl; have hcz43_2 : w39.cell? ⟨gb645, 2, none⟩ = some (.bool false) := (blk_cell BK645.out 2).trans rfl; have hfz43_0 := blk_frozen BK645.out 0; have hfz43_1 := blk_frozen BK645.out 1; have hfz43_2 := blk_frozen BK645.out 2; obtain ⟨Ao44, co44, eo44⟩ := Kd.R_slice HO640.out; subst eo44; have hcz45_0 : w39.cell? ⟨gb633, 0, none⟩ = some (.slice Ao26 t623.length co26) := (blk_cell BK633.out 0).trans rfl; have hcz45_1 : w39.cell? ⟨gb633, 1, none⟩ = some (.slice Ao29 t626.length co29) := (blk_cell BK633.out 1).trans rfl; have hcz45_2 : w39.cell? ⟨gb633, 2, none⟩ = some (.bool t629) := (blk_cell BK633.out 2).trans rfl; have hfz45_0 := blk_frozen BK633.out 0; have hfz45_1 := blk_frozen BK633.out 1; have hfz45_2 := blk_frozen BK633.out 2; have hcz46_0 : w39.cell? ⟨gb622, 0, none⟩ = some (.slice Ao21 t615.length co21) := (blk_cell BK622.out 0).trans rfl; have hcz46_1 : w39.cell? ⟨gb622, 1, none⟩ = some (.slice Ao23 t618.length co23) := (blk_cell BK622.out 1).trans rfl; have hcz46_2 : w39.cell? ⟨gb622, 2, none⟩ = some (.bool t621) := (blk_cell BK622.out 2).trans rfl; have hfz46_0 := blk_frozen BK622.out 0; have hfz46_1 := blk_frozen BK622.out 1; have hfz46_2 := blk_frozen BK622.out 2; have p646 : 0 ≤ (a2 : Int) := of_decide_eq_true (by first | (with_reducible assumption) | assumption); have q646 : a2 < (t618.length : Int) := of_decide_eq_true (by first | (with_reducible assumption) | assumption); obtain ⟨ad646, e646, hx646_0⟩ := Kd.at_int (Kd.R_reads' HO620.out).2.2 a2 p646 q646; cases e646; have hn646_0 : ad646.block ≠ gb645 := Kd.own_blk (Kd.R_ne HO620.out BK645.out (by decide)); have hn646_1 : ad646.block ≠ gb645 := Kd.own_blk (Kd.R_ne HO620.out BK645.out (by decide)); have hn646_2 : ad646.block ≠ gb645 := Kd.own_blk (Kd.R_ne HO620.out BK645.out (by decide)); have hn646_3 : ad646.block ≠ gb633 := Kd.own_blk (Kd.R_ne HO620.out BK633.out (by decide)); have hn646_4 : ad646.block ≠ gb633 := Kd.own_blk (Kd.R_ne HO620.out BK633.out (by decide)); have hn646_5 : ad646.block ≠ gb633 := Kd.own_blk (Kd.R_ne HO620.out BK633.out (by decide)); replace hx646_0 := (cell_far (p := ⟨gb645, 0, none⟩) (by first | (rw [add_block]; exact hn646_0) | (show (Addr.add _ _).block ≠ _; rw [add_block]; exact hn646_0) | exact hn646_0) (.slice Ao40 t635.length co40)).trans hx646_0; replace hx646_0 := (cell_far (p := ⟨gb645, 1, none⟩) (by first | (rw [add_block]; exact hn646_1) | (show (Addr.add _ _).block ≠ _; rw [add_block]; exact hn646_1) | exact hn646_1) (.slice Ao44 t638.length co44)).trans hx646_0; replace hx646_0 := (cell_far (p := ⟨gb645, 2, none⟩) (by first | (rw [add_block]; exact hn646_2) | (show (Addr.add _ _).block ≠ _; rw [add_block]; exact hn646_2) | exact hn646_2) (.bool t641)).trans hx646_0; replace hx646_0 := (cell_far (p := ⟨gb633, 0, none⟩) (by first | (rw [add_block]; exact hn646_3) | (show (Addr.add _ _).block ≠ _; rw [add_block]; exact hn646_3) | exact hn646_3) (.slice Ao40 t635.length co40)).trans hx646_0; replace hx646_0 := (cell_far (p := ⟨gb633, 1, none⟩) (by first | (rw [add_block]; exact hn646_4) | (show (Addr.add _ _).block ≠ _; rw [add_block]; exact hn646_4) | exact hn646_4) (.slice Ao44 t638.length co44)).trans hx646_0; replace hx646_0 := (cell_far (p := ⟨gb633, 2, none⟩) (by first | (rw [add_block]; exact hn646_5) | (show (Addr.add _ _).block ≠ _; rw [add_block]; exact hn646_5) | exact hn646_5) (.bool t641)).trans hx646_0; clear hn646_0; clear hn646_1; clear hn646_2; clear hn646_3; clear hn646_4; clear hn646_5; replace p646 := eq_true p646; replace q646 := eq_true q646))
                  go_meet
                  case rel => exact ⟨_, (t642), (rd t618 a2), (t635), (t638), (t641), (.slice Ao40 t635.length co40), (.slice Ao44 t638.length co44), (by first | rfl | (simp; done) | (simp [*]; done)), H', ⟨by have := HJ5.out; first | omega | exact Nat.le_refl _⟩, ⟨by (with_reducible repeat (first | apply Kd.R_alloc | apply Kd.R_drewN | apply Kd.R_drew)); exact Kd.R_mono (Kd.R_far (p := ⟨gb633, 2, none⟩) (Kd.R_far (p := ⟨gb633, 1, none⟩) (Kd.R_far (p := ⟨gb633, 0, none⟩) (Kd.R_far (p := ⟨gb645, 2, none⟩) (Kd.R_far (p := ⟨gb645, 1, none⟩) (Kd.R_far (p := ⟨gb645, 0, none⟩) (Kd.R_types (Kd.R_types HO644.out BK645.out (by decide)) BK633.out (by decide)) (fun _ hk => hk.1.2) (.slice Ao40 t635.length co40)) (fun _ hk => hk.1.2) (.slice Ao44 t638.length co44)) (fun _ hk => hk.1.2) (.bool t641)) (fun _ hk => hk.2) (.slice Ao40 t635.length co40)) (fun _ hk => hk.2) (.slice Ao44 t638.length co44)) (fun _ hk => hk.2) (.bool t641)) (fun _ hk => ⟨hk.1.1.1.1.2, hk.1.1.1.1.1⟩)⟩, ⟨by (with_reducible repeat (first | apply Kd.S_alloc | apply Kd.S_drewN | apply Kd.S_drew)); exact Kd.S_mono (Kd.S_far (p := ⟨gb633, 2, none⟩) (Kd.S_far (p := ⟨gb633, 1, none⟩) (Kd.S_far (p := ⟨gb633, 0, none⟩) (Kd.S_far (p := ⟨gb645, 2, none⟩) (Kd.S_far (p := ⟨gb645, 1, none⟩) (Kd.S_far (p := ⟨gb645, 0, none⟩) (Kd.S_types (Kd.S_types HO617.out BK645.out (by decide)) BK633.out (by decide)) (fun _ hk => hk.1.2) (.slice Ao40 t635.length co40)) (fun _ hk => hk.1.2) (.slice Ao44 t638.length co44)) (fun _ hk => hk.1.2) (.bool t641)) (fun _ hk => hk.2) (.slice Ao40 t635.length co40)) (fun _ hk => hk.2) (.slice Ao44 t638.length co44)) (fun _ hk => hk.2) (.bool t641)) (fun _ hk => ⟨hk.1.1.2, ⟨hk.1.1.1.1.1.1.1.1, ⟨hk.1.1.1.1.2, hk.1.1.1.2⟩⟩⟩)⟩, ⟨by (with_reducible repeat (first | apply Kd.R_alloc | apply Kd.R_drewN | apply Kd.R_drew)); exact Kd.R_mono (Kd.R_far (p := ⟨gb633, 2, none⟩) (Kd.R_far (p := ⟨gb633, 1, none⟩) (Kd.R_far (p := ⟨gb633, 0, none⟩) (Kd.R_far (p := ⟨gb645, 2, none⟩) (Kd.R_far (p := ⟨gb645, 1, none⟩) (Kd.R_far (p := ⟨gb645, 0, none⟩) (Kd.R_types (Kd.R_types HO620.out BK645.out (by decide)) BK633.out (by decide)) (fun _ hk => hk.1.2) (.slice Ao40 t635.length co40)) (fun _ hk => hk.1.2) (.slice Ao44 t638.length co44)) (fun _ hk => hk.1.2) (.bool t641)) (fun _ hk => hk.2) (.slice Ao40 t635.length co40)) (fun _ hk => hk.2) (.slice Ao44 t638.length co44)) (fun _ hk => hk.2) (.bool t641)) (fun _ hk => ⟨hk.1.1.2, hk.1.1.1.2⟩)⟩, ⟨by (with_reducible repeat (first | apply Kd.S_alloc | apply Kd.S_drewN | apply Kd.S_drew)); exact Kd.S_mono (Kd.S_far (p := ⟨gb633, 2, none⟩) (Kd.S_far (p := ⟨gb633, 1, none⟩) (Kd.S_far (p := ⟨gb633, 0, none⟩) (Kd.S_far (p := ⟨gb645, 2, none⟩) (Kd.S_far (p := ⟨gb645, 1, none⟩) (Kd.S_far (p := ⟨gb645, 0, none⟩) (Kd.S_types (Kd.S_types HO637.out BK645.out (by decide)) BK633.out (by decide)) (fun _ hk => hk.1.2) (.slice Ao40 t635.length co40)) (fun _ hk => hk.1.2) (.slice Ao44 t638.length co44)) (fun _ hk => hk.1.2) (.bool t641)) (fun _ hk => hk.2) (.slice Ao40 t635.length co40)) (fun _ hk => hk.2) (.slice Ao44 t638.length co44)) (fun _ hk => hk.2) (.bool t641)) (fun _ hk => ⟨hk.1.1.1.1.1.1.1.2, ⟨hk.1.1.1.1.1.1.2, ⟨hk.1.1.1.1.1.2, hk.1.1.1.1.1.1.1.1⟩⟩⟩)⟩, ⟨by (with_reducible repeat (first | apply Kd.R_alloc | apply Kd.R_drewN | apply Kd.R_drew)); exact Kd.R_mono (Kd.R_far (p := ⟨gb633, 2, none⟩) (Kd.R_far (p := ⟨gb633, 1, none⟩) (Kd.R_far (p := ⟨gb633, 0, none⟩) (Kd.R_far (p := ⟨gb645, 2, none⟩) (Kd.R_far (p := ⟨gb645, 1, none⟩) (Kd.R_far (p := ⟨gb645, 0, none⟩) (Kd.R_types (Kd.R_types HO640.out BK645.out (by decide)) BK633.out (by decide)) (fun _ hk => hk.1.2) (.slice Ao40 t635.length co40)) (fun _ hk => hk.1.2) (.slice Ao44 t638.length co44)) (fun _ hk => hk.1.2) (.bool t641)) (fun _ hk => hk.2) (.slice Ao40 t635.length co40)) (fun _ hk => hk.2) (.slice Ao44 t638.length co44)) (fun _ hk => hk.2) (.bool t641)) (fun _ hk => ⟨hk.1.1.1.1.1, hk.1.1.1.1.2⟩)⟩, ⟨by (with_reducible repeat (first | refine blk_drewN ?_ _ | refine blk_drew ?_ | refine blk_alloc ?_ _)); refine blk_far ?_ NB622_633.out _; (with_reducible repeat (first | refine blk_drewN ?_ _ | refine blk_drew ?_ | refine blk_alloc ?_ _)); refine blk_far ?_ NB622_633.out _; (with_reducible repeat (first | refine blk_drewN ?_ _ | refine blk_drew ?_ | refine blk_alloc ?_ _)); refine blk_far ?_ NB622_633.out _; (with_reducible repeat (first | refine blk_drewN ?_ _ | refine blk_drew ?_ | refine blk_alloc ?_ _)); refine blk_far ?_ NB622_645.out _; (with_reducible repeat (first | refine blk_drewN ?_ _ | refine blk_drew ?_ | refine blk_alloc ?_ _)); refine blk_far ?_ NB622_645.out _; (with_reducible repeat (first | refine blk_drewN ?_ _ | refine blk_drew ?_ | refine blk_alloc ?_ _)); refine blk_far ?_ NB622_645.out _; (with_reducible repeat (first | refine blk_drewN ?_ _ | refine blk_drew ?_ | refine blk_alloc ?_ _)); exact BK622.out⟩, ⟨by (with_reducible repeat (first | refine blk_drewN ?_ _ | refine blk_drew ?_ | refine blk_alloc ?_ _)); refine blk_put (cs := #[.slice Ao40 t635.length co40, .slice Ao44 t638.length co44, .bool t629]) ?_ 2 _ rfl; (with_reducible repeat (first | refine blk_drewN ?_ _ | refine blk_drew ?_ | refine blk_alloc ?_ _)); refine blk_put (cs := #[.slice Ao40 t635.length co40, .slice Ao29 t626.length co29, .bool t629]) ?_ 1 _ rfl; (with_reducible repeat (first | refine blk_drewN ?_ _ | refine blk_drew ?_ | refine blk_alloc ?_ _)); refine blk_put (cs := #[.slice Ao26 t623.length co26, .slice Ao29 t626.length co29, .bool t629]) ?_ 0 _ rfl; (with_reducible repeat (first | refine blk_drewN ?_ _ | refine blk_drew ?_ | refine blk_alloc ?_ _)); refine blk_far ?_ NB633_645.out _; (with_reducible repeat (first | refine blk_drewN ?_ _ | refine blk_drew ?_ | refine blk_alloc ?_ _)); refine blk_far ?_ NB633_645.out _; (with_reducible repeat (first | refine blk_drewN ?_ _ | refine blk_drew ?_ | refine blk_alloc ?_ _)); refine blk_far ?_ NB633_645.out _; (with_reducible repeat (first | refine blk_drewN ?_ _ | refine blk_drew ?_ | refine blk_alloc ?_ _)); exact BK633.out⟩, ⟨by repeat (first | (with_reducible first | exact HB.out | apply below_alloc | apply pw_below_drewN | apply below_drew1 | refine below_set ?_ GE622.out | refine below_set ?_ GE633.out | refine below_set ?_ GE645.out) | exact HB.out)⟩⟩
                · rw [if_neg c35] at H
                  exact absurd H (by simp)
              · rw [if_neg c34] at H
                exact absurd H (by simp)
            · replace c32 := Bool.eq_false_iff.mpr c32
              subst c32
              have H1 : (bywashlaw15_DomupUnder.j1 kj5 l0 a1 a2 false t613 t630 t634 t615 t618 t621 t623 t626 t629) = some r := by rw [if_neg (show ¬ (false = true) by decide)] at H; exact H
              clear H
              have H := H1
              clear H1
              have H' := Aside0.mk H
              clear H
              go_wp2
              go_meet
              case rel => exact ⟨_, (t630), (t634), (t623), (t626), (t629), (.slice Ao26 t623.length co26), (.slice Ao29 t626.length co29), (by first | rfl | (simp; done) | (simp [*]; done)), H', ⟨by have := HJ5.out; first | omega | exact Nat.le_refl _⟩, ⟨by (with_reducible repeat (first | apply Kd.R_alloc | apply Kd.R_drewN | apply Kd.R_drew)); exact Kd.R_mono HO632.out (fun _ hk => ⟨hk.2, hk.1⟩)⟩, ⟨by (with_reducible repeat (first | apply Kd.S_alloc | apply Kd.S_drewN | apply Kd.S_drew)); exact Kd.S_mono HO617.out (fun _ hk => ⟨hk.2, ⟨hk.1.1.1, ⟨hk.1.1.2, hk.1.2⟩⟩⟩)⟩, ⟨by (with_reducible repeat (first | apply Kd.R_alloc | apply Kd.R_drewN | apply Kd.R_drew)); exact Kd.R_mono HO620.out (fun _ hk => ⟨hk.2, hk.1.2⟩)⟩, ⟨by (with_reducible repeat (first | apply Kd.S_alloc | apply Kd.S_drewN | apply Kd.S_drew)); exact Kd.S_mono HO625.out (fun _ hk => ⟨hk.1.1.2, ⟨hk.1.2, ⟨hk.2, hk.1.1.1⟩⟩⟩)⟩, ⟨by (with_reducible repeat (first | apply Kd.R_alloc | apply Kd.R_drewN | apply Kd.R_drew)); exact HO628.out⟩, ⟨by (with_reducible repeat (first | refine blk_drewN ?_ _ | refine blk_drew ?_ | refine blk_alloc ?_ _)); exact BK622.out⟩, ⟨by (with_reducible repeat (first | refine blk_drewN ?_ _ | refine blk_drew ?_ | refine blk_alloc ?_ _)); exact BK633.out⟩, ⟨by repeat (first | (with_reducible first | exact HB.out | apply below_alloc | apply pw_below_drewN | apply below_drew1 | refine below_set ?_ GE622.out | refine below_set ?_ GE633.out) | exact HB.out)⟩⟩
          case rest =>
            clear HC18
            try clear c1
            try clear c2
            try clear p2
            try clear c3
            try clear c4
            try clear p6
            try clear q6
            try clear hx6
            try clear c9
            try clear c10
            try clear c10b0
            try clear c11
            try clear c11b0
            try clear c12
            try clear c12b0
            try clear c13
            try clear c14
            try clear c15
            try clear c15b0
            try clear c15b1
            try clear c15b2
            try clear c27
            try clear c31
            try clear c32
            try clear c33
            try clear c34
            try clear c34b0
            try clear c35
            try clear c35b0
            try clear c36
            try clear c41
            try clear c42
            try clear hcz22_0
            try clear hcz22_1
            try clear hcz22_2
            try clear hcz28_0
            try clear hcz28_1
            try clear hcz28_2
            try clear hcz30_0
            try clear hcz30_1
            try clear hcz30_2
            try clear hcz37_0
            try clear hcz37_1
            try clear hcz37_2
            try clear hcz43_0
            try clear hcz43_1
            try clear hcz43_2
            try clear hcz45_0
            try clear hcz45_1
            try clear hcz45_2
            try clear hcz46_0
            try clear hcz46_1
            try clear hcz46_2
            try clear hfz22_0
            try clear hfz22_1
            try clear hfz22_2
            try clear hfz28_0
            try clear hfz28_1
            try clear hfz28_2
            try clear hfz30_0
            try clear hfz30_1
            try clear hfz30_2
            try clear hfz37_0
            try clear hfz37_1
            try clear hfz37_2
            try clear hfz43_0
            try clear hfz43_1
            try clear hfz43_2
            try clear hfz45_0
            try clear hfz45_1
            try clear hfz45_2
            try clear hfz46_0
            try clear hfz46_1
            try clear hfz46_2
            try clear hx646_0
            try clear p2
            try clear p646
            try clear q646
            obtain ⟨kq, x12_17, x13_17, x634000_17, x634001_17, x634002_17, u634000, u634001, rfl, HA, HJ17, HO_12, HO_623000, HO_623001, HO_634000, HO_634001, BK622, BK633, HB⟩ := hcut
            cases kq with
            | zero => exact absurd HA.out (by simp [bywashlaw15_DomupUnder.j1])
            | succ kj17 =>
              have H := HA.out
              clear HA
              simp only [bywashlaw15_DomupUnder.j1] at H
              by_cases c47 : 0 ≤ a1
              · rw [if_pos c47] at H
                have c47b0 : decide (0 ≤ a1) = true := decide_eq_true c47
                clear c47
                by_cases c48 : a1 < (t618.length : Int)
                · rw [if_pos c48] at H
                  have c48b0 : decide (a1 < (t618.length : Int)) = true := decide_eq_true c48
                  clear c48
                  by_cases c49 : (rd t618 a1) = (-2)
                  · rw [if_pos c49] at H
                    have c49b0 : ((rd t618 a1) == (-2)) = true := beq_iff_eq.mpr c49
                    have c49b1 : ((rd t618 a1) != (-2)) = false := bne_eq_false_iff_eq.mpr c49
                    clear c49
                    by_cases c50 : t613 = true
                    · subst c50
                      have H1 : (some ((x12_17.length : Int) == 0)) = some r := by rw [if_pos rfl] at H; exact H
                      clear H
                      have H := H1
                      clear H1
                      obtain rfl := Option.some.inj H
                      have hnb51 := NB622_633.out
                      have hnc51 := NB633_622.out
                      have hcz52_0 : wc.cell? ⟨gb622, 0, none⟩ = some (.slice Ao21 t615.length co21) := (blk_cell BK622.out 0).trans rfl
                      have hcz52_1 : wc.cell? ⟨gb622, 1, none⟩ = some (.slice Ao23 t618.length co23) := (blk_cell BK622.out 1).trans rfl
                      have hcz52_2 : wc.cell? ⟨gb622, 2, none⟩ = some (.bool t621) := (blk_cell BK622.out 2).trans rfl
                      have hfz52_0 := blk_frozen BK622.out 0
                      have hfz52_1 := blk_frozen BK622.out 1
                      have hfz52_2 := blk_frozen BK622.out 2
                      have p647 : 0 ≤ (a1 : Int) := of_decide_eq_true (by first | (with_reducible assumption) | assumption)
                      have q647 : a1 < (t618.length : Int) := of_decide_eq_true (by first | (with_reducible assumption) | assumption)
                      obtain ⟨ad647, e647, hx647_0⟩ := Kd.at_int (Kd.R_reads' HO_623001.out).2.2 a1 p647 q647
                      cases e647
                      replace p647 := eq_true p647
                      replace q647 := eq_true q647
                      obtain ⟨Ao53, co53, eo53⟩ := Kd.R_slice HO_12.out
                      subst eo53
                      go_wp2
                      go_ret
                      exact ⟨by first | rfl | (simp [errW_none, errW_some] <;> rfl) | (simp [*, errW_none, errW_some] <;> rfl) | (exfalso; (try simp_all); (try omega); done), by repeat (first | (with_reducible first | exact HB.out | apply below_alloc | apply pw_below_drewN | apply below_drew1 | refine below_set ?_ GE622.out | refine below_set ?_ GE633.out) | exact HB.out)⟩
                    · replace c50 := Bool.eq_false_iff.mpr c50
                      subst c50
                      have H1 : (some false) = some r := by rw [if_neg (show ¬ (false = true) by decide)] at H; exact H
                      clear H
                      have H := H1
                      clear H1
                      obtain rfl := Option.some.inj H
                      have hnb54 := NB622_633.out
                      have hnc54 := NB633_622.out
                      have hcz55_0 : wc.cell? ⟨gb622, 0, none⟩ = some (.slice Ao21 t615.length co21) := (blk_cell BK622.out 0).trans rfl
                      have hcz55_1 : wc.cell? ⟨gb622, 1, none⟩ = some (.slice Ao23 t618.length co23) := (blk_cell BK622.out 1).trans rfl
                      have hcz55_2 : wc.cell? ⟨gb622, 2, none⟩ = some (.bool t621) := (blk_cell BK622.out 2).trans rfl
                      have hfz55_0 := blk_frozen BK622.out 0
                      have hfz55_1 := blk_frozen BK622.out 1
                      have hfz55_2 := blk_frozen BK622.out 2
                      have p647 : 0 ≤ (a1 : Int) := of_decide_eq_true (by first | (with_reducible assumption) | assumption)
                      have q647 : a1 < (t618.length : Int) := of_decide_eq_true (by first | (with_reducible assumption) | assumption)
                      obtain ⟨ad647, e647, hx647_0⟩ := Kd.at_int (Kd.R_reads' HO_623001.out).2.2 a1 p647 q647
                      cases e647
                      replace p647 := eq_true p647
                      replace q647 := eq_true q647
                      go_wp2
                      go_ret
                      exact ⟨by first | rfl | (simp [errW_none, errW_some] <;> rfl) | (simp [*, errW_none, errW_some] <;> rfl) | (exfalso; (try simp_all); (try omega); done), by repeat (first | (with_reducible first | exact HB.out | apply below_alloc | apply pw_below_drewN | apply below_drew1 | refine below_set ?_ GE622.out | refine below_set ?_ GE633.out) | exact HB.out)⟩
                  · rw [if_neg c49] at H
                    have c49b0 : ((rd t618 a1) == (-2)) = false := beq_eq_false_iff_ne.mpr c49
                    have c49b1 : ((rd t618 a1) != (-2)) = true := bne_iff_ne.mpr c49
                    by_cases c56 : 0 ≤ a2
                    · rw [if_pos c56] at H
                      have c56b0 : decide (0 ≤ a2) = true := decide_eq_true c56
                      clear c56
                      by_cases c57 : a2 < (t618.length : Int)
                      · rw [if_pos c57] at H
                        have c57b0 : decide (a2 < (t618.length : Int)) = true := decide_eq_true c57
                        clear c57
                        by_cases c58 : (rd t618 a2) = (-2)
                        · rw [if_pos c58] at H
                          have c58b0 : ((rd t618 a2) == (-2)) = true := beq_iff_eq.mpr c58
                          have c58b1 : ((rd t618 a2) != (-2)) = false := bne_eq_false_iff_eq.mpr c58
                          clear c58
                          by_cases c59 : t613 = true
                          · subst c59
                            have H1 : (if a3 = true then (if (x12_17.length : Int) = 0 then (some ((x634000_17.length : Int) == (l0.length : Int))) else (some false)) else (some ((x634000_17.length : Int) == (l0.length : Int)))) = some r := by rw [if_pos rfl] at H; exact H
                            clear H
                            have H := H1
                            clear H1
                            by_cases c60 : a3 = true
                            · subst c60
                              have H1 : (if (x12_17.length : Int) = 0 then (some ((x634000_17.length : Int) == (l0.length : Int))) else (some false)) = some r := by rw [if_pos rfl] at H; exact H
                              clear H
                              have H := H1
                              clear H1
                              by_cases c61 : (x12_17.length : Int) = 0
                              · rw [if_pos c61] at H
                                have c61b0 : ((x12_17.length : Int) == 0) = true := beq_iff_eq.mpr c61
                                have c61b1 : ((x12_17.length : Int) != 0) = false := bne_eq_false_iff_eq.mpr c61
                                clear c61
                                obtain rfl := Option.some.inj H
                                have hnb62 := NB622_633.out
                                have hnc62 := NB633_622.out
                                have hcz63_0 : wc.cell? ⟨gb622, 0, none⟩ = some (.slice Ao21 t615.length co21) := (blk_cell BK622.out 0).trans rfl
                                have hcz63_1 : wc.cell? ⟨gb622, 1, none⟩ = some (.slice Ao23 t618.length co23) := (blk_cell BK622.out 1).trans rfl
                                have hcz63_2 : wc.cell? ⟨gb622, 2, none⟩ = some (.bool t621) := (blk_cell BK622.out 2).trans rfl
                                have hfz63_0 := blk_frozen BK622.out 0
                                have hfz63_1 := blk_frozen BK622.out 1
                                have hfz63_2 := blk_frozen BK622.out 2
                                have p647 : 0 ≤ (a1 : Int) := of_decide_eq_true (by first | (with_reducible assumption) | assumption)
                                have q647 : a1 < (t618.length : Int) := of_decide_eq_true (by first | (with_reducible assumption) | assumption)
                                obtain ⟨ad647, e647, hx647_0⟩ := Kd.at_int (Kd.R_reads' HO_623001.out).2.2 a1 p647 q647
                                cases e647
                                replace p647 := eq_true p647
                                replace q647 := eq_true q647
                                have p648 : 0 ≤ (a2 : Int) := of_decide_eq_true (by first | (with_reducible assumption) | assumption)
                                have q648 : a2 < (t618.length : Int) := of_decide_eq_true (by first | (with_reducible assumption) | assumption)
                                obtain ⟨ad648, e648, hx648_0⟩ := Kd.at_int (Kd.R_reads' HO_623001.out).2.2 a2 p648 q648
                                obtain rfl : ad647 = ad648 := (by injection e648)
                                replace p648 := eq_true p648
                                replace q648 := eq_true q648
                                obtain ⟨Ao64, co64, eo64⟩ := Kd.R_slice HO_12.out
                                subst eo64
                                have hcz65_0 : wc.cell? ⟨gb633, 0, none⟩ = some (u634000) := (blk_cell BK633.out 0).trans rfl
                                have hcz65_1 : wc.cell? ⟨gb633, 1, none⟩ = some (u634001) := (blk_cell BK633.out 1).trans rfl
                                have hcz65_2 : wc.cell? ⟨gb633, 2, none⟩ = some (.bool x634002_17) := (blk_cell BK633.out 2).trans rfl
                                have hfz65_0 := blk_frozen BK633.out 0
                                have hfz65_1 := blk_frozen BK633.out 1
                                have hfz65_2 := blk_frozen BK633.out 2
                                obtain ⟨Ao66, co66, eo66⟩ := Kd.S_slice HO_634000.out
                                subst eo66
                                go_wp2
                                go_ret
                                exact ⟨by first | rfl | (simp [errW_none, errW_some] <;> rfl) | (simp [*, errW_none, errW_some] <;> rfl) | (exfalso; (try simp_all); (try omega); done), by repeat (first | (with_reducible first | exact HB.out | apply below_alloc | apply pw_below_drewN | apply below_drew1 | refine below_set ?_ GE622.out | refine below_set ?_ GE633.out) | exact HB.out)⟩
                              · rw [if_neg c61] at H
                                have c61b0 : ((x12_17.length : Int) == 0) = false := beq_eq_false_iff_ne.mpr c61
                                have c61b1 : ((x12_17.length : Int) != 0) = true := bne_iff_ne.mpr c61
                                have c61b2 : ¬ (x12_17 = []) := fun h_ => c61 (by rw [h_]; rfl)
                                obtain rfl := Option.some.inj H
                                have hnb67 := NB622_633.out
                                have hnc67 := NB633_622.out
                                have hcz68_0 : wc.cell? ⟨gb622, 0, none⟩ = some (.slice Ao21 t615.length co21) := (blk_cell BK622.out 0).trans rfl
                                have hcz68_1 : wc.cell? ⟨gb622, 1, none⟩ = some (.slice Ao23 t618.length co23) := (blk_cell BK622.out 1).trans rfl
                                have hcz68_2 : wc.cell? ⟨gb622, 2, none⟩ = some (.bool t621) := (blk_cell BK622.out 2).trans rfl
                                have hfz68_0 := blk_frozen BK622.out 0
                                have hfz68_1 := blk_frozen BK622.out 1
                                have hfz68_2 := blk_frozen BK622.out 2
                                have p647 : 0 ≤ (a1 : Int) := of_decide_eq_true (by first | (with_reducible assumption) | assumption)
                                have q647 : a1 < (t618.length : Int) := of_decide_eq_true (by first | (with_reducible assumption) | assumption)
                                obtain ⟨ad647, e647, hx647_0⟩ := Kd.at_int (Kd.R_reads' HO_623001.out).2.2 a1 p647 q647
                                cases e647
                                replace p647 := eq_true p647
                                replace q647 := eq_true q647
                                have p648 : 0 ≤ (a2 : Int) := of_decide_eq_true (by first | (with_reducible assumption) | assumption)
                                have q648 : a2 < (t618.length : Int) := of_decide_eq_true (by first | (with_reducible assumption) | assumption)
                                obtain ⟨ad648, e648, hx648_0⟩ := Kd.at_int (Kd.R_reads' HO_623001.out).2.2 a2 p648 q648
                                obtain rfl : ad647 = ad648 := (by injection e648)
                                replace p648 := eq_true p648
                                replace q648 := eq_true q648
                                obtain ⟨Ao69, co69, eo69⟩ := Kd.R_slice HO_12.out
                                subst eo69
                                go_wp2
                                go_ret
                                exact ⟨by first | rfl | (simp [errW_none, errW_some] <;> rfl) | (simp [*, errW_none, errW_some] <;> rfl) | (exfalso; (try simp_all); (try omega); done), by repeat (first | (with_reducible first | exact HB.out | apply below_alloc | apply pw_below_drewN | apply below_drew1 | refine below_set ?_ GE622.out | refine below_set ?_ GE633.out) | exact HB.out)⟩
                            · replace c60 := Bool.eq_false_iff.mpr c60
                              subst c60
                              have H1 : (some ((x634000_17.length : Int) == (l0.length : Int))) = some r := by rw [if_neg (show ¬ (false = true) by decide)] at H; exact H
                              clear H
                              have H := H1
                              clear H1
                              obtain rfl := Option.some.inj H
                              have hnb70 := NB622_633.out
                              have hnc70 := NB633_622.out
                              have hcz71_0 : wc.cell? ⟨gb622, 0, none⟩ = some (.slice Ao21 t615.length co21) := (blk_cell BK622.out 0).trans rfl
                              have hcz71_1 : wc.cell? ⟨gb622, 1, none⟩ = some (.slice Ao23 t618.length co23) := (blk_cell BK622.out 1).trans rfl
                              have hcz71_2 : wc.cell? ⟨gb622, 2, none⟩ = some (.bool t621) := (blk_cell BK622.out 2).trans rfl
                              have hfz71_0 := blk_frozen BK622.out 0
                              have hfz71_1 := blk_frozen BK622.out 1
                              have hfz71_2 := blk_frozen BK622.out 2
                              have p647 : 0 ≤ (a1 : Int) := of_decide_eq_true (by first | (with_reducible assumption) | assumption)
                              have q647 : a1 < (t618.length : Int) := of_decide_eq_true (by first | (with_reducible assumption) | assumption)
                              obtain ⟨ad647, e647, hx647_0⟩ := Kd.at_int (Kd.R_reads' HO_623001.out).2.2 a1 p647 q647
                              cases e647
                              replace p647 := eq_true p647
                              replace q647 := eq_true q647
                              have p648 : 0 ≤ (a2 : Int) := of_decide_eq_true (by first | (with_reducible assumption) | assumption)
                              have q648 : a2 < (t618.length : Int) := of_decide_eq_true (by first | (with_reducible assumption) | assumption)
                              obtain ⟨ad648, e648, hx648_0⟩ := Kd.at_int (Kd.R_reads' HO_623001.out).2.2 a2 p648 q648
                              obtain rfl : ad647 = ad648 := (by injection e648)
                              replace p648 := eq_true p648
                              replace q648 := eq_true q648
                              have hcz72_0 : wc.cell? ⟨gb633, 0, none⟩ = some (u634000) := (blk_cell BK633.out 0).trans rfl
                              have hcz72_1 : wc.cell? ⟨gb633, 1, none⟩ = some (u634001) := (blk_cell BK633.out 1).trans rfl
                              have hcz72_2 : wc.cell? ⟨gb633, 2, none⟩ = some (.bool x634002_17) := (blk_cell BK633.out 2).trans rfl
                              have hfz72_0 := blk_frozen BK633.out 0
                              have hfz72_1 := blk_frozen BK633.out 1
                              have hfz72_2 := blk_frozen BK633.out 2
                              obtain ⟨Ao73, co73, eo73⟩ := Kd.S_slice HO_634000.out
                              subst eo73
                              go_wp2
                              go_ret
                              exact ⟨by first | rfl | (simp [errW_none, errW_some] <;> rfl) | (simp [*, errW_none, errW_some] <;> rfl) | (exfalso; (try simp_all); (try omega); done), by repeat (first | (with_reducible first | exact HB.out | apply below_alloc | apply pw_below_drewN | apply below_drew1 | refine below_set ?_ GE622.out | refine below_set ?_ GE633.out) | exact HB.out)⟩
                          · replace c59 := Bool.eq_false_iff.mpr c59
                            subst c59
                            have H1 : (some false) = some r := by rw [if_neg (show ¬ (false = true) by decide)] at H; exact H
                            clear H
                            have H := H1
                            clear H1
                            obtain rfl := Option.some.inj H
                            have hnb74 := NB622_633.out
                            have hnc74 := NB633_622.out
                            have hcz75_0 : wc.cell? ⟨gb622, 0, none⟩ = some (.slice Ao21 t615.length co21) := (blk_cell BK622.out 0).trans rfl
                            have hcz75_1 : wc.cell? ⟨gb622, 1, none⟩ = some (.slice Ao23 t618.length co23) := (blk_cell BK622.out 1).trans rfl
                            have hcz75_2 : wc.cell? ⟨gb622, 2, none⟩ = some (.bool t621) := (blk_cell BK622.out 2).trans rfl
                            have hfz75_0 := blk_frozen BK622.out 0
                            have hfz75_1 := blk_frozen BK622.out 1
                            have hfz75_2 := blk_frozen BK622.out 2
                            have p647 : 0 ≤ (a1 : Int) := of_decide_eq_true (by first | (with_reducible assumption) | assumption)
                            have q647 : a1 < (t618.length : Int) := of_decide_eq_true (by first | (with_reducible assumption) | assumption)
                            obtain ⟨ad647, e647, hx647_0⟩ := Kd.at_int (Kd.R_reads' HO_623001.out).2.2 a1 p647 q647
                            cases e647
                            replace p647 := eq_true p647
                            replace q647 := eq_true q647
                            have p648 : 0 ≤ (a2 : Int) := of_decide_eq_true (by first | (with_reducible assumption) | assumption)
                            have q648 : a2 < (t618.length : Int) := of_decide_eq_true (by first | (with_reducible assumption) | assumption)
                            obtain ⟨ad648, e648, hx648_0⟩ := Kd.at_int (Kd.R_reads' HO_623001.out).2.2 a2 p648 q648
                            obtain rfl : ad647 = ad648 := (by injection e648)
                            replace p648 := eq_true p648
                            replace q648 := eq_true q648
                            go_wp2
                            go_ret
                            exact ⟨by first | rfl | (simp [errW_none, errW_some] <;> rfl) | (simp [*, errW_none, errW_some] <;> rfl) | (exfalso; (try simp_all); (try omega); done), by repeat (first | (with_reducible first | exact HB.out | apply below_alloc | apply pw_below_drewN | apply below_drew1 | refine below_set ?_ GE622.out | refine below_set ?_ GE633.out) | exact HB.out)⟩
                        · rw [if_neg c58] at H
                          have c58b0 : ((rd t618 a2) == (-2)) = false := beq_eq_false_iff_ne.mpr c58
                          have c58b1 : ((rd t618 a2) != (-2)) = true := bne_iff_ne.mpr c58
                          have HC76 := Aside0.mk H
                          clear H
                          have hnb77 := NB622_633.out
                          have hnc77 := NB633_622.out
                          have hcz78_0 : wc.cell? ⟨gb622, 0, none⟩ = some (.slice Ao21 t615.length co21) := (blk_cell BK622.out 0).trans rfl
                          have hcz78_1 : wc.cell? ⟨gb622, 1, none⟩ = some (.slice Ao23 t618.length co23) := (blk_cell BK622.out 1).trans rfl
                          have hcz78_2 : wc.cell? ⟨gb622, 2, none⟩ = some (.bool t621) := (blk_cell BK622.out 2).trans rfl
                          have hfz78_0 := blk_frozen BK622.out 0
                          have hfz78_1 := blk_frozen BK622.out 1
                          have hfz78_2 := blk_frozen BK622.out 2
                          have p647 : 0 ≤ (a1 : Int) := of_decide_eq_true (by first | (with_reducible assumption) | assumption)
                          have q647 : a1 < (t618.length : Int) := of_decide_eq_true (by first | (with_reducible assumption) | assumption)
                          obtain ⟨ad647, e647, hx647_0⟩ := Kd.at_int (Kd.R_reads' HO_623001.out).2.2 a1 p647 q647
                          cases e647
                          replace p647 := eq_true p647
                          replace q647 := eq_true q647
                          have p648 : 0 ≤ (a2 : Int) := of_decide_eq_true (by first | (with_reducible assumption) | assumption)
                          have q648 : a2 < (t618.length : Int) := of_decide_eq_true (by first | (with_reducible assumption) | assumption)
                          obtain ⟨ad648, e648, hx648_0⟩ := Kd.at_int (Kd.R_reads' HO_623001.out).2.2 a2 p648 q648
                          obtain rfl : ad647 = ad648 := (by injection e648)
                          replace p648 := eq_true p648
                          replace q648 := eq_true q648
                          go_upto_region 18 with (fail)
                          go_cut [128] (fun v128 wc => ∃ (kq : Nat) (x128_75 : Bool), v128 = .bool x128_75 ∧ Aside0 (bywashlaw15_DomupUnder.j2 kq l0 t613 x12_17 x13_17 x128_75 t615 t618 t621 x634000_17 x634001_17 x634002_17 = some r) ∧ Aside0 (kq ≤ kj17) ∧ Aside0 (Kd.R (Kd.int .i64) 3 wc w.heap.size (fun k_ => some k_ ≠ ((.slice (some ad647) t618.length co23) : Value).ownBlock ∧ some k_ ≠ (u634001 : Value).ownBlock) u12 x12_17) ∧ Aside0 (Kd.S (Kd.slice 3 (Kd.int .i64)) 25 wc w.heap.size (fun k_ => some k_ ≠ (u12 : Value).ownBlock ∧ some k_ ≠ ((.slice (some ad647) t618.length co23) : Value).ownBlock ∧ some k_ ≠ (u634000 : Value).ownBlock ∧ some k_ ≠ (u634001 : Value).ownBlock) (.slice Ao21 t615.length co21) t615) ∧ Aside0 (Kd.R (Kd.int .i64) 3 wc w.heap.size (fun k_ => some k_ ≠ (u12 : Value).ownBlock ∧ some k_ ≠ (u634001 : Value).ownBlock) (.slice (some ad647) t618.length co23) t618) ∧ Aside0 (Kd.S (Kd.slice 3 (Kd.int .i64)) 25 wc w.heap.size (fun k_ => some k_ ≠ (u12 : Value).ownBlock ∧ some k_ ≠ ((.slice Ao21 t615.length co21) : Value).ownBlock ∧ some k_ ≠ ((.slice (some ad647) t618.length co23) : Value).ownBlock ∧ some k_ ≠ (u634001 : Value).ownBlock) u634000 x634000_17) ∧ Aside0 (Kd.R (Kd.int .i64) 3 wc w.heap.size (fun k_ => some k_ ≠ (u12 : Value).ownBlock ∧ some k_ ≠ ((.slice (some ad647) t618.length co23) : Value).ownBlock) u634001 x634001_17) ∧ Aside0 (wc.heap[gb622]? = some (.cells #[(.slice Ao21 t615.length co21), (.slice (some ad647) t618.length co23), .bool t621] 40 (0, 0))) ∧ Aside0 (wc.heap[gb633]? = some (.cells #[u634000, u634001, .bool x634002_17] 40 (0, 0))) ∧ Aside0 (Below w.heap.size w wc))
                          case first =>
                            have H := HC76.out
                            clear HC76
                            by_cases c79 : (x634001_17.length : Int) = (l0.length : Int)
                            · rw [if_pos c79] at H
                              have c79b0 : ((x634001_17.length : Int) == (l0.length : Int)) = true := beq_iff_eq.mpr c79
                              have c79b1 : ((x634001_17.length : Int) != (l0.length : Int)) = false := bne_eq_false_iff_eq.mpr c79
                              have c79b2 : (x634001_17.length == l0.length) = true := by first | simpa using c79 | (simp at c79 ⊢; omega)
                              clear c79
                              (first | rw [c79b0] | (simp only [i64_w, i32_w]; rw [c79b0]) | skip)
                              by_cases c80 : a3 = true
                              · subst c80
                                have H1 : (if a2 < (x634001_17.length : Int) then (bywashlaw15_DomupUnder.j2 kj17 l0 t613 x12_17 x13_17 ((rd x634001_17 a2) == (-2)) t615 t618 t621 x634000_17 x634001_17 x634002_17) else (none)) = some r := by rw [if_pos rfl] at H; exact H
                                clear H
                                have H := H1
                                clear H1
                                by_cases c81 : a2 < (x634001_17.length : Int)
                                · rw [if_pos c81] at H
                                  have c81b0 : decide (a2 < (x634001_17.length : Int)) = true := decide_eq_true c81
                                  clear c81
                                  have H' := Aside0.mk H
                                  clear H
                                  have hnb82 := NB633_622.out
                                  have hnc82 := NB622_633.out
                                  have hcz83_0 : wc.cell? ⟨gb633, 0, none⟩ = some (u634000) := (blk_cell BK633.out 0).trans rfl
                                  have hcz83_1 : wc.cell? ⟨gb633, 1, none⟩ = some (u634001) := (blk_cell BK633.out 1).trans rfl
                                  have hcz83_2 : wc.cell? ⟨gb633, 2, none⟩ = some (.bool x634002_17) := (blk_cell BK633.out 2).trans rfl
                                  have hfz83_0 := blk_frozen BK633.out 0
                                  have hfz83_1 := blk_frozen BK633.out 1
                                  have hfz83_2 := blk_frozen BK633.out 2
                                  obtain ⟨Ao84, co84, eo84⟩ := Kd.R_slice HO_634001.out
                                  subst eo84
                                  have p649 : 0 ≤ (a2 : Int) := of_decide_eq_true (by first | (with_reducible assumption) | assumption)
                                  have q649 : a2 < (x634001_17.length : Int) := of_decide_eq_true (by first | (with_reducible assumption) | assumption)
                                  obtain ⟨ad649, e649, hx649_0⟩ := Kd.at_int (Kd.R_reads' HO_634001.out).2.2 a2 p649 q649
                                  cases e649
                                  replace p649 := eq_true p649
                                  replace q649 := eq_true q649
                                  go_wp2
                                  go_meet
                                  case rel => exact ⟨_, (((rd x634001_17 a2) == (-2))), (by first | rfl | (simp; done) | (simp [*]; done)), H', ⟨by have := HJ5.out; have := HJ17.out; first | omega | exact Nat.le_refl _⟩, ⟨by (with_reducible repeat (first | apply Kd.R_alloc | apply Kd.R_drewN | apply Kd.R_drew)); exact HO_12.out⟩, ⟨by (with_reducible repeat (first | apply Kd.S_alloc | apply Kd.S_drewN | apply Kd.S_drew)); exact HO_623000.out⟩, ⟨by (with_reducible repeat (first | apply Kd.R_alloc | apply Kd.R_drewN | apply Kd.R_drew)); exact HO_623001.out⟩, ⟨by (with_reducible repeat (first | apply Kd.S_alloc | apply Kd.S_drewN | apply Kd.S_drew)); exact HO_634000.out⟩, ⟨by (with_reducible repeat (first | apply Kd.R_alloc | apply Kd.R_drewN | apply Kd.R_drew)); exact HO_634001.out⟩, ⟨by (with_reducible repeat (first | refine blk_drewN ?_ _ | refine blk_drew ?_ | refine blk_alloc ?_ _)); exact BK622.out⟩, ⟨by (with_reducible repeat (first | refine blk_drewN ?_ _ | refine blk_drew ?_ | refine blk_alloc ?_ _)); exact BK633.out⟩, ⟨by repeat (first | (with_reducible first | exact HB.out | apply below_alloc | apply pw_below_drewN | apply below_drew1 | refine below_set ?_ GE622.out | refine below_set ?_ GE633.out) | exact HB.out)⟩⟩
                                · rw [if_neg c81] at H
                                  exact absurd H (by simp)
                              · replace c80 := Bool.eq_false_iff.mpr c80
                                subst c80
                                have H1 : (bywashlaw15_DomupUnder.j2 kj17 l0 t613 x12_17 x13_17 false t615 t618 t621 x634000_17 x634001_17 x634002_17) = some r := by rw [if_neg (show ¬ (false = true) by decide)] at H; exact H
                                clear H
                                have H := H1
                                clear H1
                                have H' := Aside0.mk H
                                clear H
                                have hnb85 := NB633_622.out
                                have hnc85 := NB622_633.out
                                have hcz86_0 : wc.cell? ⟨gb633, 0, none⟩ = some (u634000) := (blk_cell BK633.out 0).trans rfl
                                have hcz86_1 : wc.cell? ⟨gb633, 1, none⟩ = some (u634001) := (blk_cell BK633.out 1).trans rfl
                                have hcz86_2 : wc.cell? ⟨gb633, 2, none⟩ = some (.bool x634002_17) := (blk_cell BK633.out 2).trans rfl
                                have hfz86_0 := blk_frozen BK633.out 0
                                have hfz86_1 := blk_frozen BK633.out 1
                                have hfz86_2 := blk_frozen BK633.out 2
                                obtain ⟨Ao87, co87, eo87⟩ := Kd.R_slice HO_634001.out
                                subst eo87
                                go_wp2
                                go_meet
                                case rel => exact ⟨_, (false), (by first | rfl | (simp; done) | (simp [*]; done)), H', ⟨by have := HJ5.out; have := HJ17.out; first | omega | exact Nat.le_refl _⟩, ⟨by (with_reducible repeat (first | apply Kd.R_alloc | apply Kd.R_drewN | apply Kd.R_drew)); exact HO_12.out⟩, ⟨by (with_reducible repeat (first | apply Kd.S_alloc | apply Kd.S_drewN | apply Kd.S_drew)); exact HO_623000.out⟩, ⟨by (with_reducible repeat (first | apply Kd.R_alloc | apply Kd.R_drewN | apply Kd.R_drew)); exact HO_623001.out⟩, ⟨by (with_reducible repeat (first | apply Kd.S_alloc | apply Kd.S_drewN | apply Kd.S_drew)); exact HO_634000.out⟩, ⟨by (with_reducible repeat (first | apply Kd.R_alloc | apply Kd.R_drewN | apply Kd.R_drew)); exact HO_634001.out⟩, ⟨by (with_reducible repeat (first | refine blk_drewN ?_ _ | refine blk_drew ?_ | refine blk_alloc ?_ _)); exact BK622.out⟩, ⟨by (with_reducible repeat (first | refine blk_drewN ?_ _ | refine blk_drew ?_ | refine blk_alloc ?_ _)); exact BK633.out⟩, ⟨by repeat (first | (with_reducible first | exact HB.out | apply below_alloc | apply pw_below_drewN | apply below_drew1 | refine below_set ?_ GE622.out | refine below_set ?_ GE633.out) | exact HB.out)⟩⟩
                            · rw [if_neg c79] at H
                              have c79b0 : ((x634001_17.length : Int) == (l0.length : Int)) = false := beq_eq_false_iff_ne.mpr c79
                              have c79b1 : ((x634001_17.length : Int) != (l0.length : Int)) = true := bne_iff_ne.mpr c79
                              have c79b2 : (x634001_17.length == l0.length) = false := by first | simpa using c79 | (simp at c79 ⊢; omega)
                              (first | rw [c79b0] | (simp only [i64_w, i32_w]; rw [c79b0]) | skip)
                              have H' := Aside0.mk H
                              clear H
                              have hnb88 := NB633_622.out
                              have hnc88 := NB622_633.out
                              have hcz89_0 : wc.cell? ⟨gb633, 0, none⟩ = some (u634000) := (blk_cell BK633.out 0).trans rfl
                              have hcz89_1 : wc.cell? ⟨gb633, 1, none⟩ = some (u634001) := (blk_cell BK633.out 1).trans rfl
                              have hcz89_2 : wc.cell? ⟨gb633, 2, none⟩ = some (.bool x634002_17) := (blk_cell BK633.out 2).trans rfl
                              have hfz89_0 := blk_frozen BK633.out 0
                              have hfz89_1 := blk_frozen BK633.out 1
                              have hfz89_2 := blk_frozen BK633.out 2
                              obtain ⟨Ao90, co90, eo90⟩ := Kd.R_slice HO_634001.out
                              subst eo90
                              go_wp2
                              go_meet
                              case rel => exact ⟨_, (true), (by first | rfl | (simp; done) | (simp [*]; done)), H', ⟨by have := HJ5.out; have := HJ17.out; first | omega | exact Nat.le_refl _⟩, ⟨by (with_reducible repeat (first | apply Kd.R_alloc | apply Kd.R_drewN | apply Kd.R_drew)); exact HO_12.out⟩, ⟨by (with_reducible repeat (first | apply Kd.S_alloc | apply Kd.S_drewN | apply Kd.S_drew)); exact HO_623000.out⟩, ⟨by (with_reducible repeat (first | apply Kd.R_alloc | apply Kd.R_drewN | apply Kd.R_drew)); exact HO_623001.out⟩, ⟨by (with_reducible repeat (first | apply Kd.S_alloc | apply Kd.S_drewN | apply Kd.S_drew)); exact HO_634000.out⟩, ⟨by (with_reducible repeat (first | apply Kd.R_alloc | apply Kd.R_drewN | apply Kd.R_drew)); exact HO_634001.out⟩, ⟨by (with_reducible repeat (first | refine blk_drewN ?_ _ | refine blk_drew ?_ | refine blk_alloc ?_ _)); exact BK622.out⟩, ⟨by (with_reducible repeat (first | refine blk_drewN ?_ _ | refine blk_drew ?_ | refine blk_alloc ?_ _)); exact BK633.out⟩, ⟨by repeat (first | (with_reducible first | exact HB.out | apply below_alloc | apply pw_below_drewN | apply below_drew1 | refine below_set ?_ GE622.out | refine below_set ?_ GE633.out) | exact HB.out)⟩⟩
                          case rest =>
                            clear HC76
                            try clear c1
                            try clear c2
                            try clear p2
                            try clear c3
                            try clear c4
                            try clear c5
                            try clear c6
                            try clear p6
                            try clear q6
                            try clear hx6
                            try clear c7
                            try clear c8
                            try clear c9
                            try clear c10
                            try clear c10b0
                            try clear c11
                            try clear c11b0
                            try clear c12
                            try clear c12b0
                            try clear c13
                            try clear c14
                            try clear c15
                            try clear c15b0
                            try clear c15b1
                            try clear c15b2
                            try clear c27
                            try clear c31
                            try clear c32
                            try clear c33
                            try clear c34
                            try clear c34b0
                            try clear c35
                            try clear c35b0
                            try clear c36
                            try clear c41
                            try clear c42
                            try clear c47
                            try clear c47b0
                            try clear c48
                            try clear c48b0
                            try clear c49
                            try clear c49b0
                            try clear c49b1
                            try clear c50
                            try clear c51
                            try clear c54
                            try clear c56
                            try clear c56b0
                            try clear c57
                            try clear c57b0
                            try clear c58
                            try clear c58b0
                            try clear c58b1
                            try clear c59
                            try clear c60
                            try clear c61
                            try clear c61b0
                            try clear c61b1
                            try clear c61b2
                            try clear c62
                            try clear p64
                            try clear q64
                            try clear hx64
                            try clear c67
                            try clear c70
                            try clear c74
                            try clear c77
                            try clear c79
                            try clear c79b0
                            try clear c79b1
                            try clear c79b2
                            try clear c80
                            try clear c81
                            try clear c81b0
                            try clear c82
                            try clear c85
                            try clear c88
                            try clear hcz22_0
                            try clear hcz22_1
                            try clear hcz22_2
                            try clear hcz28_0
                            try clear hcz28_1
                            try clear hcz28_2
                            try clear hcz30_0
                            try clear hcz30_1
                            try clear hcz30_2
                            try clear hcz37_0
                            try clear hcz37_1
                            try clear hcz37_2
                            try clear hcz43_0
                            try clear hcz43_1
                            try clear hcz43_2
                            try clear hcz45_0
                            try clear hcz45_1
                            try clear hcz45_2
                            try clear hcz46_0
                            try clear hcz46_1
                            try clear hcz46_2
                            try clear hcz52_0
                            try clear hcz52_1
                            try clear hcz52_2
                            try clear hcz55_0
                            try clear hcz55_1
                            try clear hcz55_2
                            try clear hcz63_0
                            try clear hcz63_1
                            try clear hcz63_2
                            try clear hcz65_0
                            try clear hcz65_1
                            try clear hcz65_2
                            try clear hcz68_0
                            try clear hcz68_1
                            try clear hcz68_2
                            try clear hcz71_0
                            try clear hcz71_1
                            try clear hcz71_2
                            try clear hcz72_0
                            try clear hcz72_1
                            try clear hcz72_2
                            try clear hcz75_0
                            try clear hcz75_1
                            try clear hcz75_2
                            try clear hcz78_0
                            try clear hcz78_1
                            try clear hcz78_2
                            try clear hcz83_0
                            try clear hcz83_1
                            try clear hcz83_2
                            try clear hcz86_0
                            try clear hcz86_1
                            try clear hcz86_2
                            try clear hcz89_0
                            try clear hcz89_1
                            try clear hcz89_2
                            try clear hfz22_0
                            try clear hfz22_1
                            try clear hfz22_2
                            try clear hfz28_0
                            try clear hfz28_1
                            try clear hfz28_2
                            try clear hfz30_0
                            try clear hfz30_1
                            try clear hfz30_2
                            try clear hfz37_0
                            try clear hfz37_1
                            try clear hfz37_2
                            try clear hfz43_0
                            try clear hfz43_1
                            try clear hfz43_2
                            try clear hfz45_0
                            try clear hfz45_1
                            try clear hfz45_2
                            try clear hfz46_0
                            try clear hfz46_1
                            try clear hfz46_2
                            try clear hfz52_0
                            try clear hfz52_1
                            try clear hfz52_2
                            try clear hfz55_0
                            try clear hfz55_1
                            try clear hfz55_2
                            try clear hfz63_0
                            try clear hfz63_1
                            try clear hfz63_2
                            try clear hfz65_0
                            try clear hfz65_1
                            try clear hfz65_2
                            try clear hfz68_0
                            try clear hfz68_1
                            try clear hfz68_2
                            try clear hfz71_0
                            try clear hfz71_1
                            try clear hfz71_2
                            try clear hfz72_0
                            try clear hfz72_1
                            try clear hfz72_2
                            try clear hfz75_0
                            try clear hfz75_1
                            try clear hfz75_2
                            try clear hfz78_0
                            try clear hfz78_1
                            try clear hfz78_2
                            try clear hfz83_0
                            try clear hfz83_1
                            try clear hfz83_2
                            try clear hfz86_0
                            try clear hfz86_1
                            try clear hfz86_2
                            try clear hfz89_0
                            try clear hfz89_1
                            try clear hfz89_2
                            try clear hx646_0
                            try clear hx647_0
                            try clear hx648_0
                            try clear hx649_0
                            try clear p2
                            try clear p6
                            try clear p646
                            try clear p647
                            try clear p648
                            try clear p649
                            try clear q6
                            try clear q646
                            try clear q647
                            try clear q648
                            try clear q649
                            obtain ⟨kq, x128_75, rfl, HA, HJ75, HO_12, HO_623000, HO_623001, HO_634000, HO_634001, BK622, BK633, HB⟩ := hcut
                            cases kq with
                            | zero => exact absurd HA.out (by simp [bywashlaw15_DomupUnder.j2])
                            | succ kj75 =>
                              have H := HA.out
                              clear HA
                              simp only [bywashlaw15_DomupUnder.j2] at H
                              by_cases c91 : x128_75 = true
                              · subst c91
                                have H1 : (if t613 = true then (some ((x634001_17.length : Int) == (l0.length : Int))) else (some false)) = some r := by rw [if_pos rfl] at H; exact H
                                clear H
                                have H := H1
                                clear H1
                                by_cases c92 : t613 = true
                                · subst c92
                                  have H1 : (some ((x634001_17.length : Int) == (l0.length : Int))) = some r := by rw [if_pos rfl] at H; exact H
                                  clear H
                                  have H := H1
                                  clear H1
                                  obtain rfl := Option.some.inj H
                                  have hnb93 := NB633_622.out
                                  have hnc93 := NB622_633.out
                                  have hcz94_0 : wc.cell? ⟨gb633, 0, none⟩ = some (u634000) := (blk_cell BK633.out 0).trans rfl
                                  have hcz94_1 : wc.cell? ⟨gb633, 1, none⟩ = some (u634001) := (blk_cell BK633.out 1).trans rfl
                                  have hcz94_2 : wc.cell? ⟨gb633, 2, none⟩ = some (.bool x634002_17) := (blk_cell BK633.out 2).trans rfl
                                  have hfz94_0 := blk_frozen BK633.out 0
                                  have hfz94_1 := blk_frozen BK633.out 1
                                  have hfz94_2 := blk_frozen BK633.out 2
                                  obtain ⟨Ao95, co95, eo95⟩ := Kd.R_slice HO_634001.out
                                  subst eo95
                                  go_wp2
                                  go_ret
                                  exact ⟨by first | rfl | (simp [errW_none, errW_some] <;> rfl) | (simp [*, errW_none, errW_some] <;> rfl) | (exfalso; (try simp_all); (try omega); done), by repeat (first | (with_reducible first | exact HB.out | apply below_alloc | apply pw_below_drewN | apply below_drew1 | refine below_set ?_ GE622.out | refine below_set ?_ GE633.out) | exact HB.out)⟩
                                · replace c92 := Bool.eq_false_iff.mpr c92
                                  subst c92
                                  have H1 : (some false) = some r := by rw [if_neg (show ¬ (false = true) by decide)] at H; exact H
                                  clear H
                                  have H := H1
                                  clear H1
                                  obtain rfl := Option.some.inj H
                                  go_wp2
                                  go_ret
                                  exact ⟨by first | rfl | (simp [errW_none, errW_some] <;> rfl) | (simp [*, errW_none, errW_some] <;> rfl) | (exfalso; (try simp_all); (try omega); done), by repeat (first | (with_reducible first | exact HB.out | apply below_alloc | apply pw_below_drewN | apply below_drew1 | refine below_set ?_ GE622.out | refine below_set ?_ GE633.out) | exact HB.out)⟩
                              · replace c91 := Bool.eq_false_iff.mpr c91
                                subst c91
                                have H1 : (bywashlaw15_DomupUnder.l0 kj75 l0 t613 x12_17 x13_17 0 t615 t618 t621 x634000_17 x634001_17 x634002_17) = some r := by rw [if_neg (show ¬ (false = true) by decide)] at H; exact H
                                clear H
                                have H := H1
                                clear H1
                                have H' := Aside0.mk H
                                clear H
                                go_wp2
                                go_loopg [16] kj75 (fun kq v16 w' => ∃ (x16_4 : Int), v16 = .int .i64 x16_4 ∧ Aside0 (bywashlaw15_DomupUnder.l0 kq l0 t613 x12_17 x13_17 x16_4 t615 t618 t621 x634000_17 x634001_17 x634002_17 = some r) ∧ Aside0 (kq ≤ kj75) ∧ Aside0 (Kd.R (Kd.int .i64) 3 w' w.heap.size (fun k_ => some k_ ≠ ((.slice (some ad647) t618.length co23) : Value).ownBlock ∧ some k_ ≠ (u634001 : Value).ownBlock) u12 x12_17) ∧ Aside0 (Kd.S (Kd.slice 3 (Kd.int .i64)) 25 w' w.heap.size (fun k_ => some k_ ≠ (u12 : Value).ownBlock ∧ some k_ ≠ ((.slice (some ad647) t618.length co23) : Value).ownBlock ∧ some k_ ≠ (u634000 : Value).ownBlock ∧ some k_ ≠ (u634001 : Value).ownBlock) (.slice Ao21 t615.length co21) t615) ∧ Aside0 (Kd.R (Kd.int .i64) 3 w' w.heap.size (fun k_ => some k_ ≠ (u12 : Value).ownBlock ∧ some k_ ≠ (u634001 : Value).ownBlock) (.slice (some ad647) t618.length co23) t618) ∧ Aside0 (Kd.S (Kd.slice 3 (Kd.int .i64)) 25 w' w.heap.size (fun k_ => some k_ ≠ (u12 : Value).ownBlock ∧ some k_ ≠ ((.slice Ao21 t615.length co21) : Value).ownBlock ∧ some k_ ≠ ((.slice (some ad647) t618.length co23) : Value).ownBlock ∧ some k_ ≠ (u634001 : Value).ownBlock) u634000 x634000_17) ∧ Aside0 (Kd.R (Kd.int .i64) 3 w' w.heap.size (fun k_ => some k_ ≠ (u12 : Value).ownBlock ∧ some k_ ≠ ((.slice (some ad647) t618.length co23) : Value).ownBlock) u634001 x634001_17) ∧ Aside0 (w'.heap[gb622]? = some (.cells #[(.slice Ao21 t615.length co21), (.slice (some ad647) t618.length co23), .bool t621] 40 (0, 0))) ∧ Aside0 (w'.heap[gb633]? = some (.cells #[u634000, u634001, .bool x634002_17] 40 (0, 0))) ∧ Aside0 (Below w.heap.size w w'))
                                case atStart => exact ⟨(0), (by first | rfl | (simp; done) | (simp [*]; done)), H', ⟨Nat.le_refl _⟩, ⟨by (with_reducible repeat (first | apply Kd.R_alloc | apply Kd.R_drewN | apply Kd.R_drew)); exact HO_12.out⟩, ⟨by (with_reducible repeat (first | apply Kd.S_alloc | apply Kd.S_drewN | apply Kd.S_drew)); exact HO_623000.out⟩, ⟨by (with_reducible repeat (first | apply Kd.R_alloc | apply Kd.R_drewN | apply Kd.R_drew)); exact HO_623001.out⟩, ⟨by (with_reducible repeat (first | apply Kd.S_alloc | apply Kd.S_drewN | apply Kd.S_drew)); exact HO_634000.out⟩, ⟨by (with_reducible repeat (first | apply Kd.R_alloc | apply Kd.R_drewN | apply Kd.R_drew)); exact HO_634001.out⟩, ⟨by (with_reducible repeat (first | refine blk_drewN ?_ _ | refine blk_drew ?_ | refine blk_alloc ?_ _)); exact BK622.out⟩, ⟨by (with_reducible repeat (first | refine blk_drewN ?_ _ | refine blk_drew ?_ | refine blk_alloc ?_ _)); exact BK633.out⟩, ⟨by repeat (first | (with_reducible first | exact HB.out | apply below_alloc | apply pw_below_drewN | apply below_drew1 | refine below_set ?_ GE622.out | refine below_set ?_ GE633.out) | exact HB.out)⟩⟩
                                case round =>
                                  clear H'
                                  try clear c1
                                  try clear c2
                                  try clear p2
                                  try clear c3
                                  try clear c4
                                  try clear c5
                                  try clear c6
                                  try clear p6
                                  try clear q6
                                  try clear hx6
                                  try clear c7
                                  try clear c8
                                  try clear c9
                                  try clear c10
                                  try clear c10b0
                                  try clear c11
                                  try clear c11b0
                                  try clear c12
                                  try clear c12b0
                                  try clear c13
                                  try clear c14
                                  try clear c15
                                  try clear c15b0
                                  try clear c15b1
                                  try clear c15b2
                                  try clear c27
                                  try clear c31
                                  try clear c32
                                  try clear c33
                                  try clear c34
                                  try clear c34b0
                                  try clear c35
                                  try clear c35b0
                                  try clear c36
                                  try clear c41
                                  try clear c42
                                  try clear c47
                                  try clear c47b0
                                  try clear c48
                                  try clear c48b0
                                  try clear c49
                                  try clear c49b0
                                  try clear c49b1
                                  try clear c50
                                  try clear c51
                                  try clear c54
                                  try clear c56
                                  try clear c56b0
                                  try clear c57
                                  try clear c57b0
                                  try clear c58
                                  try clear c58b0
                                  try clear c58b1
                                  try clear c59
                                  try clear c60
                                  try clear c61
                                  try clear c61b0
                                  try clear c61b1
                                  try clear c61b2
                                  try clear c62
                                  try clear p64
                                  try clear q64
                                  try clear hx64
                                  try clear c67
                                  try clear c70
                                  try clear c74
                                  try clear c77
                                  try clear c79
                                  try clear c79b0
                                  try clear c79b1
                                  try clear c79b2
                                  try clear c80
                                  try clear c81
                                  try clear c81b0
                                  try clear c82
                                  try clear c85
                                  try clear c88
                                  try clear c91
                                  try clear c92
                                  try clear c93
                                  try clear hcz22_0
                                  try clear hcz22_1
                                  try clear hcz22_2
                                  try clear hcz28_0
                                  try clear hcz28_1
                                  try clear hcz28_2
                                  try clear hcz30_0
                                  try clear hcz30_1
                                  try clear hcz30_2
                                  try clear hcz37_0
                                  try clear hcz37_1
                                  try clear hcz37_2
                                  try clear hcz43_0
                                  try clear hcz43_1
                                  try clear hcz43_2
                                  try clear hcz45_0
                                  try clear hcz45_1
                                  try clear hcz45_2
                                  try clear hcz46_0
                                  try clear hcz46_1
                                  try clear hcz46_2
                                  try clear hcz52_0
                                  try clear hcz52_1
                                  try clear hcz52_2
                                  try clear hcz55_0
                                  try clear hcz55_1
                                  try clear hcz55_2
                                  try clear hcz63_0
                                  try clear hcz63_1
                                  try clear hcz63_2
                                  try clear hcz65_0
                                  try clear hcz65_1
                                  try clear hcz65_2
                                  try clear hcz68_0
                                  try clear hcz68_1
                                  try clear hcz68_2
                                  try clear hcz71_0
                                  try clear hcz71_1
                                  try clear hcz71_2
                                  try clear hcz72_0
                                  try clear hcz72_1
                                  try clear hcz72_2
                                  try clear hcz75_0
                                  try clear hcz75_1
                                  try clear hcz75_2
                                  try clear hcz78_0
                                  try clear hcz78_1
                                  try clear hcz78_2
                                  try clear hcz83_0
                                  try clear hcz83_1
                                  try clear hcz83_2
                                  try clear hcz86_0
                                  try clear hcz86_1
                                  try clear hcz86_2
                                  try clear hcz89_0
                                  try clear hcz89_1
                                  try clear hcz89_2
                                  try clear hcz94_0
                                  try clear hcz94_1
                                  try clear hcz94_2
                                  try clear hfz22_0
                                  try clear hfz22_1
                                  try clear hfz22_2
                                  try clear hfz28_0
                                  try clear hfz28_1
                                  try clear hfz28_2
                                  try clear hfz30_0
                                  try clear hfz30_1
                                  try clear hfz30_2
                                  try clear hfz37_0
                                  try clear hfz37_1
                                  try clear hfz37_2
                                  try clear hfz43_0
                                  try clear hfz43_1
                                  try clear hfz43_2
                                  try clear hfz45_0
                                  try clear hfz45_1
                                  try clear hfz45_2
                                  try clear hfz46_0
                                  try clear hfz46_1
                                  try clear hfz46_2
                                  try clear hfz52_0
                                  try clear hfz52_1
                                  try clear hfz52_2
                                  try clear hfz55_0
                                  try clear hfz55_1
                                  try clear hfz55_2
                                  try clear hfz63_0
                                  try clear hfz63_1
                                  try clear hfz63_2
                                  try clear hfz65_0
                                  try clear hfz65_1
                                  try clear hfz65_2
                                  try clear hfz68_0
                                  try clear hfz68_1
                                  try clear hfz68_2
                                  try clear hfz71_0
                                  try clear hfz71_1
                                  try clear hfz71_2
                                  try clear hfz72_0
                                  try clear hfz72_1
                                  try clear hfz72_2
                                  try clear hfz75_0
                                  try clear hfz75_1
                                  try clear hfz75_2
                                  try clear hfz78_0
                                  try clear hfz78_1
                                  try clear hfz78_2
                                  try clear hfz83_0
                                  try clear hfz83_1
                                  try clear hfz83_2
                                  try clear hfz86_0
                                  try clear hfz86_1
                                  try clear hfz86_2
                                  try clear hfz89_0
                                  try clear hfz89_1
                                  try clear hfz89_2
                                  try clear hfz94_0
                                  try clear hfz94_1
                                  try clear hfz94_2
                                  try clear hx646_0
                                  try clear hx647_0
                                  try clear hx648_0
                                  try clear hx649_0
                                  try clear p2
                                  try clear p6
                                  try clear p64
                                  try clear p646
                                  try clear p647
                                  try clear p648
                                  try clear p649
                                  try clear q6
                                  try clear q64
                                  try clear q646
                                  try clear q647
                                  try clear q648
                                  try clear q649
                                  obtain ⟨x16_4, rfl, HA, HK4, HO_12, HO_623000, HO_623001, HO_634000, HO_634001, BK622, BK633, HB⟩ := hrel
                                  cases gk with
                                  | zero => exact absurd HA.out (by simp [bywashlaw15_DomupUnder.l0])
                                  | succ k4 =>
                                    have H := HA.out
                                    clear HA
                                    simp only [bywashlaw15_DomupUnder.l0] at H
                                    by_cases c96 : x16_4 < (x12_17.length : Int)
                                    · rw [if_pos c96] at H
                                      have c96b0 : decide (x16_4 < (x12_17.length : Int)) = true := decide_eq_true c96
                                      clear c96
                                      by_cases c97 : 0 ≤ x16_4
                                      · rw [if_pos c97] at H
                                        have c97b0 : decide (0 ≤ x16_4) = true := decide_eq_true c97
                                        clear c97
                                        by_cases c98 : (rd x12_17 x16_4) = x13_17
                                        · rw [if_pos c98] at H
                                          have c98b0 : ((rd x12_17 x16_4) == x13_17) = true := beq_iff_eq.mpr c98
                                          have c98b1 : ((rd x12_17 x16_4) != x13_17) = false := bne_eq_false_iff_eq.mpr c98
                                          clear c98
                                          obtain rfl := Option.some.inj H
                                          obtain ⟨Ao99, co99, eo99⟩ := Kd.R_slice HO_12.out
                                          subst eo99
                                          try go_wp2
                                          have n0_ := Aside0.mk (Kd.R_drew HO_12.out)
                                          have n1_ := Aside0.mk (Kd.S_drew HO_623000.out)
                                          have n2_ := Aside0.mk (Kd.R_drew HO_623001.out)
                                          have n3_ := Aside0.mk (Kd.S_drew HO_634000.out)
                                          have n4_ := Aside0.mk (Kd.R_drew HO_634001.out)
                                          have n5_ := Aside0.mk (blk_drew BK622.out)
                                          have n6_ := Aside0.mk (blk_drew BK633.out)
                                          have n7_ := Aside0.mk (below_drew1 HB.out)
                                          clear HO_12
                                          clear HO_623000
                                          clear HO_623001
                                          clear HO_634000
                                          clear HO_634001
                                          clear BK622
                                          clear BK633
                                          clear HB
                                          have HO_12 := n0_
                                          have HO_623000 := n1_
                                          have HO_623001 := n2_
                                          have HO_634000 := n3_
                                          have HO_634001 := n4_
                                          have BK622 := n5_
                                          have BK633 := n6_
                                          have HB := n7_
                                          clear n0_ n1_ n2_ n3_ n4_ n5_ n6_ n7_
                                          have p650 : 0 ≤ (x16_4 : Int) := of_decide_eq_true (by first | (with_reducible assumption) | assumption)
                                          have q650 : x16_4 < (x12_17.length : Int) := of_decide_eq_true (by first | (with_reducible assumption) | assumption)
                                          obtain ⟨ad650, e650, hx650_0⟩ := Kd.at_int (Kd.R_reads' HO_12.out).2.2 x16_4 p650 q650
                                          cases e650
                                          replace p650 := eq_true p650
                                          replace q650 := eq_true q650
                                          refine start_ (n := 17) (S := fun w' => w'.cell? (ad650.add (x16_4).toNat) = some (.int .i64 (rd x12_17 x16_4))) (ds := []) #[false, false, false, false, false, false, false, false, false, false, false, false, false, false, false, false, false] (by kernel_rfl) rfl rfl (hx650_0) (fun hHeld => ?_); refine with_tabW bywashlaw15_DomupUnder.tab23 bywashlaw15_DomupUnder.bits23 (fun HT_ HW_ => ?_)
                                          generalize wr.drew = w100 at HO_12 HO_623000 HO_623001 HO_634000 HO_634001 BK622 BK633 HB hx650_0 hHeld ⊢
                                          refine pure_ (i := 0) (N := some 144) (v := ?_) (a' := ?_) #[true, false, false, false, false, false, false, false, false, false, false, false, false, false, false, false, false] rfl rfl (any_of HT_.out (by kernel_rfl)) (fun _ _ _ h => h) (Or.inl ⟨by rfl, ?_⟩) ?_ ?_
                                          rotate_left
                                          · intro w'
                                            go_simp
                                            with_reducible rfl
                                          rotate_left
                                          · simp only [Act.put, List.setIfInBounds_toArray, List.set_cons_zero, List.set_cons_succ, i64_w, i32_w]
                                            rfl
                                          refine pure_ (i := 1) (N := some 145) (v := ?_) (a' := ?_) #[true, true, false, false, false, false, false, false, false, false, false, false, false, false, false, false, false] rfl rfl (any_of HT_.out (by kernel_rfl)) (fun _ _ _ h => h) (Or.inl ⟨by rfl, ?_⟩) ?_ ?_
                                          rotate_left
                                          · intro w'
                                            go_simp
                                            with_reducible rfl
                                          rotate_left
                                          · simp only [Act.put, List.setIfInBounds_toArray, List.set_cons_zero, List.set_cons_succ, i64_w, i32_w]
                                            rfl
                                          refine pure_ (i := 2) (N := some 146) (v := ?_) (a' := ?_) #[true, true, true, false, false, false, false, false, false, false, false, false, false, false, false, false, false] rfl rfl (any_of HT_.out (by kernel_rfl)) (fun _ _ _ h => h) (Or.inl ⟨by rfl, ?_⟩) ?_ ?_
                                          rotate_left
                                          · intro w'
                                            go_simp
                                            with_reducible rfl
                                          rotate_left
                                          · simp only [Act.put, List.setIfInBounds_toArray, List.set_cons_zero, List.set_cons_succ, i64_w, i32_w]
                                            rfl
                                          refine pure_ (i := 4) (N := some 148) (v := ?_) (a' := ?_) #[true, true, true, false, true, false, false, false, false, false, false, false, false, false, false, false, false] rfl rfl (any_of HT_.out (by kernel_rfl)) (fun _ _ _ h => h) (Or.inl ⟨by rfl, ?_⟩) ?_ ?_
                                          rotate_left
                                          · intro w'
                                            go_simp
                                            with_reducible rfl
                                          rotate_left
                                          · simp only [Act.put, List.setIfInBounds_toArray, List.set_cons_zero, List.set_cons_succ, i64_w, i32_w]
                                            rfl
                                          refine take_ (i := 3) (N := some 147) (v := ?_) (a' := ?_) #[true, true, true, true, true, false, false, false, false, false, false, false, false, false, false, false, false] rfl rfl (take_ofW HT_.out HW_.out (by kernel_rfl)) (fun _ _ _ h => h) (Or.inl ⟨by rfl, ?_⟩) hHeld ?_ ?_
                                          rotate_left
                                          · intro w' s0
                                            go_simp
                                            with_reducible rfl
                                          rotate_left
                                          · simp only [Act.put, List.setIfInBounds_toArray, List.set_cons_zero, List.set_cons_succ, i64_w, i32_w]
                                            rfl
                                          refine pure_ (i := 5) (N := some 149) (v := ?_) (a' := ?_) #[true, true, true, true, true, true, false, false, false, false, false, false, false, false, false, false, false] rfl rfl (any_of HT_.out (by kernel_rfl)) (fun _ _ _ h => h) (Or.inl ⟨by rfl, ?_⟩) ?_ ?_
                                          rotate_left
                                          · intro w'
                                            go_simp
                                            with_reducible rfl
                                          rotate_left
                                          · simp only [Act.put, List.setIfInBounds_toArray, List.set_cons_zero, List.set_cons_succ, i64_w, i32_w]
                                            rfl
                                          refine pure_ (i := 6) (N := some 150) (v := ?_) (a' := ?_) #[true, true, true, true, true, true, true, false, false, false, false, false, false, false, false, false, false] rfl rfl (any_of HT_.out (by kernel_rfl)) (fun _ _ _ h => h) (Or.inl ⟨by rfl, ?_⟩) ?_ ?_
                                          rotate_left
                                          · intro w'
                                            go_simp
                                            with_reducible rfl
                                          rotate_left
                                          · simp only [Act.put, List.setIfInBounds_toArray, List.set_cons_zero, List.set_cons_succ, i64_w, i32_w]
                                            rfl
                                          refine pure_ (i := 7) (N := some 151) (v := undef) (a' := ?_) #[true, true, true, true, true, true, true, true, false, false, false, false, false, false, false, false, false] rfl rfl (any_of HT_.out (by kernel_rfl)) (fun _ _ _ h => h) (Or.inr ⟨by rfl, rfl⟩) ?_ ?_
                                          rotate_left
                                          · simp only [Act.put, List.setIfInBounds_toArray, List.set_cons_zero, List.set_cons_succ, i64_w, i32_w]
                                            rfl
                                          refine pure_ (i := 8) (N := some 152) (v := undef) (a' := ?_) #[true, true, true, true, true, true, true, true, true, false, false, false, false, false, false, false, false] rfl rfl (any_of HT_.out (by kernel_rfl)) (fun _ _ _ h => h) (Or.inr ⟨by rfl, rfl⟩) ?_ ?_
                                          rotate_left
                                          · simp only [Act.put, List.setIfInBounds_toArray, List.set_cons_zero, List.set_cons_succ, i64_w, i32_w]
                                            rfl
                                          refine pure_ (i := 9) (N := some 153) (v := undef) (a' := ?_) #[true, true, true, true, true, true, true, true, true, true, false, false, false, false, false, false, false] rfl rfl (any_of HT_.out (by kernel_rfl)) (fun _ _ _ h => h) (Or.inr ⟨by rfl, rfl⟩) ?_ ?_
                                          rotate_left
                                          · simp only [Act.put, List.setIfInBounds_toArray, List.set_cons_zero, List.set_cons_succ, i64_w, i32_w]
                                            rfl
                                          refine pure_ (i := 10) (N := some 154) (v := undef) (a' := ?_) #[true, true, true, true, true, true, true, true, true, true, true, false, false, false, false, false, false] rfl rfl (any_of HT_.out (by kernel_rfl)) (fun _ _ _ h => h) (Or.inr ⟨by rfl, rfl⟩) ?_ ?_
                                          rotate_left
                                          · simp only [Act.put, List.setIfInBounds_toArray, List.set_cons_zero, List.set_cons_succ, i64_w, i32_w]
                                            rfl
                                          refine pure_ (i := 11) (N := some 155) (v := undef) (a' := ?_) #[true, true, true, true, true, true, true, true, true, true, true, true, false, false, false, false, false] rfl rfl (any_of HT_.out (by kernel_rfl)) (fun _ _ _ h => h) (Or.inr ⟨by rfl, rfl⟩) ?_ ?_
                                          rotate_left
                                          · simp only [Act.put, List.setIfInBounds_toArray, List.set_cons_zero, List.set_cons_succ, i64_w, i32_w]
                                            rfl
                                          refine pure_ (i := 12) (N := some 156) (v := undef) (a' := ?_) #[true, true, true, true, true, true, true, true, true, true, true, true, true, false, false, false, false] rfl rfl (any_of HT_.out (by kernel_rfl)) (fun _ _ _ h => h) (Or.inr ⟨by rfl, rfl⟩) ?_ ?_
                                          rotate_left
                                          · simp only [Act.put, List.setIfInBounds_toArray, List.set_cons_zero, List.set_cons_succ, i64_w, i32_w]
                                            rfl
                                          refine pure_ (i := 13) (N := some 157) (v := undef) (a' := ?_) #[true, true, true, true, true, true, true, true, true, true, true, true, true, true, false, false, false] rfl rfl (any_of HT_.out (by kernel_rfl)) (fun _ _ _ h => h) (Or.inr ⟨by rfl, rfl⟩) ?_ ?_
                                          rotate_left
                                          · simp only [Act.put, List.setIfInBounds_toArray, List.set_cons_zero, List.set_cons_succ, i64_w, i32_w]
                                            rfl
                                          refine pure_ (i := 14) (N := some 158) (v := undef) (a' := ?_) #[true, true, true, true, true, true, true, true, true, true, true, true, true, true, true, false, false] rfl rfl (any_of HT_.out (by kernel_rfl)) (fun _ _ _ h => h) (Or.inr ⟨by rfl, rfl⟩) ?_ ?_
                                          rotate_left
                                          · simp only [Act.put, List.setIfInBounds_toArray, List.set_cons_zero, List.set_cons_succ, i64_w, i32_w]
                                            rfl
                                          refine pure_ (i := 15) (N := some 159) (v := undef) (a' := ?_) #[true, true, true, true, true, true, true, true, true, true, true, true, true, true, true, true, false] rfl rfl (any_of HT_.out (by kernel_rfl)) (fun _ _ _ h => h) (Or.inr ⟨by rfl, rfl⟩) ?_ ?_
                                          rotate_left
                                          · simp only [Act.put, List.setIfInBounds_toArray, List.set_cons_zero, List.set_cons_succ, i64_w, i32_w]
                                            rfl
                                          refine pure_ (i := 16) (N := some 160) (v := ?_) (a' := ?_) #[true, true, true, true, true, true, true, true, true, true, true, true, true, true, true, true, true] rfl rfl (any_of HT_.out (by kernel_rfl)) (fun _ _ _ h => h) (Or.inl ⟨by rfl, ?_⟩) ?_ ?_
                                          rotate_left
                                          · intro w'
                                            go_simp
                                            with_reducible rfl
                                          rotate_left
                                          · simp only [Act.put, List.setIfInBounds_toArray, List.set_cons_zero, List.set_cons_succ, i64_w, i32_w]
                                            rfl
                                          refine done_ (done_of HT_.out (by kernel_rfl)) ?_
                                          try go_wp2
                                          go_ret
                                          exact ⟨by first | rfl | (simp [errW_none, errW_some] <;> rfl) | (simp [*, errW_none, errW_some] <;> rfl) | (exfalso; (try simp_all); (try omega); done), by repeat (first | (with_reducible first | exact HB.out | apply below_alloc | apply pw_below_drewN | apply below_drew1 | refine below_set ?_ GE622.out | refine below_set ?_ GE633.out) | exact HB.out)⟩
                                        · rw [if_neg c98] at H
                                          have c98b0 : ((rd x12_17 x16_4) == x13_17) = false := beq_eq_false_iff_ne.mpr c98
                                          have c98b1 : ((rd x12_17 x16_4) != x13_17) = true := bne_iff_ne.mpr c98
                                          replace H := Option.bind_eq_some_iff.mp H
                                          obtain ⟨t652, A1010, H⟩ := H
                                          replace H : (if t652 = true then (bywashlaw15_DomupUnder.l0 k4 l0 t613 x12_17 x13_17 (wrap64 (x16_4 + 1)) t615 t618 t621 x634000_17 x634001_17 x634002_17) else (some false)) = some r := H
                                          have A101 := Aside0.mk A1010
                                          clear A1010
                                          by_cases c102 : t652 = true
                                          · subst c102
                                            have H1 : (bywashlaw15_DomupUnder.l0 k4 l0 t613 x12_17 x13_17 (wrap64 (x16_4 + 1)) t615 t618 t621 x634000_17 x634001_17 x634002_17) = some r := by rw [if_pos rfl] at H; exact H
                                            clear H
                                            have H := H1
                                            clear H1
                                            have H' := Aside0.mk H
                                            clear H
                                            obtain ⟨Ao103, co103, eo103⟩ := Kd.R_slice HO_12.out
                                            subst eo103
                                            try go_wp2
                                            have n0_ := Aside0.mk (Kd.R_drew HO_12.out)
                                            have n1_ := Aside0.mk (Kd.S_drew HO_623000.out)
                                            have n2_ := Aside0.mk (Kd.R_drew HO_623001.out)
                                            have n3_ := Aside0.mk (Kd.S_drew HO_634000.out)
                                            have n4_ := Aside0.mk (Kd.R_drew HO_634001.out)
                                            have n5_ := Aside0.mk (blk_drew BK622.out)
                                            have n6_ := Aside0.mk (blk_drew BK633.out)
                                            have n7_ := Aside0.mk (below_drew1 HB.out)
                                            clear HO_12
                                            clear HO_623000
                                            clear HO_623001
                                            clear HO_634000
                                            clear HO_634001
                                            clear BK622
                                            clear BK633
                                            clear HB
                                            have HO_12 := n0_
                                            have HO_623000 := n1_
                                            have HO_623001 := n2_
                                            have HO_634000 := n3_
                                            have HO_634001 := n4_
                                            have BK622 := n5_
                                            have BK633 := n6_
                                            have HB := n7_
                                            clear n0_ n1_ n2_ n3_ n4_ n5_ n6_ n7_
                                            have p650 : 0 ≤ (x16_4 : Int) := of_decide_eq_true (by first | (with_reducible assumption) | assumption)
                                            have q650 : x16_4 < (x12_17.length : Int) := of_decide_eq_true (by first | (with_reducible assumption) | assumption)
                                            obtain ⟨ad650, e650, hx650_0⟩ := Kd.at_int (Kd.R_reads' HO_12.out).2.2 x16_4 p650 q650
                                            cases e650
                                            replace p650 := eq_true p650
                                            replace q650 := eq_true q650
                                            have p651 : 0 ≤ (x16_4 : Int) := of_decide_eq_true (by first | (with_reducible assumption) | assumption)
                                            have q651 : x16_4 < (x12_17.length : Int) := of_decide_eq_true (by first | (with_reducible assumption) | assumption)
                                            obtain ⟨ad651, e651, hx651_0⟩ := Kd.at_int (Kd.R_reads' HO_12.out).2.2 x16_4 p651 q651
                                            obtain rfl : ad650 = ad651 := (by injection e651)
                                            replace p651 := eq_true p651
                                            replace q651 := eq_true q651
                                            refine start_ (n := 17) (S := fun w' => w'.cell? ⟨gb622, 0, none⟩ = some (.slice Ao21 t615.length co21) ∧ w'.cell? ⟨gb622, 1, none⟩ = some (.slice (some ad647) t618.length co23) ∧ w'.cell? ⟨gb622, 2, none⟩ = some (.bool t621) ∧ w'.cell? (ad650.add (x16_4).toNat) = some (.int .i64 (rd x12_17 x16_4)) ∧ w'.cell? (ad650.add (x16_4).toNat) = some (.int .i64 (rd x12_17 x16_4))) (ds := []) #[false, false, false, false, false, false, false, false, false, false, false, false, false, false, false, false, false] (by kernel_rfl) rfl rfl ⟨(blk_cell BK622.out 0).trans rfl, (blk_cell BK622.out 1).trans rfl, (blk_cell BK622.out 2).trans rfl, hx650_0, hx651_0⟩ (fun hHeld => ?_); refine with_tabW bywashlaw15_DomupUnder.tab23 bywashlaw15_DomupUnder.bits23 (fun HT_ HW_ => ?_)
                                            generalize wr.drew = w104 at HO_12 HO_623000 HO_623001 HO_634000 HO_634001 BK622 BK633 HB hx650_0 hx651_0 hHeld ⊢
                                            refine pure_ (i := 0) (N := some 144) (v := ?_) (a' := ?_) #[true, false, false, false, false, false, false, false, false, false, false, false, false, false, false, false, false] rfl rfl (any_of HT_.out (by kernel_rfl)) (fun _ _ _ h => h) (Or.inl ⟨by rfl, ?_⟩) ?_ ?_
                                            rotate_left
                                            · intro w'
                                              go_simp
                                              with_reducible rfl
                                            rotate_left
                                            · simp only [Act.put, List.setIfInBounds_toArray, List.set_cons_zero, List.set_cons_succ, i64_w, i32_w]
                                              rfl
                                            refine pure_ (i := 1) (N := some 145) (v := ?_) (a' := ?_) #[true, true, false, false, false, false, false, false, false, false, false, false, false, false, false, false, false] rfl rfl (any_of HT_.out (by kernel_rfl)) (fun _ _ _ h => h) (Or.inl ⟨by rfl, ?_⟩) ?_ ?_
                                            rotate_left
                                            · intro w'
                                              go_simp
                                              with_reducible rfl
                                            rotate_left
                                            · simp only [Act.put, List.setIfInBounds_toArray, List.set_cons_zero, List.set_cons_succ, i64_w, i32_w]
                                              rfl
                                            refine pure_ (i := 2) (N := some 146) (v := ?_) (a' := ?_) #[true, true, true, false, false, false, false, false, false, false, false, false, false, false, false, false, false] rfl rfl (any_of HT_.out (by kernel_rfl)) (fun _ _ _ h => h) (Or.inl ⟨by rfl, ?_⟩) ?_ ?_
                                            rotate_left
                                            · intro w'
                                              go_simp
                                              with_reducible rfl
                                            rotate_left
                                            · simp only [Act.put, List.setIfInBounds_toArray, List.set_cons_zero, List.set_cons_succ, i64_w, i32_w]
                                              rfl
                                            refine pure_ (i := 4) (N := some 148) (v := ?_) (a' := ?_) #[true, true, true, false, true, false, false, false, false, false, false, false, false, false, false, false, false] rfl rfl (any_of HT_.out (by kernel_rfl)) (fun _ _ _ h => h) (Or.inl ⟨by rfl, ?_⟩) ?_ ?_
                                            rotate_left
                                            · intro w'
                                              go_simp
                                              with_reducible rfl
                                            rotate_left
                                            · simp only [Act.put, List.setIfInBounds_toArray, List.set_cons_zero, List.set_cons_succ, i64_w, i32_w]
                                              rfl
                                            refine take_ (i := 3) (N := some 147) (v := ?_) (a' := ?_) #[true, true, true, true, true, false, false, false, false, false, false, false, false, false, false, false, false] rfl rfl (take_ofW HT_.out HW_.out (by kernel_rfl)) (fun _ _ _ h => h) (Or.inl ⟨by rfl, ?_⟩) hHeld ?_ ?_
                                            rotate_left
                                            · rintro w' ⟨s0, s1, s2, s3, s4⟩
                                              go_simp
                                              with_reducible rfl
                                            rotate_left
                                            · simp only [Act.put, List.setIfInBounds_toArray, List.set_cons_zero, List.set_cons_succ, i64_w, i32_w]
                                              rfl
                                            refine pure_ (i := 5) (N := some 149) (v := ?_) (a' := ?_) #[true, true, true, true, true, true, false, false, false, false, false, false, false, false, false, false, false] rfl rfl (any_of HT_.out (by kernel_rfl)) (fun _ _ _ h => h) (Or.inl ⟨by rfl, ?_⟩) ?_ ?_
                                            rotate_left
                                            · intro w'
                                              go_simp
                                              with_reducible rfl
                                            rotate_left
                                            · simp only [Act.put, List.setIfInBounds_toArray, List.set_cons_zero, List.set_cons_succ, i64_w, i32_w]
                                              rfl
                                            refine pure_ (i := 6) (N := some 150) (v := ?_) (a' := ?_) #[true, true, true, true, true, true, true, false, false, false, false, false, false, false, false, false, false] rfl rfl (any_of HT_.out (by kernel_rfl)) (fun _ _ _ h => h) (Or.inl ⟨by rfl, ?_⟩) ?_ ?_
                                            rotate_left
                                            · intro w'
                                              go_simp
                                              with_reducible rfl
                                            rotate_left
                                            · simp only [Act.put, List.setIfInBounds_toArray, List.set_cons_zero, List.set_cons_succ, i64_w, i32_w]
                                              rfl
                                            refine pure_ (i := 7) (N := some 151) (v := ?_) (a' := ?_) #[true, true, true, true, true, true, true, true, false, false, false, false, false, false, false, false, false] rfl rfl (any_of HT_.out (by kernel_rfl)) (fun _ _ _ h => h) (Or.inl ⟨by rfl, ?_⟩) ?_ ?_
                                            rotate_left
                                            · intro w'
                                              go_simp
                                              with_reducible rfl
                                            rotate_left
                                            · simp only [Act.put, List.setIfInBounds_toArray, List.set_cons_zero, List.set_cons_succ, i64_w, i32_w]
                                              rfl
                                            refine pure_ (i := 9) (N := some 153) (v := ?_) (a' := ?_) #[true, true, true, true, true, true, true, true, false, true, false, false, false, false, false, false, false] rfl rfl (any_of HT_.out (by kernel_rfl)) (fun _ _ _ h => h) (Or.inl ⟨by rfl, ?_⟩) ?_ ?_
                                            rotate_left
                                            · intro w'
                                              go_simp
                                              with_reducible rfl
                                            rotate_left
                                            · simp only [Act.put, List.setIfInBounds_toArray, List.set_cons_zero, List.set_cons_succ, i64_w, i32_w]
                                              rfl
                                            refine pure_ (i := 10) (N := some 154) (v := ?_) (a' := ?_) #[true, true, true, true, true, true, true, true, false, true, true, false, false, false, false, false, false] rfl rfl (any_of HT_.out (by kernel_rfl)) (fun _ _ _ h => h) (Or.inl ⟨by rfl, ?_⟩) ?_ ?_
                                            rotate_left
                                            · intro w'
                                              go_simp
                                              with_reducible rfl
                                            rotate_left
                                            · simp only [Act.put, List.setIfInBounds_toArray, List.set_cons_zero, List.set_cons_succ, i64_w, i32_w]
                                              rfl
                                            refine pure_ (i := 11) (N := some 155) (v := ?_) (a' := ?_) #[true, true, true, true, true, true, true, true, false, true, true, true, false, false, false, false, false] rfl rfl (any_of HT_.out (by kernel_rfl)) (fun _ _ _ h => h) (Or.inl ⟨by rfl, ?_⟩) ?_ ?_
                                            rotate_left
                                            · intro w'
                                              go_simp
                                              with_reducible rfl
                                            rotate_left
                                            · simp only [Act.put, List.setIfInBounds_toArray, List.set_cons_zero, List.set_cons_succ, i64_w, i32_w]
                                              rfl
                                            refine pure_ (i := 12) (N := some 156) (v := ?_) (a' := ?_) #[true, true, true, true, true, true, true, true, false, true, true, true, true, false, false, false, false] rfl rfl (any_of HT_.out (by kernel_rfl)) (fun _ _ _ h => h) (Or.inl ⟨by rfl, ?_⟩) ?_ ?_
                                            rotate_left
                                            · intro w'
                                              go_simp
                                              with_reducible rfl
                                            rotate_left
                                            · simp only [Act.put, List.setIfInBounds_toArray, List.set_cons_zero, List.set_cons_succ, i64_w, i32_w]
                                              rfl
                                            refine take_ (i := 8) (N := some 152) (v := ?_) (a' := ?_) #[true, true, true, true, true, true, true, true, true, true, true, true, true, false, false, false, false] rfl rfl (take_ofW HT_.out HW_.out (by kernel_rfl)) (fun _ _ _ h => h) (Or.inl ⟨by rfl, ?_⟩) hHeld ?_ ?_
                                            rotate_left
                                            · rintro w' ⟨s0, s1, s2, s3, s4⟩
                                              go_simp
                                              with_reducible rfl
                                            rotate_left
                                            · simp only [Act.put, List.setIfInBounds_toArray, List.set_cons_zero, List.set_cons_succ, i64_w, i32_w]
                                              rfl
                                            refine take_ (i := 13) (N := some 157) (v := ?_) (a' := ?_) #[true, true, true, true, true, true, true, true, true, true, true, true, true, true, false, false, false] rfl rfl (take_ofW HT_.out HW_.out (by kernel_rfl)) (fun _ _ _ h => h) (Or.inl ⟨by rfl, ?_⟩) hHeld ?_ ?_
                                            rotate_left
                                            · rintro w' ⟨s0, s1, s2, s3, s4⟩
                                              go_simp
                                              with_reducible rfl
                                            rotate_left
                                            · simp only [Act.put, List.setIfInBounds_toArray, List.set_cons_zero, List.set_cons_succ, i64_w, i32_w]
                                              rfl
                                            refine one_ (i := 14) (N := some 158) #[true, true, true, true, true, true, true, true, true, true, true, true, true, true, true, false, false] rfl rfl (one_of HT_.out (by kernel_rfl)) (by decide) (fun K hK => ?_)
                                            refine goes_ Try.func17 (by kernel_rfl) rfl #[.slice (some ad647) t618.length co23, .int .i64 x13_17, .int .i64 (rd x12_17 x16_4)] (by rfl) rfl rfl (by (try simp only [List.map_toArray, List.map_cons, List.map_nil]); first | done | rfl | (simp only [List.length_drop, List.length_take]; rfl)) ?_
                                            with_reducible refine (dom_Dominates.calls k4 _ _ t618 x13_17 (rd x12_17 x16_4) true _ ?side1 ?side2 A101.out).mono ?_
                                            (case side1 => repeat (first | exact (Kd.R_reads' HO_623001.out).2.2 | (with_reducible refine Kd.C_alloc ?_ _) | (with_reducible refine Kd.C_drewN ?_ _) | (with_reducible refine Kd.C_drew ?_)))
                                            (case side2 => exact (Kd.R_reads' HO_623001.out).2.1)
                                            rintro e w105 ⟨rfl, hb⟩
                                            have HS3_ := (hb.cell (World.block_lt_of_cell? _ _ (hHeld.2.2.2.1))).trans (hHeld.2.2.2.1)
                                            have HS4_ := (hb.cell (World.block_lt_of_cell? _ _ (hHeld.2.2.2.2))).trans (hHeld.2.2.2.2)
                                            refine ⟨_, rfl, ?_⟩
                                            have n0_ := Aside0.mk (Kd.R_below (by (with_reducible repeat (first | apply Kd.R_alloc | apply Kd.R_drewN | apply Kd.R_drew)); exact HO_12.out) hb)
                                            have n1_ := Aside0.mk (Kd.S_below (by (with_reducible repeat (first | apply Kd.S_alloc | apply Kd.S_drewN | apply Kd.S_drew)); exact HO_623000.out) hb)
                                            have n2_ := Aside0.mk (Kd.R_below (by (with_reducible repeat (first | apply Kd.R_alloc | apply Kd.R_drewN | apply Kd.R_drew)); exact HO_623001.out) hb)
                                            have n3_ := Aside0.mk (Kd.S_below (by (with_reducible repeat (first | apply Kd.S_alloc | apply Kd.S_drewN | apply Kd.S_drew)); exact HO_634000.out) hb)
                                            have n4_ := Aside0.mk (Kd.R_below (by (with_reducible repeat (first | apply Kd.R_alloc | apply Kd.R_drewN | apply Kd.R_drew)); exact HO_634001.out) hb)
                                            have n5_ := Aside0.mk (blk_below (g := gb622) (o := .cells #[.slice Ao21 t615.length co21, .slice (some ad647) t618.length co23, .bool t621] 40 (0, 0)) (by (with_reducible repeat (first | refine blk_drewN ?_ _ | refine blk_drew ?_ | refine blk_alloc ?_ _)); exact BK622.out) hb)
                                            have n6_ := Aside0.mk (blk_below (g := gb633) (o := .cells #[u634000, u634001, .bool x634002_17] 40 (0, 0)) (by (with_reducible repeat (first | refine blk_drewN ?_ _ | refine blk_drew ?_ | refine blk_alloc ?_ _)); exact BK633.out) hb)
                                            have n7_ := Aside0.mk (below_step (by repeat (first | (with_reducible first | exact HB.out | apply below_alloc | apply pw_below_drewN | apply below_drew1 | refine below_set ?_ GE622.out | refine below_set ?_ GE633.out) | exact HB.out)) hb)
                                            clear HO_12
                                            clear HO_623000
                                            clear HO_623001
                                            clear HO_634000
                                            clear HO_634001
                                            clear BK622
                                            clear BK633
                                            clear HB
                                            have HO_12 := n0_
                                            have HO_623000 := n1_
                                            have HO_623001 := n2_
                                            have HO_634000 := n3_
                                            have HO_634001 := n4_
                                            have BK622 := n5_
                                            have BK633 := n6_
                                            have HB := n7_
                                            clear n0_ n1_ n2_ n3_ n4_ n5_ n6_ n7_
                                            (try clear hb)
                                            (try clear hb2)
                                            (try clear hk)
                                            (try clear hi)
                                            refine hK.out _ _ ⟨(blk_cell BK622.out 0).trans rfl, (blk_cell BK622.out 1).trans rfl, (blk_cell BK622.out 2).trans rfl, HS3_, HS4_⟩ (fun hHeld => ?_)
                                            clear hK K
                                            refine norm_ (a' := ?_) ?_ ?_
                                            rotate_left
                                            · show Act.put _ (some 158) _ = _
                                              simp only [Act.put, List.setIfInBounds_toArray, List.set_cons_zero, List.set_cons_succ, i64_w, i32_w]
                                              rfl
                                            refine pure_ (i := 15) (N := some 159) (v := ?_) (a' := ?_) #[true, true, true, true, true, true, true, true, true, true, true, true, true, true, true, true, false] rfl rfl (any_of HT_.out (by kernel_rfl)) (fun _ _ _ h => h) (Or.inl ⟨by rfl, ?_⟩) ?_ ?_
                                            rotate_left
                                            · intro w'
                                              go_simp
                                              with_reducible rfl
                                            rotate_left
                                            · simp only [Act.put, List.setIfInBounds_toArray, List.set_cons_zero, List.set_cons_succ, i64_w, i32_w]
                                              rfl
                                            refine pure_ (i := 16) (N := some 160) (v := ?_) (a' := ?_) #[true, true, true, true, true, true, true, true, true, true, true, true, true, true, true, true, true] rfl rfl (any_of HT_.out (by kernel_rfl)) (fun _ _ _ h => h) (Or.inl ⟨by rfl, ?_⟩) ?_ ?_
                                            rotate_left
                                            · intro w'
                                              go_simp
                                              with_reducible rfl
                                            rotate_left
                                            · simp only [Act.put, List.setIfInBounds_toArray, List.set_cons_zero, List.set_cons_succ, i64_w, i32_w]
                                              rfl
                                            refine done_ (done_of HT_.out (by kernel_rfl)) ?_
                                            try go_wp2
                                            go_roundg k4
                                            case measure => have := HJ5.out; have := HJ17.out; have := HJ75.out; have := HK4.out; omega
                                            case rel => exact ⟨(wrap64 (x16_4 + 1)), (by first | rfl | (simp; done) | (simp [*]; done)), H', ⟨by have := HJ5.out; have := HJ17.out; have := HJ75.out; have := HK4.out; omega⟩, ⟨by (with_reducible repeat (first | apply Kd.R_alloc | apply Kd.R_drewN | apply Kd.R_drew)); exact HO_12.out⟩, ⟨by (with_reducible repeat (first | apply Kd.S_alloc | apply Kd.S_drewN | apply Kd.S_drew)); exact HO_623000.out⟩, ⟨by (with_reducible repeat (first | apply Kd.R_alloc | apply Kd.R_drewN | apply Kd.R_drew)); exact HO_623001.out⟩, ⟨by (with_reducible repeat (first | apply Kd.S_alloc | apply Kd.S_drewN | apply Kd.S_drew)); exact HO_634000.out⟩, ⟨by (with_reducible repeat (first | apply Kd.R_alloc | apply Kd.R_drewN | apply Kd.R_drew)); exact HO_634001.out⟩, ⟨by (with_reducible repeat (first | refine blk_drewN ?_ _ | refine blk_drew ?_ | refine blk_alloc ?_ _)); exact BK622.out⟩, ⟨by (with_reducible repeat (first | refine blk_drewN ?_ _ | refine blk_drew ?_ | refine blk_alloc ?_ _)); exact BK633.out⟩, ⟨by repeat (first | (with_reducible first | exact HB.out | apply below_alloc | apply pw_below_drewN | apply below_drew1 | refine below_set ?_ GE622.out | refine below_set ?_ GE633.out) | exact HB.out)⟩⟩
                                          · replace c102 := Bool.eq_false_iff.mpr c102
                                            subst c102
                                            have H1 : (some false) = some r := by rw [if_neg (show ¬ (false = true) by decide)] at H; exact H
                                            clear H
                                            have H := H1
                                            clear H1
                                            obtain rfl := Option.some.inj H
                                            obtain ⟨Ao106, co106, eo106⟩ := Kd.R_slice HO_12.out
                                            subst eo106
                                            try go_wp2
                                            have n0_ := Aside0.mk (Kd.R_drew HO_12.out)
                                            have n1_ := Aside0.mk (Kd.S_drew HO_623000.out)
                                            have n2_ := Aside0.mk (Kd.R_drew HO_623001.out)
                                            have n3_ := Aside0.mk (Kd.S_drew HO_634000.out)
                                            have n4_ := Aside0.mk (Kd.R_drew HO_634001.out)
                                            have n5_ := Aside0.mk (blk_drew BK622.out)
                                            have n6_ := Aside0.mk (blk_drew BK633.out)
                                            have n7_ := Aside0.mk (below_drew1 HB.out)
                                            clear HO_12
                                            clear HO_623000
                                            clear HO_623001
                                            clear HO_634000
                                            clear HO_634001
                                            clear BK622
                                            clear BK633
                                            clear HB
                                            have HO_12 := n0_
                                            have HO_623000 := n1_
                                            have HO_623001 := n2_
                                            have HO_634000 := n3_
                                            have HO_634001 := n4_
                                            have BK622 := n5_
                                            have BK633 := n6_
                                            have HB := n7_
                                            clear n0_ n1_ n2_ n3_ n4_ n5_ n6_ n7_
                                            have p650 : 0 ≤ (x16_4 : Int) := of_decide_eq_true (by first | (with_reducible assumption) | assumption)
                                            have q650 : x16_4 < (x12_17.length : Int) := of_decide_eq_true (by first | (with_reducible assumption) | assumption)
                                            obtain ⟨ad650, e650, hx650_0⟩ := Kd.at_int (Kd.R_reads' HO_12.out).2.2 x16_4 p650 q650
                                            cases e650
                                            replace p650 := eq_true p650
                                            replace q650 := eq_true q650
                                            have p651 : 0 ≤ (x16_4 : Int) := of_decide_eq_true (by first | (with_reducible assumption) | assumption)
                                            have q651 : x16_4 < (x12_17.length : Int) := of_decide_eq_true (by first | (with_reducible assumption) | assumption)
                                            obtain ⟨ad651, e651, hx651_0⟩ := Kd.at_int (Kd.R_reads' HO_12.out).2.2 x16_4 p651 q651
                                            obtain rfl : ad650 = ad651 := (by injection e651)
                                            replace p651 := eq_true p651
                                            replace q651 := eq_true q651
                                            refine start_ (n := 17) (S := fun w' => w'.cell? ⟨gb622, 0, none⟩ = some (.slice Ao21 t615.length co21) ∧ w'.cell? ⟨gb622, 1, none⟩ = some (.slice (some ad647) t618.length co23) ∧ w'.cell? ⟨gb622, 2, none⟩ = some (.bool t621) ∧ w'.cell? (ad650.add (x16_4).toNat) = some (.int .i64 (rd x12_17 x16_4)) ∧ w'.cell? (ad650.add (x16_4).toNat) = some (.int .i64 (rd x12_17 x16_4))) (ds := []) #[false, false, false, false, false, false, false, false, false, false, false, false, false, false, false, false, false] (by kernel_rfl) rfl rfl ⟨(blk_cell BK622.out 0).trans rfl, (blk_cell BK622.out 1).trans rfl, (blk_cell BK622.out 2).trans rfl, hx650_0, hx651_0⟩ (fun hHeld => ?_); refine with_tabW bywashlaw15_DomupUnder.tab23 bywashlaw15_DomupUnder.bits23 (fun HT_ HW_ => ?_)
                                            generalize wr.drew = w107 at HO_12 HO_623000 HO_623001 HO_634000 HO_634001 BK622 BK633 HB hx650_0 hx651_0 hHeld ⊢
                                            refine pure_ (i := 0) (N := some 144) (v := ?_) (a' := ?_) #[true, false, false, false, false, false, false, false, false, false, false, false, false, false, false, false, false] rfl rfl (any_of HT_.out (by kernel_rfl)) (fun _ _ _ h => h) (Or.inl ⟨by rfl, ?_⟩) ?_ ?_
                                            rotate_left
                                            · intro w'
                                              go_simp
                                              with_reducible rfl
                                            rotate_left
                                            · simp only [Act.put, List.setIfInBounds_toArray, List.set_cons_zero, List.set_cons_succ, i64_w, i32_w]
                                              rfl
                                            refine pure_ (i := 1) (N := some 145) (v := ?_) (a' := ?_) #[true, true, false, false, false, false, false, false, false, false, false, false, false, false, false, false, false] rfl rfl (any_of HT_.out (by kernel_rfl)) (fun _ _ _ h => h) (Or.inl ⟨by rfl, ?_⟩) ?_ ?_
                                            rotate_left
                                            · intro w'
                                              go_simp
                                              with_reducible rfl
                                            rotate_left
                                            · simp only [Act.put, List.setIfInBounds_toArray, List.set_cons_zero, List.set_cons_succ, i64_w, i32_w]
                                              rfl
                                            refine pure_ (i := 2) (N := some 146) (v := ?_) (a' := ?_) #[true, true, true, false, false, false, false, false, false, false, false, false, false, false, false, false, false] rfl rfl (any_of HT_.out (by kernel_rfl)) (fun _ _ _ h => h) (Or.inl ⟨by rfl, ?_⟩) ?_ ?_
                                            rotate_left
                                            · intro w'
                                              go_simp
                                              with_reducible rfl
                                            rotate_left
                                            · simp only [Act.put, List.setIfInBounds_toArray, List.set_cons_zero, List.set_cons_succ, i64_w, i32_w]
                                              rfl
                                            refine pure_ (i := 4) (N := some 148) (v := ?_) (a' := ?_) #[true, true, true, false, true, false, false, false, false, false, false, false, false, false, false, false, false] rfl rfl (any_of HT_.out (by kernel_rfl)) (fun _ _ _ h => h) (Or.inl ⟨by rfl, ?_⟩) ?_ ?_
                                            rotate_left
                                            · intro w'
                                              go_simp
                                              with_reducible rfl
                                            rotate_left
                                            · simp only [Act.put, List.setIfInBounds_toArray, List.set_cons_zero, List.set_cons_succ, i64_w, i32_w]
                                              rfl
                                            refine take_ (i := 3) (N := some 147) (v := ?_) (a' := ?_) #[true, true, true, true, true, false, false, false, false, false, false, false, false, false, false, false, false] rfl rfl (take_ofW HT_.out HW_.out (by kernel_rfl)) (fun _ _ _ h => h) (Or.inl ⟨by rfl, ?_⟩) hHeld ?_ ?_
                                            rotate_left
                                            · rintro w' ⟨s0, s1, s2, s3, s4⟩
                                              go_simp
                                              with_reducible rfl
                                            rotate_left
                                            · simp only [Act.put, List.setIfInBounds_toArray, List.set_cons_zero, List.set_cons_succ, i64_w, i32_w]
                                              rfl
                                            refine pure_ (i := 5) (N := some 149) (v := ?_) (a' := ?_) #[true, true, true, true, true, true, false, false, false, false, false, false, false, false, false, false, false] rfl rfl (any_of HT_.out (by kernel_rfl)) (fun _ _ _ h => h) (Or.inl ⟨by rfl, ?_⟩) ?_ ?_
                                            rotate_left
                                            · intro w'
                                              go_simp
                                              with_reducible rfl
                                            rotate_left
                                            · simp only [Act.put, List.setIfInBounds_toArray, List.set_cons_zero, List.set_cons_succ, i64_w, i32_w]
                                              rfl
                                            refine pure_ (i := 6) (N := some 150) (v := ?_) (a' := ?_) #[true, true, true, true, true, true, true, false, false, false, false, false, false, false, false, false, false] rfl rfl (any_of HT_.out (by kernel_rfl)) (fun _ _ _ h => h) (Or.inl ⟨by rfl, ?_⟩) ?_ ?_
                                            rotate_left
                                            · intro w'
                                              go_simp
                                              with_reducible rfl
                                            rotate_left
                                            · simp only [Act.put, List.setIfInBounds_toArray, List.set_cons_zero, List.set_cons_succ, i64_w, i32_w]
                                              rfl
                                            refine pure_ (i := 7) (N := some 151) (v := ?_) (a' := ?_) #[true, true, true, true, true, true, true, true, false, false, false, false, false, false, false, false, false] rfl rfl (any_of HT_.out (by kernel_rfl)) (fun _ _ _ h => h) (Or.inl ⟨by rfl, ?_⟩) ?_ ?_
                                            rotate_left
                                            · intro w'
                                              go_simp
                                              with_reducible rfl
                                            rotate_left
                                            · simp only [Act.put, List.setIfInBounds_toArray, List.set_cons_zero, List.set_cons_succ, i64_w, i32_w]
                                              rfl
                                            refine pure_ (i := 9) (N := some 153) (v := ?_) (a' := ?_) #[true, true, true, true, true, true, true, true, false, true, false, false, false, false, false, false, false] rfl rfl (any_of HT_.out (by kernel_rfl)) (fun _ _ _ h => h) (Or.inl ⟨by rfl, ?_⟩) ?_ ?_
                                            rotate_left
                                            · intro w'
                                              go_simp
                                              with_reducible rfl
                                            rotate_left
                                            · simp only [Act.put, List.setIfInBounds_toArray, List.set_cons_zero, List.set_cons_succ, i64_w, i32_w]
                                              rfl
                                            refine pure_ (i := 10) (N := some 154) (v := ?_) (a' := ?_) #[true, true, true, true, true, true, true, true, false, true, true, false, false, false, false, false, false] rfl rfl (any_of HT_.out (by kernel_rfl)) (fun _ _ _ h => h) (Or.inl ⟨by rfl, ?_⟩) ?_ ?_
                                            rotate_left
                                            · intro w'
                                              go_simp
                                              with_reducible rfl
                                            rotate_left
                                            · simp only [Act.put, List.setIfInBounds_toArray, List.set_cons_zero, List.set_cons_succ, i64_w, i32_w]
                                              rfl
                                            refine pure_ (i := 11) (N := some 155) (v := ?_) (a' := ?_) #[true, true, true, true, true, true, true, true, false, true, true, true, false, false, false, false, false] rfl rfl (any_of HT_.out (by kernel_rfl)) (fun _ _ _ h => h) (Or.inl ⟨by rfl, ?_⟩) ?_ ?_
                                            rotate_left
                                            · intro w'
                                              go_simp
                                              with_reducible rfl
                                            rotate_left
                                            · simp only [Act.put, List.setIfInBounds_toArray, List.set_cons_zero, List.set_cons_succ, i64_w, i32_w]
                                              rfl
                                            refine pure_ (i := 12) (N := some 156) (v := ?_) (a' := ?_) #[true, true, true, true, true, true, true, true, false, true, true, true, true, false, false, false, false] rfl rfl (any_of HT_.out (by kernel_rfl)) (fun _ _ _ h => h) (Or.inl ⟨by rfl, ?_⟩) ?_ ?_
                                            rotate_left
                                            · intro w'
                                              go_simp
                                              with_reducible rfl
                                            rotate_left
                                            · simp only [Act.put, List.setIfInBounds_toArray, List.set_cons_zero, List.set_cons_succ, i64_w, i32_w]
                                              rfl
                                            refine take_ (i := 8) (N := some 152) (v := ?_) (a' := ?_) #[true, true, true, true, true, true, true, true, true, true, true, true, true, false, false, false, false] rfl rfl (take_ofW HT_.out HW_.out (by kernel_rfl)) (fun _ _ _ h => h) (Or.inl ⟨by rfl, ?_⟩) hHeld ?_ ?_
                                            rotate_left
                                            · rintro w' ⟨s0, s1, s2, s3, s4⟩
                                              go_simp
                                              with_reducible rfl
                                            rotate_left
                                            · simp only [Act.put, List.setIfInBounds_toArray, List.set_cons_zero, List.set_cons_succ, i64_w, i32_w]
                                              rfl
                                            refine take_ (i := 13) (N := some 157) (v := ?_) (a' := ?_) #[true, true, true, true, true, true, true, true, true, true, true, true, true, true, false, false, false] rfl rfl (take_ofW HT_.out HW_.out (by kernel_rfl)) (fun _ _ _ h => h) (Or.inl ⟨by rfl, ?_⟩) hHeld ?_ ?_
                                            rotate_left
                                            · rintro w' ⟨s0, s1, s2, s3, s4⟩
                                              go_simp
                                              with_reducible rfl
                                            rotate_left
                                            · simp only [Act.put, List.setIfInBounds_toArray, List.set_cons_zero, List.set_cons_succ, i64_w, i32_w]
                                              rfl
                                            refine one_ (i := 14) (N := some 158) #[true, true, true, true, true, true, true, true, true, true, true, true, true, true, true, false, false] rfl rfl (one_of HT_.out (by kernel_rfl)) (by decide) (fun K hK => ?_)
                                            refine goes_ Try.func17 (by kernel_rfl) rfl #[.slice (some ad647) t618.length co23, .int .i64 x13_17, .int .i64 (rd x12_17 x16_4)] (by rfl) rfl rfl (by (try simp only [List.map_toArray, List.map_cons, List.map_nil]); first | done | rfl | (simp only [List.length_drop, List.length_take]; rfl)) ?_
                                            with_reducible refine (dom_Dominates.calls k4 _ _ t618 x13_17 (rd x12_17 x16_4) false _ ?side1 ?side2 A101.out).mono ?_
                                            (case side1 => repeat (first | exact (Kd.R_reads' HO_623001.out).2.2 | (with_reducible refine Kd.C_alloc ?_ _) | (with_reducible refine Kd.C_drewN ?_ _) | (with_reducible refine Kd.C_drew ?_)))
                                            (case side2 => exact (Kd.R_reads' HO_623001.out).2.1)
                                            rintro e w108 ⟨rfl, hb⟩
                                            have HS3_ := (hb.cell (World.block_lt_of_cell? _ _ (hHeld.2.2.2.1))).trans (hHeld.2.2.2.1)
                                            have HS4_ := (hb.cell (World.block_lt_of_cell? _ _ (hHeld.2.2.2.2))).trans (hHeld.2.2.2.2)
                                            refine ⟨_, rfl, ?_⟩
                                            have n0_ := Aside0.mk (Kd.R_below (by (with_reducible repeat (first | apply Kd.R_alloc | apply Kd.R_drewN | apply Kd.R_drew)); exact HO_12.out) hb)
                                            have n1_ := Aside0.mk (Kd.S_below (by (with_reducible repeat (first | apply Kd.S_alloc | apply Kd.S_drewN | apply Kd.S_drew)); exact HO_623000.out) hb)
                                            have n2_ := Aside0.mk (Kd.R_below (by (with_reducible repeat (first | apply Kd.R_alloc | apply Kd.R_drewN | apply Kd.R_drew)); exact HO_623001.out) hb)
                                            have n3_ := Aside0.mk (Kd.S_below (by (with_reducible repeat (first | apply Kd.S_alloc | apply Kd.S_drewN | apply Kd.S_drew)); exact HO_634000.out) hb)
                                            have n4_ := Aside0.mk (Kd.R_below (by (with_reducible repeat (first | apply Kd.R_alloc | apply Kd.R_drewN | apply Kd.R_drew)); exact HO_634001.out) hb)
                                            have n5_ := Aside0.mk (blk_below (g := gb622) (o := .cells #[.slice Ao21 t615.length co21, .slice (some ad647) t618.length co23, .bool t621] 40 (0, 0)) (by (with_reducible repeat (first | refine blk_drewN ?_ _ | refine blk_drew ?_ | refine blk_alloc ?_ _)); exact BK622.out) hb)
                                            have n6_ := Aside0.mk (blk_below (g := gb633) (o := .cells #[u634000, u634001, .bool x634002_17] 40 (0, 0)) (by (with_reducible repeat (first | refine blk_drewN ?_ _ | refine blk_drew ?_ | refine blk_alloc ?_ _)); exact BK633.out) hb)
                                            have n7_ := Aside0.mk (below_step (by repeat (first | (with_reducible first | exact HB.out | apply below_alloc | apply pw_below_drewN | apply below_drew1 | refine below_set ?_ GE622.out | refine below_set ?_ GE633.out) | exact HB.out)) hb)
                                            clear HO_12
                                            clear HO_623000
                                            clear HO_623001
                                            clear HO_634000
                                            clear HO_634001
                                            clear BK622
                                            clear BK633
                                            clear HB
                                            have HO_12 := n0_
                                            have HO_623000 := n1_
                                            have HO_623001 := n2_
                                            have HO_634000 := n3_
                                            have HO_634001 := n4_
                                            have BK622 := n5_
                                            have BK633 := n6_
                                            have HB := n7_
                                            clear n0_ n1_ n2_ n3_ n4_ n5_ n6_ n7_
                                            (try clear hb)
                                            (try clear hb2)
                                            (try clear hk)
                                            (try clear hi)
                                            refine hK.out _ _ ⟨(blk_cell BK622.out 0).trans rfl, (blk_cell BK622.out 1).trans rfl, (blk_cell BK622.out 2).trans rfl, HS3_, HS4_⟩ (fun hHeld => ?_)
                                            clear hK K
                                            refine norm_ (a' := ?_) ?_ ?_
                                            rotate_left
                                            · show Act.put _ (some 158) _ = _
                                              simp only [Act.put, List.setIfInBounds_toArray, List.set_cons_zero, List.set_cons_succ, i64_w, i32_w]
                                              rfl
                                            refine pure_ (i := 15) (N := some 159) (v := ?_) (a' := ?_) #[true, true, true, true, true, true, true, true, true, true, true, true, true, true, true, true, false] rfl rfl (any_of HT_.out (by kernel_rfl)) (fun _ _ _ h => h) (Or.inl ⟨by rfl, ?_⟩) ?_ ?_
                                            rotate_left
                                            · intro w'
                                              go_simp
                                              with_reducible rfl
                                            rotate_left
                                            · simp only [Act.put, List.setIfInBounds_toArray, List.set_cons_zero, List.set_cons_succ, i64_w, i32_w]
                                              rfl
                                            refine pure_ (i := 16) (N := some 160) (v := ?_) (a' := ?_) #[true, true, true, true, true, true, true, true, true, true, true, true, true, true, true, true, true] rfl rfl (any_of HT_.out (by kernel_rfl)) (fun _ _ _ h => h) (Or.inl ⟨by rfl, ?_⟩) ?_ ?_
                                            rotate_left
                                            · intro w'
                                              go_simp
                                              with_reducible rfl
                                            rotate_left
                                            · simp only [Act.put, List.setIfInBounds_toArray, List.set_cons_zero, List.set_cons_succ, i64_w, i32_w]
                                              rfl
                                            refine done_ (done_of HT_.out (by kernel_rfl)) ?_
                                            try go_wp2
                                            go_ret
                                            exact ⟨by first | rfl | (simp [errW_none, errW_some] <;> rfl) | (simp [*, errW_none, errW_some] <;> rfl) | (exfalso; (try simp_all); (try omega); done), by repeat (first | (with_reducible first | exact HB.out | apply below_alloc | apply pw_below_drewN | apply below_drew1 | refine below_set ?_ GE622.out | refine below_set ?_ GE633.out) | exact HB.out)⟩
                                      · rw [if_neg c97] at H
                                        exact absurd H (by simp)
                                    · rw [if_neg c96] at H
                                      have c96b0 : decide (x16_4 < (x12_17.length : Int)) = false := decide_eq_false c96
                                      clear c96
                                      by_cases c109 : t613 = true
                                      · subst c109
                                        have H1 : (some ((x634001_17.length : Int) == (l0.length : Int))) = some r := by rw [if_pos rfl] at H; exact H
                                        clear H
                                        have H := H1
                                        clear H1
                                        obtain rfl := Option.some.inj H
                                        obtain ⟨Ao110, co110, eo110⟩ := Kd.R_slice HO_12.out
                                        subst eo110
                                        have hnb111 := NB633_622.out
                                        have hnc111 := NB622_633.out
                                        have hcz112_0 : wr.cell? ⟨gb633, 0, none⟩ = some (u634000) := (blk_cell BK633.out 0).trans rfl
                                        have hcz112_1 : wr.cell? ⟨gb633, 1, none⟩ = some (u634001) := (blk_cell BK633.out 1).trans rfl
                                        have hcz112_2 : wr.cell? ⟨gb633, 2, none⟩ = some (.bool x634002_17) := (blk_cell BK633.out 2).trans rfl
                                        have hfz112_0 := blk_frozen BK633.out 0
                                        have hfz112_1 := blk_frozen BK633.out 1
                                        have hfz112_2 := blk_frozen BK633.out 2
                                        obtain ⟨Ao113, co113, eo113⟩ := Kd.R_slice HO_634001.out
                                        subst eo113
                                        go_wp2
                                        go_ret
                                        exact ⟨by first | rfl | (simp [errW_none, errW_some] <;> rfl) | (simp [*, errW_none, errW_some] <;> rfl) | (exfalso; (try simp_all); (try omega); done), by repeat (first | (with_reducible first | exact HB.out | apply below_alloc | apply pw_below_drewN | apply below_drew1 | refine below_set ?_ GE622.out | refine below_set ?_ GE633.out) | exact HB.out)⟩
                                      · replace c109 := Bool.eq_false_iff.mpr c109
                                        subst c109
                                        have H1 : (some false) = some r := by rw [if_neg (show ¬ (false = true) by decide)] at H; exact H
                                        clear H
                                        have H := H1
                                        clear H1
                                        obtain rfl := Option.some.inj H
                                        obtain ⟨Ao114, co114, eo114⟩ := Kd.R_slice HO_12.out
                                        subst eo114
                                        go_wp2
                                        go_ret
                                        exact ⟨by first | rfl | (simp [errW_none, errW_some] <;> rfl) | (simp [*, errW_none, errW_some] <;> rfl) | (exfalso; (try simp_all); (try omega); done), by repeat (first | (with_reducible first | exact HB.out | apply below_alloc | apply pw_below_drewN | apply below_drew1 | refine below_set ?_ GE622.out | refine below_set ?_ GE633.out) | exact HB.out)⟩
                      · rw [if_neg c57] at H
                        exact absurd H (by simp)
                    · rw [if_neg c56] at H
                      exact absurd H (by simp)
                · rw [if_neg c48] at H
                  exact absurd H (by simp)
              · rw [if_neg c47] at H
                exact absurd H (by simp)
        · rw [if_neg c15] at H
          have c15b0 : ((t618.length : Int) == (l0.length : Int)) = false := beq_eq_false_iff_ne.mpr c15
          have c15b1 : ((t618.length : Int) != (l0.length : Int)) = true := bne_iff_ne.mpr c15
          have c15b2 : (t618.length == l0.length) = false := by first | simpa using c15 | (simp at c15 ⊢; omega)
          obtain rfl := Option.some.inj H
          go_wp2_with (first | ((with_reducible refine gate_callee (f := 32) rfl ?_); refine goesL_ (some 43) rfl rfl Try.func32 (by kernel_rfl) rfl #[.slice A0 l0.length c0] rfl (by (try simp only [List.map_toArray, List.map_cons, List.map_nil]); first | done | rfl | (simp only [List.length_drop, List.length_take]; rfl)) ?_; (with_reducible refine (domup_New.calls kj5 _ _ l0 t615 t618 t621 _ ?side1 ?side2 A14.out).mono ?_); (case side1 => repeat (first | exact (Kd.C_below HR0.out HB.out) | (with_reducible refine Kd.C_alloc ?_ _) | (with_reducible refine Kd.C_drewN ?_ _) | (with_reducible refine Kd.C_drew ?_))); (case side2 => exact HC0.out); rintro e w115 ⟨v616, v619, rfl, ho0, ho1, hb⟩; refine ⟨_, rfl, ?_⟩; have n0_ := Aside0.mk (Kd.S_lower ho0 (below_size (by repeat (first | (with_reducible first | exact HB.out | apply below_alloc | apply pw_below_drewN | apply below_drew1) | exact HB.out)))); have n1_ := Aside0.mk (Kd.R_lower ho1 (below_size (by repeat (first | (with_reducible first | exact HB.out | apply below_alloc | apply pw_below_drewN | apply below_drew1) | exact HB.out)))); have n2_ := Aside0.mk (below_step (by repeat (first | (with_reducible first | exact HB.out | apply below_alloc | apply pw_below_drewN | apply below_drew1) | exact HB.out)) hb); clear HB; have HO617 := n0_; have HO620 := n1_; have HB := n2_; clear n0_ n1_ n2_; (try clear hb); (try clear hb2); (try clear hk); (try clear hi); (try clear ho0); (try clear ho1)) | ((with_reducible refine gate_dst (N := 10) rfl ?_); (try (refine gate_guard (by rfl) ?_; dsimp only)); refine box_event ?hg (N := 10) ?hd (cs := #[.slice none 0 0, .slice none 0 0, .bool false]) (t := 40) ?hr ?_; (case hd => rfl); (case hg => rfl); (case hr => first | (go_simp; done) | (go_simp; rfl)); intro gb622 hg w116 hbox hb; have n0_ := Aside0.mk (Kd.S_below (by (with_reducible repeat (first | apply Kd.S_alloc | apply Kd.S_drewN | apply Kd.S_drew)); exact HO617.out) hb); have n1_ := Aside0.mk (Kd.R_below (by (with_reducible repeat (first | apply Kd.R_alloc | apply Kd.R_drewN | apply Kd.R_drew)); exact HO620.out) hb); have n2_ := Aside0.mk (below_step (by repeat (first | (with_reducible first | exact HB.out | apply below_alloc | apply pw_below_drewN | apply below_drew1) | exact HB.out)) hb); have n3_ := Aside0.mk (hbox); have n4_ := Aside0.mk ((by rw [hg]; exact (below_size (by repeat (first | (with_reducible first | exact HB.out | apply below_alloc | apply pw_below_drewN | apply below_drew1) | exact HB.out))) : w.heap.size ≤ gb622)); have n5_ := Aside0.mk ((by rw [hg]; exact (below_size (by repeat (first | (with_reducible first | exact HB.out | apply below_alloc | apply pw_below_drewN | apply below_drew1) | exact HB.out))) : w.heap.size ≤ gb622)); clear HO617; clear HO620; clear HB; have HO617 := n0_; have HO620 := n1_; have HB := n2_; have BK622 := n3_; have GW622 := n4_; have GE622 := n5_; clear n0_ n1_ n2_ n3_ n4_ n5_; clear hb hbox hg; obtain ⟨Ao117, co117, eo117⟩ := Kd.S_slice HO617.out; subst eo117; have hcz118_0 : w116.cell? ⟨gb622, 0, none⟩ = some (.slice none 0 0) := (blk_cell BK622.out 0).trans rfl; have hcz118_1 : w116.cell? ⟨gb622, 1, none⟩ = some (.slice none 0 0) := (blk_cell BK622.out 1).trans rfl; have hcz118_2 : w116.cell? ⟨gb622, 2, none⟩ = some (.bool false) := (blk_cell BK622.out 2).trans rfl; have hfz118_0 := blk_frozen BK622.out 0; have hfz118_1 := blk_frozen BK622.out 1; have hfz118_2 := blk_frozen BK622.out 2; obtain ⟨Ao119, co119, eo119⟩ := Kd.R_slice HO620.out; subst eo119))
          go_ret
          exact ⟨by first | rfl | (simp [errW_none, errW_some] <;> rfl) | (simp [*, errW_none, errW_some] <;> rfl) | (exfalso; (try simp_all); (try omega); done), by repeat (first | (with_reducible first | exact HB.out | apply below_alloc | apply pw_below_drewN | apply below_drew1 | refine below_set ?_ GE622.out) | exact HB.out)⟩
end Go.Proofs.Ytemcmcnhpdkdfaa.P
namespace Go.Proofs.Ytemcmcnhpdkdfaa.P
open Go.RowKit Go.Lib Go.Proofs.YtemcmcnhpdkdfaaW.PrintWords
theorem keep_idom {c c2 : List (List Int)} {l l3 : List Int} (h : IsDom c l) (h3 : IsDom c2 l3) (hlen : c2.length = c.length) {top : Int} (hw : ∀ y, Way c 0 y ↔ Way c2 0 y)
    (hdd : ∀ b x, Rc c b → (b = top ∨ ¬ Dm c top b) → (Av c x 0 b ↔ Av c2 x 0 b)) {x : Int} (hx : Node c x) (hL : x = top ∨ ¬ Dm c top x) : rd l3 x = rd l x := by
  have hn : ∀ y, Node c2 y ↔ Node c y := fun y => by unfold Node; rw [hlen]
  by_cases hr : Way c 0 x
  · by_cases h0 : x = 0
    · subst h0
      have := hx.1
      have := hx.2
      rw [h.zero (by omega), h3.zero (by omega)]
    · have hrc : Rc c x := ⟨hx, hr⟩
      have hrc2 : Rc c2 x := ⟨(hn x).2 hx, (hw x).1 hr⟩
      obtain ⟨p, hp, e, hpn, hpw⟩ := h.par x hx hr h0
      obtain ⟨p3, hp3, e3, hpn3, hpw3⟩ := h3.par x hrc2.1 hrc2.2 h0
      rw [e, e3]
      obtain ⟨f, hf, _⟩ := h.rank
      obtain ⟨f3, hf3, _⟩ := h3.rank
      have np : p ≠ x := fun q => by have := hf x p hp; rw [q] at this; omega
      have np3 : p3 ≠ x := fun q => by have := hf3 x p3 hp3; rw [q] at this; omega
      have dp : Dm c p x := (h.dm_par hrc h0).2 (.inr (by rw [e]; exact h.dm_refl.2 ⟨hpn, hpw⟩))
      have dp3 : Dm c2 p3 x := (h3.dm_par hrc2 h0).2 (.inr (by rw [e3]; exact h3.dm_refl.2 ⟨hpn3, hpw3⟩))
      have dq : Dm c p3 x := ⟨hrc, fun k => dp3.2 ((hdd x p3 hrc hL).1 k)⟩
      have dq2 : Dm c2 p x := ⟨hrc2, fun k => dp.2 ((hdd x p hrc hL).2 k)⟩
      have s1 : Dm c p3 p := by
        rcases (h.dm_par hrc h0).1 dq with k | k
        · exact absurd k np3
        · rw [e] at k; exact k
      have s2 : Dm c2 p p3 := by
        rcases (h3.dm_par hrc2 h0).1 dq2 with k | k
        · exact absurd k np
        · rw [e3] at k; exact k
      have s3 : Dm c2 p3 p := ⟨⟨(hn p).2 hpn, (hw p).1 hpw⟩, fun k => s1.2 ((hdd p p3 ⟨hpn, hpw⟩ (not_below h hrc hL hp)).2 k)⟩
      exact h3.dm_anti s3 s2
  · rw [h.lost x hx hr, h3.lost x ((hn x).2 hx) (fun k => hr ((hw x).2 k))]
theorem under_l0 (x0 : List (List Int)) {c : List (List Int)} {l : List Int} (h : Stt c l) {top : Int} (ch : List Int) (hch : ∀ x ∈ ch, x ≠ top ∧ Dm c top x) (hlen : ch.length ≤ 1000000) (g3 : List (List Int)) (l3 : List Int) (hl3 : l3.length = x0.length) (kp kp3 : Bool) :
    ∀ d i : Nat, i + d = ch.length → Ev (fun k => bywashlaw15_DomupUnder.l0 k x0 true ch top (i : Int) c l kp g3 l3 kp3) true
  | 0, i, hd => by
    refine Ev.step (f := fun _ => some ((l3.length : Int) == (x0.length : Int))) (fun k => by rw [bywashlaw15_DomupUnder.l0, if_neg (by omega), if_pos rfl]) ?_
    rw [show ((l3.length : Int) == (x0.length : Int)) = true from by rw [hl3]; simp]
    exact Ev.now _
  | d + 1, i, hd => by
    have hi : i < ch.length := by omega
    have hm := hch _ (List.getElem_mem hi)
    rw [← rd_nat' hi] at hm
    refine Ev.step (f := fun k => (dom_Dominates.f k l top (rd ch (i : Int))).bind fun t => if t = true then bywashlaw15_DomupUnder.l0 k x0 true ch top ((i + 1 : Nat) : Int) c l kp g3 l3 kp3 else some false) (fun k => by rw [bywashlaw15_DomupUnder.l0, if_pos (by omega), if_pos (by omega), if_neg hm.1, wrap_succ (by omega)]) ?_
    refine Ev.bind (dominates_ev l (by rw [h.len]; have := h.n; omega) _ _) ?_
    rw [decide_eq_true (h.d.dm.2 hm.2)]
    exact under_l0 x0 h ch hch hlen g3 l3 hl3 kp kp3 d (i + 1) (by omega)
theorem under_j1 (x0 : List (List Int)) {c : List (List Int)} {l : List Int} (h : Stt c l) {top a b : Int} (ha : Node c a) (hb : Node c b) (hx0 : x0.length = c.length) (g3 : List (List Int)) (l3 : List Int) (out : Bool) (hl3 : l3.length = x0.length) (hg3 : g3.length = x0.length)
    (hA : rd l a = -2 → l3 = l) (hB : rd l b = -2 → out = true → l3 = l) (hC : rd l a ≠ -2 → rd l b ≠ -2 → (out = true → rd l3 b ≠ -2) → ∀ x ∈ changedB l l3, x ≠ top ∧ Dm c top x) (kp kp3 : Bool) :
    Ev (fun k => bywashlaw15_DomupUnder.j1 k x0 a b out true (changedB l l3) top c l kp g3 l3 kp3) true := by
  have hll := h.len
  have hn := h.n
  have hch := changedB_len l l3
  have ha2 : a < (l.length : Int) := by have := ha.2; omega
  have hb2 : b < (l.length : Int) := by have := hb.2; omega
  have last : (rd l a ≠ -2 ∧ rd l b ≠ -2 ∧ (out = true → rd l3 b ≠ -2)) → Ev (fun k => bywashlaw15_DomupUnder.j2 k x0 true (changedB l l3) top false c l kp g3 l3 kp3) true := fun hc =>
    Ev.step (f := fun k => bywashlaw15_DomupUnder.l0 k x0 true (changedB l l3) top ((0 : Nat) : Int) c l kp g3 l3 kp3) (fun k => by rw [bywashlaw15_DomupUnder.j2, if_neg (by simp)]; rfl) (under_l0 x0 h _ (hC hc.1 hc.2.1 hc.2.2) (by omega) g3 l3 hl3 kp kp3 (changedB l l3).length 0 (by omega))
  have gone : Ev (fun k => bywashlaw15_DomupUnder.j2 k x0 true (changedB l l3) top true c l kp g3 l3 kp3) true := by
    refine Ev.step (f := fun _ => some ((l3.length : Int) == (x0.length : Int))) (fun k => by rw [bywashlaw15_DomupUnder.j2, if_pos rfl, if_pos rfl]) ?_
    rw [show ((l3.length : Int) == (x0.length : Int)) = true from by rw [hl3]; simp]
    exact Ev.now _
  have hgl : ((g3.length : Int) == (x0.length : Int)) = true := by rw [hg3]; simp
  by_cases e1 : rd l a = -2
  · refine Ev.step (f := fun _ => some true) (fun k => ?_) (Ev.now _)
    rw [bywashlaw15_DomupUnder.j1, if_pos ha.1, if_pos ha2, if_pos e1, if_pos rfl, hA e1, changedB_self]
    rfl
  · by_cases e2 : rd l b = -2
    · cases out with
      | true =>
        refine Ev.step (f := fun _ => some true) (fun k => ?_) (Ev.now _)
        rw [bywashlaw15_DomupUnder.j1, if_pos ha.1, if_pos ha2, if_neg e1, if_pos hb.1, if_pos hb2, if_pos e2, if_pos rfl, if_pos rfl, hB e2 rfl, changedB_self, if_pos (show ((([] : List Int).length : Nat) : Int) = 0 from rfl), hgl]
      | false =>
        refine Ev.step (f := fun _ => some true) (fun k => ?_) (Ev.now _)
        rw [bywashlaw15_DomupUnder.j1, if_pos ha.1, if_pos ha2, if_neg e1, if_pos hb.1, if_pos hb2, if_pos e2, if_pos rfl, if_neg (by simp), hgl]
    · cases out with
      | true =>
        refine Ev.step (f := fun k => bywashlaw15_DomupUnder.j2 k x0 true (changedB l l3) top (rd l3 b == -2) c l kp g3 l3 kp3) (fun k => by rw [bywashlaw15_DomupUnder.j1, if_pos ha.1, if_pos ha2, if_neg e1, if_pos hb.1, if_pos hb2, if_neg e2, if_pos (by omega), if_pos rfl, if_pos (by omega)]) ?_
        by_cases e3 : rd l3 b = -2
        · rw [show (rd l3 b == -2) = true from by simpa using e3]
          exact gone
        · rw [show (rd l3 b == -2) = false from by simpa using e3]
          exact last ⟨e1, e2, fun _ => e3⟩
      | false =>
        refine Ev.step (f := fun k => bywashlaw15_DomupUnder.j2 k x0 true (changedB l l3) top false c l kp g3 l3 kp3) (fun k => by rw [bywashlaw15_DomupUnder.j1, if_pos ha.1, if_pos ha2, if_neg e1, if_pos hb.1, if_pos hb2, if_neg e2, if_pos (by omega), if_neg (by simp)]) ?_
        exact last ⟨e1, e2, fun k => by cases k⟩
theorem lost_rd {c : List (List Int)} {l : List Int} (h : IsDom c l) {x : Int} (hx : Node c x) : rd l x = -2 ↔ lostB l x = true := by
  rw [lostB_iff h, h.lost_iff hx]
  exact ⟨fun k q => k q.2, fun k q => k ⟨hx, q⟩⟩
theorem under_add {c : List (List Int)} {l l3 : List Int} (h : Stt c l) {a b : Int} (h3 : Stt (withE c a b) l3) (ha : Node c a) (hb : Node c b) (e1 : rd l a ≠ -2) (e2 : rd l b ≠ -2) : ∀ x ∈ changedB l l3, x ≠ commonB l a b ∧ Dm c (commonB l a b) x := by
  intro x hx
  obtain ⟨hxr, hxc⟩ := mem_changedB.1 hx
  have hxn : Node c x := ⟨hxr.1, by have := hxr.2; rw [h.len] at this; exact this⟩
  have hra : Rc c a := ⟨ha, by
    by_cases k : Way c 0 a
    · exact k
    · exact absurd (h.d.lost a ha k) e1⟩
  have hrb : Rc c b := ⟨hb, by
    by_cases k : Way c 0 b
    · exact k
    · exact absurd (h.d.lost b hb k) e2⟩
  have ht := h.d.common.1 ⟨hra, hrb⟩
  have hdf := dif_with h.v a b
  have key := fun hL => keep_idom h.d h3.d withE_len (top := commonB l a b) (add_ways hdf hrb.2) (fun y z hy hL => add_doms h.d hdf ht.1 ht.2.1 hy hL) hxn hL
  refine ⟨fun e => hxc (key (.inl e)), ?_⟩
  by_cases k : Dm c (commonB l a b) x
  · exact k
  · exact absurd (key (.inr k)) hxc
theorem under_del {c : List (List Int)} {l l3 : List Int} (h : Stt c l) {a b : Int} (h3 : Stt (withoutE c a b) l3) (hb : Node c b) (e2 : rd l b ≠ -2) (e3 : rd l3 b ≠ -2) : ∀ x ∈ changedB l l3, x ≠ rd l b ∧ Dm c (rd l b) x := by
  intro x hx
  by_cases hb0 : b = 0
  · have e := del_same h.v h.d (.inr (.inr hb0)) h3.d
    rw [e, changedB_self] at hx
    simp at hx
  · obtain ⟨hxr, hxc⟩ := mem_changedB.1 hx
    have hxn : Node c x := ⟨hxr.1, by have := hxr.2; rw [h.len] at this; exact this⟩
    have hrb : Rc c b := ⟨hb, by
      by_cases k : Way c 0 b
      · exact k
      · exact absurd (h.d.lost b hb k) e2⟩
    have hb3 : Way (withoutE c a b) 0 b := by
      by_cases k : Way (withoutE c a b) 0 b
      · exact k
      · exact absurd (h3.d.lost b (by unfold Node; rw [withoutE_len]; exact hb) k) e3
    obtain ⟨p, hp, e, _⟩ := h.d.par b hrb.1 hrb.2 hb0
    have ht : Dm c (rd l b) b := (h.d.dm_par hrb hb0).2 (.inr (by rw [e]; exact h.d.dm_refl.2 (h.d.idT_par hrb hp).1))
    have htb : b ≠ rd l b := fun k => by
      obtain ⟨f, hf, _⟩ := h.d.rank
      have := hf b p hp
      rw [← e, ← k] at this
      omega
    have hdf := dif_without h.v a b
    have key := fun hL => keep_idom h.d h3.d withoutE_len (top := rd l b) (del_ways hdf hb3) (fun y z hy hL => del_doms hdf hb3 ht htb hy hL) hxn hL
    refine ⟨fun e => hxc (key (.inl e)), ?_⟩
    by_cases k : Dm c (rd l b) x
    · exact k
    · exact absurd (key (.inr k)) hxc
theorem DomupUnder_pure (l0 : List (List Int)) (a1 a2 : Int) (a3 : Bool) (hm0 : l0.length ≤ 9223372036854775807) (_hw : ∀ r ∈ l0, r.length ≤ 9223372036854775807 ∧ ∀ y ∈ r, (Lit.int .i64 y).wf = true) (_ : (Lit.int .i64 a1).wf = true) (_ : (Lit.int .i64 a2).wf = true) : ∃ k, bywashlaw15_DomupUnder.f k l0 a1 a2 a3 = some true := by
  refine Ev.rounds ?_
  refine Ev.bind awake15_ev (Ev.bind (few_ev l0 hm0) ?_)
  have no : Ev (fun k => bywashlaw15_DomupUnder.j0 k l0 a1 a2 a3 true true) true := Ev.step (f := fun _ => some true) (fun k => by rw [bywashlaw15_DomupUnder.j0, if_pos rfl]) (Ev.now _)
  by_cases hf : few l0 = true
  · simp only [hf, if_true]
    by_cases c1 : a1 < 0
    · simp only [if_pos c1]; exact no
    · simp only [if_neg c1]
      by_cases c2 : a1 ≥ (l0.length : Int)
      · simp only [if_pos c2]; exact no
      · simp only [if_neg c2]
        by_cases c3 : a2 < 0
        · simp only [if_pos c3]; exact no
        · simp only [if_neg c3]
          by_cases c4 : a2 ≥ (l0.length : Int)
          · simp only [decide_eq_true c4]; exact no
          · simp only [decide_eq_false c4]
            have hs := few_small hf
            obtain ⟨l, h⟩ := stt_clean hs
            have hcl := clean_len l0
            have hl : l.length = l0.length := by rw [h.len, hcl]
            have ha : Node (clean l0) a1 := clean_node.2 (by omega)
            have hb : Node (clean l0) a2 := clean_node.2 (by omega)
            obtain ⟨l3, h3⟩ := h.with_ a1 a2
            have hl3 : l3.length = l0.length := by rw [h3.len, withE_len, hcl]
            cases a3 with
            | false =>
              refine Ev.step (f := fun k => (domup_New.f k l0).bind fun b0 => if (b0.2.1.length : Int) = (l0.length : Int) then (domup_Add.f k b0.1 b0.2.1 b0.2.2 a1 a2).bind fun b1 => (domup_Top.f k b0.1 b0.2.1 b0.2.2 a1 a2).bind fun t => bywashlaw15_DomupUnder.j1 k l0 a1 a2 false true b1.2.2.2 t b0.1 b0.2.1 b0.2.2 b1.1 b1.2.1 b1.2.2.1 else some false) (fun k => by rw [bywashlaw15_DomupUnder.j0, if_neg (by simp)]; simp) ?_
              refine Ev.bind (new_ev hs h) ?_
              simp only [if_pos (show (l.length : Int) = (l0.length : Int) by omega)]
              refine Ev.bind (add_ev h h3) (Ev.bind (top_ev h a1 a2) ?_)
              exact under_j1 l0 h ha hb hcl.symm _ _ false hl3 (by rw [withE_len, hcl]) (fun e => add_same h.v h.d (.inl ((lost_rd h.d ha).1 e)) h3.d) (fun _ e => by cases e) (fun e1 e2 _ => under_add h h3 ha hb e1 e2) _ _
            | true =>
              obtain ⟨l4, h4⟩ := h.without a1 a2
              have hl4 : l4.length = l0.length := by rw [h4.len, withoutE_len, hcl]
              refine Ev.step (f := fun k => (domup_New.f k l0).bind fun b0 => if (b0.2.1.length : Int) = (l0.length : Int) then (domup_Add.f k b0.1 b0.2.1 b0.2.2 a1 a2).bind fun b1 => (domup_Top.f k b0.1 b0.2.1 b0.2.2 a1 a2).bind fun t => (domup_Del.f k b0.1 b0.2.1 b0.2.2 a1 a2).bind fun b2 => if 0 ≤ a2 then (if a2 < (b0.2.1.length : Int) then bywashlaw15_DomupUnder.j1 k l0 a1 a2 true true b2.2.2.2 (rd b0.2.1 a2) b0.1 b0.2.1 b0.2.2 b2.1 b2.2.1 b2.2.2.1 else none) else none else some false) (fun k => by rw [bywashlaw15_DomupUnder.j0, if_neg (by simp)]; simp) ?_
              refine Ev.bind (new_ev hs h) ?_
              simp only [if_pos (show (l.length : Int) = (l0.length : Int) by omega)]
              refine Ev.bind (add_ev h h3) (Ev.bind (top_ev h a1 a2) (Ev.bind (del_ev h h4) ?_))
              simp only [if_pos hb.1, if_pos (show a2 < (l.length : Int) by have := hb.2; omega)]
              exact under_j1 l0 h ha hb hcl.symm _ _ true hl4 (by rw [withoutE_len, hcl]) (fun e => del_same h.v h.d (.inl ((lost_rd h.d ha).1 e)) h4.d) (fun e _ => del_same h.v h.d (.inr (.inl ((lost_rd h.d hb).1 e))) h4.d) (fun e1 e2 e3 => under_del h h4 hb e2 (e3 rfl)) _ _
  · simp only [Bool.not_eq_true] at hf
    simp only [hf, Bool.false_eq_true, if_false]
    exact no
end Go.Proofs.Ytemcmcnhpdkdfaa.P
