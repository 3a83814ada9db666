-- Written by prn.py (a program of this work) over the seat's translation. Not trusted: Lean checks it.
import Derived.Test.YtemcmcnhpdkdfaaP0
import Derived.Test.YtemcmcnhpdkdfaaHchain
import Derived.Test.YtemcmcnhpdkdfaaHidoms
import Derived.Test.YtemcmcnhpdkdfaaPbywashlaw14
import Derived.Test.YtemcmcnhpdkdfaaPbywashref10
import Derived.Test.YtemcmcnhpdkdfaaPdom
import Derived.Test.YtemcmcnhpdkdfaaPdomSane
namespace Go.Proofs.Ytemcmcnhpdkdfaa.P
open Go.RowKit Go.Proofs.YtemcmcnhpdkdfaaW.PrintWords Go.Proofs.YtemcmcnhpdkdfaaW.PrintLast Go.Proofs.YtemcmcnhpdkdfaaW.PrintMore
attribute [local go_sem] max2_int min2_int max_two min_two max_three min_three max_four min_four   -- for this text's walks alone
set_option linter.unusedVariables false
set_option linter.unusedSimpArgs false

/-! ### bywashlaw14_DomTree: function 7 -/
mutual
def bywashlaw14_DomTree.j0 : Nat → List (List Int) → Int → Bool → List Int → Bool → Option (Bool)
  | 0, _, _, _, _, _ => none
  | k + 1, x0, x1, x5, x6, x27 => if x27 = true then (some false) else (if x1 < 0 then (bywashlaw14_DomTree.j1 k x1 x5 x6 true) else (bywashlaw14_DomTree.j1 k x1 x5 x6 (decide (x1 ≥ (x0.length : Int)))))
def bywashlaw14_DomTree.j1 : Nat → Int → Bool → List Int → Bool → Option (Bool)
  | 0, _, _, _, _ => none
  | k + 1, x1, x5, x6, x35 => if x35 = true then (if x5 = true then ((dom_Below.f k x6 x1).bind fun t375 => (if (t375.length : Int) = 0 then ((dom_Chain.f k x6 x1).bind fun t378 => (some ((t378.length : Int) == 0))) else (some false))) else (some false)) else (if 0 ≤ x1 then (if x1 < (x6.length : Int) then (if (rd x6 x1) = (-2) then (bywashlaw14_DomTree.j2 k x1 x5 x6 0) else (bywashlaw14_DomTree.j2 k x1 x5 x6 1)) else (none)) else (none))
def bywashlaw14_DomTree.j2 : Nat → Int → Bool → List Int → Int → Option (Bool)
  | 0, _, _, _, _ => none
  | k + 1, x1, x5, x6, x7 => bywashlaw14_DomTree.l0 k x1 x5 x6 x7 0
def bywashlaw14_DomTree.l0 : Nat → Int → Bool → List Int → Int → Int → Option (Bool)
  | 0, _, _, _, _, _ => none
  | k + 1, x1, x5, x6, x7, x8 => if x8 < (x6.length : Int) then (if 0 ≤ x8 then (if (rd x6 x8) = x1 then ((dom_Below.f k x6 x8).bind fun t383 => (bywashlaw14_DomTree.l0 k x1 x5 x6 (wrap64 (x7 + (t383.length : Int))) (wrap64 (x8 + 1)))) else (bywashlaw14_DomTree.l0 k x1 x5 x6 x7 (wrap64 (x8 + 1)))) else (none)) else ((dom_Chain.f k x6 x1).bind fun t386 => (bywashlaw14_DomTree.l1 k x1 x5 x6 x7 t386 0))
def bywashlaw14_DomTree.l1 : Nat → Int → Bool → List Int → Int → List Int → Int → Option (Bool)
  | 0, _, _, _, _, _, _ => none
  | k + 1, x1, x5, x6, x7, x9, x10 => if x10 < (x9.length : Int) then (if x10 = 0 then (if 0 ≤ x10 then (if (rd x9 x10) = x1 then (if x10 > 0 then (if 0 ≤ (wrap64 (x10 - 1)) then (if (wrap64 (x10 - 1)) < (x9.length : Int) then (if 0 ≤ (rd x9 (wrap64 (x10 - 1))) then (if (rd x9 (wrap64 (x10 - 1))) < (x6.length : Int) then (if (rd x9 x10) = (rd x6 (rd x9 (wrap64 (x10 - 1)))) then (if x10 = (wrap64 ((x9.length : Int) - 1)) then (if (rd x9 x10) = 0 then (bywashlaw14_DomTree.l1 k x1 x5 x6 x7 x9 (wrap64 (x10 + 1))) else (some false)) else (bywashlaw14_DomTree.l1 k x1 x5 x6 x7 x9 (wrap64 (x10 + 1)))) else (some false)) else (none)) else (none)) else (none)) else (none)) else (if x10 = (wrap64 ((x9.length : Int) - 1)) then (if (rd x9 x10) = 0 then (bywashlaw14_DomTree.l1 k x1 x5 x6 x7 x9 (wrap64 (x10 + 1))) else (some false)) else (bywashlaw14_DomTree.l1 k x1 x5 x6 x7 x9 (wrap64 (x10 + 1))))) else (some false)) else (none)) else (if x10 > 0 then (if 0 ≤ x10 then (if 0 ≤ (wrap64 (x10 - 1)) then (if (wrap64 (x10 - 1)) < (x9.length : Int) then (if 0 ≤ (rd x9 (wrap64 (x10 - 1))) then (if (rd x9 (wrap64 (x10 - 1))) < (x6.length : Int) then (if (rd x9 x10) = (rd x6 (rd x9 (wrap64 (x10 - 1)))) then (if x10 = (wrap64 ((x9.length : Int) - 1)) then (if (rd x9 x10) = 0 then (bywashlaw14_DomTree.l1 k x1 x5 x6 x7 x9 (wrap64 (x10 + 1))) else (some false)) else (bywashlaw14_DomTree.l1 k x1 x5 x6 x7 x9 (wrap64 (x10 + 1)))) else (some false)) else (none)) else (none)) else (none)) else (none)) else (none)) else (if x10 = (wrap64 ((x9.length : Int) - 1)) then (if 0 ≤ x10 then (if (rd x9 x10) = 0 then (bywashlaw14_DomTree.l1 k x1 x5 x6 x7 x9 (wrap64 (x10 + 1))) else (some false)) else (none)) else (bywashlaw14_DomTree.l1 k x1 x5 x6 x7 x9 (wrap64 (x10 + 1)))))) else (if x5 = true then ((dom_Below.f k x6 x1).bind fun t400 => (if x7 = (t400.length : Int) then (if 0 ≤ x1 then (if x1 < (x6.length : Int) then (some (((x9.length : Int) == 0) == ((rd x6 x1) == (-2)))) else (none)) else (none)) else (some false))) else (some false))
end
def bywashlaw14_DomTree.f (k : Nat) (l0 : List (List Int)) (a1 : Int) : Option (Bool) := (bywashlaw14_awake.f k).bind fun t369 => ((bywashref10_Few.f k l0).bind fun t370 => (if t370 = true then ((dom_Idoms.f k l0).bind fun t371 => ((dom_Sane.f k t371).bind fun t374 => (if t374 = true then (bywashlaw14_DomTree.j0 k l0 a1 t369 t371 ((t371.length : Int) != (l0.length : Int))) else (bywashlaw14_DomTree.j0 k l0 a1 t369 t371 true)))) else (some t369)))
theorem bywashlaw14_DomTree.mono_l : ∀ k, (∀ y0 y1 y2 y3 y4, LeO (bywashlaw14_DomTree.j0 k y0 y1 y2 y3 y4) (bywashlaw14_DomTree.j0 (k + 1) y0 y1 y2 y3 y4)) ∧ (∀ y0 y1 y2 y3, LeO (bywashlaw14_DomTree.j1 k y0 y1 y2 y3) (bywashlaw14_DomTree.j1 (k + 1) y0 y1 y2 y3)) ∧ (∀ y0 y1 y2 y3, LeO (bywashlaw14_DomTree.j2 k y0 y1 y2 y3) (bywashlaw14_DomTree.j2 (k + 1) y0 y1 y2 y3)) ∧ (∀ y0 y1 y2 y3 y4, LeO (bywashlaw14_DomTree.l0 k y0 y1 y2 y3 y4) (bywashlaw14_DomTree.l0 (k + 1) y0 y1 y2 y3 y4)) ∧ (∀ y0 y1 y2 y3 y4 y5, LeO (bywashlaw14_DomTree.l1 k y0 y1 y2 y3 y4 y5) (bywashlaw14_DomTree.l1 (k + 1) y0 y1 y2 y3 y4 y5))
  | 0 => ⟨fun _ _ _ _ _ r h => by simp [bywashlaw14_DomTree.j0] at h, fun _ _ _ _ r h => by simp [bywashlaw14_DomTree.j1] at h, fun _ _ _ _ r h => by simp [bywashlaw14_DomTree.j2] at h, fun _ _ _ _ _ r h => by simp [bywashlaw14_DomTree.l0] at h, fun _ _ _ _ _ _ r h => by simp [bywashlaw14_DomTree.l1] at h⟩
  | k + 1 => by
    obtain ⟨ih0, ih1, ih2, ih3, ih4⟩ := bywashlaw14_DomTree.mono_l k
    refine ⟨?_, ?_, ?_, ?_, ?_⟩
    · intro y0 y1 y2 y3 y4
      unfold bywashlaw14_DomTree.j0
      repeat' first
      | (with_reducible exact ih0 _ _ _ _ _)
      | (with_reducible exact ih1 _ _ _ _)
      | (with_reducible exact ih2 _ _ _ _)
      | (with_reducible exact ih3 _ _ _ _ _)
      | (with_reducible exact ih4 _ _ _ _ _ _)
      | (with_reducible exact bywashlaw14_awake.mono _)
      | (with_reducible exact bywashref10_Few.mono _ _)
      | (with_reducible exact dom_Below.mono _ _ _)
      | (with_reducible exact dom_Chain.mono _ _ _)
      | (with_reducible exact dom_Idoms.mono _ _)
      | (with_reducible exact dom_Sane.mono _ _)
      | (with_reducible exact LeO.refl _)
      | (with_reducible exact LeO.none _)
      | (with_reducible refine LeO.ite ?_ ?_)
      | (with_reducible refine LeO.bind ?_ (fun _ => ?_))
      | exact ih0 _ _ _ _ _
      | exact ih1 _ _ _ _
      | exact ih2 _ _ _ _
      | exact ih3 _ _ _ _ _
      | exact ih4 _ _ _ _ _ _
      | exact bywashlaw14_awake.mono _
      | exact bywashref10_Few.mono _ _
      | exact dom_Below.mono _ _ _
      | exact dom_Chain.mono _ _ _
      | exact dom_Idoms.mono _ _
      | exact dom_Sane.mono _ _
      | exact LeO.none _
      | refine LeO.ite ?_ ?_
      | refine LeO.bind ?_ (fun _ => ?_)
    · intro y0 y1 y2 y3
      unfold bywashlaw14_DomTree.j1
      repeat' first
      | (with_reducible exact ih0 _ _ _ _ _)
      | (with_reducible exact ih1 _ _ _ _)
      | (with_reducible exact ih2 _ _ _ _)
      | (with_reducible exact ih3 _ _ _ _ _)
      | (with_reducible exact ih4 _ _ _ _ _ _)
      | (with_reducible exact bywashlaw14_awake.mono _)
      | (with_reducible exact bywashref10_Few.mono _ _)
      | (with_reducible exact dom_Below.mono _ _ _)
      | (with_reducible exact dom_Chain.mono _ _ _)
      | (with_reducible exact dom_Idoms.mono _ _)
      | (with_reducible exact dom_Sane.mono _ _)
      | (with_reducible exact LeO.refl _)
      | (with_reducible exact LeO.none _)
      | (with_reducible refine LeO.ite ?_ ?_)
      | (with_reducible refine LeO.bind ?_ (fun _ => ?_))
      | exact ih0 _ _ _ _ _
      | exact ih1 _ _ _ _
      | exact ih2 _ _ _ _
      | exact ih3 _ _ _ _ _
      | exact ih4 _ _ _ _ _ _
      | exact bywashlaw14_awake.mono _
      | exact bywashref10_Few.mono _ _
      | exact dom_Below.mono _ _ _
      | exact dom_Chain.mono _ _ _
      | exact dom_Idoms.mono _ _
      | exact dom_Sane.mono _ _
      | exact LeO.none _
      | refine LeO.ite ?_ ?_
      | refine LeO.bind ?_ (fun _ => ?_)
    · intro y0 y1 y2 y3
      unfold bywashlaw14_DomTree.j2
      repeat' first
      | (with_reducible exact ih0 _ _ _ _ _)
      | (with_reducible exact ih1 _ _ _ _)
      | (with_reducible exact ih2 _ _ _ _)
      | (with_reducible exact ih3 _ _ _ _ _)
      | (with_reducible exact ih4 _ _ _ _ _ _)
      | (with_reducible exact bywashlaw14_awake.mono _)
      | (with_reducible exact bywashref10_Few.mono _ _)
      | (with_reducible exact dom_Below.mono _ _ _)
      | (with_reducible exact dom_Chain.mono _ _ _)
      | (with_reducible exact dom_Idoms.mono _ _)
      | (with_reducible exact dom_Sane.mono _ _)
      | (with_reducible exact LeO.refl _)
      | (with_reducible exact LeO.none _)
      | (with_reducible refine LeO.ite ?_ ?_)
      | (with_reducible refine LeO.bind ?_ (fun _ => ?_))
      | exact ih0 _ _ _ _ _
      | exact ih1 _ _ _ _
      | exact ih2 _ _ _ _
      | exact ih3 _ _ _ _ _
      | exact ih4 _ _ _ _ _ _
      | exact bywashlaw14_awake.mono _
      | exact bywashref10_Few.mono _ _
      | exact dom_Below.mono _ _ _
      | exact dom_Chain.mono _ _ _
      | exact dom_Idoms.mono _ _
      | exact dom_Sane.mono _ _
      | exact LeO.none _
      | refine LeO.ite ?_ ?_
      | refine LeO.bind ?_ (fun _ => ?_)
    · intro y0 y1 y2 y3 y4
      unfold bywashlaw14_DomTree.l0
      repeat' first
      | (with_reducible exact ih0 _ _ _ _ _)
      | (with_reducible exact ih1 _ _ _ _)
      | (with_reducible exact ih2 _ _ _ _)
      | (with_reducible exact ih3 _ _ _ _ _)
      | (with_reducible exact ih4 _ _ _ _ _ _)
      | (with_reducible exact bywashlaw14_awake.mono _)
      | (with_reducible exact bywashref10_Few.mono _ _)
      | (with_reducible exact dom_Below.mono _ _ _)
      | (with_reducible exact dom_Chain.mono _ _ _)
      | (with_reducible exact dom_Idoms.mono _ _)
      | (with_reducible exact dom_Sane.mono _ _)
      | (with_reducible exact LeO.refl _)
      | (with_reducible exact LeO.none _)
      | (with_reducible refine LeO.ite ?_ ?_)
      | (with_reducible refine LeO.bind ?_ (fun _ => ?_))
      | exact ih0 _ _ _ _ _
      | exact ih1 _ _ _ _
      | exact ih2 _ _ _ _
      | exact ih3 _ _ _ _ _
      | exact ih4 _ _ _ _ _ _
      | exact bywashlaw14_awake.mono _
      | exact bywashref10_Few.mono _ _
      | exact dom_Below.mono _ _ _
      | exact dom_Chain.mono _ _ _
      | exact dom_Idoms.mono _ _
      | exact dom_Sane.mono _ _
      | exact LeO.none _
      | refine LeO.ite ?_ ?_
      | refine LeO.bind ?_ (fun _ => ?_)
    · intro y0 y1 y2 y3 y4 y5
      unfold bywashlaw14_DomTree.l1
      repeat' first
      | (with_reducible exact ih0 _ _ _ _ _)
      | (with_reducible exact ih1 _ _ _ _)
      | (with_reducible exact ih2 _ _ _ _)
      | (with_reducible exact ih3 _ _ _ _ _)
      | (with_reducible exact ih4 _ _ _ _ _ _)
      | (with_reducible exact bywashlaw14_awake.mono _)
      | (with_reducible exact bywashref10_Few.mono _ _)
      | (with_reducible exact dom_Below.mono _ _ _)
      | (with_reducible exact dom_Chain.mono _ _ _)
      | (with_reducible exact dom_Idoms.mono _ _)
      | (with_reducible exact dom_Sane.mono _ _)
      | (with_reducible exact LeO.refl _)
      | (with_reducible exact LeO.none _)
      | (with_reducible refine LeO.ite ?_ ?_)
      | (with_reducible refine LeO.bind ?_ (fun _ => ?_))
      | exact ih0 _ _ _ _ _
      | exact ih1 _ _ _ _
      | exact ih2 _ _ _ _
      | exact ih3 _ _ _ _ _
      | exact ih4 _ _ _ _ _ _
      | exact bywashlaw14_awake.mono _
      | exact bywashref10_Few.mono _ _
      | exact dom_Below.mono _ _ _
      | exact dom_Chain.mono _ _ _
      | exact dom_Idoms.mono _ _
      | exact dom_Sane.mono _ _
      | exact LeO.none _
      | refine LeO.ite ?_ ?_
      | refine LeO.bind ?_ (fun _ => ?_)
theorem bywashlaw14_DomTree.mono : ∀ a0 a1 k, LeO (bywashlaw14_DomTree.f k a0 a1) (bywashlaw14_DomTree.f (k + 1) a0 a1) := by
  intro a0 a1 k
  obtain ⟨ih0, ih1, ih2, ih3, ih4⟩ := bywashlaw14_DomTree.mono_l k
  unfold bywashlaw14_DomTree.f
  repeat' first
      | (with_reducible exact ih0 _ _ _ _ _)
      | (with_reducible exact ih1 _ _ _ _)
      | (with_reducible exact ih2 _ _ _ _)
      | (with_reducible exact ih3 _ _ _ _ _)
      | (with_reducible exact ih4 _ _ _ _ _ _)
      | (with_reducible exact bywashlaw14_awake.mono _)
      | (with_reducible exact bywashref10_Few.mono _ _)
      | (with_reducible exact dom_Below.mono _ _ _)
      | (with_reducible exact dom_Chain.mono _ _ _)
      | (with_reducible exact dom_Idoms.mono _ _)
      | (with_reducible exact dom_Sane.mono _ _)
      | (with_reducible exact LeO.refl _)
      | (with_reducible exact LeO.none _)
      | (with_reducible refine LeO.ite ?_ ?_)
      | (with_reducible refine LeO.bind ?_ (fun _ => ?_))
      | exact ih0 _ _ _ _ _
      | exact ih1 _ _ _ _
      | exact ih2 _ _ _ _
      | exact ih3 _ _ _ _ _
      | exact ih4 _ _ _ _ _ _
      | exact bywashlaw14_awake.mono _
      | exact bywashref10_Few.mono _ _
      | exact dom_Below.mono _ _ _
      | exact dom_Chain.mono _ _ _
      | exact dom_Idoms.mono _ _
      | exact dom_Sane.mono _ _
      | exact LeO.none _
      | refine LeO.ite ?_ ?_
      | refine LeO.bind ?_ (fun _ => ?_)
set_option maxHeartbeats 8000000 in
set_option maxRecDepth 100000 in
theorem bywashlaw14_DomTree.calls (k : Nat) (A0 : Option Addr) (c0 : Nat) (l0 : List (List Int)) (a1 : Int) (r : Bool) (w : World) (hr0 : Kd.C (Kd.slice 3 (Kd.int .i64)) w A0 l0.length l0) (hc0 : l0.length ≤ c0) (h : bywashlaw14_DomTree.f k l0 a1 = some r) :
    Calls Try.prog 7 #[.slice A0 l0.length c0, .int .i64 a1] w fun e w' => e = .returned (.bool r) ∧ Below w.heap.size w w' := by
  have HR0 := Aside0.mk hr0
  have HC0 := Aside0.mk hc0
  clear hr0 hc0
  have HB := Aside0.mk (Below.refl w.heap.size w)
  have H : ((bywashlaw14_awake.f k).bind fun t369 => ((bywashref10_Few.f k l0).bind fun t370 => (if t370 = true then ((dom_Idoms.f k l0).bind fun t371 => ((dom_Sane.f k t371).bind fun t374 => (if t374 = true then (bywashlaw14_DomTree.j0 k l0 a1 t369 t371 ((t371.length : Int) != (l0.length : Int))) else (bywashlaw14_DomTree.j0 k l0 a1 t369 t371 true)))) else (some t369)))) = some r := h
  clear h
  replace H := Option.bind_eq_some_iff.mp H
  obtain ⟨t369, A30, H⟩ := H
  replace H : ((bywashref10_Few.f k l0).bind fun t370 => (if t370 = true then ((dom_Idoms.f k l0).bind fun t371 => ((dom_Sane.f k t371).bind fun t374 => (if t374 = true then (bywashlaw14_DomTree.j0 k l0 a1 t369 t371 ((t371.length : Int) != (l0.length : Int))) else (bywashlaw14_DomTree.j0 k l0 a1 t369 t371 true)))) else (some t369))) = some r := H
  have A3 := Aside0.mk A30
  clear A30
  replace H := Option.bind_eq_some_iff.mp H
  obtain ⟨t370, A40, H⟩ := H
  replace H : (if t370 = true then ((dom_Idoms.f k l0).bind fun t371 => ((dom_Sane.f k t371).bind fun t374 => (if t374 = true then (bywashlaw14_DomTree.j0 k l0 a1 t369 t371 ((t371.length : Int) != (l0.length : Int))) else (bywashlaw14_DomTree.j0 k l0 a1 t369 t371 true)))) else (some t369)) = some r := H
  have A4 := Aside0.mk A40
  clear A40
  by_cases c5 : t370 = true
  · subst c5
    have H1 : ((dom_Idoms.f k l0).bind fun t371 => ((dom_Sane.f k t371).bind fun t374 => (if t374 = true then (bywashlaw14_DomTree.j0 k l0 a1 t369 t371 ((t371.length : Int) != (l0.length : Int))) else (bywashlaw14_DomTree.j0 k l0 a1 t369 t371 true)))) = some r := by rw [if_pos rfl] at H; exact H
    clear H
    have H := H1
    clear H1
    replace H := Option.bind_eq_some_iff.mp H
    obtain ⟨t371, A60, H⟩ := H
    replace H : ((dom_Sane.f k t371).bind fun t374 => (if t374 = true then (bywashlaw14_DomTree.j0 k l0 a1 t369 t371 ((t371.length : Int) != (l0.length : Int))) else (bywashlaw14_DomTree.j0 k l0 a1 t369 t371 true))) = some r := H
    have A6 := Aside0.mk A60
    clear A60
    have HC7 := Aside0.mk H
    clear H
    go_enter Try.func7, Try.ntmps7
    go_upto_region 5 with (first | (go_at_call 13; (with_reducible refine (bywashlaw14_awake.calls k  t369 _ A3.out).mono ?_); rintro e w8 ⟨rfl, hb⟩; have n0_ := Aside0.mk (below_step (by repeat (first | (with_reducible first | exact HB.out | apply below_alloc | apply pw_below_drewN | apply below_drew1) | exact HB.out)) hb); clear HB; have HB := n0_; clear n0_; (try clear hb); (try clear hb2); (try clear hk); (try clear hi)) | (go_at_call 14; (with_reducible refine (bywashref10_Few.calls k _ _ l0 true _ ?side1 ?side2 A4.out).mono ?_); (case side1 => repeat (first | exact (Kd.C_below HR0.out HB.out) | (with_reducible refine Kd.C_alloc ?_ _) | (with_reducible refine Kd.C_drewN ?_ _) | (with_reducible refine Kd.C_drew ?_))); (case side2 => exact HC0.out); rintro e w' ⟨rfl, ⟨nd, rfl⟩⟩; (try first | exact ⟨rfl, _, World.drewN_drewN _ _ _⟩ | exact ⟨rfl, _, Eq.trans (World.drewN_drewN _ _ _) (congrArg (World.drewN _) (Nat.add_assoc _ _ _))⟩)) | (go_at_call 15; (with_reducible refine (dom_Idoms.calls k _ _ l0 t371 _ ?side1 ?side2 A6.out).mono ?_); (case side1 => repeat (first | exact (Kd.C_below HR0.out (by repeat (first | (with_reducible first | exact HB.out | apply below_alloc | apply pw_below_drewN | apply below_drew1) | exact HB.out))) | (with_reducible refine Kd.C_alloc ?_ _) | (with_reducible refine Kd.C_drewN ?_ _) | (with_reducible refine Kd.C_drew ?_))); (case side2 => exact HC0.out); rintro e w9 ⟨v372, rfl, ho0, hb⟩; have n0_ := Aside0.mk (Kd.R_lower ho0 (below_size (by repeat (first | (with_reducible first | exact HB.out | apply below_alloc | apply pw_below_drewN | apply below_drew1) | exact HB.out)))); have n1_ := Aside0.mk (below_step (by repeat (first | (with_reducible first | exact HB.out | apply below_alloc | apply pw_below_drewN | apply below_drew1) | exact HB.out)) hb); clear HB; have HO373 := n0_; have HB := n1_; clear n0_ n1_; (try clear hb); (try clear hb2); (try clear hk); (try clear hi); (try clear ho0)))
    repeat (go_quiet (first | (go_at_call 13; (with_reducible refine (bywashlaw14_awake.calls k  t369 _ A3.out).mono ?_); rintro e w8 ⟨rfl, hb⟩; have n0_ := Aside0.mk (below_step (by repeat (first | (with_reducible first | exact HB.out | apply below_alloc | apply pw_below_drewN | apply below_drew1) | exact HB.out)) hb); clear HB; have HB := n0_; clear n0_; (try clear hb); (try clear hb2); (try clear hk); (try clear hi)) | (go_at_call 14; (with_reducible refine (bywashref10_Few.calls k _ _ l0 true _ ?side1 ?side2 A4.out).mono ?_); (case side1 => repeat (first | exact (Kd.C_below HR0.out HB.out) | (with_reducible refine Kd.C_alloc ?_ _) | (with_reducible refine Kd.C_drewN ?_ _) | (with_reducible refine Kd.C_drew ?_))); (case side2 => exact HC0.out); rintro e w' ⟨rfl, ⟨nd, rfl⟩⟩; (try first | exact ⟨rfl, _, World.drewN_drewN _ _ _⟩ | exact ⟨rfl, _, Eq.trans (World.drewN_drewN _ _ _) (congrArg (World.drewN _) (Nat.add_assoc _ _ _))⟩)) | (go_at_call 15; (with_reducible refine (dom_Idoms.calls k _ _ l0 t371 _ ?side1 ?side2 A6.out).mono ?_); (case side1 => repeat (first | exact (Kd.C_below HR0.out (by repeat (first | (with_reducible first | exact HB.out | apply below_alloc | apply pw_below_drewN | apply below_drew1) | exact HB.out))) | (with_reducible refine Kd.C_alloc ?_ _) | (with_reducible refine Kd.C_drewN ?_ _) | (with_reducible refine Kd.C_drew ?_))); (case side2 => exact HC0.out); rintro e w9 ⟨v372, rfl, ho0, hb⟩; have n0_ := Aside0.mk (Kd.R_lower ho0 (below_size (by repeat (first | (with_reducible first | exact HB.out | apply below_alloc | apply pw_below_drewN | apply below_drew1) | exact HB.out)))); have n1_ := Aside0.mk (below_step (by repeat (first | (with_reducible first | exact HB.out | apply below_alloc | apply pw_below_drewN | apply below_drew1) | exact HB.out)) hb); clear HB; have HO373 := n0_; have HB := n1_; clear n0_ n1_; (try clear hb); (try clear hb2); (try clear hk); (try clear hi); (try clear ho0))); go_upto_region 5 with (first | (go_at_call 13; (with_reducible refine (bywashlaw14_awake.calls k  t369 _ A3.out).mono ?_); rintro e w8 ⟨rfl, hb⟩; have n0_ := Aside0.mk (below_step (by repeat (first | (with_reducible first | exact HB.out | apply below_alloc | apply pw_below_drewN | apply below_drew1) | exact HB.out)) hb); clear HB; have HB := n0_; clear n0_; (try clear hb); (try clear hb2); (try clear hk); (try clear hi)) | (go_at_call 14; (with_reducible refine (bywashref10_Few.calls k _ _ l0 true _ ?side1 ?side2 A4.out).mono ?_); (case side1 => repeat (first | exact (Kd.C_below HR0.out HB.out) | (with_reducible refine Kd.C_alloc ?_ _) | (with_reducible refine Kd.C_drewN ?_ _) | (with_reducible refine Kd.C_drew ?_))); (case side2 => exact HC0.out); rintro e w' ⟨rfl, ⟨nd, rfl⟩⟩; (try first | exact ⟨rfl, _, World.drewN_drewN _ _ _⟩ | exact ⟨rfl, _, Eq.trans (World.drewN_drewN _ _ _) (congrArg (World.drewN _) (Nat.add_assoc _ _ _))⟩)) | (go_at_call 15; (with_reducible refine (dom_Idoms.calls k _ _ l0 t371 _ ?side1 ?side2 A6.out).mono ?_); (case side1 => repeat (first | exact (Kd.C_below HR0.out (by repeat (first | (with_reducible first | exact HB.out | apply below_alloc | apply pw_below_drewN | apply below_drew1) | exact HB.out))) | (with_reducible refine Kd.C_alloc ?_ _) | (with_reducible refine Kd.C_drewN ?_ _) | (with_reducible refine Kd.C_drew ?_))); (case side2 => exact HC0.out); rintro e w9 ⟨v372, rfl, ho0, hb⟩; have n0_ := Aside0.mk (Kd.R_lower ho0 (below_size (by repeat (first | (with_reducible first | exact HB.out | apply below_alloc | apply pw_below_drewN | apply below_drew1) | exact HB.out)))); have n1_ := Aside0.mk (below_step (by repeat (first | (with_reducible first | exact HB.out | apply below_alloc | apply pw_below_drewN | apply below_drew1) | exact HB.out)) hb); clear HB; have HO373 := n0_; have HB := n1_; clear n0_ n1_; (try clear hb); (try clear hb2); (try clear hk); (try clear hi); (try clear ho0))))
    (try simp only [Act.put, List.setIfInBounds_toArray, List.set_cons_zero, List.set_cons_succ])
    go_cut [27] (fun v27 wc => ∃ (kq : Nat) (x27_6 : Bool), v27 = .bool x27_6 ∧ Aside0 (bywashlaw14_DomTree.j0 kq l0 a1 t369 t371 x27_6 = some r) ∧ Aside0 (kq ≤ k) ∧ Aside0 (Kd.R (Kd.int .i64) 3 wc w.heap.size (fun _ => True) v372 t371) ∧ Aside0 (Below w.heap.size w wc))
    case first =>
      have H := HC7.out
      clear HC7
      replace H := Option.bind_eq_some_iff.mp H
      obtain ⟨t374, A100, H⟩ := H
      replace H : (if t374 = true then (bywashlaw14_DomTree.j0 k l0 a1 t369 t371 ((t371.length : Int) != (l0.length : Int))) else (bywashlaw14_DomTree.j0 k l0 a1 t369 t371 true)) = some r := H
      have A10 := Aside0.mk A100
      clear A100
      by_cases c11 : t374 = true
      · subst c11
        have H1 : (bywashlaw14_DomTree.j0 k l0 a1 t369 t371 ((t371.length : Int) != (l0.length : Int))) = some r := by rw [if_pos rfl] at H; exact H
        clear H
        have H := H1
        clear H1
        have H' := Aside0.mk H
        clear H
        obtain ⟨Ao12, co12, eo12⟩ := Kd.R_slice HO373.out
        subst eo12
        go_wp2_with (first | (go_at_call 23; (with_reducible refine (dom_Sane.calls k _ _ t371 true _ ?side1 ?side2 A10.out).mono ?_); (case side1 => repeat (first | exact (Kd.R_reads' HO373.out).2.2 | (with_reducible refine Kd.C_alloc ?_ _) | (with_reducible refine Kd.C_drewN ?_ _) | (with_reducible refine Kd.C_drew ?_))); (case side2 => exact (Kd.R_reads' HO373.out).2.1); rintro e w13 ⟨rfl, hb⟩; have n0_ := Aside0.mk (Kd.R_below (by (with_reducible repeat (first | apply Kd.R_alloc | apply Kd.R_drewN | apply Kd.R_drew)); exact HO373.out) hb); have n1_ := Aside0.mk (below_step (by repeat (first | (with_reducible first | exact HB.out | apply below_alloc | apply pw_below_drewN | apply below_drew1) | exact HB.out)) hb); clear HO373; clear HB; have HO373 := n0_; have HB := n1_; clear n0_ n1_; (try clear hb); (try clear hb2); (try clear hk); (try clear hi)))
        repeat (go_quiet (first | (go_at_call 23; (with_reducible refine (dom_Sane.calls k _ _ t371 true _ ?side1 ?side2 A10.out).mono ?_); (case side1 => repeat (first | exact (Kd.R_reads' HO373.out).2.2 | (with_reducible refine Kd.C_alloc ?_ _) | (with_reducible refine Kd.C_drewN ?_ _) | (with_reducible refine Kd.C_drew ?_))); (case side2 => exact (Kd.R_reads' HO373.out).2.1); rintro e w13 ⟨rfl, hb⟩; have n0_ := Aside0.mk (Kd.R_below (by (with_reducible repeat (first | apply Kd.R_alloc | apply Kd.R_drewN | apply Kd.R_drew)); exact HO373.out) hb); have n1_ := Aside0.mk (below_step (by repeat (first | (with_reducible first | exact HB.out | apply below_alloc | apply pw_below_drewN | apply below_drew1) | exact HB.out)) hb); clear HO373; clear HB; have HO373 := n0_; have HB := n1_; clear n0_ n1_; (try clear hb); (try clear hb2); (try clear hk); (try clear hi))); try go_wp2_with (first | (go_at_call 23; (with_reducible refine (dom_Sane.calls k _ _ t371 true _ ?side1 ?side2 A10.out).mono ?_); (case side1 => repeat (first | exact (Kd.R_reads' HO373.out).2.2 | (with_reducible refine Kd.C_alloc ?_ _) | (with_reducible refine Kd.C_drewN ?_ _) | (with_reducible refine Kd.C_drew ?_))); (case side2 => exact (Kd.R_reads' HO373.out).2.1); rintro e w13 ⟨rfl, hb⟩; have n0_ := Aside0.mk (Kd.R_below (by (with_reducible repeat (first | apply Kd.R_alloc | apply Kd.R_drewN | apply Kd.R_drew)); exact HO373.out) hb); have n1_ := Aside0.mk (below_step (by repeat (first | (with_reducible first | exact HB.out | apply below_alloc | apply pw_below_drewN | apply below_drew1) | exact HB.out)) hb); clear HO373; clear HB; have HO373 := n0_; have HB := n1_; clear n0_ n1_; (try clear hb); (try clear hb2); (try clear hk); (try clear hi))))
        go_meet
        case rel => exact ⟨_, (((t371.length : Int) != (l0.length : Int))), (by first | rfl | (simp; done) | (simp [*]; done)), H', ⟨by first | omega | exact Nat.le_refl _⟩, ⟨by (with_reducible repeat (first | apply Kd.R_alloc | apply Kd.R_drewN | apply Kd.R_drew)); exact HO373.out⟩, ⟨by repeat (first | (with_reducible first | exact HB.out | apply below_alloc | apply pw_below_drewN | apply below_drew1) | exact HB.out)⟩⟩
      · replace c11 := Bool.eq_false_iff.mpr c11
        subst c11
        have H1 : (bywashlaw14_DomTree.j0 k l0 a1 t369 t371 true) = some r := by rw [if_neg (show ¬ (false = true) by decide)] at H; exact H
        clear H
        have H := H1
        clear H1
        have H' := Aside0.mk H
        clear H
        obtain ⟨Ao14, co14, eo14⟩ := Kd.R_slice HO373.out
        subst eo14
        go_wp2_with (first | (go_at_call 23; (with_reducible refine (dom_Sane.calls k _ _ t371 false _ ?side1 ?side2 A10.out).mono ?_); (case side1 => repeat (first | exact (Kd.R_reads' HO373.out).2.2 | (with_reducible refine Kd.C_alloc ?_ _) | (with_reducible refine Kd.C_drewN ?_ _) | (with_reducible refine Kd.C_drew ?_))); (case side2 => exact (Kd.R_reads' HO373.out).2.1); rintro e w15 ⟨rfl, hb⟩; have n0_ := Aside0.mk (Kd.R_below (by (with_reducible repeat (first | apply Kd.R_alloc | apply Kd.R_drewN | apply Kd.R_drew)); exact HO373.out) hb); have n1_ := Aside0.mk (below_step (by repeat (first | (with_reducible first | exact HB.out | apply below_alloc | apply pw_below_drewN | apply below_drew1) | exact HB.out)) hb); clear HO373; clear HB; have HO373 := n0_; have HB := n1_; clear n0_ n1_; (try clear hb); (try clear hb2); (try clear hk); (try clear hi)))
        repeat (go_quiet (first | (go_at_call 23; (with_reducible refine (dom_Sane.calls k _ _ t371 false _ ?side1 ?side2 A10.out).mono ?_); (case side1 => repeat (first | exact (Kd.R_reads' HO373.out).2.2 | (with_reducible refine Kd.C_alloc ?_ _) | (with_reducible refine Kd.C_drewN ?_ _) | (with_reducible refine Kd.C_drew ?_))); (case side2 => exact (Kd.R_reads' HO373.out).2.1); rintro e w15 ⟨rfl, hb⟩; have n0_ := Aside0.mk (Kd.R_below (by (with_reducible repeat (first | apply Kd.R_alloc | apply Kd.R_drewN | apply Kd.R_drew)); exact HO373.out) hb); have n1_ := Aside0.mk (below_step (by repeat (first | (with_reducible first | exact HB.out | apply below_alloc | apply pw_below_drewN | apply below_drew1) | exact HB.out)) hb); clear HO373; clear HB; have HO373 := n0_; have HB := n1_; clear n0_ n1_; (try clear hb); (try clear hb2); (try clear hk); (try clear hi))); try go_wp2_with (first | (go_at_call 23; (with_reducible refine (dom_Sane.calls k _ _ t371 false _ ?side1 ?side2 A10.out).mono ?_); (case side1 => repeat (first | exact (Kd.R_reads' HO373.out).2.2 | (with_reducible refine Kd.C_alloc ?_ _) | (with_reducible refine Kd.C_drewN ?_ _) | (with_reducible refine Kd.C_drew ?_))); (case side2 => exact (Kd.R_reads' HO373.out).2.1); rintro e w15 ⟨rfl, hb⟩; have n0_ := Aside0.mk (Kd.R_below (by (with_reducible repeat (first | apply Kd.R_alloc | apply Kd.R_drewN | apply Kd.R_drew)); exact HO373.out) hb); have n1_ := Aside0.mk (below_step (by repeat (first | (with_reducible first | exact HB.out | apply below_alloc | apply pw_below_drewN | apply below_drew1) | exact HB.out)) hb); clear HO373; clear HB; have HO373 := n0_; have HB := n1_; clear n0_ n1_; (try clear hb); (try clear hb2); (try clear hk); (try clear hi))))
        go_meet
        case rel => exact ⟨_, (true), (by first | rfl | (simp; done) | (simp [*]; done)), H', ⟨by first | omega | exact Nat.le_refl _⟩, ⟨by (with_reducible repeat (first | apply Kd.R_alloc | apply Kd.R_drewN | apply Kd.R_drew)); exact HO373.out⟩, ⟨by repeat (first | (with_reducible first | exact HB.out | apply below_alloc | apply pw_below_drewN | apply below_drew1) | exact HB.out)⟩⟩
    case rest =>
      clear HC7
      try clear c1
      try clear p2
      try clear c5
      try clear c7
      try clear c11
      obtain ⟨kq, x27_6, rfl, HA, HJ6, HO_6, HB⟩ := hcut
      cases kq with
      | zero => exact absurd HA.out (by simp [bywashlaw14_DomTree.j0])
      | succ kj6 =>
        have H := HA.out
        clear HA
        simp only [bywashlaw14_DomTree.j0] at H
        by_cases c16 : x27_6 = true
        · subst c16
          have H1 : (some false) = some r := by rw [if_pos rfl] at H; exact H
          clear H
          have H := H1
          clear H1
          obtain rfl := Option.some.inj H
          go_wp2
          repeat (go_quiet (fail); try go_wp2)
          go_ret
          exact ⟨by first | rfl | (simp [errW_none, errW_some] <;> rfl) | (simp [*, errW_none, errW_some] <;> rfl) | (exfalso; (try simp_all); (try omega); done), by repeat (first | (with_reducible first | exact HB.out | apply below_alloc | apply pw_below_drewN | apply below_drew1) | exact HB.out)⟩
        · replace c16 := Bool.eq_false_iff.mpr c16
          subst c16
          have H1 : (if a1 < 0 then (bywashlaw14_DomTree.j1 kj6 a1 t369 t371 true) else (bywashlaw14_DomTree.j1 kj6 a1 t369 t371 (decide (a1 ≥ (l0.length : Int))))) = some r := by rw [if_neg (show ¬ (false = true) by decide)] at H; exact H
          clear H
          have H := H1
          clear H1
          have HC17 := Aside0.mk H
          clear H
          go_upto_region 7 with (fail)
          repeat (go_quiet (fail); go_upto_region 7 with (fail))
          go_cut [35] (fun v35 wc => ∃ (kq : Nat) (x35_16 : Bool), v35 = .bool x35_16 ∧ Aside0 (bywashlaw14_DomTree.j1 kq a1 t369 t371 x35_16 = some r) ∧ Aside0 (kq ≤ kj6) ∧ Aside0 (Kd.R (Kd.int .i64) 3 wc w.heap.size (fun _ => True) v372 t371) ∧ Aside0 (Below w.heap.size w wc))
          case first =>
            have H := HC17.out
            clear HC17
            by_cases c18 : a1 < 0
            · rw [if_pos c18] at H
              have c18b0 : decide (a1 < 0) = true := decide_eq_true c18
              clear c18
              (first | rw [c18b0] | (simp only [i64_w, i32_w]; rw [c18b0]) | skip)
              have H' := Aside0.mk H
              clear H
              go_wp2
              repeat (go_quiet (fail); try go_wp2)
              go_meet
              case rel => exact ⟨_, (true), (by first | rfl | (simp; done) | (simp [*]; done)), H', ⟨by have := HJ6.out; first | omega | exact Nat.le_refl _⟩, ⟨by (with_reducible repeat (first | apply Kd.R_alloc | apply Kd.R_drewN | apply Kd.R_drew)); exact HO_6.out⟩, ⟨by repeat (first | (with_reducible first | exact HB.out | apply below_alloc | apply pw_below_drewN | apply below_drew1) | exact HB.out)⟩⟩
            · rw [if_neg c18] at H
              have c18b0 : decide (a1 < 0) = false := decide_eq_false c18
              clear c18
              (first | rw [c18b0] | (simp only [i64_w, i32_w]; rw [c18b0]) | skip)
              have H' := Aside0.mk H
              clear H
              go_wp2
              repeat (go_quiet (fail); try go_wp2)
              go_meet
              case rel => exact ⟨_, (decide (a1 ≥ (l0.length : Int))), (by first | rfl | (simp; done) | (simp [*]; done)), H', ⟨by have := HJ6.out; first | omega | exact Nat.le_refl _⟩, ⟨by (with_reducible repeat (first | apply Kd.R_alloc | apply Kd.R_drewN | apply Kd.R_drew)); exact HO_6.out⟩, ⟨by repeat (first | (with_reducible first | exact HB.out | apply below_alloc | apply pw_below_drewN | apply below_drew1) | exact HB.out)⟩⟩
          case rest =>
            clear HC17
            try clear c1
            try clear p2
            try clear c5
            try clear c7
            try clear c11
            try clear c16
            try clear c18
            try clear c18b0
            try clear p2
            obtain ⟨kq, x35_16, rfl, HA, HJ16, HO_6, HB⟩ := hcut
            cases kq with
            | zero => exact absurd HA.out (by simp [bywashlaw14_DomTree.j1])
            | succ kj16 =>
              have H := HA.out
              clear HA
              simp only [bywashlaw14_DomTree.j1] at H
              by_cases c19 : x35_16 = true
              · subst c19
                have H1 : (if t369 = true then ((dom_Below.f kj16 t371 a1).bind fun t375 => (if (t375.length : Int) = 0 then ((dom_Chain.f kj16 t371 a1).bind fun t378 => (some ((t378.length : Int) == 0))) else (some false))) else (some false)) = some r := by rw [if_pos rfl] at H; exact H
                clear H
                have H := H1
                clear H1
                by_cases c20 : t369 = true
                · subst c20
                  have H1 : ((dom_Below.f kj16 t371 a1).bind fun t375 => (if (t375.length : Int) = 0 then ((dom_Chain.f kj16 t371 a1).bind fun t378 => (some ((t378.length : Int) == 0))) else (some false))) = some r := by rw [if_pos rfl] at H; exact H
                  clear H
                  have H := H1
                  clear H1
                  replace H := Option.bind_eq_some_iff.mp H
                  obtain ⟨t375, A210, H⟩ := H
                  replace H : (if (t375.length : Int) = 0 then ((dom_Chain.f kj16 t371 a1).bind fun t378 => (some ((t378.length : Int) == 0))) else (some false)) = some r := H
                  have A21 := Aside0.mk A210
                  clear A210
                  by_cases c22 : (t375.length : Int) = 0
                  · rw [if_pos c22] at H
                    have c22b0 : ((t375.length : Int) == 0) = true := beq_iff_eq.mpr c22
                    have c22b1 : ((t375.length : Int) != 0) = false := bne_eq_false_iff_eq.mpr c22
                    clear c22
                    replace H := Option.bind_eq_some_iff.mp H
                    obtain ⟨t378, A230, H⟩ := H
                    replace H : (some ((t378.length : Int) == 0)) = some r := H
                    have A23 := Aside0.mk A230
                    clear A230
                    obtain rfl := Option.some.inj H
                    obtain ⟨Ao24, co24, eo24⟩ := Kd.R_slice HO_6.out
                    subst eo24
                    go_wp2_with (first | (go_at_call 29; (with_reducible refine (dom_Below.calls kj16 _ _ t371 a1 t375 _ ?side1 ?side2 A21.out).mono ?_); (case side1 => repeat (first | exact (Kd.R_reads' HO_6.out).2.2 | (with_reducible refine Kd.C_alloc ?_ _) | (with_reducible refine Kd.C_drewN ?_ _) | (with_reducible refine Kd.C_drew ?_))); (case side2 => exact (Kd.R_reads' HO_6.out).2.1); rintro e w25 ⟨v376, rfl, ho0, hb⟩; have n0_ := Aside0.mk (Kd.R_elder' (by (with_reducible repeat (first | apply Kd.R_alloc | apply Kd.R_drewN | apply Kd.R_drew)); exact HO_6.out) (Kd.R_base ho0) hb); have n1_ := Aside0.mk (Kd.R_lower (Kd.R_new' ho0 (Kd.R_lt (by (with_reducible repeat (first | apply Kd.R_alloc | apply Kd.R_drewN | apply Kd.R_drew)); exact HO_6.out))) (below_size (by repeat (first | (with_reducible first | exact HB.out | apply below_alloc | apply pw_below_drewN | apply below_drew1) | exact HB.out)))); have n2_ := Aside0.mk (below_step (by repeat (first | (with_reducible first | exact HB.out | apply below_alloc | apply pw_below_drewN | apply below_drew1) | exact HB.out)) hb); clear HO_6; clear HB; have HO_6 := n0_; have HO377 := n1_; have HB := n2_; clear n0_ n1_ n2_; (try clear hb); (try clear hb2); (try clear hk); (try clear hi); (try clear ho0); obtain ⟨Ao26, co26, eo26⟩ := Kd.R_slice HO377.out; subst eo26) | (go_at_call 25; (with_reducible refine (dom_Chain.calls kj16 _ _ t371 a1 t378 _ ?side1 ?side2 A23.out).mono ?_); (case side1 => repeat (first | exact (Kd.R_reads' HO_6.out).2.2 | (with_reducible refine Kd.C_alloc ?_ _) | (with_reducible refine Kd.C_drewN ?_ _) | (with_reducible refine Kd.C_drew ?_))); (case side2 => exact (Kd.R_reads' HO_6.out).2.1); rintro e w27 ⟨v379, rfl, ho0, hb⟩; have n0_ := Aside0.mk (Kd.R_elder' (by (with_reducible repeat (first | apply Kd.R_alloc | apply Kd.R_drewN | apply Kd.R_drew)); exact HO_6.out) (Kd.R_base ho0) hb); have n1_ := Aside0.mk (Kd.R_elder' (by (with_reducible repeat (first | apply Kd.R_alloc | apply Kd.R_drewN | apply Kd.R_drew)); exact HO377.out) (Kd.R_base ho0) hb); have n2_ := Aside0.mk (Kd.R_lower (Kd.R_new' (Kd.R_new' ho0 (Kd.R_lt (by (with_reducible repeat (first | apply Kd.R_alloc | apply Kd.R_drewN | apply Kd.R_drew)); exact HO_6.out))) (Kd.R_lt (by (with_reducible repeat (first | apply Kd.R_alloc | apply Kd.R_drewN | apply Kd.R_drew)); exact HO377.out))) (below_size (by repeat (first | (with_reducible first | exact HB.out | apply below_alloc | apply pw_below_drewN | apply below_drew1) | exact HB.out)))); have n3_ := Aside0.mk (below_step (by repeat (first | (with_reducible first | exact HB.out | apply below_alloc | apply pw_below_drewN | apply below_drew1) | exact HB.out)) hb); clear HO_6; clear HO377; clear HB; have HO_6 := n0_; have HO377 := n1_; have HO380 := n2_; have HB := n3_; clear n0_ n1_ n2_ n3_; (try clear hb); (try clear hb2); (try clear hk); (try clear hi); (try clear ho0); obtain ⟨Ao28, co28, eo28⟩ := Kd.R_slice HO380.out; subst eo28))
                    repeat (go_quiet (first | (go_at_call 29; (with_reducible refine (dom_Below.calls kj16 _ _ t371 a1 t375 _ ?side1 ?side2 A21.out).mono ?_); (case side1 => repeat (first | exact (Kd.R_reads' HO_6.out).2.2 | (with_reducible refine Kd.C_alloc ?_ _) | (with_reducible refine Kd.C_drewN ?_ _) | (with_reducible refine Kd.C_drew ?_))); (case side2 => exact (Kd.R_reads' HO_6.out).2.1); rintro e w25 ⟨v376, rfl, ho0, hb⟩; have n0_ := Aside0.mk (Kd.R_elder' (by (with_reducible repeat (first | apply Kd.R_alloc | apply Kd.R_drewN | apply Kd.R_drew)); exact HO_6.out) (Kd.R_base ho0) hb); have n1_ := Aside0.mk (Kd.R_lower (Kd.R_new' ho0 (Kd.R_lt (by (with_reducible repeat (first | apply Kd.R_alloc | apply Kd.R_drewN | apply Kd.R_drew)); exact HO_6.out))) (below_size (by repeat (first | (with_reducible first | exact HB.out | apply below_alloc | apply pw_below_drewN | apply below_drew1) | exact HB.out)))); have n2_ := Aside0.mk (below_step (by repeat (first | (with_reducible first | exact HB.out | apply below_alloc | apply pw_below_drewN | apply below_drew1) | exact HB.out)) hb); clear HO_6; clear HB; have HO_6 := n0_; have HO377 := n1_; have HB := n2_; clear n0_ n1_ n2_; (try clear hb); (try clear hb2); (try clear hk); (try clear hi); (try clear ho0); obtain ⟨Ao26, co26, eo26⟩ := Kd.R_slice HO377.out; subst eo26) | (go_at_call 25; (with_reducible refine (dom_Chain.calls kj16 _ _ t371 a1 t378 _ ?side1 ?side2 A23.out).mono ?_); (case side1 => repeat (first | exact (Kd.R_reads' HO_6.out).2.2 | (with_reducible refine Kd.C_alloc ?_ _) | (with_reducible refine Kd.C_drewN ?_ _) | (with_reducible refine Kd.C_drew ?_))); (case side2 => exact (Kd.R_reads' HO_6.out).2.1); rintro e w27 ⟨v379, rfl, ho0, hb⟩; have n0_ := Aside0.mk (Kd.R_elder' (by (with_reducible repeat (first | apply Kd.R_alloc | apply Kd.R_drewN | apply Kd.R_drew)); exact HO_6.out) (Kd.R_base ho0) hb); have n1_ := Aside0.mk (Kd.R_elder' (by (with_reducible repeat (first | apply Kd.R_alloc | apply Kd.R_drewN | apply Kd.R_drew)); exact HO377.out) (Kd.R_base ho0) hb); have n2_ := Aside0.mk (Kd.R_lower (Kd.R_new' (Kd.R_new' ho0 (Kd.R_lt (by (with_reducible repeat (first | apply Kd.R_alloc | apply Kd.R_drewN | apply Kd.R_drew)); exact HO_6.out))) (Kd.R_lt (by (with_reducible repeat (first | apply Kd.R_alloc | apply Kd.R_drewN | apply Kd.R_drew)); exact HO377.out))) (below_size (by repeat (first | (with_reducible first | exact HB.out | apply below_alloc | apply pw_below_drewN | apply below_drew1) | exact HB.out)))); have n3_ := Aside0.mk (below_step (by repeat (first | (with_reducible first | exact HB.out | apply below_alloc | apply pw_below_drewN | apply below_drew1) | exact HB.out)) hb); clear HO_6; clear HO377; clear HB; have HO_6 := n0_; have HO377 := n1_; have HO380 := n2_; have HB := n3_; clear n0_ n1_ n2_ n3_; (try clear hb); (try clear hb2); (try clear hk); (try clear hi); (try clear ho0); obtain ⟨Ao28, co28, eo28⟩ := Kd.R_slice HO380.out; subst eo28)); try go_wp2_with (first | (go_at_call 29; (with_reducible refine (dom_Below.calls kj16 _ _ t371 a1 t375 _ ?side1 ?side2 A21.out).mono ?_); (case side1 => repeat (first | exact (Kd.R_reads' HO_6.out).2.2 | (with_reducible refine Kd.C_alloc ?_ _) | (with_reducible refine Kd.C_drewN ?_ _) | (with_reducible refine Kd.C_drew ?_))); (case side2 => exact (Kd.R_reads' HO_6.out).2.1); rintro e w25 ⟨v376, rfl, ho0, hb⟩; have n0_ := Aside0.mk (Kd.R_elder' (by (with_reducible repeat (first | apply Kd.R_alloc | apply Kd.R_drewN | apply Kd.R_drew)); exact HO_6.out) (Kd.R_base ho0) hb); have n1_ := Aside0.mk (Kd.R_lower (Kd.R_new' ho0 (Kd.R_lt (by (with_reducible repeat (first | apply Kd.R_alloc | apply Kd.R_drewN | apply Kd.R_drew)); exact HO_6.out))) (below_size (by repeat (first | (with_reducible first | exact HB.out | apply below_alloc | apply pw_below_drewN | apply below_drew1) | exact HB.out)))); have n2_ := Aside0.mk (below_step (by repeat (first | (with_reducible first | exact HB.out | apply below_alloc | apply pw_below_drewN | apply below_drew1) | exact HB.out)) hb); clear HO_6; clear HB; have HO_6 := n0_; have HO377 := n1_; have HB := n2_; clear n0_ n1_ n2_; (try clear hb); (try clear hb2); (try clear hk); (try clear hi); (try clear ho0); obtain ⟨Ao26, co26, eo26⟩ := Kd.R_slice HO377.out; subst eo26) | (go_at_call 25; (with_reducible refine (dom_Chain.calls kj16 _ _ t371 a1 t378 _ ?side1 ?side2 A23.out).mono ?_); (case side1 => repeat (first | exact (Kd.R_reads' HO_6.out).2.2 | (with_reducible refine Kd.C_alloc ?_ _) | (with_reducible refine Kd.C_drewN ?_ _) | (with_reducible refine Kd.C_drew ?_))); (case side2 => exact (Kd.R_reads' HO_6.out).2.1); rintro e w27 ⟨v379, rfl, ho0, hb⟩; have n0_ := Aside0.mk (Kd.R_elder' (by (with_reducible repeat (first | apply Kd.R_alloc | apply Kd.R_drewN | apply Kd.R_drew)); exact HO_6.out) (Kd.R_base ho0) hb); have n1_ := Aside0.mk (Kd.R_elder' (by (with_reducible repeat (first | apply Kd.R_alloc | apply Kd.R_drewN | apply Kd.R_drew)); exact HO377.out) (Kd.R_base ho0) hb); have n2_ := Aside0.mk (Kd.R_lower (Kd.R_new' (Kd.R_new' ho0 (Kd.R_lt (by (with_reducible repeat (first | apply Kd.R_alloc | apply Kd.R_drewN | apply Kd.R_drew)); exact HO_6.out))) (Kd.R_lt (by (with_reducible repeat (first | apply Kd.R_alloc | apply Kd.R_drewN | apply Kd.R_drew)); exact HO377.out))) (below_size (by repeat (first | (with_reducible first | exact HB.out | apply below_alloc | apply pw_below_drewN | apply below_drew1) | exact HB.out)))); have n3_ := Aside0.mk (below_step (by repeat (first | (with_reducible first | exact HB.out | apply below_alloc | apply pw_below_drewN | apply below_drew1) | exact HB.out)) hb); clear HO_6; clear HO377; clear HB; have HO_6 := n0_; have HO377 := n1_; have HO380 := n2_; have HB := n3_; clear n0_ n1_ n2_ n3_; (try clear hb); (try clear hb2); (try clear hk); (try clear hi); (try clear ho0); obtain ⟨Ao28, co28, eo28⟩ := Kd.R_slice HO380.out; subst eo28)))
                    go_ret
                    exact ⟨by first | rfl | (simp [errW_none, errW_some] <;> rfl) | (simp [*, errW_none, errW_some] <;> rfl) | (exfalso; (try simp_all); (try omega); done), by repeat (first | (with_reducible first | exact HB.out | apply below_alloc | apply pw_below_drewN | apply below_drew1) | exact HB.out)⟩
                  · rw [if_neg c22] at H
                    have c22b0 : ((t375.length : Int) == 0) = false := beq_eq_false_iff_ne.mpr c22
                    have c22b1 : ((t375.length : Int) != 0) = true := bne_iff_ne.mpr c22
                    have c22b2 : ¬ (t375 = []) := fun h_ => c22 (by rw [h_]; rfl)
                    obtain rfl := Option.some.inj H
                    obtain ⟨Ao29, co29, eo29⟩ := Kd.R_slice HO_6.out
                    subst eo29
                    go_wp2_with (first | (go_at_call 29; (with_reducible refine (dom_Below.calls kj16 _ _ t371 a1 t375 _ ?side1 ?side2 A21.out).mono ?_); (case side1 => repeat (first | exact (Kd.R_reads' HO_6.out).2.2 | (with_reducible refine Kd.C_alloc ?_ _) | (with_reducible refine Kd.C_drewN ?_ _) | (with_reducible refine Kd.C_drew ?_))); (case side2 => exact (Kd.R_reads' HO_6.out).2.1); rintro e w30 ⟨v376, rfl, ho0, hb⟩; have n0_ := Aside0.mk (Kd.R_elder' (by (with_reducible repeat (first | apply Kd.R_alloc | apply Kd.R_drewN | apply Kd.R_drew)); exact HO_6.out) (Kd.R_base ho0) hb); have n1_ := Aside0.mk (Kd.R_lower (Kd.R_new' ho0 (Kd.R_lt (by (with_reducible repeat (first | apply Kd.R_alloc | apply Kd.R_drewN | apply Kd.R_drew)); exact HO_6.out))) (below_size (by repeat (first | (with_reducible first | exact HB.out | apply below_alloc | apply pw_below_drewN | apply below_drew1) | exact HB.out)))); have n2_ := Aside0.mk (below_step (by repeat (first | (with_reducible first | exact HB.out | apply below_alloc | apply pw_below_drewN | apply below_drew1) | exact HB.out)) hb); clear HO_6; clear HB; have HO_6 := n0_; have HO377 := n1_; have HB := n2_; clear n0_ n1_ n2_; (try clear hb); (try clear hb2); (try clear hk); (try clear hi); (try clear ho0); obtain ⟨Ao31, co31, eo31⟩ := Kd.R_slice HO377.out; subst eo31))
                    repeat (go_quiet (first | (go_at_call 29; (with_reducible refine (dom_Below.calls kj16 _ _ t371 a1 t375 _ ?side1 ?side2 A21.out).mono ?_); (case side1 => repeat (first | exact (Kd.R_reads' HO_6.out).2.2 | (with_reducible refine Kd.C_alloc ?_ _) | (with_reducible refine Kd.C_drewN ?_ _) | (with_reducible refine Kd.C_drew ?_))); (case side2 => exact (Kd.R_reads' HO_6.out).2.1); rintro e w30 ⟨v376, rfl, ho0, hb⟩; have n0_ := Aside0.mk (Kd.R_elder' (by (with_reducible repeat (first | apply Kd.R_alloc | apply Kd.R_drewN | apply Kd.R_drew)); exact HO_6.out) (Kd.R_base ho0) hb); have n1_ := Aside0.mk (Kd.R_lower (Kd.R_new' ho0 (Kd.R_lt (by (with_reducible repeat (first | apply Kd.R_alloc | apply Kd.R_drewN | apply Kd.R_drew)); exact HO_6.out))) (below_size (by repeat (first | (with_reducible first | exact HB.out | apply below_alloc | apply pw_below_drewN | apply below_drew1) | exact HB.out)))); have n2_ := Aside0.mk (below_step (by repeat (first | (with_reducible first | exact HB.out | apply below_alloc | apply pw_below_drewN | apply below_drew1) | exact HB.out)) hb); clear HO_6; clear HB; have HO_6 := n0_; have HO377 := n1_; have HB := n2_; clear n0_ n1_ n2_; (try clear hb); (try clear hb2); (try clear hk); (try clear hi); (try clear ho0); obtain ⟨Ao31, co31, eo31⟩ := Kd.R_slice HO377.out; subst eo31)); try go_wp2_with (first | (go_at_call 29; (with_reducible refine (dom_Below.calls kj16 _ _ t371 a1 t375 _ ?side1 ?side2 A21.out).mono ?_); (case side1 => repeat (first | exact (Kd.R_reads' HO_6.out).2.2 | (with_reducible refine Kd.C_alloc ?_ _) | (with_reducible refine Kd.C_drewN ?_ _) | (with_reducible refine Kd.C_drew ?_))); (case side2 => exact (Kd.R_reads' HO_6.out).2.1); rintro e w30 ⟨v376, rfl, ho0, hb⟩; have n0_ := Aside0.mk (Kd.R_elder' (by (with_reducible repeat (first | apply Kd.R_alloc | apply Kd.R_drewN | apply Kd.R_drew)); exact HO_6.out) (Kd.R_base ho0) hb); have n1_ := Aside0.mk (Kd.R_lower (Kd.R_new' ho0 (Kd.R_lt (by (with_reducible repeat (first | apply Kd.R_alloc | apply Kd.R_drewN | apply Kd.R_drew)); exact HO_6.out))) (below_size (by repeat (first | (with_reducible first | exact HB.out | apply below_alloc | apply pw_below_drewN | apply below_drew1) | exact HB.out)))); have n2_ := Aside0.mk (below_step (by repeat (first | (with_reducible first | exact HB.out | apply below_alloc | apply pw_below_drewN | apply below_drew1) | exact HB.out)) hb); clear HO_6; clear HB; have HO_6 := n0_; have HO377 := n1_; have HB := n2_; clear n0_ n1_ n2_; (try clear hb); (try clear hb2); (try clear hk); (try clear hi); (try clear ho0); obtain ⟨Ao31, co31, eo31⟩ := Kd.R_slice HO377.out; subst eo31)))
                    go_ret
                    exact ⟨by first | rfl | (simp [errW_none, errW_some] <;> rfl) | (simp [*, errW_none, errW_some] <;> rfl) | (exfalso; (try simp_all); (try omega); done), by repeat (first | (with_reducible first | exact HB.out | apply below_alloc | apply pw_below_drewN | apply below_drew1) | exact HB.out)⟩
                · replace c20 := Bool.eq_false_iff.mpr c20
                  subst c20
                  have H1 : (some false) = some r := by rw [if_neg (show ¬ (false = true) by decide)] at H; exact H
                  clear H
                  have H := H1
                  clear H1
                  obtain rfl := Option.some.inj H
                  go_wp2
                  repeat (go_quiet (fail); try go_wp2)
                  go_ret
                  exact ⟨by first | rfl | (simp [errW_none, errW_some] <;> rfl) | (simp [*, errW_none, errW_some] <;> rfl) | (exfalso; (try simp_all); (try omega); done), by repeat (first | (with_reducible first | exact HB.out | apply below_alloc | apply pw_below_drewN | apply below_drew1) | exact HB.out)⟩
              · replace c19 := Bool.eq_false_iff.mpr c19
                subst c19
                have H1 : (if 0 ≤ a1 then (if a1 < (t371.length : Int) then (if (rd t371 a1) = (-2) then (bywashlaw14_DomTree.j2 kj16 a1 t369 t371 0) else (bywashlaw14_DomTree.j2 kj16 a1 t369 t371 1)) else (none)) else (none)) = some r := by rw [if_neg (show ¬ (false = true) by decide)] at H; exact H
                clear H
                have H := H1
                clear H1
                by_cases c32 : 0 ≤ a1
                · rw [if_pos c32] at H
                  have c32b0 : decide (0 ≤ a1) = true := decide_eq_true c32
                  clear c32
                  by_cases c33 : a1 < (t371.length : Int)
                  · rw [if_pos c33] at H
                    have c33b0 : decide (a1 < (t371.length : Int)) = true := decide_eq_true c33
                    clear c33
                    have HC34 := Aside0.mk H
                    clear H
                    obtain ⟨Ao35, co35, eo35⟩ := Kd.R_slice HO_6.out
                    subst eo35
                    have p381 : 0 ≤ (a1 : Int) := of_decide_eq_true (by first | (with_reducible assumption) | assumption)
                    have q381 : a1 < (t371.length : Int) := of_decide_eq_true (by first | (with_reducible assumption) | assumption)
                    obtain ⟨ad381, e381, hx381_0⟩ := Kd.at_int (Kd.R_reads' HO_6.out).2.2 a1 p381 q381
                    cases e381
                    replace p381 := eq_true p381
                    replace q381 := eq_true q381
                    go_upto_if 55 with (fail)
                    repeat (go_quiet (fail); go_upto_if 55 with (fail))
                    go_cut [7] (fun v7 wc => ∃ (kq : Nat) (x7_33 : Int), v7 = .int .i64 x7_33 ∧ Aside0 (bywashlaw14_DomTree.j2 kq a1 t369 t371 x7_33 = some r) ∧ Aside0 (kq ≤ kj16) ∧ Aside0 (Kd.R (Kd.int .i64) 3 wc w.heap.size (fun _ => True) (.slice (some ad381) t371.length co35) t371) ∧ Aside0 (Below w.heap.size w wc))
                    case first =>
                      have H := HC34.out
                      clear HC34
                      by_cases c36 : (rd t371 a1) = (-2)
                      · rw [if_pos c36] at H
                        have c36b0 : ((rd t371 a1) == (-2)) = true := beq_iff_eq.mpr c36
                        have c36b1 : ((rd t371 a1) != (-2)) = false := bne_eq_false_iff_eq.mpr c36
                        clear c36
                        (first | rw [c36b0] | (simp only [i64_w, i32_w]; rw [c36b0]) | skip)
                        have H' := Aside0.mk H
                        clear H
                        go_wp2
                        repeat (go_quiet (fail); try go_wp2)
                        go_meet
                        case rel => exact ⟨_, (0), (by first | rfl | (simp; done) | (simp [*]; done)), H', ⟨by have := HJ6.out; have := HJ16.out; first | omega | exact Nat.le_refl _⟩, ⟨by (with_reducible repeat (first | apply Kd.R_alloc | apply Kd.R_drewN | apply Kd.R_drew)); exact HO_6.out⟩, ⟨by repeat (first | (with_reducible first | exact HB.out | apply below_alloc | apply pw_below_drewN | apply below_drew1) | exact HB.out)⟩⟩
                      · rw [if_neg c36] at H
                        have c36b0 : ((rd t371 a1) == (-2)) = false := beq_eq_false_iff_ne.mpr c36
                        have c36b1 : ((rd t371 a1) != (-2)) = true := bne_iff_ne.mpr c36
                        (first | rw [c36b0] | (simp only [i64_w, i32_w]; rw [c36b0]) | skip)
                        have H' := Aside0.mk H
                        clear H
                        go_wp2
                        repeat (go_quiet (fail); try go_wp2)
                        go_meet
                        case rel => exact ⟨_, (1), (by first | rfl | (simp; done) | (simp [*]; done)), H', ⟨by have := HJ6.out; have := HJ16.out; first | omega | exact Nat.le_refl _⟩, ⟨by (with_reducible repeat (first | apply Kd.R_alloc | apply Kd.R_drewN | apply Kd.R_drew)); exact HO_6.out⟩, ⟨by repeat (first | (with_reducible first | exact HB.out | apply below_alloc | apply pw_below_drewN | apply below_drew1) | exact HB.out)⟩⟩
                    case rest =>
                      clear HC34
                      try clear c1
                      try clear c2
                      try clear p2
                      try clear c3
                      try clear p3
                      try clear q3
                      try clear hx3
                      try clear c5
                      try clear c7
                      try clear c11
                      try clear c16
                      try clear c18
                      try clear c18b0
                      try clear c19
                      try clear c20
                      try clear c22
                      try clear c22b0
                      try clear c22b1
                      try clear c22b2
                      try clear c32
                      try clear c32b0
                      try clear c33
                      try clear c33b0
                      try clear c36
                      try clear c36b0
                      try clear c36b1
                      try clear hx381_0
                      try clear p2
                      try clear p381
                      try clear q381
                      obtain ⟨kq, x7_33, rfl, HA, HJ33, HO_6, HB⟩ := hcut
                      cases kq with
                      | zero => exact absurd HA.out (by simp [bywashlaw14_DomTree.j2])
                      | succ kj33 =>
                        have H := HA.out
                        clear HA
                        simp only [bywashlaw14_DomTree.j2] at H
                        have H' := Aside0.mk H
                        clear H
                        go_wp2
                        repeat (go_quiet (fail); try go_wp2)
                        go_loopg [7, 8] kj33 (fun kq v7 v8 w' => ∃ (x7_4 : Int) (x8_4 : Int), v7 = .int .i64 x7_4 ∧ v8 = .int .i64 x8_4 ∧ Aside0 (bywashlaw14_DomTree.l0 kq a1 t369 t371 x7_4 x8_4 = some r) ∧ Aside0 (kq ≤ kj33) ∧ Aside0 (Kd.R (Kd.int .i64) 3 w' w.heap.size (fun _ => True) (.slice (some ad381) t371.length co35) t371) ∧ Aside0 (Below w.heap.size w w'))
                        case atStart => exact ⟨(x7_33), (0), (by first | rfl | (simp; done) | (simp [*]; done)), (by first | rfl | (simp; done) | (simp [*]; done)), H', ⟨Nat.le_refl _⟩, ⟨by (with_reducible repeat (first | apply Kd.R_alloc | apply Kd.R_drewN | apply Kd.R_drew)); exact HO_6.out⟩, ⟨by repeat (first | (with_reducible first | exact HB.out | apply below_alloc | apply pw_below_drewN | apply below_drew1) | exact HB.out)⟩⟩
                        case round =>
                          clear H'
                          try clear c1
                          try clear c2
                          try clear p2
                          try clear c3
                          try clear p3
                          try clear q3
                          try clear hx3
                          try clear c5
                          try clear c7
                          try clear c11
                          try clear c16
                          try clear c18
                          try clear c18b0
                          try clear c19
                          try clear c20
                          try clear c22
                          try clear c22b0
                          try clear c22b1
                          try clear c22b2
                          try clear c32
                          try clear c32b0
                          try clear c33
                          try clear c33b0
                          try clear c36
                          try clear c36b0
                          try clear c36b1
                          try clear hx381_0
                          try clear p2
                          try clear p3
                          try clear p381
                          try clear q3
                          try clear q381
                          obtain ⟨x7_4, x8_4, rfl, rfl, HA, HK4, HO_6, HB⟩ := hrel
                          cases gk with
                          | zero => exact absurd HA.out (by simp [bywashlaw14_DomTree.l0])
                          | succ k4 =>
                            have H := HA.out
                            clear HA
                            simp only [bywashlaw14_DomTree.l0] at H
                            by_cases c37 : x8_4 < (t371.length : Int)
                            · rw [if_pos c37] at H
                              have c37b0 : decide (x8_4 < (t371.length : Int)) = true := decide_eq_true c37
                              clear c37
                              by_cases c38 : 0 ≤ x8_4
                              · rw [if_pos c38] at H
                                have c38b0 : decide (0 ≤ x8_4) = true := decide_eq_true c38
                                clear c38
                                by_cases c39 : (rd t371 x8_4) = a1
                                · rw [if_pos c39] at H
                                  have c39b0 : ((rd t371 x8_4) == a1) = true := beq_iff_eq.mpr c39
                                  have c39b1 : ((rd t371 x8_4) != a1) = false := bne_eq_false_iff_eq.mpr c39
                                  clear c39
                                  replace H := Option.bind_eq_some_iff.mp H
                                  obtain ⟨t383, A400, H⟩ := H
                                  replace H : (bywashlaw14_DomTree.l0 k4 a1 t369 t371 (wrap64 (x7_4 + (t383.length : Int))) (wrap64 (x8_4 + 1))) = some r := H
                                  have A40 := Aside0.mk A400
                                  clear A400
                                  have H' := Aside0.mk H
                                  clear H
                                  have p382 : 0 ≤ (x8_4 : Int) := of_decide_eq_true (by first | (with_reducible assumption) | assumption)
                                  have q382 : x8_4 < (t371.length : Int) := of_decide_eq_true (by first | (with_reducible assumption) | assumption)
                                  obtain ⟨ad382, e382, hx382_0⟩ := Kd.at_int (Kd.R_reads' HO_6.out).2.2 x8_4 p382 q382
                                  obtain rfl : ad381 = ad382 := (by injection e382)
                                  replace p382 := eq_true p382
                                  replace q382 := eq_true q382
                                  go_wp2_with (first | (go_at_call 29; (with_reducible refine (dom_Below.calls k4 _ _ t371 x8_4 t383 _ ?side1 ?side2 A40.out).mono ?_); (case side1 => repeat (first | exact (Kd.R_reads' HO_6.out).2.2 | (with_reducible refine Kd.C_alloc ?_ _) | (with_reducible refine Kd.C_drewN ?_ _) | (with_reducible refine Kd.C_drew ?_))); (case side2 => exact (Kd.R_reads' HO_6.out).2.1); rintro e w41 ⟨v384, rfl, ho0, hb⟩; have n0_ := Aside0.mk (Kd.R_elder' (by (with_reducible repeat (first | apply Kd.R_alloc | apply Kd.R_drewN | apply Kd.R_drew)); exact HO_6.out) (Kd.R_base ho0) hb); have n1_ := Aside0.mk (Kd.R_lower (Kd.R_new' ho0 (Kd.R_lt (by (with_reducible repeat (first | apply Kd.R_alloc | apply Kd.R_drewN | apply Kd.R_drew)); exact HO_6.out))) (below_size (by repeat (first | (with_reducible first | exact HB.out | apply below_alloc | apply pw_below_drewN | apply below_drew1) | exact HB.out)))); have n2_ := Aside0.mk (below_step (by repeat (first | (with_reducible first | exact HB.out | apply below_alloc | apply pw_below_drewN | apply below_drew1) | exact HB.out)) hb); clear HO_6; clear HB; have HO_6 := n0_; have HO385 := n1_; have HB := n2_; clear n0_ n1_ n2_; (try clear hb); (try clear hb2); (try clear hk); (try clear hi); (try clear ho0); obtain ⟨Ao42, co42, eo42⟩ := Kd.R_slice HO385.out; subst eo42))
                                  repeat (go_quiet (first | (go_at_call 29; (with_reducible refine (dom_Below.calls k4 _ _ t371 x8_4 t383 _ ?side1 ?side2 A40.out).mono ?_); (case side1 => repeat (first | exact (Kd.R_reads' HO_6.out).2.2 | (with_reducible refine Kd.C_alloc ?_ _) | (with_reducible refine Kd.C_drewN ?_ _) | (with_reducible refine Kd.C_drew ?_))); (case side2 => exact (Kd.R_reads' HO_6.out).2.1); rintro e w41 ⟨v384, rfl, ho0, hb⟩; have n0_ := Aside0.mk (Kd.R_elder' (by (with_reducible repeat (first | apply Kd.R_alloc | apply Kd.R_drewN | apply Kd.R_drew)); exact HO_6.out) (Kd.R_base ho0) hb); have n1_ := Aside0.mk (Kd.R_lower (Kd.R_new' ho0 (Kd.R_lt (by (with_reducible repeat (first | apply Kd.R_alloc | apply Kd.R_drewN | apply Kd.R_drew)); exact HO_6.out))) (below_size (by repeat (first | (with_reducible first | exact HB.out | apply below_alloc | apply pw_below_drewN | apply below_drew1) | exact HB.out)))); have n2_ := Aside0.mk (below_step (by repeat (first | (with_reducible first | exact HB.out | apply below_alloc | apply pw_below_drewN | apply below_drew1) | exact HB.out)) hb); clear HO_6; clear HB; have HO_6 := n0_; have HO385 := n1_; have HB := n2_; clear n0_ n1_ n2_; (try clear hb); (try clear hb2); (try clear hk); (try clear hi); (try clear ho0); obtain ⟨Ao42, co42, eo42⟩ := Kd.R_slice HO385.out; subst eo42)); try go_wp2_with (first | (go_at_call 29; (with_reducible refine (dom_Below.calls k4 _ _ t371 x8_4 t383 _ ?side1 ?side2 A40.out).mono ?_); (case side1 => repeat (first | exact (Kd.R_reads' HO_6.out).2.2 | (with_reducible refine Kd.C_alloc ?_ _) | (with_reducible refine Kd.C_drewN ?_ _) | (with_reducible refine Kd.C_drew ?_))); (case side2 => exact (Kd.R_reads' HO_6.out).2.1); rintro e w41 ⟨v384, rfl, ho0, hb⟩; have n0_ := Aside0.mk (Kd.R_elder' (by (with_reducible repeat (first | apply Kd.R_alloc | apply Kd.R_drewN | apply Kd.R_drew)); exact HO_6.out) (Kd.R_base ho0) hb); have n1_ := Aside0.mk (Kd.R_lower (Kd.R_new' ho0 (Kd.R_lt (by (with_reducible repeat (first | apply Kd.R_alloc | apply Kd.R_drewN | apply Kd.R_drew)); exact HO_6.out))) (below_size (by repeat (first | (with_reducible first | exact HB.out | apply below_alloc | apply pw_below_drewN | apply below_drew1) | exact HB.out)))); have n2_ := Aside0.mk (below_step (by repeat (first | (with_reducible first | exact HB.out | apply below_alloc | apply pw_below_drewN | apply below_drew1) | exact HB.out)) hb); clear HO_6; clear HB; have HO_6 := n0_; have HO385 := n1_; have HB := n2_; clear n0_ n1_ n2_; (try clear hb); (try clear hb2); (try clear hk); (try clear hi); (try clear ho0); obtain ⟨Ao42, co42, eo42⟩ := Kd.R_slice HO385.out; subst eo42)))
                                  go_roundg k4
                                  case measure => have := HJ6.out; have := HJ16.out; have := HJ33.out; have := HK4.out; omega
                                  case rel => exact ⟨(wrap64 (x7_4 + (t383.length : Int))), (wrap64 (x8_4 + 1)), (by first | rfl | (simp; done) | (simp [*]; done)), (by first | rfl | (simp; done) | (simp [*]; done)), H', ⟨by have := HJ6.out; have := HJ16.out; have := HJ33.out; have := HK4.out; omega⟩, ⟨by (with_reducible repeat (first | apply Kd.R_alloc | apply Kd.R_drewN | apply Kd.R_drew)); exact Kd.R_mono HO_6.out (fun _ hk => trivial)⟩, ⟨by repeat (first | (with_reducible first | exact HB.out | apply below_alloc | apply pw_below_drewN | apply below_drew1) | exact HB.out)⟩⟩
                                · rw [if_neg c39] at H
                                  have c39b0 : ((rd t371 x8_4) == a1) = false := beq_eq_false_iff_ne.mpr c39
                                  have c39b1 : ((rd t371 x8_4) != a1) = true := bne_iff_ne.mpr c39
                                  have H' := Aside0.mk H
                                  clear H
                                  have p382 : 0 ≤ (x8_4 : Int) := of_decide_eq_true (by first | (with_reducible assumption) | assumption)
                                  have q382 : x8_4 < (t371.length : Int) := of_decide_eq_true (by first | (with_reducible assumption) | assumption)
                                  obtain ⟨ad382, e382, hx382_0⟩ := Kd.at_int (Kd.R_reads' HO_6.out).2.2 x8_4 p382 q382
                                  obtain rfl : ad381 = ad382 := (by injection e382)
                                  replace p382 := eq_true p382
                                  replace q382 := eq_true q382
                                  go_wp2
                                  repeat (go_quiet (fail); try go_wp2)
                                  go_roundg k4
                                  case measure => have := HJ6.out; have := HJ16.out; have := HJ33.out; have := HK4.out; omega
                                  case rel => exact ⟨(x7_4), (wrap64 (x8_4 + 1)), (by first | rfl | (simp; done) | (simp [*]; done)), (by first | rfl | (simp; done) | (simp [*]; done)), H', ⟨by have := HJ6.out; have := HJ16.out; have := HJ33.out; have := HK4.out; omega⟩, ⟨by (with_reducible repeat (first | apply Kd.R_alloc | apply Kd.R_drewN | apply Kd.R_drew)); exact HO_6.out⟩, ⟨by repeat (first | (with_reducible first | exact HB.out | apply below_alloc | apply pw_below_drewN | apply below_drew1) | exact HB.out)⟩⟩
                              · rw [if_neg c38] at H
                                exact absurd H (by simp)
                            · rw [if_neg c37] at H
                              have c37b0 : decide (x8_4 < (t371.length : Int)) = false := decide_eq_false c37
                              clear c37
                              replace H := Option.bind_eq_some_iff.mp H
                              obtain ⟨t386, A430, H⟩ := H
                              replace H : (bywashlaw14_DomTree.l1 k4 a1 t369 t371 x7_4 t386 0) = some r := H
                              have A43 := Aside0.mk A430
                              clear A430
                              have H' := Aside0.mk H
                              clear H
                              go_wp2_with (first | (go_at_call 25; (with_reducible refine (dom_Chain.calls k4 _ _ t371 a1 t386 _ ?side1 ?side2 A43.out).mono ?_); (case side1 => repeat (first | exact (Kd.R_reads' HO_6.out).2.2 | (with_reducible refine Kd.C_alloc ?_ _) | (with_reducible refine Kd.C_drewN ?_ _) | (with_reducible refine Kd.C_drew ?_))); (case side2 => exact (Kd.R_reads' HO_6.out).2.1); rintro e w44 ⟨v387, rfl, ho0, hb⟩; have n0_ := Aside0.mk (Kd.R_elder' (by (with_reducible repeat (first | apply Kd.R_alloc | apply Kd.R_drewN | apply Kd.R_drew)); exact HO_6.out) (Kd.R_base ho0) hb); have n1_ := Aside0.mk (Kd.R_lower (Kd.R_new' ho0 (Kd.R_lt (by (with_reducible repeat (first | apply Kd.R_alloc | apply Kd.R_drewN | apply Kd.R_drew)); exact HO_6.out))) (below_size (by repeat (first | (with_reducible first | exact HB.out | apply below_alloc | apply pw_below_drewN | apply below_drew1) | exact HB.out)))); have n2_ := Aside0.mk (below_step (by repeat (first | (with_reducible first | exact HB.out | apply below_alloc | apply pw_below_drewN | apply below_drew1) | exact HB.out)) hb); clear HO_6; clear HB; have HO_6 := n0_; have HO388 := n1_; have HB := n2_; clear n0_ n1_ n2_; (try clear hb); (try clear hb2); (try clear hk); (try clear hi); (try clear ho0)))
                              repeat (go_quiet (first | (go_at_call 25; (with_reducible refine (dom_Chain.calls k4 _ _ t371 a1 t386 _ ?side1 ?side2 A43.out).mono ?_); (case side1 => repeat (first | exact (Kd.R_reads' HO_6.out).2.2 | (with_reducible refine Kd.C_alloc ?_ _) | (with_reducible refine Kd.C_drewN ?_ _) | (with_reducible refine Kd.C_drew ?_))); (case side2 => exact (Kd.R_reads' HO_6.out).2.1); rintro e w44 ⟨v387, rfl, ho0, hb⟩; have n0_ := Aside0.mk (Kd.R_elder' (by (with_reducible repeat (first | apply Kd.R_alloc | apply Kd.R_drewN | apply Kd.R_drew)); exact HO_6.out) (Kd.R_base ho0) hb); have n1_ := Aside0.mk (Kd.R_lower (Kd.R_new' ho0 (Kd.R_lt (by (with_reducible repeat (first | apply Kd.R_alloc | apply Kd.R_drewN | apply Kd.R_drew)); exact HO_6.out))) (below_size (by repeat (first | (with_reducible first | exact HB.out | apply below_alloc | apply pw_below_drewN | apply below_drew1) | exact HB.out)))); have n2_ := Aside0.mk (below_step (by repeat (first | (with_reducible first | exact HB.out | apply below_alloc | apply pw_below_drewN | apply below_drew1) | exact HB.out)) hb); clear HO_6; clear HB; have HO_6 := n0_; have HO388 := n1_; have HB := n2_; clear n0_ n1_ n2_; (try clear hb); (try clear hb2); (try clear hk); (try clear hi); (try clear ho0))); try go_wp2_with (first | (go_at_call 25; (with_reducible refine (dom_Chain.calls k4 _ _ t371 a1 t386 _ ?side1 ?side2 A43.out).mono ?_); (case side1 => repeat (first | exact (Kd.R_reads' HO_6.out).2.2 | (with_reducible refine Kd.C_alloc ?_ _) | (with_reducible refine Kd.C_drewN ?_ _) | (with_reducible refine Kd.C_drew ?_))); (case side2 => exact (Kd.R_reads' HO_6.out).2.1); rintro e w44 ⟨v387, rfl, ho0, hb⟩; have n0_ := Aside0.mk (Kd.R_elder' (by (with_reducible repeat (first | apply Kd.R_alloc | apply Kd.R_drewN | apply Kd.R_drew)); exact HO_6.out) (Kd.R_base ho0) hb); have n1_ := Aside0.mk (Kd.R_lower (Kd.R_new' ho0 (Kd.R_lt (by (with_reducible repeat (first | apply Kd.R_alloc | apply Kd.R_drewN | apply Kd.R_drew)); exact HO_6.out))) (below_size (by repeat (first | (with_reducible first | exact HB.out | apply below_alloc | apply pw_below_drewN | apply below_drew1) | exact HB.out)))); have n2_ := Aside0.mk (below_step (by repeat (first | (with_reducible first | exact HB.out | apply below_alloc | apply pw_below_drewN | apply below_drew1) | exact HB.out)) hb); clear HO_6; clear HB; have HO_6 := n0_; have HO388 := n1_; have HB := n2_; clear n0_ n1_ n2_; (try clear hb); (try clear hb2); (try clear hk); (try clear hi); (try clear ho0))))
                              go_loopg [10] k4 (fun kq v10 w' => ∃ (x10_5 : Int), v10 = .int .i64 x10_5 ∧ Aside0 (bywashlaw14_DomTree.l1 kq a1 t369 t371 x7_4 t386 x10_5 = some r) ∧ Aside0 (kq ≤ k4) ∧ Aside0 (Kd.R (Kd.int .i64) 3 w' w.heap.size (fun k_ => some k_ ≠ (v387 : Value).ownBlock) (.slice (some ad381) t371.length co35) t371) ∧ Aside0 (Kd.R (Kd.int .i64) 3 w' w.heap.size (fun k_ => some k_ ≠ ((.slice (some ad381) t371.length co35) : Value).ownBlock) v387 t386) ∧ Aside0 (Below w.heap.size w w'))
                              case atStart => exact ⟨(0), (by first | rfl | (simp; done) | (simp [*]; done)), H', ⟨Nat.le_refl _⟩, ⟨by (with_reducible repeat (first | apply Kd.R_alloc | apply Kd.R_drewN | apply Kd.R_drew)); exact Kd.R_mono HO_6.out (fun _ hk => hk.2)⟩, ⟨by (with_reducible repeat (first | apply Kd.R_alloc | apply Kd.R_drewN | apply Kd.R_drew)); exact Kd.R_mono HO388.out (fun _ hk => hk.2)⟩, ⟨by repeat (first | (with_reducible first | exact HB.out | apply below_alloc | apply pw_below_drewN | apply below_drew1) | exact HB.out)⟩⟩
                              case round =>
                                clear H'
                                try clear c1
                                try clear c2
                                try clear p2
                                try clear c3
                                try clear p3
                                try clear q3
                                try clear hx3
                                try clear c5
                                try clear p6
                                try clear c7
                                try clear c11
                                try clear c16
                                try clear c18
                                try clear c18b0
                                try clear c19
                                try clear c20
                                try clear c22
                                try clear c22b0
                                try clear c22b1
                                try clear c22b2
                                try clear c32
                                try clear c32b0
                                try clear c33
                                try clear c33b0
                                try clear c36
                                try clear c36b0
                                try clear c36b1
                                try clear c37
                                try clear c37b0
                                try clear c38
                                try clear c38b0
                                try clear p38
                                try clear q38
                                try clear hx38
                                try clear c39
                                try clear c39b0
                                try clear c39b1
                                try clear hx381_0
                                try clear hx382_0
                                try clear p2
                                try clear p3
                                try clear p381
                                try clear p382
                                try clear q3
                                try clear q381
                                try clear q382
                                obtain ⟨x10_5, rfl, HA, HK5, HO_6, HO_9, HB⟩ := hrel
                                cases gk with
                                | zero => exact absurd HA.out (by simp [bywashlaw14_DomTree.l1])
                                | succ k5 =>
                                  have H := HA.out
                                  clear HA
                                  simp only [bywashlaw14_DomTree.l1] at H
                                  by_cases c45 : x10_5 < (t386.length : Int)
                                  · rw [if_pos c45] at H
                                    have c45b0 : decide (x10_5 < (t386.length : Int)) = true := decide_eq_true c45
                                    clear c45
                                    by_cases c46 : x10_5 = 0
                                    · rw [if_pos c46] at H
                                      have c46b0 : (x10_5 == 0) = true := beq_iff_eq.mpr c46
                                      have c46b1 : (x10_5 != 0) = false := bne_eq_false_iff_eq.mpr c46
                                      clear c46
                                      by_cases c47 : 0 ≤ x10_5
                                      · rw [if_pos c47] at H
                                        have c47b0 : decide (0 ≤ x10_5) = true := decide_eq_true c47
                                        clear c47
                                        by_cases c48 : (rd t386 x10_5) = a1
                                        · rw [if_pos c48] at H
                                          have c48b0 : ((rd t386 x10_5) == a1) = true := beq_iff_eq.mpr c48
                                          have c48b1 : ((rd t386 x10_5) != a1) = false := bne_eq_false_iff_eq.mpr c48
                                          clear c48
                                          by_cases c49 : x10_5 > 0
                                          · rw [if_pos c49] at H
                                            have c49b0 : decide (0 < x10_5) = true := decide_eq_true c49
                                            clear c49
                                            obtain ⟨ji50, hji50⟩ : ∃ j_ : Int, (wrap64 (x10_5 - 1)) = j_ := ⟨_, rfl⟩
                                            replace H : (if 0 ≤ (ji50) then (if (ji50) < (t386.length : Int) then (if 0 ≤ (rd t386 (ji50)) then (if (rd t386 (ji50)) < (t371.length : Int) then (if (rd t386 x10_5) = (rd t371 (rd t386 (ji50))) then (if x10_5 = (wrap64 ((t386.length : Int) - 1)) then (if (rd t386 x10_5) = 0 then (bywashlaw14_DomTree.l1 k5 a1 t369 t371 x7_4 t386 (wrap64 (x10_5 + 1))) else (some false)) else (bywashlaw14_DomTree.l1 k5 a1 t369 t371 x7_4 t386 (wrap64 (x10_5 + 1)))) else (some false)) else (none)) else (none)) else (none)) else (none)) = some r := by first | (rw [hji50] at H; exact H) | (simp only [hji50] at H ⊢; exact H)
                                            have hji50w : (IntKind.i64.wrap (x10_5 - 1)) = ji50 := (i64_w _).trans hji50
                                            by_cases c51 : 0 ≤ (ji50)
                                            · rw [if_pos c51] at H
                                              have c51b0 : decide (0 ≤ (ji50)) = true := decide_eq_true c51
                                              clear c51
                                              by_cases c52 : (ji50) < (t386.length : Int)
                                              · rw [if_pos c52] at H
                                                have c52b0 : decide ((ji50) < (t386.length : Int)) = true := decide_eq_true c52
                                                clear c52
                                                by_cases c53 : 0 ≤ (rd t386 (ji50))
                                                · rw [if_pos c53] at H
                                                  have c53b0 : decide (0 ≤ (rd t386 (ji50))) = true := decide_eq_true c53
                                                  clear c53
                                                  by_cases c54 : (rd t386 (ji50)) < (t371.length : Int)
                                                  · rw [if_pos c54] at H
                                                    have c54b0 : decide ((rd t386 (ji50)) < (t371.length : Int)) = true := decide_eq_true c54
                                                    clear c54
                                                    by_cases c55 : (rd t386 x10_5) = (rd t371 (rd t386 (ji50)))
                                                    · rw [if_pos c55] at H
                                                      have c55b0 : ((rd t386 x10_5) == (rd t371 (rd t386 (ji50)))) = true := beq_iff_eq.mpr c55
                                                      have c55b1 : ((rd t386 x10_5) != (rd t371 (rd t386 (ji50)))) = false := bne_eq_false_iff_eq.mpr c55
                                                      clear c55
                                                      by_cases c56 : x10_5 = (wrap64 ((t386.length : Int) - 1))
                                                      · rw [if_pos c56] at H
                                                        have c56b0 : (x10_5 == (wrap64 ((t386.length : Int) - 1))) = true := beq_iff_eq.mpr c56
                                                        have c56b1 : (x10_5 != (wrap64 ((t386.length : Int) - 1))) = false := bne_eq_false_iff_eq.mpr c56
                                                        clear c56
                                                        by_cases c57 : (rd t386 x10_5) = 0
                                                        · rw [if_pos c57] at H
                                                          have c57b0 : ((rd t386 x10_5) == 0) = true := beq_iff_eq.mpr c57
                                                          have c57b1 : ((rd t386 x10_5) != 0) = false := bne_eq_false_iff_eq.mpr c57
                                                          clear c57
                                                          have H' := Aside0.mk H
                                                          clear H
                                                          obtain ⟨Ao58, co58, eo58⟩ := Kd.R_slice HO_9.out
                                                          subst eo58
                                                          have p389 : 0 ≤ (x10_5 : Int) := of_decide_eq_true (by first | (with_reducible assumption) | assumption)
                                                          have q389 : x10_5 < (t386.length : Int) := of_decide_eq_true (by first | (with_reducible assumption) | assumption)
                                                          obtain ⟨ad389, e389, hx389_0⟩ := Kd.at_int (Kd.R_reads' HO_9.out).2.2 x10_5 p389 q389
                                                          cases e389
                                                          replace p389 := eq_true p389
                                                          replace q389 := eq_true q389
                                                          have p390 : 0 ≤ (x10_5 : Int) := of_decide_eq_true (by first | (with_reducible assumption) | assumption)
                                                          have q390 : x10_5 < (t386.length : Int) := of_decide_eq_true (by first | (with_reducible assumption) | assumption)
                                                          obtain ⟨ad390, e390, hx390_0⟩ := Kd.at_int (Kd.R_reads' HO_9.out).2.2 x10_5 p390 q390
                                                          obtain rfl : ad389 = ad390 := (by injection e390)
                                                          replace p390 := eq_true p390
                                                          replace q390 := eq_true q390
                                                          have p391 : 0 ≤ ((ji50) : Int) := of_decide_eq_true (by first | (with_reducible assumption) | assumption)
                                                          have q391 : (ji50) < (t386.length : Int) := of_decide_eq_true (by first | (with_reducible assumption) | assumption)
                                                          obtain ⟨ad391, e391, hx391_0⟩ := Kd.at_int (Kd.R_reads' HO_9.out).2.2 (ji50) p391 q391
                                                          obtain rfl : ad389 = ad391 := (by injection e391)
                                                          replace p391 := eq_true p391
                                                          replace q391 := eq_true q391
                                                          have p392 : 0 ≤ ((rd t386 (ji50)) : Int) := of_decide_eq_true (by first | (with_reducible assumption) | assumption)
                                                          have q392 : (rd t386 (ji50)) < (t371.length : Int) := of_decide_eq_true (by first | (with_reducible assumption) | assumption)
                                                          obtain ⟨ad392, e392, hx392_0⟩ := Kd.at_int (Kd.R_reads' HO_6.out).2.2 (rd t386 (ji50)) p392 q392
                                                          obtain rfl : ad381 = ad392 := (by injection e392)
                                                          replace p392 := eq_true p392
                                                          replace q392 := eq_true q392
                                                          have p393 : 0 ≤ (x10_5 : Int) := of_decide_eq_true (by first | (with_reducible assumption) | assumption)
                                                          have q393 : x10_5 < (t386.length : Int) := of_decide_eq_true (by first | (with_reducible assumption) | assumption)
                                                          obtain ⟨ad393, e393, hx393_0⟩ := Kd.at_int (Kd.R_reads' HO_9.out).2.2 x10_5 p393 q393
                                                          obtain rfl : ad389 = ad393 := (by injection e393)
                                                          replace p393 := eq_true p393
                                                          replace q393 := eq_true q393
                                                          go_wp2
                                                          repeat (go_quiet (fail); try go_wp2)
                                                          go_roundg k5
                                                          case measure => have := HJ6.out; have := HJ16.out; have := HJ33.out; have := HK4.out; have := HK5.out; omega
                                                          case rel => exact ⟨(wrap64 (x10_5 + 1)), (by first | rfl | (simp; done) | (simp [*]; done)), H', ⟨by have := HJ6.out; have := HJ16.out; have := HJ33.out; have := HK4.out; have := HK5.out; omega⟩, ⟨by (with_reducible repeat (first | apply Kd.R_alloc | apply Kd.R_drewN | apply Kd.R_drew)); exact HO_6.out⟩, ⟨by (with_reducible repeat (first | apply Kd.R_alloc | apply Kd.R_drewN | apply Kd.R_drew)); exact HO_9.out⟩, ⟨by repeat (first | (with_reducible first | exact HB.out | apply below_alloc | apply pw_below_drewN | apply below_drew1) | exact HB.out)⟩⟩
                                                        · rw [if_neg c57] at H
                                                          have c57b0 : ((rd t386 x10_5) == 0) = false := beq_eq_false_iff_ne.mpr c57
                                                          have c57b1 : ((rd t386 x10_5) != 0) = true := bne_iff_ne.mpr c57
                                                          obtain rfl := Option.some.inj H
                                                          obtain ⟨Ao59, co59, eo59⟩ := Kd.R_slice HO_9.out
                                                          subst eo59
                                                          have p389 : 0 ≤ (x10_5 : Int) := of_decide_eq_true (by first | (with_reducible assumption) | assumption)
                                                          have q389 : x10_5 < (t386.length : Int) := of_decide_eq_true (by first | (with_reducible assumption) | assumption)
                                                          obtain ⟨ad389, e389, hx389_0⟩ := Kd.at_int (Kd.R_reads' HO_9.out).2.2 x10_5 p389 q389
                                                          cases e389
                                                          replace p389 := eq_true p389
                                                          replace q389 := eq_true q389
                                                          have p390 : 0 ≤ (x10_5 : Int) := of_decide_eq_true (by first | (with_reducible assumption) | assumption)
                                                          have q390 : x10_5 < (t386.length : Int) := of_decide_eq_true (by first | (with_reducible assumption) | assumption)
                                                          obtain ⟨ad390, e390, hx390_0⟩ := Kd.at_int (Kd.R_reads' HO_9.out).2.2 x10_5 p390 q390
                                                          obtain rfl : ad389 = ad390 := (by injection e390)
                                                          replace p390 := eq_true p390
                                                          replace q390 := eq_true q390
                                                          have p391 : 0 ≤ ((ji50) : Int) := of_decide_eq_true (by first | (with_reducible assumption) | assumption)
                                                          have q391 : (ji50) < (t386.length : Int) := of_decide_eq_true (by first | (with_reducible assumption) | assumption)
                                                          obtain ⟨ad391, e391, hx391_0⟩ := Kd.at_int (Kd.R_reads' HO_9.out).2.2 (ji50) p391 q391
                                                          obtain rfl : ad389 = ad391 := (by injection e391)
                                                          replace p391 := eq_true p391
                                                          replace q391 := eq_true q391
                                                          have p392 : 0 ≤ ((rd t386 (ji50)) : Int) := of_decide_eq_true (by first | (with_reducible assumption) | assumption)
                                                          have q392 : (rd t386 (ji50)) < (t371.length : Int) := of_decide_eq_true (by first | (with_reducible assumption) | assumption)
                                                          obtain ⟨ad392, e392, hx392_0⟩ := Kd.at_int (Kd.R_reads' HO_6.out).2.2 (rd t386 (ji50)) p392 q392
                                                          obtain rfl : ad381 = ad392 := (by injection e392)
                                                          replace p392 := eq_true p392
                                                          replace q392 := eq_true q392
                                                          have p393 : 0 ≤ (x10_5 : Int) := of_decide_eq_true (by first | (with_reducible assumption) | assumption)
                                                          have q393 : x10_5 < (t386.length : Int) := of_decide_eq_true (by first | (with_reducible assumption) | assumption)
                                                          obtain ⟨ad393, e393, hx393_0⟩ := Kd.at_int (Kd.R_reads' HO_9.out).2.2 x10_5 p393 q393
                                                          obtain rfl : ad389 = ad393 := (by injection e393)
                                                          replace p393 := eq_true p393
                                                          replace q393 := eq_true q393
                                                          go_wp2
                                                          repeat (go_quiet (fail); try go_wp2)
                                                          go_ret
                                                          exact ⟨by first | rfl | (simp [errW_none, errW_some] <;> rfl) | (simp only [← hji50]; first | rfl | (simp [errW_none, errW_some] <;> rfl)) | (simp [*, errW_none, errW_some] <;> rfl) | (exfalso; (try simp_all); (try omega); done), by repeat (first | (with_reducible first | exact HB.out | apply below_alloc | apply pw_below_drewN | apply below_drew1) | exact HB.out)⟩
                                                      · rw [if_neg c56] at H
                                                        have c56b0 : (x10_5 == (wrap64 ((t386.length : Int) - 1))) = false := beq_eq_false_iff_ne.mpr c56
                                                        have c56b1 : (x10_5 != (wrap64 ((t386.length : Int) - 1))) = true := bne_iff_ne.mpr c56
                                                        have H' := Aside0.mk H
                                                        clear H
                                                        obtain ⟨Ao60, co60, eo60⟩ := Kd.R_slice HO_9.out
                                                        subst eo60
                                                        have p389 : 0 ≤ (x10_5 : Int) := of_decide_eq_true (by first | (with_reducible assumption) | assumption)
                                                        have q389 : x10_5 < (t386.length : Int) := of_decide_eq_true (by first | (with_reducible assumption) | assumption)
                                                        obtain ⟨ad389, e389, hx389_0⟩ := Kd.at_int (Kd.R_reads' HO_9.out).2.2 x10_5 p389 q389
                                                        cases e389
                                                        replace p389 := eq_true p389
                                                        replace q389 := eq_true q389
                                                        have p390 : 0 ≤ (x10_5 : Int) := of_decide_eq_true (by first | (with_reducible assumption) | assumption)
                                                        have q390 : x10_5 < (t386.length : Int) := of_decide_eq_true (by first | (with_reducible assumption) | assumption)
                                                        obtain ⟨ad390, e390, hx390_0⟩ := Kd.at_int (Kd.R_reads' HO_9.out).2.2 x10_5 p390 q390
                                                        obtain rfl : ad389 = ad390 := (by injection e390)
                                                        replace p390 := eq_true p390
                                                        replace q390 := eq_true q390
                                                        have p391 : 0 ≤ ((ji50) : Int) := of_decide_eq_true (by first | (with_reducible assumption) | assumption)
                                                        have q391 : (ji50) < (t386.length : Int) := of_decide_eq_true (by first | (with_reducible assumption) | assumption)
                                                        obtain ⟨ad391, e391, hx391_0⟩ := Kd.at_int (Kd.R_reads' HO_9.out).2.2 (ji50) p391 q391
                                                        obtain rfl : ad389 = ad391 := (by injection e391)
                                                        replace p391 := eq_true p391
                                                        replace q391 := eq_true q391
                                                        have p392 : 0 ≤ ((rd t386 (ji50)) : Int) := of_decide_eq_true (by first | (with_reducible assumption) | assumption)
                                                        have q392 : (rd t386 (ji50)) < (t371.length : Int) := of_decide_eq_true (by first | (with_reducible assumption) | assumption)
                                                        obtain ⟨ad392, e392, hx392_0⟩ := Kd.at_int (Kd.R_reads' HO_6.out).2.2 (rd t386 (ji50)) p392 q392
                                                        obtain rfl : ad381 = ad392 := (by injection e392)
                                                        replace p392 := eq_true p392
                                                        replace q392 := eq_true q392
                                                        go_wp2
                                                        repeat (go_quiet (fail); try go_wp2)
                                                        go_roundg k5
                                                        case measure => have := HJ6.out; have := HJ16.out; have := HJ33.out; have := HK4.out; have := HK5.out; omega
                                                        case rel => exact ⟨(wrap64 (x10_5 + 1)), (by first | rfl | (simp; done) | (simp [*]; done)), H', ⟨by have := HJ6.out; have := HJ16.out; have := HJ33.out; have := HK4.out; have := HK5.out; omega⟩, ⟨by (with_reducible repeat (first | apply Kd.R_alloc | apply Kd.R_drewN | apply Kd.R_drew)); exact HO_6.out⟩, ⟨by (with_reducible repeat (first | apply Kd.R_alloc | apply Kd.R_drewN | apply Kd.R_drew)); exact HO_9.out⟩, ⟨by repeat (first | (with_reducible first | exact HB.out | apply below_alloc | apply pw_below_drewN | apply below_drew1) | exact HB.out)⟩⟩
                                                    · rw [if_neg c55] at H
                                                      have c55b0 : ((rd t386 x10_5) == (rd t371 (rd t386 (ji50)))) = false := beq_eq_false_iff_ne.mpr c55
                                                      have c55b1 : ((rd t386 x10_5) != (rd t371 (rd t386 (ji50)))) = true := bne_iff_ne.mpr c55
                                                      obtain rfl := Option.some.inj H
                                                      obtain ⟨Ao61, co61, eo61⟩ := Kd.R_slice HO_9.out
                                                      subst eo61
                                                      have p389 : 0 ≤ (x10_5 : Int) := of_decide_eq_true (by first | (with_reducible assumption) | assumption)
                                                      have q389 : x10_5 < (t386.length : Int) := of_decide_eq_true (by first | (with_reducible assumption) | assumption)
                                                      obtain ⟨ad389, e389, hx389_0⟩ := Kd.at_int (Kd.R_reads' HO_9.out).2.2 x10_5 p389 q389
                                                      cases e389
                                                      replace p389 := eq_true p389
                                                      replace q389 := eq_true q389
                                                      have p390 : 0 ≤ (x10_5 : Int) := of_decide_eq_true (by first | (with_reducible assumption) | assumption)
                                                      have q390 : x10_5 < (t386.length : Int) := of_decide_eq_true (by first | (with_reducible assumption) | assumption)
                                                      obtain ⟨ad390, e390, hx390_0⟩ := Kd.at_int (Kd.R_reads' HO_9.out).2.2 x10_5 p390 q390
                                                      obtain rfl : ad389 = ad390 := (by injection e390)
                                                      replace p390 := eq_true p390
                                                      replace q390 := eq_true q390
                                                      have p391 : 0 ≤ ((ji50) : Int) := of_decide_eq_true (by first | (with_reducible assumption) | assumption)
                                                      have q391 : (ji50) < (t386.length : Int) := of_decide_eq_true (by first | (with_reducible assumption) | assumption)
                                                      obtain ⟨ad391, e391, hx391_0⟩ := Kd.at_int (Kd.R_reads' HO_9.out).2.2 (ji50) p391 q391
                                                      obtain rfl : ad389 = ad391 := (by injection e391)
                                                      replace p391 := eq_true p391
                                                      replace q391 := eq_true q391
                                                      have p392 : 0 ≤ ((rd t386 (ji50)) : Int) := of_decide_eq_true (by first | (with_reducible assumption) | assumption)
                                                      have q392 : (rd t386 (ji50)) < (t371.length : Int) := of_decide_eq_true (by first | (with_reducible assumption) | assumption)
                                                      obtain ⟨ad392, e392, hx392_0⟩ := Kd.at_int (Kd.R_reads' HO_6.out).2.2 (rd t386 (ji50)) p392 q392
                                                      obtain rfl : ad381 = ad392 := (by injection e392)
                                                      replace p392 := eq_true p392
                                                      replace q392 := eq_true q392
                                                      go_wp2
                                                      repeat (go_quiet (fail); try go_wp2)
                                                      go_ret
                                                      exact ⟨by first | rfl | (simp [errW_none, errW_some] <;> rfl) | (simp only [← hji50]; first | rfl | (simp [errW_none, errW_some] <;> rfl)) | (simp [*, errW_none, errW_some] <;> rfl) | (exfalso; (try simp_all); (try omega); done), by repeat (first | (with_reducible first | exact HB.out | apply below_alloc | apply pw_below_drewN | apply below_drew1) | exact HB.out)⟩
                                                  · rw [if_neg c54] at H
                                                    exact absurd H (by simp)
                                                · rw [if_neg c53] at H
                                                  exact absurd H (by simp)
                                              · rw [if_neg c52] at H
                                                exact absurd H (by simp)
                                            · rw [if_neg c51] at H
                                              exact absurd H (by simp)
                                          · rw [if_neg c49] at H
                                            have c49b0 : decide (0 < x10_5) = false := decide_eq_false c49
                                            clear c49
                                            by_cases c62 : x10_5 = (wrap64 ((t386.length : Int) - 1))
                                            · rw [if_pos c62] at H
                                              have c62b0 : (x10_5 == (wrap64 ((t386.length : Int) - 1))) = true := beq_iff_eq.mpr c62
                                              have c62b1 : (x10_5 != (wrap64 ((t386.length : Int) - 1))) = false := bne_eq_false_iff_eq.mpr c62
                                              clear c62
                                              by_cases c63 : (rd t386 x10_5) = 0
                                              · rw [if_pos c63] at H
                                                have c63b0 : ((rd t386 x10_5) == 0) = true := beq_iff_eq.mpr c63
                                                have c63b1 : ((rd t386 x10_5) != 0) = false := bne_eq_false_iff_eq.mpr c63
                                                clear c63
                                                have H' := Aside0.mk H
                                                clear H
                                                obtain ⟨Ao64, co64, eo64⟩ := Kd.R_slice HO_9.out
                                                subst eo64
                                                have p389 : 0 ≤ (x10_5 : Int) := of_decide_eq_true (by first | (with_reducible assumption) | assumption)
                                                have q389 : x10_5 < (t386.length : Int) := of_decide_eq_true (by first | (with_reducible assumption) | assumption)
                                                obtain ⟨ad389, e389, hx389_0⟩ := Kd.at_int (Kd.R_reads' HO_9.out).2.2 x10_5 p389 q389
                                                cases e389
                                                replace p389 := eq_true p389
                                                replace q389 := eq_true q389
                                                have p394 : 0 ≤ (x10_5 : Int) := of_decide_eq_true (by first | (with_reducible assumption) | assumption)
                                                have q394 : x10_5 < (t386.length : Int) := of_decide_eq_true (by first | (with_reducible assumption) | assumption)
                                                obtain ⟨ad394, e394, hx394_0⟩ := Kd.at_int (Kd.R_reads' HO_9.out).2.2 x10_5 p394 q394
                                                obtain rfl : ad389 = ad394 := (by injection e394)
                                                replace p394 := eq_true p394
                                                replace q394 := eq_true q394
                                                go_wp2
                                                repeat (go_quiet (fail); try go_wp2)
                                                go_roundg k5
                                                case measure => have := HJ6.out; have := HJ16.out; have := HJ33.out; have := HK4.out; have := HK5.out; omega
                                                case rel => exact ⟨(wrap64 (x10_5 + 1)), (by first | rfl | (simp; done) | (simp [*]; done)), H', ⟨by have := HJ6.out; have := HJ16.out; have := HJ33.out; have := HK4.out; have := HK5.out; omega⟩, ⟨by (with_reducible repeat (first | apply Kd.R_alloc | apply Kd.R_drewN | apply Kd.R_drew)); exact HO_6.out⟩, ⟨by (with_reducible repeat (first | apply Kd.R_alloc | apply Kd.R_drewN | apply Kd.R_drew)); exact HO_9.out⟩, ⟨by repeat (first | (with_reducible first | exact HB.out | apply below_alloc | apply pw_below_drewN | apply below_drew1) | exact HB.out)⟩⟩
                                              · rw [if_neg c63] at H
                                                have c63b0 : ((rd t386 x10_5) == 0) = false := beq_eq_false_iff_ne.mpr c63
                                                have c63b1 : ((rd t386 x10_5) != 0) = true := bne_iff_ne.mpr c63
                                                obtain rfl := Option.some.inj H
                                                obtain ⟨Ao65, co65, eo65⟩ := Kd.R_slice HO_9.out
                                                subst eo65
                                                have p389 : 0 ≤ (x10_5 : Int) := of_decide_eq_true (by first | (with_reducible assumption) | assumption)
                                                have q389 : x10_5 < (t386.length : Int) := of_decide_eq_true (by first | (with_reducible assumption) | assumption)
                                                obtain ⟨ad389, e389, hx389_0⟩ := Kd.at_int (Kd.R_reads' HO_9.out).2.2 x10_5 p389 q389
                                                cases e389
                                                replace p389 := eq_true p389
                                                replace q389 := eq_true q389
                                                have p394 : 0 ≤ (x10_5 : Int) := of_decide_eq_true (by first | (with_reducible assumption) | assumption)
                                                have q394 : x10_5 < (t386.length : Int) := of_decide_eq_true (by first | (with_reducible assumption) | assumption)
                                                obtain ⟨ad394, e394, hx394_0⟩ := Kd.at_int (Kd.R_reads' HO_9.out).2.2 x10_5 p394 q394
                                                obtain rfl : ad389 = ad394 := (by injection e394)
                                                replace p394 := eq_true p394
                                                replace q394 := eq_true q394
                                                go_wp2
                                                repeat (go_quiet (fail); try go_wp2)
                                                go_ret
                                                exact ⟨by first | rfl | (simp [errW_none, errW_some] <;> rfl) | (simp [*, errW_none, errW_some] <;> rfl) | (exfalso; (try simp_all); (try omega); done), by repeat (first | (with_reducible first | exact HB.out | apply below_alloc | apply pw_below_drewN | apply below_drew1) | exact HB.out)⟩
                                            · rw [if_neg c62] at H
                                              have c62b0 : (x10_5 == (wrap64 ((t386.length : Int) - 1))) = false := beq_eq_false_iff_ne.mpr c62
                                              have c62b1 : (x10_5 != (wrap64 ((t386.length : Int) - 1))) = true := bne_iff_ne.mpr c62
                                              have H' := Aside0.mk H
                                              clear H
                                              obtain ⟨Ao66, co66, eo66⟩ := Kd.R_slice HO_9.out
                                              subst eo66
                                              have p389 : 0 ≤ (x10_5 : Int) := of_decide_eq_true (by first | (with_reducible assumption) | assumption)
                                              have q389 : x10_5 < (t386.length : Int) := of_decide_eq_true (by first | (with_reducible assumption) | assumption)
                                              obtain ⟨ad389, e389, hx389_0⟩ := Kd.at_int (Kd.R_reads' HO_9.out).2.2 x10_5 p389 q389
                                              cases e389
                                              replace p389 := eq_true p389
                                              replace q389 := eq_true q389
                                              go_wp2
                                              repeat (go_quiet (fail); try go_wp2)
                                              go_roundg k5
                                              case measure => have := HJ6.out; have := HJ16.out; have := HJ33.out; have := HK4.out; have := HK5.out; omega
                                              case rel => exact ⟨(wrap64 (x10_5 + 1)), (by first | rfl | (simp; done) | (simp [*]; done)), H', ⟨by have := HJ6.out; have := HJ16.out; have := HJ33.out; have := HK4.out; have := HK5.out; omega⟩, ⟨by (with_reducible repeat (first | apply Kd.R_alloc | apply Kd.R_drewN | apply Kd.R_drew)); exact HO_6.out⟩, ⟨by (with_reducible repeat (first | apply Kd.R_alloc | apply Kd.R_drewN | apply Kd.R_drew)); exact HO_9.out⟩, ⟨by repeat (first | (with_reducible first | exact HB.out | apply below_alloc | apply pw_below_drewN | apply below_drew1) | exact HB.out)⟩⟩
                                        · rw [if_neg c48] at H
                                          have c48b0 : ((rd t386 x10_5) == a1) = false := beq_eq_false_iff_ne.mpr c48
                                          have c48b1 : ((rd t386 x10_5) != a1) = true := bne_iff_ne.mpr c48
                                          obtain rfl := Option.some.inj H
                                          obtain ⟨Ao67, co67, eo67⟩ := Kd.R_slice HO_9.out
                                          subst eo67
                                          have p389 : 0 ≤ (x10_5 : Int) := of_decide_eq_true (by first | (with_reducible assumption) | assumption)
                                          have q389 : x10_5 < (t386.length : Int) := of_decide_eq_true (by first | (with_reducible assumption) | assumption)
                                          obtain ⟨ad389, e389, hx389_0⟩ := Kd.at_int (Kd.R_reads' HO_9.out).2.2 x10_5 p389 q389
                                          cases e389
                                          replace p389 := eq_true p389
                                          replace q389 := eq_true q389
                                          go_wp2
                                          repeat (go_quiet (fail); try go_wp2)
                                          go_ret
                                          exact ⟨by first | rfl | (simp [errW_none, errW_some] <;> rfl) | (simp [*, errW_none, errW_some] <;> rfl) | (exfalso; (try simp_all); (try omega); done), by repeat (first | (with_reducible first | exact HB.out | apply below_alloc | apply pw_below_drewN | apply below_drew1) | exact HB.out)⟩
                                      · rw [if_neg c47] at H
                                        exact absurd H (by simp)
                                    · rw [if_neg c46] at H
                                      have c46b0 : (x10_5 == 0) = false := beq_eq_false_iff_ne.mpr c46
                                      have c46b1 : (x10_5 != 0) = true := bne_iff_ne.mpr c46
                                      by_cases c68 : x10_5 > 0
                                      · rw [if_pos c68] at H
                                        have c68b0 : decide (0 < x10_5) = true := decide_eq_true c68
                                        clear c68
                                        by_cases c69 : 0 ≤ x10_5
                                        · rw [if_pos c69] at H
                                          have c69b0 : decide (0 ≤ x10_5) = true := decide_eq_true c69
                                          clear c69
                                          obtain ⟨ji70, hji70⟩ : ∃ j_ : Int, (wrap64 (x10_5 - 1)) = j_ := ⟨_, rfl⟩
                                          replace H : (if 0 ≤ (ji70) then (if (ji70) < (t386.length : Int) then (if 0 ≤ (rd t386 (ji70)) then (if (rd t386 (ji70)) < (t371.length : Int) then (if (rd t386 x10_5) = (rd t371 (rd t386 (ji70))) then (if x10_5 = (wrap64 ((t386.length : Int) - 1)) then (if (rd t386 x10_5) = 0 then (bywashlaw14_DomTree.l1 k5 a1 t369 t371 x7_4 t386 (wrap64 (x10_5 + 1))) else (some false)) else (bywashlaw14_DomTree.l1 k5 a1 t369 t371 x7_4 t386 (wrap64 (x10_5 + 1)))) else (some false)) else (none)) else (none)) else (none)) else (none)) = some r := by first | (rw [hji70] at H; exact H) | (simp only [hji70] at H ⊢; exact H)
                                          have hji70w : (IntKind.i64.wrap (x10_5 - 1)) = ji70 := (i64_w _).trans hji70
                                          by_cases c71 : 0 ≤ (ji70)
                                          · rw [if_pos c71] at H
                                            have c71b0 : decide (0 ≤ (ji70)) = true := decide_eq_true c71
                                            clear c71
                                            by_cases c72 : (ji70) < (t386.length : Int)
                                            · rw [if_pos c72] at H
                                              have c72b0 : decide ((ji70) < (t386.length : Int)) = true := decide_eq_true c72
                                              clear c72
                                              by_cases c73 : 0 ≤ (rd t386 (ji70))
                                              · rw [if_pos c73] at H
                                                have c73b0 : decide (0 ≤ (rd t386 (ji70))) = true := decide_eq_true c73
                                                clear c73
                                                by_cases c74 : (rd t386 (ji70)) < (t371.length : Int)
                                                · rw [if_pos c74] at H
                                                  have c74b0 : decide ((rd t386 (ji70)) < (t371.length : Int)) = true := decide_eq_true c74
                                                  clear c74
                                                  by_cases c75 : (rd t386 x10_5) = (rd t371 (rd t386 (ji70)))
                                                  · rw [if_pos c75] at H
                                                    have c75b0 : ((rd t386 x10_5) == (rd t371 (rd t386 (ji70)))) = true := beq_iff_eq.mpr c75
                                                    have c75b1 : ((rd t386 x10_5) != (rd t371 (rd t386 (ji70)))) = false := bne_eq_false_iff_eq.mpr c75
                                                    clear c75
                                                    by_cases c76 : x10_5 = (wrap64 ((t386.length : Int) - 1))
                                                    · rw [if_pos c76] at H
                                                      have c76b0 : (x10_5 == (wrap64 ((t386.length : Int) - 1))) = true := beq_iff_eq.mpr c76
                                                      have c76b1 : (x10_5 != (wrap64 ((t386.length : Int) - 1))) = false := bne_eq_false_iff_eq.mpr c76
                                                      clear c76
                                                      by_cases c77 : (rd t386 x10_5) = 0
                                                      · rw [if_pos c77] at H
                                                        have c77b0 : ((rd t386 x10_5) == 0) = true := beq_iff_eq.mpr c77
                                                        have c77b1 : ((rd t386 x10_5) != 0) = false := bne_eq_false_iff_eq.mpr c77
                                                        clear c77
                                                        have H' := Aside0.mk H
                                                        clear H
                                                        obtain ⟨Ao78, co78, eo78⟩ := Kd.R_slice HO_9.out
                                                        subst eo78
                                                        have p395 : 0 ≤ (x10_5 : Int) := of_decide_eq_true (by first | (with_reducible assumption) | assumption)
                                                        have q395 : x10_5 < (t386.length : Int) := of_decide_eq_true (by first | (with_reducible assumption) | assumption)
                                                        obtain ⟨ad395, e395, hx395_0⟩ := Kd.at_int (Kd.R_reads' HO_9.out).2.2 x10_5 p395 q395
                                                        cases e395
                                                        replace p395 := eq_true p395
                                                        replace q395 := eq_true q395
                                                        have p396 : 0 ≤ ((ji70) : Int) := of_decide_eq_true (by first | (with_reducible assumption) | assumption)
                                                        have q396 : (ji70) < (t386.length : Int) := of_decide_eq_true (by first | (with_reducible assumption) | assumption)
                                                        obtain ⟨ad396, e396, hx396_0⟩ := Kd.at_int (Kd.R_reads' HO_9.out).2.2 (ji70) p396 q396
                                                        obtain rfl : ad395 = ad396 := (by injection e396)
                                                        replace p396 := eq_true p396
                                                        replace q396 := eq_true q396
                                                        have p397 : 0 ≤ ((rd t386 (ji70)) : Int) := of_decide_eq_true (by first | (with_reducible assumption) | assumption)
                                                        have q397 : (rd t386 (ji70)) < (t371.length : Int) := of_decide_eq_true (by first | (with_reducible assumption) | assumption)
                                                        obtain ⟨ad397, e397, hx397_0⟩ := Kd.at_int (Kd.R_reads' HO_6.out).2.2 (rd t386 (ji70)) p397 q397
                                                        obtain rfl : ad381 = ad397 := (by injection e397)
                                                        replace p397 := eq_true p397
                                                        replace q397 := eq_true q397
                                                        have p398 : 0 ≤ (x10_5 : Int) := of_decide_eq_true (by first | (with_reducible assumption) | assumption)
                                                        have q398 : x10_5 < (t386.length : Int) := of_decide_eq_true (by first | (with_reducible assumption) | assumption)
                                                        obtain ⟨ad398, e398, hx398_0⟩ := Kd.at_int (Kd.R_reads' HO_9.out).2.2 x10_5 p398 q398
                                                        obtain rfl : ad395 = ad398 := (by injection e398)
                                                        replace p398 := eq_true p398
                                                        replace q398 := eq_true q398
                                                        go_wp2
                                                        repeat (go_quiet (fail); try go_wp2)
                                                        go_roundg k5
                                                        case measure => have := HJ6.out; have := HJ16.out; have := HJ33.out; have := HK4.out; have := HK5.out; omega
                                                        case rel => exact ⟨(wrap64 (x10_5 + 1)), (by first | rfl | (simp; done) | (simp [*]; done)), H', ⟨by have := HJ6.out; have := HJ16.out; have := HJ33.out; have := HK4.out; have := HK5.out; omega⟩, ⟨by (with_reducible repeat (first | apply Kd.R_alloc | apply Kd.R_drewN | apply Kd.R_drew)); exact HO_6.out⟩, ⟨by (with_reducible repeat (first | apply Kd.R_alloc | apply Kd.R_drewN | apply Kd.R_drew)); exact HO_9.out⟩, ⟨by repeat (first | (with_reducible first | exact HB.out | apply below_alloc | apply pw_below_drewN | apply below_drew1) | exact HB.out)⟩⟩
                                                      · rw [if_neg c77] at H
                                                        have c77b0 : ((rd t386 x10_5) == 0) = false := beq_eq_false_iff_ne.mpr c77
                                                        have c77b1 : ((rd t386 x10_5) != 0) = true := bne_iff_ne.mpr c77
                                                        obtain rfl := Option.some.inj H
                                                        obtain ⟨Ao79, co79, eo79⟩ := Kd.R_slice HO_9.out
                                                        subst eo79
                                                        have p395 : 0 ≤ (x10_5 : Int) := of_decide_eq_true (by first | (with_reducible assumption) | assumption)
                                                        have q395 : x10_5 < (t386.length : Int) := of_decide_eq_true (by first | (with_reducible assumption) | assumption)
                                                        obtain ⟨ad395, e395, hx395_0⟩ := Kd.at_int (Kd.R_reads' HO_9.out).2.2 x10_5 p395 q395
                                                        cases e395
                                                        replace p395 := eq_true p395
                                                        replace q395 := eq_true q395
                                                        have p396 : 0 ≤ ((ji70) : Int) := of_decide_eq_true (by first | (with_reducible assumption) | assumption)
                                                        have q396 : (ji70) < (t386.length : Int) := of_decide_eq_true (by first | (with_reducible assumption) | assumption)
                                                        obtain ⟨ad396, e396, hx396_0⟩ := Kd.at_int (Kd.R_reads' HO_9.out).2.2 (ji70) p396 q396
                                                        obtain rfl : ad395 = ad396 := (by injection e396)
                                                        replace p396 := eq_true p396
                                                        replace q396 := eq_true q396
                                                        have p397 : 0 ≤ ((rd t386 (ji70)) : Int) := of_decide_eq_true (by first | (with_reducible assumption) | assumption)
                                                        have q397 : (rd t386 (ji70)) < (t371.length : Int) := of_decide_eq_true (by first | (with_reducible assumption) | assumption)
                                                        obtain ⟨ad397, e397, hx397_0⟩ := Kd.at_int (Kd.R_reads' HO_6.out).2.2 (rd t386 (ji70)) p397 q397
                                                        obtain rfl : ad381 = ad397 := (by injection e397)
                                                        replace p397 := eq_true p397
                                                        replace q397 := eq_true q397
                                                        have p398 : 0 ≤ (x10_5 : Int) := of_decide_eq_true (by first | (with_reducible assumption) | assumption)
                                                        have q398 : x10_5 < (t386.length : Int) := of_decide_eq_true (by first | (with_reducible assumption) | assumption)
                                                        obtain ⟨ad398, e398, hx398_0⟩ := Kd.at_int (Kd.R_reads' HO_9.out).2.2 x10_5 p398 q398
                                                        obtain rfl : ad395 = ad398 := (by injection e398)
                                                        replace p398 := eq_true p398
                                                        replace q398 := eq_true q398
                                                        go_wp2
                                                        repeat (go_quiet (fail); try go_wp2)
                                                        go_ret
                                                        exact ⟨by first | rfl | (simp [errW_none, errW_some] <;> rfl) | (simp only [← hji70]; first | rfl | (simp [errW_none, errW_some] <;> rfl)) | (simp [*, errW_none, errW_some] <;> rfl) | (exfalso; (try simp_all); (try omega); done), by repeat (first | (with_reducible first | exact HB.out | apply below_alloc | apply pw_below_drewN | apply below_drew1) | exact HB.out)⟩
                                                    · rw [if_neg c76] at H
                                                      have c76b0 : (x10_5 == (wrap64 ((t386.length : Int) - 1))) = false := beq_eq_false_iff_ne.mpr c76
                                                      have c76b1 : (x10_5 != (wrap64 ((t386.length : Int) - 1))) = true := bne_iff_ne.mpr c76
                                                      have H' := Aside0.mk H
                                                      clear H
                                                      obtain ⟨Ao80, co80, eo80⟩ := Kd.R_slice HO_9.out
                                                      subst eo80
                                                      have p395 : 0 ≤ (x10_5 : Int) := of_decide_eq_true (by first | (with_reducible assumption) | assumption)
                                                      have q395 : x10_5 < (t386.length : Int) := of_decide_eq_true (by first | (with_reducible assumption) | assumption)
                                                      obtain ⟨ad395, e395, hx395_0⟩ := Kd.at_int (Kd.R_reads' HO_9.out).2.2 x10_5 p395 q395
                                                      cases e395
                                                      replace p395 := eq_true p395
                                                      replace q395 := eq_true q395
                                                      have p396 : 0 ≤ ((ji70) : Int) := of_decide_eq_true (by first | (with_reducible assumption) | assumption)
                                                      have q396 : (ji70) < (t386.length : Int) := of_decide_eq_true (by first | (with_reducible assumption) | assumption)
                                                      obtain ⟨ad396, e396, hx396_0⟩ := Kd.at_int (Kd.R_reads' HO_9.out).2.2 (ji70) p396 q396
                                                      obtain rfl : ad395 = ad396 := (by injection e396)
                                                      replace p396 := eq_true p396
                                                      replace q396 := eq_true q396
                                                      have p397 : 0 ≤ ((rd t386 (ji70)) : Int) := of_decide_eq_true (by first | (with_reducible assumption) | assumption)
                                                      have q397 : (rd t386 (ji70)) < (t371.length : Int) := of_decide_eq_true (by first | (with_reducible assumption) | assumption)
                                                      obtain ⟨ad397, e397, hx397_0⟩ := Kd.at_int (Kd.R_reads' HO_6.out).2.2 (rd t386 (ji70)) p397 q397
                                                      obtain rfl : ad381 = ad397 := (by injection e397)
                                                      replace p397 := eq_true p397
                                                      replace q397 := eq_true q397
                                                      go_wp2
                                                      repeat (go_quiet (fail); try go_wp2)
                                                      go_roundg k5
                                                      case measure => have := HJ6.out; have := HJ16.out; have := HJ33.out; have := HK4.out; have := HK5.out; omega
                                                      case rel => exact ⟨(wrap64 (x10_5 + 1)), (by first | rfl | (simp; done) | (simp [*]; done)), H', ⟨by have := HJ6.out; have := HJ16.out; have := HJ33.out; have := HK4.out; have := HK5.out; omega⟩, ⟨by (with_reducible repeat (first | apply Kd.R_alloc | apply Kd.R_drewN | apply Kd.R_drew)); exact HO_6.out⟩, ⟨by (with_reducible repeat (first | apply Kd.R_alloc | apply Kd.R_drewN | apply Kd.R_drew)); exact HO_9.out⟩, ⟨by repeat (first | (with_reducible first | exact HB.out | apply below_alloc | apply pw_below_drewN | apply below_drew1) | exact HB.out)⟩⟩
                                                  · rw [if_neg c75] at H
                                                    have c75b0 : ((rd t386 x10_5) == (rd t371 (rd t386 (ji70)))) = false := beq_eq_false_iff_ne.mpr c75
                                                    have c75b1 : ((rd t386 x10_5) != (rd t371 (rd t386 (ji70)))) = true := bne_iff_ne.mpr c75
                                                    obtain rfl := Option.some.inj H
                                                    obtain ⟨Ao81, co81, eo81⟩ := Kd.R_slice HO_9.out
                                                    subst eo81
                                                    have p395 : 0 ≤ (x10_5 : Int) := of_decide_eq_true (by first | (with_reducible assumption) | assumption)
                                                    have q395 : x10_5 < (t386.length : Int) := of_decide_eq_true (by first | (with_reducible assumption) | assumption)
                                                    obtain ⟨ad395, e395, hx395_0⟩ := Kd.at_int (Kd.R_reads' HO_9.out).2.2 x10_5 p395 q395
                                                    cases e395
                                                    replace p395 := eq_true p395
                                                    replace q395 := eq_true q395
                                                    have p396 : 0 ≤ ((ji70) : Int) := of_decide_eq_true (by first | (with_reducible assumption) | assumption)
                                                    have q396 : (ji70) < (t386.length : Int) := of_decide_eq_true (by first | (with_reducible assumption) | assumption)
                                                    obtain ⟨ad396, e396, hx396_0⟩ := Kd.at_int (Kd.R_reads' HO_9.out).2.2 (ji70) p396 q396
                                                    obtain rfl : ad395 = ad396 := (by injection e396)
                                                    replace p396 := eq_true p396
                                                    replace q396 := eq_true q396
                                                    have p397 : 0 ≤ ((rd t386 (ji70)) : Int) := of_decide_eq_true (by first | (with_reducible assumption) | assumption)
                                                    have q397 : (rd t386 (ji70)) < (t371.length : Int) := of_decide_eq_true (by first | (with_reducible assumption) | assumption)
                                                    obtain ⟨ad397, e397, hx397_0⟩ := Kd.at_int (Kd.R_reads' HO_6.out).2.2 (rd t386 (ji70)) p397 q397
                                                    obtain rfl : ad381 = ad397 := (by injection e397)
                                                    replace p397 := eq_true p397
                                                    replace q397 := eq_true q397
                                                    go_wp2
                                                    repeat (go_quiet (fail); try go_wp2)
                                                    go_ret
                                                    exact ⟨by first | rfl | (simp [errW_none, errW_some] <;> rfl) | (simp only [← hji70]; first | rfl | (simp [errW_none, errW_some] <;> rfl)) | (simp [*, errW_none, errW_some] <;> rfl) | (exfalso; (try simp_all); (try omega); done), by repeat (first | (with_reducible first | exact HB.out | apply below_alloc | apply pw_below_drewN | apply below_drew1) | exact HB.out)⟩
                                                · rw [if_neg c74] at H
                                                  exact absurd H (by simp)
                                              · rw [if_neg c73] at H
                                                exact absurd H (by simp)
                                            · rw [if_neg c72] at H
                                              exact absurd H (by simp)
                                          · rw [if_neg c71] at H
                                            exact absurd H (by simp)
                                        · rw [if_neg c69] at H
                                          exact absurd H (by simp)
                                      · rw [if_neg c68] at H
                                        have c68b0 : decide (0 < x10_5) = false := decide_eq_false c68
                                        clear c68
                                        by_cases c82 : x10_5 = (wrap64 ((t386.length : Int) - 1))
                                        · rw [if_pos c82] at H
                                          have c82b0 : (x10_5 == (wrap64 ((t386.length : Int) - 1))) = true := beq_iff_eq.mpr c82
                                          have c82b1 : (x10_5 != (wrap64 ((t386.length : Int) - 1))) = false := bne_eq_false_iff_eq.mpr c82
                                          clear c82
                                          by_cases c83 : 0 ≤ x10_5
                                          · rw [if_pos c83] at H
                                            have c83b0 : decide (0 ≤ x10_5) = true := decide_eq_true c83
                                            clear c83
                                            by_cases c84 : (rd t386 x10_5) = 0
                                            · rw [if_pos c84] at H
                                              have c84b0 : ((rd t386 x10_5) == 0) = true := beq_iff_eq.mpr c84
                                              have c84b1 : ((rd t386 x10_5) != 0) = false := bne_eq_false_iff_eq.mpr c84
                                              clear c84
                                              have H' := Aside0.mk H
                                              clear H
                                              obtain ⟨Ao85, co85, eo85⟩ := Kd.R_slice HO_9.out
                                              subst eo85
                                              have p399 : 0 ≤ (x10_5 : Int) := of_decide_eq_true (by first | (with_reducible assumption) | assumption)
                                              have q399 : x10_5 < (t386.length : Int) := of_decide_eq_true (by first | (with_reducible assumption) | assumption)
                                              obtain ⟨ad399, e399, hx399_0⟩ := Kd.at_int (Kd.R_reads' HO_9.out).2.2 x10_5 p399 q399
                                              cases e399
                                              replace p399 := eq_true p399
                                              replace q399 := eq_true q399
                                              go_wp2
                                              repeat (go_quiet (fail); try go_wp2)
                                              go_roundg k5
                                              case measure => have := HJ6.out; have := HJ16.out; have := HJ33.out; have := HK4.out; have := HK5.out; omega
                                              case rel => exact ⟨(wrap64 (x10_5 + 1)), (by first | rfl | (simp; done) | (simp [*]; done)), H', ⟨by have := HJ6.out; have := HJ16.out; have := HJ33.out; have := HK4.out; have := HK5.out; omega⟩, ⟨by (with_reducible repeat (first | apply Kd.R_alloc | apply Kd.R_drewN | apply Kd.R_drew)); exact HO_6.out⟩, ⟨by (with_reducible repeat (first | apply Kd.R_alloc | apply Kd.R_drewN | apply Kd.R_drew)); exact HO_9.out⟩, ⟨by repeat (first | (with_reducible first | exact HB.out | apply below_alloc | apply pw_below_drewN | apply below_drew1) | exact HB.out)⟩⟩
                                            · rw [if_neg c84] at H
                                              have c84b0 : ((rd t386 x10_5) == 0) = false := beq_eq_false_iff_ne.mpr c84
                                              have c84b1 : ((rd t386 x10_5) != 0) = true := bne_iff_ne.mpr c84
                                              obtain rfl := Option.some.inj H
                                              obtain ⟨Ao86, co86, eo86⟩ := Kd.R_slice HO_9.out
                                              subst eo86
                                              have p399 : 0 ≤ (x10_5 : Int) := of_decide_eq_true (by first | (with_reducible assumption) | assumption)
                                              have q399 : x10_5 < (t386.length : Int) := of_decide_eq_true (by first | (with_reducible assumption) | assumption)
                                              obtain ⟨ad399, e399, hx399_0⟩ := Kd.at_int (Kd.R_reads' HO_9.out).2.2 x10_5 p399 q399
                                              cases e399
                                              replace p399 := eq_true p399
                                              replace q399 := eq_true q399
                                              go_wp2
                                              repeat (go_quiet (fail); try go_wp2)
                                              go_ret
                                              exact ⟨by first | rfl | (simp [errW_none, errW_some] <;> rfl) | (simp [*, errW_none, errW_some] <;> rfl) | (exfalso; (try simp_all); (try omega); done), by repeat (first | (with_reducible first | exact HB.out | apply below_alloc | apply pw_below_drewN | apply below_drew1) | exact HB.out)⟩
                                          · rw [if_neg c83] at H
                                            exact absurd H (by simp)
                                        · rw [if_neg c82] at H
                                          have c82b0 : (x10_5 == (wrap64 ((t386.length : Int) - 1))) = false := beq_eq_false_iff_ne.mpr c82
                                          have c82b1 : (x10_5 != (wrap64 ((t386.length : Int) - 1))) = true := bne_iff_ne.mpr c82
                                          have H' := Aside0.mk H
                                          clear H
                                          obtain ⟨Ao87, co87, eo87⟩ := Kd.R_slice HO_9.out
                                          subst eo87
                                          go_wp2
                                          repeat (go_quiet (fail); try go_wp2)
                                          go_roundg k5
                                          case measure => have := HJ6.out; have := HJ16.out; have := HJ33.out; have := HK4.out; have := HK5.out; omega
                                          case rel => exact ⟨(wrap64 (x10_5 + 1)), (by first | rfl | (simp; done) | (simp [*]; done)), H', ⟨by have := HJ6.out; have := HJ16.out; have := HJ33.out; have := HK4.out; have := HK5.out; omega⟩, ⟨by (with_reducible repeat (first | apply Kd.R_alloc | apply Kd.R_drewN | apply Kd.R_drew)); exact HO_6.out⟩, ⟨by (with_reducible repeat (first | apply Kd.R_alloc | apply Kd.R_drewN | apply Kd.R_drew)); exact HO_9.out⟩, ⟨by repeat (first | (with_reducible first | exact HB.out | apply below_alloc | apply pw_below_drewN | apply below_drew1) | exact HB.out)⟩⟩
                                  · rw [if_neg c45] at H
                                    have c45b0 : decide (x10_5 < (t386.length : Int)) = false := decide_eq_false c45
                                    clear c45
                                    by_cases c88 : t369 = true
                                    · subst c88
                                      have H1 : ((dom_Below.f k5 t371 a1).bind fun t400 => (if x7_4 = (t400.length : Int) then (if 0 ≤ a1 then (if a1 < (t371.length : Int) then (some (((t386.length : Int) == 0) == ((rd t371 a1) == (-2)))) else (none)) else (none)) else (some false))) = some r := by rw [if_pos rfl] at H; exact H
                                      clear H
                                      have H := H1
                                      clear H1
                                      replace H := Option.bind_eq_some_iff.mp H
                                      obtain ⟨t400, A890, H⟩ := H
                                      replace H : (if x7_4 = (t400.length : Int) then (if 0 ≤ a1 then (if a1 < (t371.length : Int) then (some (((t386.length : Int) == 0) == ((rd t371 a1) == (-2)))) else (none)) else (none)) else (some false)) = some r := H
                                      have A89 := Aside0.mk A890
                                      clear A890
                                      by_cases c90 : x7_4 = (t400.length : Int)
                                      · rw [if_pos c90] at H
                                        have c90b0 : (x7_4 == (t400.length : Int)) = true := beq_iff_eq.mpr c90
                                        have c90b1 : (x7_4 != (t400.length : Int)) = false := bne_eq_false_iff_eq.mpr c90
                                        clear c90
                                        by_cases c91 : 0 ≤ a1
                                        · rw [if_pos c91] at H
                                          have c91b0 : decide (0 ≤ a1) = true := decide_eq_true c91
                                          clear c91
                                          by_cases c92 : a1 < (t371.length : Int)
                                          · rw [if_pos c92] at H
                                            have c92b0 : decide (a1 < (t371.length : Int)) = true := decide_eq_true c92
                                            clear c92
                                            obtain rfl := Option.some.inj H
                                            obtain ⟨Ao93, co93, eo93⟩ := Kd.R_slice HO_9.out
                                            subst eo93
                                            go_wp2_with (first | (go_at_call 29; (with_reducible refine (dom_Below.calls k5 _ _ t371 a1 t400 _ ?side1 ?side2 A89.out).mono ?_); (case side1 => repeat (first | exact (Kd.R_reads' HO_6.out).2.2 | (with_reducible refine Kd.C_alloc ?_ _) | (with_reducible refine Kd.C_drewN ?_ _) | (with_reducible refine Kd.C_drew ?_))); (case side2 => exact (Kd.R_reads' HO_6.out).2.1); rintro e w94 ⟨v401, rfl, ho0, hb⟩; have n0_ := Aside0.mk (Kd.R_elder' (by (with_reducible repeat (first | apply Kd.R_alloc | apply Kd.R_drewN | apply Kd.R_drew)); exact HO_6.out) (Kd.R_base ho0) hb); have n1_ := Aside0.mk (Kd.R_elder' (by (with_reducible repeat (first | apply Kd.R_alloc | apply Kd.R_drewN | apply Kd.R_drew)); exact HO_9.out) (Kd.R_base ho0) hb); have n2_ := Aside0.mk (Kd.R_lower (Kd.R_new' (Kd.R_new' ho0 (Kd.R_lt (by (with_reducible repeat (first | apply Kd.R_alloc | apply Kd.R_drewN | apply Kd.R_drew)); exact HO_6.out))) (Kd.R_lt (by (with_reducible repeat (first | apply Kd.R_alloc | apply Kd.R_drewN | apply Kd.R_drew)); exact HO_9.out))) (below_size (by repeat (first | (with_reducible first | exact HB.out | apply below_alloc | apply pw_below_drewN | apply below_drew1) | exact HB.out)))); have n3_ := Aside0.mk (below_step (by repeat (first | (with_reducible first | exact HB.out | apply below_alloc | apply pw_below_drewN | apply below_drew1) | exact HB.out)) hb); clear HO_6; clear HO_9; clear HB; have HO_6 := n0_; have HO_9 := n1_; have HO402 := n2_; have HB := n3_; clear n0_ n1_ n2_ n3_; (try clear hb); (try clear hb2); (try clear hk); (try clear hi); (try clear ho0); obtain ⟨Ao95, co95, eo95⟩ := Kd.R_slice HO402.out; subst eo95; have p403 : 0 ≤ (a1 : Int) := of_decide_eq_true (by first | (with_reducible assumption) | assumption); have q403 : a1 < (t371.length : Int) := of_decide_eq_true (by first | (with_reducible assumption) | assumption); obtain ⟨ad403, e403, hx403_0⟩ := Kd.at_int (Kd.R_reads' HO_6.out).2.2 a1 p403 q403; obtain rfl : ad381 = ad403 := (by injection e403); replace p403 := eq_true p403; replace q403 := eq_true q403))
                                            repeat (go_quiet (first | (go_at_call 29; (with_reducible refine (dom_Below.calls k5 _ _ t371 a1 t400 _ ?side1 ?side2 A89.out).mono ?_); (case side1 => repeat (first | exact (Kd.R_reads' HO_6.out).2.2 | (with_reducible refine Kd.C_alloc ?_ _) | (with_reducible refine Kd.C_drewN ?_ _) | (with_reducible refine Kd.C_drew ?_))); (case side2 => exact (Kd.R_reads' HO_6.out).2.1); rintro e w94 ⟨v401, rfl, ho0, hb⟩; have n0_ := Aside0.mk (Kd.R_elder' (by (with_reducible repeat (first | apply Kd.R_alloc | apply Kd.R_drewN | apply Kd.R_drew)); exact HO_6.out) (Kd.R_base ho0) hb); have n1_ := Aside0.mk (Kd.R_elder' (by (with_reducible repeat (first | apply Kd.R_alloc | apply Kd.R_drewN | apply Kd.R_drew)); exact HO_9.out) (Kd.R_base ho0) hb); have n2_ := Aside0.mk (Kd.R_lower (Kd.R_new' (Kd.R_new' ho0 (Kd.R_lt (by (with_reducible repeat (first | apply Kd.R_alloc | apply Kd.R_drewN | apply Kd.R_drew)); exact HO_6.out))) (Kd.R_lt (by (with_reducible repeat (first | apply Kd.R_alloc | apply Kd.R_drewN | apply Kd.R_drew)); exact HO_9.out))) (below_size (by repeat (first | (with_reducible first | exact HB.out | apply below_alloc | apply pw_below_drewN | apply below_drew1) | exact HB.out)))); have n3_ := Aside0.mk (below_step (by repeat (first | (with_reducible first | exact HB.out | apply below_alloc | apply pw_below_drewN | apply below_drew1) | exact HB.out)) hb); clear HO_6; clear HO_9; clear HB; have HO_6 := n0_; have HO_9 := n1_; have HO402 := n2_; have HB := n3_; clear n0_ n1_ n2_ n3_; (try clear hb); (try clear hb2); (try clear hk); (try clear hi); (try clear ho0); obtain ⟨Ao95, co95, eo95⟩ := Kd.R_slice HO402.out; subst eo95; have p403 : 0 ≤ (a1 : Int) := of_decide_eq_true (by first | (with_reducible assumption) | assumption); have q403 : a1 < (t371.length : Int) := of_decide_eq_true (by first | (with_reducible assumption) | assumption); obtain ⟨ad403, e403, hx403_0⟩ := Kd.at_int (Kd.R_reads' HO_6.out).2.2 a1 p403 q403; obtain rfl : ad381 = ad403 := (by injection e403); replace p403 := eq_true p403; replace q403 := eq_true q403)); try go_wp2_with (first | (go_at_call 29; (with_reducible refine (dom_Below.calls k5 _ _ t371 a1 t400 _ ?side1 ?side2 A89.out).mono ?_); (case side1 => repeat (first | exact (Kd.R_reads' HO_6.out).2.2 | (with_reducible refine Kd.C_alloc ?_ _) | (with_reducible refine Kd.C_drewN ?_ _) | (with_reducible refine Kd.C_drew ?_))); (case side2 => exact (Kd.R_reads' HO_6.out).2.1); rintro e w94 ⟨v401, rfl, ho0, hb⟩; have n0_ := Aside0.mk (Kd.R_elder' (by (with_reducible repeat (first | apply Kd.R_alloc | apply Kd.R_drewN | apply Kd.R_drew)); exact HO_6.out) (Kd.R_base ho0) hb); have n1_ := Aside0.mk (Kd.R_elder' (by (with_reducible repeat (first | apply Kd.R_alloc | apply Kd.R_drewN | apply Kd.R_drew)); exact HO_9.out) (Kd.R_base ho0) hb); have n2_ := Aside0.mk (Kd.R_lower (Kd.R_new' (Kd.R_new' ho0 (Kd.R_lt (by (with_reducible repeat (first | apply Kd.R_alloc | apply Kd.R_drewN | apply Kd.R_drew)); exact HO_6.out))) (Kd.R_lt (by (with_reducible repeat (first | apply Kd.R_alloc | apply Kd.R_drewN | apply Kd.R_drew)); exact HO_9.out))) (below_size (by repeat (first | (with_reducible first | exact HB.out | apply below_alloc | apply pw_below_drewN | apply below_drew1) | exact HB.out)))); have n3_ := Aside0.mk (below_step (by repeat (first | (with_reducible first | exact HB.out | apply below_alloc | apply pw_below_drewN | apply below_drew1) | exact HB.out)) hb); clear HO_6; clear HO_9; clear HB; have HO_6 := n0_; have HO_9 := n1_; have HO402 := n2_; have HB := n3_; clear n0_ n1_ n2_ n3_; (try clear hb); (try clear hb2); (try clear hk); (try clear hi); (try clear ho0); obtain ⟨Ao95, co95, eo95⟩ := Kd.R_slice HO402.out; subst eo95; have p403 : 0 ≤ (a1 : Int) := of_decide_eq_true (by first | (with_reducible assumption) | assumption); have q403 : a1 < (t371.length : Int) := of_decide_eq_true (by first | (with_reducible assumption) | assumption); obtain ⟨ad403, e403, hx403_0⟩ := Kd.at_int (Kd.R_reads' HO_6.out).2.2 a1 p403 q403; obtain rfl : ad381 = ad403 := (by injection e403); replace p403 := eq_true p403; replace q403 := eq_true q403)))
                                            go_ret
                                            exact ⟨by first | rfl | (simp [errW_none, errW_some] <;> rfl) | (simp [*, errW_none, errW_some] <;> rfl) | (exfalso; (try simp_all); (try omega); done), by repeat (first | (with_reducible first | exact HB.out | apply below_alloc | apply pw_below_drewN | apply below_drew1) | exact HB.out)⟩
                                          · rw [if_neg c92] at H
                                            exact absurd H (by simp)
                                        · rw [if_neg c91] at H
                                          exact absurd H (by simp)
                                      · rw [if_neg c90] at H
                                        have c90b0 : (x7_4 == (t400.length : Int)) = false := beq_eq_false_iff_ne.mpr c90
                                        have c90b1 : (x7_4 != (t400.length : Int)) = true := bne_iff_ne.mpr c90
                                        obtain rfl := Option.some.inj H
                                        obtain ⟨Ao96, co96, eo96⟩ := Kd.R_slice HO_9.out
                                        subst eo96
                                        go_wp2_with (first | (go_at_call 29; (with_reducible refine (dom_Below.calls k5 _ _ t371 a1 t400 _ ?side1 ?side2 A89.out).mono ?_); (case side1 => repeat (first | exact (Kd.R_reads' HO_6.out).2.2 | (with_reducible refine Kd.C_alloc ?_ _) | (with_reducible refine Kd.C_drewN ?_ _) | (with_reducible refine Kd.C_drew ?_))); (case side2 => exact (Kd.R_reads' HO_6.out).2.1); rintro e w97 ⟨v401, rfl, ho0, hb⟩; have n0_ := Aside0.mk (Kd.R_elder' (by (with_reducible repeat (first | apply Kd.R_alloc | apply Kd.R_drewN | apply Kd.R_drew)); exact HO_6.out) (Kd.R_base ho0) hb); have n1_ := Aside0.mk (Kd.R_elder' (by (with_reducible repeat (first | apply Kd.R_alloc | apply Kd.R_drewN | apply Kd.R_drew)); exact HO_9.out) (Kd.R_base ho0) hb); have n2_ := Aside0.mk (Kd.R_lower (Kd.R_new' (Kd.R_new' ho0 (Kd.R_lt (by (with_reducible repeat (first | apply Kd.R_alloc | apply Kd.R_drewN | apply Kd.R_drew)); exact HO_6.out))) (Kd.R_lt (by (with_reducible repeat (first | apply Kd.R_alloc | apply Kd.R_drewN | apply Kd.R_drew)); exact HO_9.out))) (below_size (by repeat (first | (with_reducible first | exact HB.out | apply below_alloc | apply pw_below_drewN | apply below_drew1) | exact HB.out)))); have n3_ := Aside0.mk (below_step (by repeat (first | (with_reducible first | exact HB.out | apply below_alloc | apply pw_below_drewN | apply below_drew1) | exact HB.out)) hb); clear HO_6; clear HO_9; clear HB; have HO_6 := n0_; have HO_9 := n1_; have HO402 := n2_; have HB := n3_; clear n0_ n1_ n2_ n3_; (try clear hb); (try clear hb2); (try clear hk); (try clear hi); (try clear ho0); obtain ⟨Ao98, co98, eo98⟩ := Kd.R_slice HO402.out; subst eo98))
                                        repeat (go_quiet (first | (go_at_call 29; (with_reducible refine (dom_Below.calls k5 _ _ t371 a1 t400 _ ?side1 ?side2 A89.out).mono ?_); (case side1 => repeat (first | exact (Kd.R_reads' HO_6.out).2.2 | (with_reducible refine Kd.C_alloc ?_ _) | (with_reducible refine Kd.C_drewN ?_ _) | (with_reducible refine Kd.C_drew ?_))); (case side2 => exact (Kd.R_reads' HO_6.out).2.1); rintro e w97 ⟨v401, rfl, ho0, hb⟩; have n0_ := Aside0.mk (Kd.R_elder' (by (with_reducible repeat (first | apply Kd.R_alloc | apply Kd.R_drewN | apply Kd.R_drew)); exact HO_6.out) (Kd.R_base ho0) hb); have n1_ := Aside0.mk (Kd.R_elder' (by (with_reducible repeat (first | apply Kd.R_alloc | apply Kd.R_drewN | apply Kd.R_drew)); exact HO_9.out) (Kd.R_base ho0) hb); have n2_ := Aside0.mk (Kd.R_lower (Kd.R_new' (Kd.R_new' ho0 (Kd.R_lt (by (with_reducible repeat (first | apply Kd.R_alloc | apply Kd.R_drewN | apply Kd.R_drew)); exact HO_6.out))) (Kd.R_lt (by (with_reducible repeat (first | apply Kd.R_alloc | apply Kd.R_drewN | apply Kd.R_drew)); exact HO_9.out))) (below_size (by repeat (first | (with_reducible first | exact HB.out | apply below_alloc | apply pw_below_drewN | apply below_drew1) | exact HB.out)))); have n3_ := Aside0.mk (below_step (by repeat (first | (with_reducible first | exact HB.out | apply below_alloc | apply pw_below_drewN | apply below_drew1) | exact HB.out)) hb); clear HO_6; clear HO_9; clear HB; have HO_6 := n0_; have HO_9 := n1_; have HO402 := n2_; have HB := n3_; clear n0_ n1_ n2_ n3_; (try clear hb); (try clear hb2); (try clear hk); (try clear hi); (try clear ho0); obtain ⟨Ao98, co98, eo98⟩ := Kd.R_slice HO402.out; subst eo98)); try go_wp2_with (first | (go_at_call 29; (with_reducible refine (dom_Below.calls k5 _ _ t371 a1 t400 _ ?side1 ?side2 A89.out).mono ?_); (case side1 => repeat (first | exact (Kd.R_reads' HO_6.out).2.2 | (with_reducible refine Kd.C_alloc ?_ _) | (with_reducible refine Kd.C_drewN ?_ _) | (with_reducible refine Kd.C_drew ?_))); (case side2 => exact (Kd.R_reads' HO_6.out).2.1); rintro e w97 ⟨v401, rfl, ho0, hb⟩; have n0_ := Aside0.mk (Kd.R_elder' (by (with_reducible repeat (first | apply Kd.R_alloc | apply Kd.R_drewN | apply Kd.R_drew)); exact HO_6.out) (Kd.R_base ho0) hb); have n1_ := Aside0.mk (Kd.R_elder' (by (with_reducible repeat (first | apply Kd.R_alloc | apply Kd.R_drewN | apply Kd.R_drew)); exact HO_9.out) (Kd.R_base ho0) hb); have n2_ := Aside0.mk (Kd.R_lower (Kd.R_new' (Kd.R_new' ho0 (Kd.R_lt (by (with_reducible repeat (first | apply Kd.R_alloc | apply Kd.R_drewN | apply Kd.R_drew)); exact HO_6.out))) (Kd.R_lt (by (with_reducible repeat (first | apply Kd.R_alloc | apply Kd.R_drewN | apply Kd.R_drew)); exact HO_9.out))) (below_size (by repeat (first | (with_reducible first | exact HB.out | apply below_alloc | apply pw_below_drewN | apply below_drew1) | exact HB.out)))); have n3_ := Aside0.mk (below_step (by repeat (first | (with_reducible first | exact HB.out | apply below_alloc | apply pw_below_drewN | apply below_drew1) | exact HB.out)) hb); clear HO_6; clear HO_9; clear HB; have HO_6 := n0_; have HO_9 := n1_; have HO402 := n2_; have HB := n3_; clear n0_ n1_ n2_ n3_; (try clear hb); (try clear hb2); (try clear hk); (try clear hi); (try clear ho0); obtain ⟨Ao98, co98, eo98⟩ := Kd.R_slice HO402.out; subst eo98)))
                                        go_ret
                                        exact ⟨by first | rfl | (simp [errW_none, errW_some] <;> rfl) | (simp [*, errW_none, errW_some] <;> rfl) | (exfalso; (try simp_all); (try omega); done), by repeat (first | (with_reducible first | exact HB.out | apply below_alloc | apply pw_below_drewN | apply below_drew1) | exact HB.out)⟩
                                    · replace c88 := Bool.eq_false_iff.mpr c88
                                      subst c88
                                      have H1 : (some false) = some r := by rw [if_neg (show ¬ (false = true) by decide)] at H; exact H
                                      clear H
                                      have H := H1
                                      clear H1
                                      obtain rfl := Option.some.inj H
                                      obtain ⟨Ao99, co99, eo99⟩ := Kd.R_slice HO_9.out
                                      subst eo99
                                      go_wp2
                                      repeat (go_quiet (fail); try go_wp2)
                                      go_ret
                                      exact ⟨by first | rfl | (simp [errW_none, errW_some] <;> rfl) | (simp [*, errW_none, errW_some] <;> rfl) | (exfalso; (try simp_all); (try omega); done), by repeat (first | (with_reducible first | exact HB.out | apply below_alloc | apply pw_below_drewN | apply below_drew1) | exact HB.out)⟩
                  · rw [if_neg c33] at H
                    exact absurd H (by simp)
                · rw [if_neg c32] at H
                  exact absurd H (by simp)
  · replace c5 := Bool.eq_false_iff.mpr c5
    subst c5
    have H1 : (some t369) = some r := by rw [if_neg (show ¬ (false = true) by decide)] at H; exact H
    clear H
    have H := H1
    clear H1
    obtain rfl := Option.some.inj H
    go_enter Try.func7, Try.ntmps7
    go_wp2_with (first | (go_at_call 13; (with_reducible refine (bywashlaw14_awake.calls k  t369 _ A3.out).mono ?_); rintro e w100 ⟨rfl, hb⟩; have n0_ := Aside0.mk (below_step (by repeat (first | (with_reducible first | exact HB.out | apply below_alloc | apply pw_below_drewN | apply below_drew1) | exact HB.out)) hb); clear HB; have HB := n0_; clear n0_; (try clear hb); (try clear hb2); (try clear hk); (try clear hi)) | (go_at_call 14; (with_reducible refine (bywashref10_Few.calls k _ _ l0 false _ ?side1 ?side2 A4.out).mono ?_); (case side1 => repeat (first | exact (Kd.C_below HR0.out HB.out) | (with_reducible refine Kd.C_alloc ?_ _) | (with_reducible refine Kd.C_drewN ?_ _) | (with_reducible refine Kd.C_drew ?_))); (case side2 => exact HC0.out); rintro e w' ⟨rfl, ⟨nd, rfl⟩⟩; (try first | exact ⟨rfl, _, World.drewN_drewN _ _ _⟩ | exact ⟨rfl, _, Eq.trans (World.drewN_drewN _ _ _) (congrArg (World.drewN _) (Nat.add_assoc _ _ _))⟩)))
    repeat (go_quiet (first | (go_at_call 13; (with_reducible refine (bywashlaw14_awake.calls k  t369 _ A3.out).mono ?_); rintro e w100 ⟨rfl, hb⟩; have n0_ := Aside0.mk (below_step (by repeat (first | (with_reducible first | exact HB.out | apply below_alloc | apply pw_below_drewN | apply below_drew1) | exact HB.out)) hb); clear HB; have HB := n0_; clear n0_; (try clear hb); (try clear hb2); (try clear hk); (try clear hi)) | (go_at_call 14; (with_reducible refine (bywashref10_Few.calls k _ _ l0 false _ ?side1 ?side2 A4.out).mono ?_); (case side1 => repeat (first | exact (Kd.C_below HR0.out HB.out) | (with_reducible refine Kd.C_alloc ?_ _) | (with_reducible refine Kd.C_drewN ?_ _) | (with_reducible refine Kd.C_drew ?_))); (case side2 => exact HC0.out); rintro e w' ⟨rfl, ⟨nd, rfl⟩⟩; (try first | exact ⟨rfl, _, World.drewN_drewN _ _ _⟩ | exact ⟨rfl, _, Eq.trans (World.drewN_drewN _ _ _) (congrArg (World.drewN _) (Nat.add_assoc _ _ _))⟩))); try go_wp2_with (first | (go_at_call 13; (with_reducible refine (bywashlaw14_awake.calls k  t369 _ A3.out).mono ?_); rintro e w100 ⟨rfl, hb⟩; have n0_ := Aside0.mk (below_step (by repeat (first | (with_reducible first | exact HB.out | apply below_alloc | apply pw_below_drewN | apply below_drew1) | exact HB.out)) hb); clear HB; have HB := n0_; clear n0_; (try clear hb); (try clear hb2); (try clear hk); (try clear hi)) | (go_at_call 14; (with_reducible refine (bywashref10_Few.calls k _ _ l0 false _ ?side1 ?side2 A4.out).mono ?_); (case side1 => repeat (first | exact (Kd.C_below HR0.out HB.out) | (with_reducible refine Kd.C_alloc ?_ _) | (with_reducible refine Kd.C_drewN ?_ _) | (with_reducible refine Kd.C_drew ?_))); (case side2 => exact HC0.out); rintro e w' ⟨rfl, ⟨nd, rfl⟩⟩; (try first | exact ⟨rfl, _, World.drewN_drewN _ _ _⟩ | exact ⟨rfl, _, Eq.trans (World.drewN_drewN _ _ _) (congrArg (World.drewN _) (Nat.add_assoc _ _ _))⟩))))
    go_ret
    exact ⟨by first | rfl | (simp [errW_none, errW_some] <;> rfl) | (simp [*, errW_none, errW_some] <;> rfl) | (exfalso; (try simp_all); (try omega); done), by repeat (first | (with_reducible first | exact HB.out | apply below_alloc | apply pw_below_drewN | apply below_drew1) | exact HB.out)⟩

end Go.Proofs.Ytemcmcnhpdkdfaa.P
