-- Written by prn.py (a program of this work) over the seat's translation. Not trusted: Lean checks it.
import Derived.Test.YtemcmcnhpdkdfaaP0
import Derived.Test.YtemcmcnhpdkdfaaHidoms
import Derived.Test.YtemcmcnhpdkdfaaPbywashlaw14
import Derived.Test.YtemcmcnhpdkdfaaPbywashref10
import Derived.Test.YtemcmcnhpdkdfaaPdom
namespace Go.Proofs.Ytemcmcnhpdkdfaa.P
open Go.RowKit Go.Proofs.YtemcmcnhpdkdfaaW.PrintWords Go.Proofs.YtemcmcnhpdkdfaaW.PrintLast Go.Proofs.YtemcmcnhpdkdfaaW.PrintMore
attribute [local go_sem] max2_int min2_int max_two min_two max_three min_three max_four min_four   -- for this text's walks alone
set_option linter.unusedVariables false
set_option linter.unusedSimpArgs false

/-! ### bywashlaw14_DomOne: function 8 -/
def bywashlaw14_DomOne.j0 : Nat → List (List Int) → Int → Bool → List Int → Bool → Option (Bool)
  | 0, _, _, _, _, _ => none
  | k + 1, x0, x1, x9, x10, x73 => if x73 = true then (some false) else (if x1 ≥ 0 then (if x1 < (x10.length : Int) then (if 0 ≤ x1 then (if x9 = true then ((dom_Dominates.f k x10 x1 x1).bind fun t426 => (if (t426 == ((rd x10 x1) != (-2))) = true then ((dom_Dominates.f k x10 0 x1).bind fun t427 => (if (t427 == ((rd x10 x1) != (-2))) = true then ((dom_Below.f k x10 0).bind fun t428 => (some ((decide ((t428.length : Int) > 0)) == (decide ((x0.length : Int) > 0))))) else (some false))) else (some false))) else (some false)) else (none)) else (if x9 = true then ((dom_Dominates.f k x10 x1 x1).bind fun t431 => (if (t431 == false) = true then ((dom_Dominates.f k x10 0 x1).bind fun t432 => (if (t432 == false) = true then ((dom_Below.f k x10 0).bind fun t433 => (some ((decide ((t433.length : Int) > 0)) == (decide ((x0.length : Int) > 0))))) else (some false))) else (some false))) else (some false))) else (if x9 = true then ((dom_Dominates.f k x10 x1 x1).bind fun t436 => (if (t436 == false) = true then ((dom_Dominates.f k x10 0 x1).bind fun t437 => (if (t437 == false) = true then ((dom_Below.f k x10 0).bind fun t438 => (some ((decide ((t438.length : Int) > 0)) == (decide ((x0.length : Int) > 0))))) else (some false))) else (some false))) else (some false)))
def bywashlaw14_DomOne.f (k : Nat) (l0 : List (List Int)) (a1 : Int) (a2 : Int) (a3 : Int) : Option (Bool) := (bywashlaw14_awake.f k).bind fun t404 => ((bywashref10_Few.f k l0).bind fun t405 => (if t405 = true then ((dom_Idoms.f k l0).bind fun t406 => ((dom_Dominates.f k t406 a1 a2).bind fun t409 => ((dom_Dominates.f k t406 a2 a1).bind fun t410 => (if t409 = true then (if t410 = true then (if a1 = a2 then ((dom_Dominates.f k t406 a2 a3).bind fun t411 => (if t411 = true then ((dom_Dominates.f k t406 a1 a3).bind fun t412 => (if t412 = true then ((dom_Dominates.f k t406 a1 a3).bind fun t413 => (if t413 = true then ((dom_Dominates.f k t406 a2 a3).bind fun t414 => (if t414 = true then (bywashlaw14_DomOne.j0 k l0 a1 t404 t406 false) else (bywashlaw14_DomOne.j0 k l0 a1 t404 t406 false))) else (bywashlaw14_DomOne.j0 k l0 a1 t404 t406 false))) else (bywashlaw14_DomOne.j0 k l0 a1 t404 t406 true))) else ((dom_Dominates.f k t406 a1 a3).bind fun t415 => (if t415 = true then ((dom_Dominates.f k t406 a2 a3).bind fun t416 => (if t416 = true then (bywashlaw14_DomOne.j0 k l0 a1 t404 t406 false) else (bywashlaw14_DomOne.j0 k l0 a1 t404 t406 false))) else (bywashlaw14_DomOne.j0 k l0 a1 t404 t406 false))))) else (bywashlaw14_DomOne.j0 k l0 a1 t404 t406 true)) else ((dom_Dominates.f k t406 a2 a3).bind fun t417 => (if t417 = true then ((dom_Dominates.f k t406 a1 a3).bind fun t418 => (if t418 = true then ((dom_Dominates.f k t406 a1 a3).bind fun t419 => (if t419 = true then ((dom_Dominates.f k t406 a2 a3).bind fun t420 => (if t420 = true then (bywashlaw14_DomOne.j0 k l0 a1 t404 t406 false) else (bywashlaw14_DomOne.j0 k l0 a1 t404 t406 false))) else (bywashlaw14_DomOne.j0 k l0 a1 t404 t406 false))) else (bywashlaw14_DomOne.j0 k l0 a1 t404 t406 true))) else ((dom_Dominates.f k t406 a1 a3).bind fun t421 => (if t421 = true then ((dom_Dominates.f k t406 a2 a3).bind fun t422 => (if t422 = true then (bywashlaw14_DomOne.j0 k l0 a1 t404 t406 false) else (bywashlaw14_DomOne.j0 k l0 a1 t404 t406 false))) else (bywashlaw14_DomOne.j0 k l0 a1 t404 t406 false)))))) else ((dom_Dominates.f k t406 a1 a3).bind fun t423 => (if t423 = true then ((dom_Dominates.f k t406 a2 a3).bind fun t424 => (if t424 = true then (bywashlaw14_DomOne.j0 k l0 a1 t404 t406 (!t410)) else (bywashlaw14_DomOne.j0 k l0 a1 t404 t406 false))) else (bywashlaw14_DomOne.j0 k l0 a1 t404 t406 false))))))) else (some t404)))
theorem bywashlaw14_DomOne.mono_l : ∀ k, (∀ y0 y1 y2 y3 y4, LeO (bywashlaw14_DomOne.j0 k y0 y1 y2 y3 y4) (bywashlaw14_DomOne.j0 (k + 1) y0 y1 y2 y3 y4))
  | 0 => fun _ _ _ _ _ r h => by simp [bywashlaw14_DomOne.j0] at h
  | k + 1 => by
    have ih0 := bywashlaw14_DomOne.mono_l k
    · intro y0 y1 y2 y3 y4
      unfold bywashlaw14_DomOne.j0
      repeat' first
      | (with_reducible exact ih0 _ _ _ _ _)
      | (with_reducible exact bywashlaw14_awake.mono _)
      | (with_reducible exact bywashref10_Few.mono _ _)
      | (with_reducible exact dom_Below.mono _ _ _)
      | (with_reducible exact dom_Dominates.mono _ _ _ _)
      | (with_reducible exact dom_Idoms.mono _ _)
      | (with_reducible exact LeO.refl _)
      | (with_reducible exact LeO.none _)
      | (with_reducible refine LeO.ite ?_ ?_)
      | (with_reducible refine LeO.bind ?_ (fun _ => ?_))
      | exact ih0 _ _ _ _ _
      | exact bywashlaw14_awake.mono _
      | exact bywashref10_Few.mono _ _
      | exact dom_Below.mono _ _ _
      | exact dom_Dominates.mono _ _ _ _
      | exact dom_Idoms.mono _ _
      | exact LeO.none _
      | refine LeO.ite ?_ ?_
      | refine LeO.bind ?_ (fun _ => ?_)
theorem bywashlaw14_DomOne.mono : ∀ a0 a1 a2 a3 k, LeO (bywashlaw14_DomOne.f k a0 a1 a2 a3) (bywashlaw14_DomOne.f (k + 1) a0 a1 a2 a3) := by
  intro a0 a1 a2 a3 k
  have ih0 := bywashlaw14_DomOne.mono_l k
  unfold bywashlaw14_DomOne.f
  repeat' first
      | (with_reducible exact ih0 _ _ _ _ _)
      | (with_reducible exact bywashlaw14_awake.mono _)
      | (with_reducible exact bywashref10_Few.mono _ _)
      | (with_reducible exact dom_Below.mono _ _ _)
      | (with_reducible exact dom_Dominates.mono _ _ _ _)
      | (with_reducible exact dom_Idoms.mono _ _)
      | (with_reducible exact LeO.refl _)
      | (with_reducible exact LeO.none _)
      | (with_reducible refine LeO.ite ?_ ?_)
      | (with_reducible refine LeO.bind ?_ (fun _ => ?_))
      | exact ih0 _ _ _ _ _
      | exact bywashlaw14_awake.mono _
      | exact bywashref10_Few.mono _ _
      | exact dom_Below.mono _ _ _
      | exact dom_Dominates.mono _ _ _ _
      | exact dom_Idoms.mono _ _
      | exact LeO.none _
      | refine LeO.ite ?_ ?_
      | refine LeO.bind ?_ (fun _ => ?_)
set_option maxHeartbeats 8000000 in
set_option maxRecDepth 100000 in
theorem bywashlaw14_DomOne.calls (k : Nat) (A0 : Option Addr) (c0 : Nat) (l0 : List (List Int)) (a1 : Int) (a2 : Int) (a3 : Int) (r : Bool) (w : World) (hr0 : Kd.C (Kd.slice 3 (Kd.int .i64)) w A0 l0.length l0) (hc0 : l0.length ≤ c0) (h : bywashlaw14_DomOne.f k l0 a1 a2 a3 = some r) :
    Calls Try.prog 8 #[.slice A0 l0.length c0, .int .i64 a1, .int .i64 a2, .int .i64 a3] w fun e w' => e = .returned (.bool r) ∧ Below w.heap.size w w' := by
  have HR0 := Aside0.mk hr0
  have HC0 := Aside0.mk hc0
  clear hr0 hc0
  have HB := Aside0.mk (Below.refl w.heap.size w)
  have H : ((bywashlaw14_awake.f k).bind fun t404 => ((bywashref10_Few.f k l0).bind fun t405 => (if t405 = true then ((dom_Idoms.f k l0).bind fun t406 => ((dom_Dominates.f k t406 a1 a2).bind fun t409 => ((dom_Dominates.f k t406 a2 a1).bind fun t410 => (if t409 = true then (if t410 = true then (if a1 = a2 then ((dom_Dominates.f k t406 a2 a3).bind fun t411 => (if t411 = true then ((dom_Dominates.f k t406 a1 a3).bind fun t412 => (if t412 = true then ((dom_Dominates.f k t406 a1 a3).bind fun t413 => (if t413 = true then ((dom_Dominates.f k t406 a2 a3).bind fun t414 => (if t414 = true then (bywashlaw14_DomOne.j0 k l0 a1 t404 t406 false) else (bywashlaw14_DomOne.j0 k l0 a1 t404 t406 false))) else (bywashlaw14_DomOne.j0 k l0 a1 t404 t406 false))) else (bywashlaw14_DomOne.j0 k l0 a1 t404 t406 true))) else ((dom_Dominates.f k t406 a1 a3).bind fun t415 => (if t415 = true then ((dom_Dominates.f k t406 a2 a3).bind fun t416 => (if t416 = true then (bywashlaw14_DomOne.j0 k l0 a1 t404 t406 false) else (bywashlaw14_DomOne.j0 k l0 a1 t404 t406 false))) else (bywashlaw14_DomOne.j0 k l0 a1 t404 t406 false))))) else (bywashlaw14_DomOne.j0 k l0 a1 t404 t406 true)) else ((dom_Dominates.f k t406 a2 a3).bind fun t417 => (if t417 = true then ((dom_Dominates.f k t406 a1 a3).bind fun t418 => (if t418 = true then ((dom_Dominates.f k t406 a1 a3).bind fun t419 => (if t419 = true then ((dom_Dominates.f k t406 a2 a3).bind fun t420 => (if t420 = true then (bywashlaw14_DomOne.j0 k l0 a1 t404 t406 false) else (bywashlaw14_DomOne.j0 k l0 a1 t404 t406 false))) else (bywashlaw14_DomOne.j0 k l0 a1 t404 t406 false))) else (bywashlaw14_DomOne.j0 k l0 a1 t404 t406 true))) else ((dom_Dominates.f k t406 a1 a3).bind fun t421 => (if t421 = true then ((dom_Dominates.f k t406 a2 a3).bind fun t422 => (if t422 = true then (bywashlaw14_DomOne.j0 k l0 a1 t404 t406 false) else (bywashlaw14_DomOne.j0 k l0 a1 t404 t406 false))) else (bywashlaw14_DomOne.j0 k l0 a1 t404 t406 false)))))) else ((dom_Dominates.f k t406 a1 a3).bind fun t423 => (if t423 = true then ((dom_Dominates.f k t406 a2 a3).bind fun t424 => (if t424 = true then (bywashlaw14_DomOne.j0 k l0 a1 t404 t406 (!t410)) else (bywashlaw14_DomOne.j0 k l0 a1 t404 t406 false))) else (bywashlaw14_DomOne.j0 k l0 a1 t404 t406 false))))))) else (some t404)))) = some r := h
  clear h
  replace H := Option.bind_eq_some_iff.mp H
  obtain ⟨t404, A50, H⟩ := H
  replace H : ((bywashref10_Few.f k l0).bind fun t405 => (if t405 = true then ((dom_Idoms.f k l0).bind fun t406 => ((dom_Dominates.f k t406 a1 a2).bind fun t409 => ((dom_Dominates.f k t406 a2 a1).bind fun t410 => (if t409 = true then (if t410 = true then (if a1 = a2 then ((dom_Dominates.f k t406 a2 a3).bind fun t411 => (if t411 = true then ((dom_Dominates.f k t406 a1 a3).bind fun t412 => (if t412 = true then ((dom_Dominates.f k t406 a1 a3).bind fun t413 => (if t413 = true then ((dom_Dominates.f k t406 a2 a3).bind fun t414 => (if t414 = true then (bywashlaw14_DomOne.j0 k l0 a1 t404 t406 false) else (bywashlaw14_DomOne.j0 k l0 a1 t404 t406 false))) else (bywashlaw14_DomOne.j0 k l0 a1 t404 t406 false))) else (bywashlaw14_DomOne.j0 k l0 a1 t404 t406 true))) else ((dom_Dominates.f k t406 a1 a3).bind fun t415 => (if t415 = true then ((dom_Dominates.f k t406 a2 a3).bind fun t416 => (if t416 = true then (bywashlaw14_DomOne.j0 k l0 a1 t404 t406 false) else (bywashlaw14_DomOne.j0 k l0 a1 t404 t406 false))) else (bywashlaw14_DomOne.j0 k l0 a1 t404 t406 false))))) else (bywashlaw14_DomOne.j0 k l0 a1 t404 t406 true)) else ((dom_Dominates.f k t406 a2 a3).bind fun t417 => (if t417 = true then ((dom_Dominates.f k t406 a1 a3).bind fun t418 => (if t418 = true then ((dom_Dominates.f k t406 a1 a3).bind fun t419 => (if t419 = true then ((dom_Dominates.f k t406 a2 a3).bind fun t420 => (if t420 = true then (bywashlaw14_DomOne.j0 k l0 a1 t404 t406 false) else (bywashlaw14_DomOne.j0 k l0 a1 t404 t406 false))) else (bywashlaw14_DomOne.j0 k l0 a1 t404 t406 false))) else (bywashlaw14_DomOne.j0 k l0 a1 t404 t406 true))) else ((dom_Dominates.f k t406 a1 a3).bind fun t421 => (if t421 = true then ((dom_Dominates.f k t406 a2 a3).bind fun t422 => (if t422 = true then (bywashlaw14_DomOne.j0 k l0 a1 t404 t406 false) else (bywashlaw14_DomOne.j0 k l0 a1 t404 t406 false))) else (bywashlaw14_DomOne.j0 k l0 a1 t404 t406 false)))))) else ((dom_Dominates.f k t406 a1 a3).bind fun t423 => (if t423 = true then ((dom_Dominates.f k t406 a2 a3).bind fun t424 => (if t424 = true then (bywashlaw14_DomOne.j0 k l0 a1 t404 t406 (!t410)) else (bywashlaw14_DomOne.j0 k l0 a1 t404 t406 false))) else (bywashlaw14_DomOne.j0 k l0 a1 t404 t406 false))))))) else (some t404))) = some r := H
  have A5 := Aside0.mk A50
  clear A50
  replace H := Option.bind_eq_some_iff.mp H
  obtain ⟨t405, A60, H⟩ := H
  replace H : (if t405 = true then ((dom_Idoms.f k l0).bind fun t406 => ((dom_Dominates.f k t406 a1 a2).bind fun t409 => ((dom_Dominates.f k t406 a2 a1).bind fun t410 => (if t409 = true then (if t410 = true then (if a1 = a2 then ((dom_Dominates.f k t406 a2 a3).bind fun t411 => (if t411 = true then ((dom_Dominates.f k t406 a1 a3).bind fun t412 => (if t412 = true then ((dom_Dominates.f k t406 a1 a3).bind fun t413 => (if t413 = true then ((dom_Dominates.f k t406 a2 a3).bind fun t414 => (if t414 = true then (bywashlaw14_DomOne.j0 k l0 a1 t404 t406 false) else (bywashlaw14_DomOne.j0 k l0 a1 t404 t406 false))) else (bywashlaw14_DomOne.j0 k l0 a1 t404 t406 false))) else (bywashlaw14_DomOne.j0 k l0 a1 t404 t406 true))) else ((dom_Dominates.f k t406 a1 a3).bind fun t415 => (if t415 = true then ((dom_Dominates.f k t406 a2 a3).bind fun t416 => (if t416 = true then (bywashlaw14_DomOne.j0 k l0 a1 t404 t406 false) else (bywashlaw14_DomOne.j0 k l0 a1 t404 t406 false))) else (bywashlaw14_DomOne.j0 k l0 a1 t404 t406 false))))) else (bywashlaw14_DomOne.j0 k l0 a1 t404 t406 true)) else ((dom_Dominates.f k t406 a2 a3).bind fun t417 => (if t417 = true then ((dom_Dominates.f k t406 a1 a3).bind fun t418 => (if t418 = true then ((dom_Dominates.f k t406 a1 a3).bind fun t419 => (if t419 = true then ((dom_Dominates.f k t406 a2 a3).bind fun t420 => (if t420 = true then (bywashlaw14_DomOne.j0 k l0 a1 t404 t406 false) else (bywashlaw14_DomOne.j0 k l0 a1 t404 t406 false))) else (bywashlaw14_DomOne.j0 k l0 a1 t404 t406 false))) else (bywashlaw14_DomOne.j0 k l0 a1 t404 t406 true))) else ((dom_Dominates.f k t406 a1 a3).bind fun t421 => (if t421 = true then ((dom_Dominates.f k t406 a2 a3).bind fun t422 => (if t422 = true then (bywashlaw14_DomOne.j0 k l0 a1 t404 t406 false) else (bywashlaw14_DomOne.j0 k l0 a1 t404 t406 false))) else (bywashlaw14_DomOne.j0 k l0 a1 t404 t406 false)))))) else ((dom_Dominates.f k t406 a1 a3).bind fun t423 => (if t423 = true then ((dom_Dominates.f k t406 a2 a3).bind fun t424 => (if t424 = true then (bywashlaw14_DomOne.j0 k l0 a1 t404 t406 (!t410)) else (bywashlaw14_DomOne.j0 k l0 a1 t404 t406 false))) else (bywashlaw14_DomOne.j0 k l0 a1 t404 t406 false))))))) else (some t404)) = some r := H
  have A6 := Aside0.mk A60
  clear A60
  by_cases c7 : t405 = true
  · subst c7
    have H1 : ((dom_Idoms.f k l0).bind fun t406 => ((dom_Dominates.f k t406 a1 a2).bind fun t409 => ((dom_Dominates.f k t406 a2 a1).bind fun t410 => (if t409 = true then (if t410 = true then (if a1 = a2 then ((dom_Dominates.f k t406 a2 a3).bind fun t411 => (if t411 = true then ((dom_Dominates.f k t406 a1 a3).bind fun t412 => (if t412 = true then ((dom_Dominates.f k t406 a1 a3).bind fun t413 => (if t413 = true then ((dom_Dominates.f k t406 a2 a3).bind fun t414 => (if t414 = true then (bywashlaw14_DomOne.j0 k l0 a1 t404 t406 false) else (bywashlaw14_DomOne.j0 k l0 a1 t404 t406 false))) else (bywashlaw14_DomOne.j0 k l0 a1 t404 t406 false))) else (bywashlaw14_DomOne.j0 k l0 a1 t404 t406 true))) else ((dom_Dominates.f k t406 a1 a3).bind fun t415 => (if t415 = true then ((dom_Dominates.f k t406 a2 a3).bind fun t416 => (if t416 = true then (bywashlaw14_DomOne.j0 k l0 a1 t404 t406 false) else (bywashlaw14_DomOne.j0 k l0 a1 t404 t406 false))) else (bywashlaw14_DomOne.j0 k l0 a1 t404 t406 false))))) else (bywashlaw14_DomOne.j0 k l0 a1 t404 t406 true)) else ((dom_Dominates.f k t406 a2 a3).bind fun t417 => (if t417 = true then ((dom_Dominates.f k t406 a1 a3).bind fun t418 => (if t418 = true then ((dom_Dominates.f k t406 a1 a3).bind fun t419 => (if t419 = true then ((dom_Dominates.f k t406 a2 a3).bind fun t420 => (if t420 = true then (bywashlaw14_DomOne.j0 k l0 a1 t404 t406 false) else (bywashlaw14_DomOne.j0 k l0 a1 t404 t406 false))) else (bywashlaw14_DomOne.j0 k l0 a1 t404 t406 false))) else (bywashlaw14_DomOne.j0 k l0 a1 t404 t406 true))) else ((dom_Dominates.f k t406 a1 a3).bind fun t421 => (if t421 = true then ((dom_Dominates.f k t406 a2 a3).bind fun t422 => (if t422 = true then (bywashlaw14_DomOne.j0 k l0 a1 t404 t406 false) else (bywashlaw14_DomOne.j0 k l0 a1 t404 t406 false))) else (bywashlaw14_DomOne.j0 k l0 a1 t404 t406 false)))))) else ((dom_Dominates.f k t406 a1 a3).bind fun t423 => (if t423 = true then ((dom_Dominates.f k t406 a2 a3).bind fun t424 => (if t424 = true then (bywashlaw14_DomOne.j0 k l0 a1 t404 t406 (!t410)) else (bywashlaw14_DomOne.j0 k l0 a1 t404 t406 false))) else (bywashlaw14_DomOne.j0 k l0 a1 t404 t406 false))))))) = some r := by rw [if_pos rfl] at H; exact H
    clear H
    have H := H1
    clear H1
    replace H := Option.bind_eq_some_iff.mp H
    obtain ⟨t406, A80, H⟩ := H
    replace H : ((dom_Dominates.f k t406 a1 a2).bind fun t409 => ((dom_Dominates.f k t406 a2 a1).bind fun t410 => (if t409 = true then (if t410 = true then (if a1 = a2 then ((dom_Dominates.f k t406 a2 a3).bind fun t411 => (if t411 = true then ((dom_Dominates.f k t406 a1 a3).bind fun t412 => (if t412 = true then ((dom_Dominates.f k t406 a1 a3).bind fun t413 => (if t413 = true then ((dom_Dominates.f k t406 a2 a3).bind fun t414 => (if t414 = true then (bywashlaw14_DomOne.j0 k l0 a1 t404 t406 false) else (bywashlaw14_DomOne.j0 k l0 a1 t404 t406 false))) else (bywashlaw14_DomOne.j0 k l0 a1 t404 t406 false))) else (bywashlaw14_DomOne.j0 k l0 a1 t404 t406 true))) else ((dom_Dominates.f k t406 a1 a3).bind fun t415 => (if t415 = true then ((dom_Dominates.f k t406 a2 a3).bind fun t416 => (if t416 = true then (bywashlaw14_DomOne.j0 k l0 a1 t404 t406 false) else (bywashlaw14_DomOne.j0 k l0 a1 t404 t406 false))) else (bywashlaw14_DomOne.j0 k l0 a1 t404 t406 false))))) else (bywashlaw14_DomOne.j0 k l0 a1 t404 t406 true)) else ((dom_Dominates.f k t406 a2 a3).bind fun t417 => (if t417 = true then ((dom_Dominates.f k t406 a1 a3).bind fun t418 => (if t418 = true then ((dom_Dominates.f k t406 a1 a3).bind fun t419 => (if t419 = true then ((dom_Dominates.f k t406 a2 a3).bind fun t420 => (if t420 = true then (bywashlaw14_DomOne.j0 k l0 a1 t404 t406 false) else (bywashlaw14_DomOne.j0 k l0 a1 t404 t406 false))) else (bywashlaw14_DomOne.j0 k l0 a1 t404 t406 false))) else (bywashlaw14_DomOne.j0 k l0 a1 t404 t406 true))) else ((dom_Dominates.f k t406 a1 a3).bind fun t421 => (if t421 = true then ((dom_Dominates.f k t406 a2 a3).bind fun t422 => (if t422 = true then (bywashlaw14_DomOne.j0 k l0 a1 t404 t406 false) else (bywashlaw14_DomOne.j0 k l0 a1 t404 t406 false))) else (bywashlaw14_DomOne.j0 k l0 a1 t404 t406 false)))))) else ((dom_Dominates.f k t406 a1 a3).bind fun t423 => (if t423 = true then ((dom_Dominates.f k t406 a2 a3).bind fun t424 => (if t424 = true then (bywashlaw14_DomOne.j0 k l0 a1 t404 t406 (!t410)) else (bywashlaw14_DomOne.j0 k l0 a1 t404 t406 false))) else (bywashlaw14_DomOne.j0 k l0 a1 t404 t406 false)))))) = some r := H
    have A8 := Aside0.mk A80
    clear A80
    replace H := Option.bind_eq_some_iff.mp H
    obtain ⟨t409, A90, H⟩ := H
    replace H : ((dom_Dominates.f k t406 a2 a1).bind fun t410 => (if t409 = true then (if t410 = true then (if a1 = a2 then ((dom_Dominates.f k t406 a2 a3).bind fun t411 => (if t411 = true then ((dom_Dominates.f k t406 a1 a3).bind fun t412 => (if t412 = true then ((dom_Dominates.f k t406 a1 a3).bind fun t413 => (if t413 = true then ((dom_Dominates.f k t406 a2 a3).bind fun t414 => (if t414 = true then (bywashlaw14_DomOne.j0 k l0 a1 t404 t406 false) else (bywashlaw14_DomOne.j0 k l0 a1 t404 t406 false))) else (bywashlaw14_DomOne.j0 k l0 a1 t404 t406 false))) else (bywashlaw14_DomOne.j0 k l0 a1 t404 t406 true))) else ((dom_Dominates.f k t406 a1 a3).bind fun t415 => (if t415 = true then ((dom_Dominates.f k t406 a2 a3).bind fun t416 => (if t416 = true then (bywashlaw14_DomOne.j0 k l0 a1 t404 t406 false) else (bywashlaw14_DomOne.j0 k l0 a1 t404 t406 false))) else (bywashlaw14_DomOne.j0 k l0 a1 t404 t406 false))))) else (bywashlaw14_DomOne.j0 k l0 a1 t404 t406 true)) else ((dom_Dominates.f k t406 a2 a3).bind fun t417 => (if t417 = true then ((dom_Dominates.f k t406 a1 a3).bind fun t418 => (if t418 = true then ((dom_Dominates.f k t406 a1 a3).bind fun t419 => (if t419 = true then ((dom_Dominates.f k t406 a2 a3).bind fun t420 => (if t420 = true then (bywashlaw14_DomOne.j0 k l0 a1 t404 t406 false) else (bywashlaw14_DomOne.j0 k l0 a1 t404 t406 false))) else (bywashlaw14_DomOne.j0 k l0 a1 t404 t406 false))) else (bywashlaw14_DomOne.j0 k l0 a1 t404 t406 true))) else ((dom_Dominates.f k t406 a1 a3).bind fun t421 => (if t421 = true then ((dom_Dominates.f k t406 a2 a3).bind fun t422 => (if t422 = true then (bywashlaw14_DomOne.j0 k l0 a1 t404 t406 false) else (bywashlaw14_DomOne.j0 k l0 a1 t404 t406 false))) else (bywashlaw14_DomOne.j0 k l0 a1 t404 t406 false)))))) else ((dom_Dominates.f k t406 a1 a3).bind fun t423 => (if t423 = true then ((dom_Dominates.f k t406 a2 a3).bind fun t424 => (if t424 = true then (bywashlaw14_DomOne.j0 k l0 a1 t404 t406 (!t410)) else (bywashlaw14_DomOne.j0 k l0 a1 t404 t406 false))) else (bywashlaw14_DomOne.j0 k l0 a1 t404 t406 false))))) = some r := H
    have A9 := Aside0.mk A90
    clear A90
    replace H := Option.bind_eq_some_iff.mp H
    obtain ⟨t410, A100, H⟩ := H
    replace H : (if t409 = true then (if t410 = true then (if a1 = a2 then ((dom_Dominates.f k t406 a2 a3).bind fun t411 => (if t411 = true then ((dom_Dominates.f k t406 a1 a3).bind fun t412 => (if t412 = true then ((dom_Dominates.f k t406 a1 a3).bind fun t413 => (if t413 = true then ((dom_Dominates.f k t406 a2 a3).bind fun t414 => (if t414 = true then (bywashlaw14_DomOne.j0 k l0 a1 t404 t406 false) else (bywashlaw14_DomOne.j0 k l0 a1 t404 t406 false))) else (bywashlaw14_DomOne.j0 k l0 a1 t404 t406 false))) else (bywashlaw14_DomOne.j0 k l0 a1 t404 t406 true))) else ((dom_Dominates.f k t406 a1 a3).bind fun t415 => (if t415 = true then ((dom_Dominates.f k t406 a2 a3).bind fun t416 => (if t416 = true then (bywashlaw14_DomOne.j0 k l0 a1 t404 t406 false) else (bywashlaw14_DomOne.j0 k l0 a1 t404 t406 false))) else (bywashlaw14_DomOne.j0 k l0 a1 t404 t406 false))))) else (bywashlaw14_DomOne.j0 k l0 a1 t404 t406 true)) else ((dom_Dominates.f k t406 a2 a3).bind fun t417 => (if t417 = true then ((dom_Dominates.f k t406 a1 a3).bind fun t418 => (if t418 = true then ((dom_Dominates.f k t406 a1 a3).bind fun t419 => (if t419 = true then ((dom_Dominates.f k t406 a2 a3).bind fun t420 => (if t420 = true then (bywashlaw14_DomOne.j0 k l0 a1 t404 t406 false) else (bywashlaw14_DomOne.j0 k l0 a1 t404 t406 false))) else (bywashlaw14_DomOne.j0 k l0 a1 t404 t406 false))) else (bywashlaw14_DomOne.j0 k l0 a1 t404 t406 true))) else ((dom_Dominates.f k t406 a1 a3).bind fun t421 => (if t421 = true then ((dom_Dominates.f k t406 a2 a3).bind fun t422 => (if t422 = true then (bywashlaw14_DomOne.j0 k l0 a1 t404 t406 false) else (bywashlaw14_DomOne.j0 k l0 a1 t404 t406 false))) else (bywashlaw14_DomOne.j0 k l0 a1 t404 t406 false)))))) else ((dom_Dominates.f k t406 a1 a3).bind fun t423 => (if t423 = true then ((dom_Dominates.f k t406 a2 a3).bind fun t424 => (if t424 = true then (bywashlaw14_DomOne.j0 k l0 a1 t404 t406 (!t410)) else (bywashlaw14_DomOne.j0 k l0 a1 t404 t406 false))) else (bywashlaw14_DomOne.j0 k l0 a1 t404 t406 false)))) = some r := H
    have A10 := Aside0.mk A100
    clear A100
    have HC11 := Aside0.mk H
    clear H
    go_enter Try.func8, Try.ntmps8
    go_upto_region 7 with (first | ((with_reducible refine gate_callee (f := 13) rfl ?_); refine goesL_ (some 14) rfl rfl Try.func13 (by kernel_rfl) rfl #[] rfl (by (try simp only [List.map_toArray, List.map_cons, List.map_nil]); first | done | rfl | (simp only [List.length_drop, List.length_take]; rfl)) ?_; (with_reducible refine (bywashlaw14_awake.calls k  t404 _ A5.out).mono ?_); rintro e w12 ⟨rfl, hb⟩; refine ⟨_, rfl, ?_⟩; have n0_ := Aside0.mk (below_step (by repeat (first | (with_reducible first | exact HB.out | apply below_alloc | apply pw_below_drewN | apply below_drew1) | exact HB.out)) hb); clear HB; have HB := n0_; clear n0_; (try clear hb); (try clear hb2); (try clear hk); (try clear hi)) | ((with_reducible refine gate_callee (f := 14) rfl ?_); refine goesL_ (some 16) rfl rfl Try.func14 (by kernel_rfl) rfl #[.slice A0 l0.length c0] rfl (by (try simp only [List.map_toArray, List.map_cons, List.map_nil]); first | done | rfl | (simp only [List.length_drop, List.length_take]; rfl)) ?_; (with_reducible refine (bywashref10_Few.calls k _ _ l0 true _ ?side1 ?side2 A6.out).mono ?_); (case side1 => repeat (first | exact (Kd.C_below HR0.out HB.out) | (with_reducible refine Kd.C_alloc ?_ _) | (with_reducible refine Kd.C_drewN ?_ _) | (with_reducible refine Kd.C_drew ?_))); (case side2 => exact HC0.out); rintro e w' ⟨rfl, ⟨nd, rfl⟩⟩; refine ⟨_, rfl, ?_⟩) | ((with_reducible refine gate_callee (f := 15) rfl ?_); refine goesL_ (some 20) rfl rfl Try.func15 (by kernel_rfl) rfl #[.slice A0 l0.length c0] rfl (by (try simp only [List.map_toArray, List.map_cons, List.map_nil]); first | done | rfl | (simp only [List.length_drop, List.length_take]; rfl)) ?_; (with_reducible refine (dom_Idoms.calls k _ _ l0 t406 _ ?side1 ?side2 A8.out).mono ?_); (case side1 => repeat (first | exact (Kd.C_below HR0.out (by repeat (first | (with_reducible first | exact HB.out | apply below_alloc | apply pw_below_drewN | apply below_drew1) | exact HB.out))) | (with_reducible refine Kd.C_alloc ?_ _) | (with_reducible refine Kd.C_drewN ?_ _) | (with_reducible refine Kd.C_drew ?_))); (case side2 => exact HC0.out); rintro e w13 ⟨v407, rfl, ho0, hb⟩; refine ⟨_, rfl, ?_⟩; have n0_ := Aside0.mk (Kd.R_lower ho0 (below_size (by repeat (first | (with_reducible first | exact HB.out | apply below_alloc | apply pw_below_drewN | apply below_drew1) | exact HB.out)))); have n1_ := Aside0.mk (below_step (by repeat (first | (with_reducible first | exact HB.out | apply below_alloc | apply pw_below_drewN | apply below_drew1) | exact HB.out)) hb); clear HB; have HO408 := n0_; have HB := n1_; clear n0_ n1_; (try clear hb); (try clear hb2); (try clear hk); (try clear hi); (try clear ho0); obtain ⟨Ao14, co14, eo14⟩ := Kd.R_slice HO408.out; subst eo14) | ((with_reducible refine gate_callee (f := 17) rfl ?_); refine goesL_ (some 24) rfl rfl Try.func17 (by kernel_rfl) rfl #[.slice Ao14 t406.length co14, .int .i64 a1, .int .i64 a2] rfl (by (try simp only [List.map_toArray, List.map_cons, List.map_nil]); first | done | rfl | (simp only [List.length_drop, List.length_take]; rfl)) ?_; (with_reducible refine (dom_Dominates.calls k _ _ t406 a1 a2 t409 _ ?side1 ?side2 A9.out).mono ?_); (case side1 => repeat (first | exact (Kd.R_reads' HO408.out).2.2 | (with_reducible refine Kd.C_alloc ?_ _) | (with_reducible refine Kd.C_drewN ?_ _) | (with_reducible refine Kd.C_drew ?_))); (case side2 => exact (Kd.R_reads' HO408.out).2.1); rintro e w15 ⟨rfl, hb⟩; refine ⟨_, rfl, ?_⟩; have n0_ := Aside0.mk (Kd.R_below (by (with_reducible repeat (first | apply Kd.R_alloc | apply Kd.R_drewN | apply Kd.R_drew)); exact HO408.out) hb); have n1_ := Aside0.mk (below_step (by repeat (first | (with_reducible first | exact HB.out | apply below_alloc | apply pw_below_drewN | apply below_drew1) | exact HB.out)) hb); clear HO408; clear HB; have HO408 := n0_; have HB := n1_; clear n0_ n1_; (try clear hb); (try clear hb2); (try clear hk); (try clear hi)) | ((with_reducible refine gate_callee (f := 17) rfl ?_); refine goesL_ (some 28) rfl rfl Try.func17 (by kernel_rfl) rfl #[.slice Ao14 t406.length co14, .int .i64 a2, .int .i64 a1] rfl (by (try simp only [List.map_toArray, List.map_cons, List.map_nil]); first | done | rfl | (simp only [List.length_drop, List.length_take]; rfl)) ?_; (with_reducible refine (dom_Dominates.calls k _ _ t406 a2 a1 t410 _ ?side1 ?side2 A10.out).mono ?_); (case side1 => repeat (first | exact (Kd.R_reads' HO408.out).2.2 | (with_reducible refine Kd.C_alloc ?_ _) | (with_reducible refine Kd.C_drewN ?_ _) | (with_reducible refine Kd.C_drew ?_))); (case side2 => exact (Kd.R_reads' HO408.out).2.1); rintro e w16 ⟨rfl, hb⟩; refine ⟨_, rfl, ?_⟩; have n0_ := Aside0.mk (Kd.R_below (by (with_reducible repeat (first | apply Kd.R_alloc | apply Kd.R_drewN | apply Kd.R_drew)); exact HO408.out) hb); have n1_ := Aside0.mk (below_step (by repeat (first | (with_reducible first | exact HB.out | apply below_alloc | apply pw_below_drewN | apply below_drew1) | exact HB.out)) hb); clear HO408; clear HB; have HO408 := n0_; have HB := n1_; clear n0_ n1_; (try clear hb); (try clear hb2); (try clear hk); (try clear hi)))
    (try simp only [Act.put, List.setIfInBounds_toArray, List.set_cons_zero, List.set_cons_succ])
    go_cut [73] (fun v73 wc => ∃ (kq : Nat) (x73_10 : Bool), v73 = .bool x73_10 ∧ Aside0 (bywashlaw14_DomOne.j0 kq l0 a1 t404 t406 x73_10 = some r) ∧ Aside0 (kq ≤ k) ∧ Aside0 (Kd.R (Kd.int .i64) 3 wc w.heap.size (fun _ => True) (.slice Ao14 t406.length co14) t406) ∧ Aside0 (Below w.heap.size w wc))
    case first =>
      have H := HC11.out
      clear HC11
      by_cases c17 : t409 = true
      · subst c17
        have H1 : (if t410 = true then (if a1 = a2 then ((dom_Dominates.f k t406 a2 a3).bind fun t411 => (if t411 = true then ((dom_Dominates.f k t406 a1 a3).bind fun t412 => (if t412 = true then ((dom_Dominates.f k t406 a1 a3).bind fun t413 => (if t413 = true then ((dom_Dominates.f k t406 a2 a3).bind fun t414 => (if t414 = true then (bywashlaw14_DomOne.j0 k l0 a1 t404 t406 false) else (bywashlaw14_DomOne.j0 k l0 a1 t404 t406 false))) else (bywashlaw14_DomOne.j0 k l0 a1 t404 t406 false))) else (bywashlaw14_DomOne.j0 k l0 a1 t404 t406 true))) else ((dom_Dominates.f k t406 a1 a3).bind fun t415 => (if t415 = true then ((dom_Dominates.f k t406 a2 a3).bind fun t416 => (if t416 = true then (bywashlaw14_DomOne.j0 k l0 a1 t404 t406 false) else (bywashlaw14_DomOne.j0 k l0 a1 t404 t406 false))) else (bywashlaw14_DomOne.j0 k l0 a1 t404 t406 false))))) else (bywashlaw14_DomOne.j0 k l0 a1 t404 t406 true)) else ((dom_Dominates.f k t406 a2 a3).bind fun t417 => (if t417 = true then ((dom_Dominates.f k t406 a1 a3).bind fun t418 => (if t418 = true then ((dom_Dominates.f k t406 a1 a3).bind fun t419 => (if t419 = true then ((dom_Dominates.f k t406 a2 a3).bind fun t420 => (if t420 = true then (bywashlaw14_DomOne.j0 k l0 a1 t404 t406 false) else (bywashlaw14_DomOne.j0 k l0 a1 t404 t406 false))) else (bywashlaw14_DomOne.j0 k l0 a1 t404 t406 false))) else (bywashlaw14_DomOne.j0 k l0 a1 t404 t406 true))) else ((dom_Dominates.f k t406 a1 a3).bind fun t421 => (if t421 = true then ((dom_Dominates.f k t406 a2 a3).bind fun t422 => (if t422 = true then (bywashlaw14_DomOne.j0 k l0 a1 t404 t406 false) else (bywashlaw14_DomOne.j0 k l0 a1 t404 t406 false))) else (bywashlaw14_DomOne.j0 k l0 a1 t404 t406 false)))))) = some r := by rw [if_pos rfl] at H; exact H
        clear H
        have H := H1
        clear H1
        by_cases c18 : t410 = true
        · subst c18
          have H1 : (if a1 = a2 then ((dom_Dominates.f k t406 a2 a3).bind fun t411 => (if t411 = true then ((dom_Dominates.f k t406 a1 a3).bind fun t412 => (if t412 = true then ((dom_Dominates.f k t406 a1 a3).bind fun t413 => (if t413 = true then ((dom_Dominates.f k t406 a2 a3).bind fun t414 => (if t414 = true then (bywashlaw14_DomOne.j0 k l0 a1 t404 t406 false) else (bywashlaw14_DomOne.j0 k l0 a1 t404 t406 false))) else (bywashlaw14_DomOne.j0 k l0 a1 t404 t406 false))) else (bywashlaw14_DomOne.j0 k l0 a1 t404 t406 true))) else ((dom_Dominates.f k t406 a1 a3).bind fun t415 => (if t415 = true then ((dom_Dominates.f k t406 a2 a3).bind fun t416 => (if t416 = true then (bywashlaw14_DomOne.j0 k l0 a1 t404 t406 false) else (bywashlaw14_DomOne.j0 k l0 a1 t404 t406 false))) else (bywashlaw14_DomOne.j0 k l0 a1 t404 t406 false))))) else (bywashlaw14_DomOne.j0 k l0 a1 t404 t406 true)) = some r := by rw [if_pos rfl] at H; exact H
          clear H
          have H := H1
          clear H1
          by_cases c19 : a1 = a2
          · rw [if_pos c19] at H
            have c19b0 : (a1 == a2) = true := beq_iff_eq.mpr c19
            have c19b1 : (a1 != a2) = false := bne_eq_false_iff_eq.mpr c19
            clear c19
            (first | rw [c19b0] | (simp only [i64_w, i32_w]; rw [c19b0]) | skip)
            replace H := Option.bind_eq_some_iff.mp H
            obtain ⟨t411, A200, H⟩ := H
            replace H : (if t411 = true then ((dom_Dominates.f k t406 a1 a3).bind fun t412 => (if t412 = true then ((dom_Dominates.f k t406 a1 a3).bind fun t413 => (if t413 = true then ((dom_Dominates.f k t406 a2 a3).bind fun t414 => (if t414 = true then (bywashlaw14_DomOne.j0 k l0 a1 t404 t406 false) else (bywashlaw14_DomOne.j0 k l0 a1 t404 t406 false))) else (bywashlaw14_DomOne.j0 k l0 a1 t404 t406 false))) else (bywashlaw14_DomOne.j0 k l0 a1 t404 t406 true))) else ((dom_Dominates.f k t406 a1 a3).bind fun t415 => (if t415 = true then ((dom_Dominates.f k t406 a2 a3).bind fun t416 => (if t416 = true then (bywashlaw14_DomOne.j0 k l0 a1 t404 t406 false) else (bywashlaw14_DomOne.j0 k l0 a1 t404 t406 false))) else (bywashlaw14_DomOne.j0 k l0 a1 t404 t406 false)))) = some r := H
            have A20 := Aside0.mk A200
            clear A200
            by_cases c21 : t411 = true
            · subst c21
              have H1 : ((dom_Dominates.f k t406 a1 a3).bind fun t412 => (if t412 = true then ((dom_Dominates.f k t406 a1 a3).bind fun t413 => (if t413 = true then ((dom_Dominates.f k t406 a2 a3).bind fun t414 => (if t414 = true then (bywashlaw14_DomOne.j0 k l0 a1 t404 t406 false) else (bywashlaw14_DomOne.j0 k l0 a1 t404 t406 false))) else (bywashlaw14_DomOne.j0 k l0 a1 t404 t406 false))) else (bywashlaw14_DomOne.j0 k l0 a1 t404 t406 true))) = some r := by rw [if_pos rfl] at H; exact H
              clear H
              have H := H1
              clear H1
              replace H := Option.bind_eq_some_iff.mp H
              obtain ⟨t412, A220, H⟩ := H
              replace H : (if t412 = true then ((dom_Dominates.f k t406 a1 a3).bind fun t413 => (if t413 = true then ((dom_Dominates.f k t406 a2 a3).bind fun t414 => (if t414 = true then (bywashlaw14_DomOne.j0 k l0 a1 t404 t406 false) else (bywashlaw14_DomOne.j0 k l0 a1 t404 t406 false))) else (bywashlaw14_DomOne.j0 k l0 a1 t404 t406 false))) else (bywashlaw14_DomOne.j0 k l0 a1 t404 t406 true)) = some r := H
              have A22 := Aside0.mk A220
              clear A220
              by_cases c23 : t412 = true
              · subst c23
                have H1 : ((dom_Dominates.f k t406 a1 a3).bind fun t413 => (if t413 = true then ((dom_Dominates.f k t406 a2 a3).bind fun t414 => (if t414 = true then (bywashlaw14_DomOne.j0 k l0 a1 t404 t406 false) else (bywashlaw14_DomOne.j0 k l0 a1 t404 t406 false))) else (bywashlaw14_DomOne.j0 k l0 a1 t404 t406 false))) = some r := by rw [if_pos rfl] at H; exact H
                clear H
                have H := H1
                clear H1
                replace H := Option.bind_eq_some_iff.mp H
                obtain ⟨t413, A240, H⟩ := H
                replace H : (if t413 = true then ((dom_Dominates.f k t406 a2 a3).bind fun t414 => (if t414 = true then (bywashlaw14_DomOne.j0 k l0 a1 t404 t406 false) else (bywashlaw14_DomOne.j0 k l0 a1 t404 t406 false))) else (bywashlaw14_DomOne.j0 k l0 a1 t404 t406 false)) = some r := H
                have A24 := Aside0.mk A240
                clear A240
                by_cases c25 : t413 = true
                · subst c25
                  have H1 : ((dom_Dominates.f k t406 a2 a3).bind fun t414 => (if t414 = true then (bywashlaw14_DomOne.j0 k l0 a1 t404 t406 false) else (bywashlaw14_DomOne.j0 k l0 a1 t404 t406 false))) = some r := by rw [if_pos rfl] at H; exact H
                  clear H
                  have H := H1
                  clear H1
                  replace H := Option.bind_eq_some_iff.mp H
                  obtain ⟨t414, A260, H⟩ := H
                  replace H : (if t414 = true then (bywashlaw14_DomOne.j0 k l0 a1 t404 t406 false) else (bywashlaw14_DomOne.j0 k l0 a1 t404 t406 false)) = some r := H
                  have A26 := Aside0.mk A260
                  clear A260
                  by_cases c27 : t414 = true
                  · subst c27
                    have H1 : (bywashlaw14_DomOne.j0 k l0 a1 t404 t406 false) = some r := by rw [if_pos rfl] at H; exact H
                    clear H
                    have H := H1
                    clear H1
                    have H' := Aside0.mk H
                    clear H
                    go_wp2_with (first | (go_at_call 17; (with_reducible refine (dom_Dominates.calls k _ _ t406 a2 a3 true _ ?side1 ?side2 A20.out).mono ?_); (case side1 => repeat (first | exact (Kd.R_reads' HO408.out).2.2 | (with_reducible refine Kd.C_alloc ?_ _) | (with_reducible refine Kd.C_drewN ?_ _) | (with_reducible refine Kd.C_drew ?_))); (case side2 => exact (Kd.R_reads' HO408.out).2.1); rintro e w28 ⟨rfl, hb⟩; have n0_ := Aside0.mk (Kd.R_below (by (with_reducible repeat (first | apply Kd.R_alloc | apply Kd.R_drewN | apply Kd.R_drew)); exact HO408.out) hb); have n1_ := Aside0.mk (below_step (by repeat (first | (with_reducible first | exact HB.out | apply below_alloc | apply pw_below_drewN | apply below_drew1) | exact HB.out)) hb); clear HO408; clear HB; have HO408 := n0_; have HB := n1_; clear n0_ n1_; (try clear hb); (try clear hb2); (try clear hk); (try clear hi)) | (go_at_call 17; (with_reducible refine (dom_Dominates.calls k _ _ t406 a1 a3 true _ ?side1 ?side2 A22.out).mono ?_); (case side1 => repeat (first | exact (Kd.R_reads' HO408.out).2.2 | (with_reducible refine Kd.C_alloc ?_ _) | (with_reducible refine Kd.C_drewN ?_ _) | (with_reducible refine Kd.C_drew ?_))); (case side2 => exact (Kd.R_reads' HO408.out).2.1); rintro e w29 ⟨rfl, hb⟩; have n0_ := Aside0.mk (Kd.R_below (by (with_reducible repeat (first | apply Kd.R_alloc | apply Kd.R_drewN | apply Kd.R_drew)); exact HO408.out) hb); have n1_ := Aside0.mk (below_step (by repeat (first | (with_reducible first | exact HB.out | apply below_alloc | apply pw_below_drewN | apply below_drew1) | exact HB.out)) hb); clear HO408; clear HB; have HO408 := n0_; have HB := n1_; clear n0_ n1_; (try clear hb); (try clear hb2); (try clear hk); (try clear hi)) | (go_at_call 17; (with_reducible refine (dom_Dominates.calls k _ _ t406 a1 a3 true _ ?side1 ?side2 A24.out).mono ?_); (case side1 => repeat (first | exact (Kd.R_reads' HO408.out).2.2 | (with_reducible refine Kd.C_alloc ?_ _) | (with_reducible refine Kd.C_drewN ?_ _) | (with_reducible refine Kd.C_drew ?_))); (case side2 => exact (Kd.R_reads' HO408.out).2.1); rintro e w30 ⟨rfl, hb⟩; have n0_ := Aside0.mk (Kd.R_below (by (with_reducible repeat (first | apply Kd.R_alloc | apply Kd.R_drewN | apply Kd.R_drew)); exact HO408.out) hb); have n1_ := Aside0.mk (below_step (by repeat (first | (with_reducible first | exact HB.out | apply below_alloc | apply pw_below_drewN | apply below_drew1) | exact HB.out)) hb); clear HO408; clear HB; have HO408 := n0_; have HB := n1_; clear n0_ n1_; (try clear hb); (try clear hb2); (try clear hk); (try clear hi)) | (go_at_call 17; (with_reducible refine (dom_Dominates.calls k _ _ t406 a2 a3 true _ ?side1 ?side2 A26.out).mono ?_); (case side1 => repeat (first | exact (Kd.R_reads' HO408.out).2.2 | (with_reducible refine Kd.C_alloc ?_ _) | (with_reducible refine Kd.C_drewN ?_ _) | (with_reducible refine Kd.C_drew ?_))); (case side2 => exact (Kd.R_reads' HO408.out).2.1); rintro e w31 ⟨rfl, hb⟩; have n0_ := Aside0.mk (Kd.R_below (by (with_reducible repeat (first | apply Kd.R_alloc | apply Kd.R_drewN | apply Kd.R_drew)); exact HO408.out) hb); have n1_ := Aside0.mk (below_step (by repeat (first | (with_reducible first | exact HB.out | apply below_alloc | apply pw_below_drewN | apply below_drew1) | exact HB.out)) hb); clear HO408; clear HB; have HO408 := n0_; have HB := n1_; clear n0_ n1_; (try clear hb); (try clear hb2); (try clear hk); (try clear hi)))
                    go_meet
                    case rel => exact ⟨_, (false), (by first | rfl | (simp; done) | (simp [*]; done)), H', ⟨by first | omega | exact Nat.le_refl _⟩, ⟨by (with_reducible repeat (first | apply Kd.R_alloc | apply Kd.R_drewN | apply Kd.R_drew)); exact HO408.out⟩, ⟨by repeat (first | (with_reducible first | exact HB.out | apply below_alloc | apply pw_below_drewN | apply below_drew1) | exact HB.out)⟩⟩
                  · replace c27 := Bool.eq_false_iff.mpr c27
                    subst c27
                    have H1 : (bywashlaw14_DomOne.j0 k l0 a1 t404 t406 false) = some r := by rw [if_neg (show ¬ (false = true) by decide)] at H; exact H
                    clear H
                    have H := H1
                    clear H1
                    have H' := Aside0.mk H
                    clear H
                    go_wp2_with (first | (go_at_call 17; (with_reducible refine (dom_Dominates.calls k _ _ t406 a2 a3 true _ ?side1 ?side2 A20.out).mono ?_); (case side1 => repeat (first | exact (Kd.R_reads' HO408.out).2.2 | (with_reducible refine Kd.C_alloc ?_ _) | (with_reducible refine Kd.C_drewN ?_ _) | (with_reducible refine Kd.C_drew ?_))); (case side2 => exact (Kd.R_reads' HO408.out).2.1); rintro e w32 ⟨rfl, hb⟩; have n0_ := Aside0.mk (Kd.R_below (by (with_reducible repeat (first | apply Kd.R_alloc | apply Kd.R_drewN | apply Kd.R_drew)); exact HO408.out) hb); have n1_ := Aside0.mk (below_step (by repeat (first | (with_reducible first | exact HB.out | apply below_alloc | apply pw_below_drewN | apply below_drew1) | exact HB.out)) hb); clear HO408; clear HB; have HO408 := n0_; have HB := n1_; clear n0_ n1_; (try clear hb); (try clear hb2); (try clear hk); (try clear hi)) | (go_at_call 17; (with_reducible refine (dom_Dominates.calls k _ _ t406 a1 a3 true _ ?side1 ?side2 A22.out).mono ?_); (case side1 => repeat (first | exact (Kd.R_reads' HO408.out).2.2 | (with_reducible refine Kd.C_alloc ?_ _) | (with_reducible refine Kd.C_drewN ?_ _) | (with_reducible refine Kd.C_drew ?_))); (case side2 => exact (Kd.R_reads' HO408.out).2.1); rintro e w33 ⟨rfl, hb⟩; have n0_ := Aside0.mk (Kd.R_below (by (with_reducible repeat (first | apply Kd.R_alloc | apply Kd.R_drewN | apply Kd.R_drew)); exact HO408.out) hb); have n1_ := Aside0.mk (below_step (by repeat (first | (with_reducible first | exact HB.out | apply below_alloc | apply pw_below_drewN | apply below_drew1) | exact HB.out)) hb); clear HO408; clear HB; have HO408 := n0_; have HB := n1_; clear n0_ n1_; (try clear hb); (try clear hb2); (try clear hk); (try clear hi)) | (go_at_call 17; (with_reducible refine (dom_Dominates.calls k _ _ t406 a1 a3 true _ ?side1 ?side2 A24.out).mono ?_); (case side1 => repeat (first | exact (Kd.R_reads' HO408.out).2.2 | (with_reducible refine Kd.C_alloc ?_ _) | (with_reducible refine Kd.C_drewN ?_ _) | (with_reducible refine Kd.C_drew ?_))); (case side2 => exact (Kd.R_reads' HO408.out).2.1); rintro e w34 ⟨rfl, hb⟩; have n0_ := Aside0.mk (Kd.R_below (by (with_reducible repeat (first | apply Kd.R_alloc | apply Kd.R_drewN | apply Kd.R_drew)); exact HO408.out) hb); have n1_ := Aside0.mk (below_step (by repeat (first | (with_reducible first | exact HB.out | apply below_alloc | apply pw_below_drewN | apply below_drew1) | exact HB.out)) hb); clear HO408; clear HB; have HO408 := n0_; have HB := n1_; clear n0_ n1_; (try clear hb); (try clear hb2); (try clear hk); (try clear hi)) | (go_at_call 17; (with_reducible refine (dom_Dominates.calls k _ _ t406 a2 a3 false _ ?side1 ?side2 A26.out).mono ?_); (case side1 => repeat (first | exact (Kd.R_reads' HO408.out).2.2 | (with_reducible refine Kd.C_alloc ?_ _) | (with_reducible refine Kd.C_drewN ?_ _) | (with_reducible refine Kd.C_drew ?_))); (case side2 => exact (Kd.R_reads' HO408.out).2.1); rintro e w35 ⟨rfl, hb⟩; have n0_ := Aside0.mk (Kd.R_below (by (with_reducible repeat (first | apply Kd.R_alloc | apply Kd.R_drewN | apply Kd.R_drew)); exact HO408.out) hb); have n1_ := Aside0.mk (below_step (by repeat (first | (with_reducible first | exact HB.out | apply below_alloc | apply pw_below_drewN | apply below_drew1) | exact HB.out)) hb); clear HO408; clear HB; have HO408 := n0_; have HB := n1_; clear n0_ n1_; (try clear hb); (try clear hb2); (try clear hk); (try clear hi)))
                    go_meet
                    case rel => exact ⟨_, (false), (by first | rfl | (simp; done) | (simp [*]; done)), H', ⟨by first | omega | exact Nat.le_refl _⟩, ⟨by (with_reducible repeat (first | apply Kd.R_alloc | apply Kd.R_drewN | apply Kd.R_drew)); exact HO408.out⟩, ⟨by repeat (first | (with_reducible first | exact HB.out | apply below_alloc | apply pw_below_drewN | apply below_drew1) | exact HB.out)⟩⟩
                · replace c25 := Bool.eq_false_iff.mpr c25
                  subst c25
                  have H1 : (bywashlaw14_DomOne.j0 k l0 a1 t404 t406 false) = some r := by rw [if_neg (show ¬ (false = true) by decide)] at H; exact H
                  clear H
                  have H := H1
                  clear H1
                  have H' := Aside0.mk H
                  clear H
                  go_wp2_with (first | (go_at_call 17; (with_reducible refine (dom_Dominates.calls k _ _ t406 a2 a3 true _ ?side1 ?side2 A20.out).mono ?_); (case side1 => repeat (first | exact (Kd.R_reads' HO408.out).2.2 | (with_reducible refine Kd.C_alloc ?_ _) | (with_reducible refine Kd.C_drewN ?_ _) | (with_reducible refine Kd.C_drew ?_))); (case side2 => exact (Kd.R_reads' HO408.out).2.1); rintro e w36 ⟨rfl, hb⟩; have n0_ := Aside0.mk (Kd.R_below (by (with_reducible repeat (first | apply Kd.R_alloc | apply Kd.R_drewN | apply Kd.R_drew)); exact HO408.out) hb); have n1_ := Aside0.mk (below_step (by repeat (first | (with_reducible first | exact HB.out | apply below_alloc | apply pw_below_drewN | apply below_drew1) | exact HB.out)) hb); clear HO408; clear HB; have HO408 := n0_; have HB := n1_; clear n0_ n1_; (try clear hb); (try clear hb2); (try clear hk); (try clear hi)) | (go_at_call 17; (with_reducible refine (dom_Dominates.calls k _ _ t406 a1 a3 true _ ?side1 ?side2 A22.out).mono ?_); (case side1 => repeat (first | exact (Kd.R_reads' HO408.out).2.2 | (with_reducible refine Kd.C_alloc ?_ _) | (with_reducible refine Kd.C_drewN ?_ _) | (with_reducible refine Kd.C_drew ?_))); (case side2 => exact (Kd.R_reads' HO408.out).2.1); rintro e w37 ⟨rfl, hb⟩; have n0_ := Aside0.mk (Kd.R_below (by (with_reducible repeat (first | apply Kd.R_alloc | apply Kd.R_drewN | apply Kd.R_drew)); exact HO408.out) hb); have n1_ := Aside0.mk (below_step (by repeat (first | (with_reducible first | exact HB.out | apply below_alloc | apply pw_below_drewN | apply below_drew1) | exact HB.out)) hb); clear HO408; clear HB; have HO408 := n0_; have HB := n1_; clear n0_ n1_; (try clear hb); (try clear hb2); (try clear hk); (try clear hi)) | (go_at_call 17; (with_reducible refine (dom_Dominates.calls k _ _ t406 a1 a3 false _ ?side1 ?side2 A24.out).mono ?_); (case side1 => repeat (first | exact (Kd.R_reads' HO408.out).2.2 | (with_reducible refine Kd.C_alloc ?_ _) | (with_reducible refine Kd.C_drewN ?_ _) | (with_reducible refine Kd.C_drew ?_))); (case side2 => exact (Kd.R_reads' HO408.out).2.1); rintro e w38 ⟨rfl, hb⟩; have n0_ := Aside0.mk (Kd.R_below (by (with_reducible repeat (first | apply Kd.R_alloc | apply Kd.R_drewN | apply Kd.R_drew)); exact HO408.out) hb); have n1_ := Aside0.mk (below_step (by repeat (first | (with_reducible first | exact HB.out | apply below_alloc | apply pw_below_drewN | apply below_drew1) | exact HB.out)) hb); clear HO408; clear HB; have HO408 := n0_; have HB := n1_; clear n0_ n1_; (try clear hb); (try clear hb2); (try clear hk); (try clear hi)))
                  go_meet
                  case rel => exact ⟨_, (false), (by first | rfl | (simp; done) | (simp [*]; done)), H', ⟨by first | omega | exact Nat.le_refl _⟩, ⟨by (with_reducible repeat (first | apply Kd.R_alloc | apply Kd.R_drewN | apply Kd.R_drew)); exact HO408.out⟩, ⟨by repeat (first | (with_reducible first | exact HB.out | apply below_alloc | apply pw_below_drewN | apply below_drew1) | exact HB.out)⟩⟩
              · replace c23 := Bool.eq_false_iff.mpr c23
                subst c23
                have H1 : (bywashlaw14_DomOne.j0 k l0 a1 t404 t406 true) = some r := by rw [if_neg (show ¬ (false = true) by decide)] at H; exact H
                clear H
                have H := H1
                clear H1
                have H' := Aside0.mk H
                clear H
                go_wp2_with (first | (go_at_call 17; (with_reducible refine (dom_Dominates.calls k _ _ t406 a2 a3 true _ ?side1 ?side2 A20.out).mono ?_); (case side1 => repeat (first | exact (Kd.R_reads' HO408.out).2.2 | (with_reducible refine Kd.C_alloc ?_ _) | (with_reducible refine Kd.C_drewN ?_ _) | (with_reducible refine Kd.C_drew ?_))); (case side2 => exact (Kd.R_reads' HO408.out).2.1); rintro e w39 ⟨rfl, hb⟩; have n0_ := Aside0.mk (Kd.R_below (by (with_reducible repeat (first | apply Kd.R_alloc | apply Kd.R_drewN | apply Kd.R_drew)); exact HO408.out) hb); have n1_ := Aside0.mk (below_step (by repeat (first | (with_reducible first | exact HB.out | apply below_alloc | apply pw_below_drewN | apply below_drew1) | exact HB.out)) hb); clear HO408; clear HB; have HO408 := n0_; have HB := n1_; clear n0_ n1_; (try clear hb); (try clear hb2); (try clear hk); (try clear hi)) | (go_at_call 17; (with_reducible refine (dom_Dominates.calls k _ _ t406 a1 a3 false _ ?side1 ?side2 A22.out).mono ?_); (case side1 => repeat (first | exact (Kd.R_reads' HO408.out).2.2 | (with_reducible refine Kd.C_alloc ?_ _) | (with_reducible refine Kd.C_drewN ?_ _) | (with_reducible refine Kd.C_drew ?_))); (case side2 => exact (Kd.R_reads' HO408.out).2.1); rintro e w40 ⟨rfl, hb⟩; have n0_ := Aside0.mk (Kd.R_below (by (with_reducible repeat (first | apply Kd.R_alloc | apply Kd.R_drewN | apply Kd.R_drew)); exact HO408.out) hb); have n1_ := Aside0.mk (below_step (by repeat (first | (with_reducible first | exact HB.out | apply below_alloc | apply pw_below_drewN | apply below_drew1) | exact HB.out)) hb); clear HO408; clear HB; have HO408 := n0_; have HB := n1_; clear n0_ n1_; (try clear hb); (try clear hb2); (try clear hk); (try clear hi)))
                go_meet
                case rel => exact ⟨_, (true), (by first | rfl | (simp; done) | (simp [*]; done)), H', ⟨by first | omega | exact Nat.le_refl _⟩, ⟨by (with_reducible repeat (first | apply Kd.R_alloc | apply Kd.R_drewN | apply Kd.R_drew)); exact HO408.out⟩, ⟨by repeat (first | (with_reducible first | exact HB.out | apply below_alloc | apply pw_below_drewN | apply below_drew1) | exact HB.out)⟩⟩
            · replace c21 := Bool.eq_false_iff.mpr c21
              subst c21
              have H1 : ((dom_Dominates.f k t406 a1 a3).bind fun t415 => (if t415 = true then ((dom_Dominates.f k t406 a2 a3).bind fun t416 => (if t416 = true then (bywashlaw14_DomOne.j0 k l0 a1 t404 t406 false) else (bywashlaw14_DomOne.j0 k l0 a1 t404 t406 false))) else (bywashlaw14_DomOne.j0 k l0 a1 t404 t406 false))) = some r := by rw [if_neg (show ¬ (false = true) by decide)] at H; exact H
              clear H
              have H := H1
              clear H1
              replace H := Option.bind_eq_some_iff.mp H
              obtain ⟨t415, A410, H⟩ := H
              replace H : (if t415 = true then ((dom_Dominates.f k t406 a2 a3).bind fun t416 => (if t416 = true then (bywashlaw14_DomOne.j0 k l0 a1 t404 t406 false) else (bywashlaw14_DomOne.j0 k l0 a1 t404 t406 false))) else (bywashlaw14_DomOne.j0 k l0 a1 t404 t406 false)) = some r := H
              have A41 := Aside0.mk A410
              clear A410
              by_cases c42 : t415 = true
              · subst c42
                have H1 : ((dom_Dominates.f k t406 a2 a3).bind fun t416 => (if t416 = true then (bywashlaw14_DomOne.j0 k l0 a1 t404 t406 false) else (bywashlaw14_DomOne.j0 k l0 a1 t404 t406 false))) = some r := by rw [if_pos rfl] at H; exact H
                clear H
                have H := H1
                clear H1
                replace H := Option.bind_eq_some_iff.mp H
                obtain ⟨t416, A430, H⟩ := H
                replace H : (if t416 = true then (bywashlaw14_DomOne.j0 k l0 a1 t404 t406 false) else (bywashlaw14_DomOne.j0 k l0 a1 t404 t406 false)) = some r := H
                have A43 := Aside0.mk A430
                clear A430
                by_cases c44 : t416 = true
                · subst c44
                  have H1 : (bywashlaw14_DomOne.j0 k l0 a1 t404 t406 false) = some r := by rw [if_pos rfl] at H; exact H
                  clear H
                  have H := H1
                  clear H1
                  have H' := Aside0.mk H
                  clear H
                  go_wp2_with (first | (go_at_call 17; (with_reducible refine (dom_Dominates.calls k _ _ t406 a2 a3 false _ ?side1 ?side2 A20.out).mono ?_); (case side1 => repeat (first | exact (Kd.R_reads' HO408.out).2.2 | (with_reducible refine Kd.C_alloc ?_ _) | (with_reducible refine Kd.C_drewN ?_ _) | (with_reducible refine Kd.C_drew ?_))); (case side2 => exact (Kd.R_reads' HO408.out).2.1); rintro e w45 ⟨rfl, hb⟩; have n0_ := Aside0.mk (Kd.R_below (by (with_reducible repeat (first | apply Kd.R_alloc | apply Kd.R_drewN | apply Kd.R_drew)); exact HO408.out) hb); have n1_ := Aside0.mk (below_step (by repeat (first | (with_reducible first | exact HB.out | apply below_alloc | apply pw_below_drewN | apply below_drew1) | exact HB.out)) hb); clear HO408; clear HB; have HO408 := n0_; have HB := n1_; clear n0_ n1_; (try clear hb); (try clear hb2); (try clear hk); (try clear hi)) | (go_at_call 17; (with_reducible refine (dom_Dominates.calls k _ _ t406 a1 a3 true _ ?side1 ?side2 A41.out).mono ?_); (case side1 => repeat (first | exact (Kd.R_reads' HO408.out).2.2 | (with_reducible refine Kd.C_alloc ?_ _) | (with_reducible refine Kd.C_drewN ?_ _) | (with_reducible refine Kd.C_drew ?_))); (case side2 => exact (Kd.R_reads' HO408.out).2.1); rintro e w46 ⟨rfl, hb⟩; have n0_ := Aside0.mk (Kd.R_below (by (with_reducible repeat (first | apply Kd.R_alloc | apply Kd.R_drewN | apply Kd.R_drew)); exact HO408.out) hb); have n1_ := Aside0.mk (below_step (by repeat (first | (with_reducible first | exact HB.out | apply below_alloc | apply pw_below_drewN | apply below_drew1) | exact HB.out)) hb); clear HO408; clear HB; have HO408 := n0_; have HB := n1_; clear n0_ n1_; (try clear hb); (try clear hb2); (try clear hk); (try clear hi)) | (go_at_call 17; (with_reducible refine (dom_Dominates.calls k _ _ t406 a2 a3 true _ ?side1 ?side2 A43.out).mono ?_); (case side1 => repeat (first | exact (Kd.R_reads' HO408.out).2.2 | (with_reducible refine Kd.C_alloc ?_ _) | (with_reducible refine Kd.C_drewN ?_ _) | (with_reducible refine Kd.C_drew ?_))); (case side2 => exact (Kd.R_reads' HO408.out).2.1); rintro e w47 ⟨rfl, hb⟩; have n0_ := Aside0.mk (Kd.R_below (by (with_reducible repeat (first | apply Kd.R_alloc | apply Kd.R_drewN | apply Kd.R_drew)); exact HO408.out) hb); have n1_ := Aside0.mk (below_step (by repeat (first | (with_reducible first | exact HB.out | apply below_alloc | apply pw_below_drewN | apply below_drew1) | exact HB.out)) hb); clear HO408; clear HB; have HO408 := n0_; have HB := n1_; clear n0_ n1_; (try clear hb); (try clear hb2); (try clear hk); (try clear hi)))
                  go_meet
                  case rel => exact ⟨_, (false), (by first | rfl | (simp; done) | (simp [*]; done)), H', ⟨by first | omega | exact Nat.le_refl _⟩, ⟨by (with_reducible repeat (first | apply Kd.R_alloc | apply Kd.R_drewN | apply Kd.R_drew)); exact HO408.out⟩, ⟨by repeat (first | (with_reducible first | exact HB.out | apply below_alloc | apply pw_below_drewN | apply below_drew1) | exact HB.out)⟩⟩
                · replace c44 := Bool.eq_false_iff.mpr c44
                  subst c44
                  have H1 : (bywashlaw14_DomOne.j0 k l0 a1 t404 t406 false) = some r := by rw [if_neg (show ¬ (false = true) by decide)] at H; exact H
                  clear H
                  have H := H1
                  clear H1
                  have H' := Aside0.mk H
                  clear H
                  go_wp2_with (first | (go_at_call 17; (with_reducible refine (dom_Dominates.calls k _ _ t406 a2 a3 false _ ?side1 ?side2 A20.out).mono ?_); (case side1 => repeat (first | exact (Kd.R_reads' HO408.out).2.2 | (with_reducible refine Kd.C_alloc ?_ _) | (with_reducible refine Kd.C_drewN ?_ _) | (with_reducible refine Kd.C_drew ?_))); (case side2 => exact (Kd.R_reads' HO408.out).2.1); rintro e w48 ⟨rfl, hb⟩; have n0_ := Aside0.mk (Kd.R_below (by (with_reducible repeat (first | apply Kd.R_alloc | apply Kd.R_drewN | apply Kd.R_drew)); exact HO408.out) hb); have n1_ := Aside0.mk (below_step (by repeat (first | (with_reducible first | exact HB.out | apply below_alloc | apply pw_below_drewN | apply below_drew1) | exact HB.out)) hb); clear HO408; clear HB; have HO408 := n0_; have HB := n1_; clear n0_ n1_; (try clear hb); (try clear hb2); (try clear hk); (try clear hi)) | (go_at_call 17; (with_reducible refine (dom_Dominates.calls k _ _ t406 a1 a3 true _ ?side1 ?side2 A41.out).mono ?_); (case side1 => repeat (first | exact (Kd.R_reads' HO408.out).2.2 | (with_reducible refine Kd.C_alloc ?_ _) | (with_reducible refine Kd.C_drewN ?_ _) | (with_reducible refine Kd.C_drew ?_))); (case side2 => exact (Kd.R_reads' HO408.out).2.1); rintro e w49 ⟨rfl, hb⟩; have n0_ := Aside0.mk (Kd.R_below (by (with_reducible repeat (first | apply Kd.R_alloc | apply Kd.R_drewN | apply Kd.R_drew)); exact HO408.out) hb); have n1_ := Aside0.mk (below_step (by repeat (first | (with_reducible first | exact HB.out | apply below_alloc | apply pw_below_drewN | apply below_drew1) | exact HB.out)) hb); clear HO408; clear HB; have HO408 := n0_; have HB := n1_; clear n0_ n1_; (try clear hb); (try clear hb2); (try clear hk); (try clear hi)) | (go_at_call 17; (with_reducible refine (dom_Dominates.calls k _ _ t406 a2 a3 false _ ?side1 ?side2 A43.out).mono ?_); (case side1 => repeat (first | exact (Kd.R_reads' HO408.out).2.2 | (with_reducible refine Kd.C_alloc ?_ _) | (with_reducible refine Kd.C_drewN ?_ _) | (with_reducible refine Kd.C_drew ?_))); (case side2 => exact (Kd.R_reads' HO408.out).2.1); rintro e w50 ⟨rfl, hb⟩; have n0_ := Aside0.mk (Kd.R_below (by (with_reducible repeat (first | apply Kd.R_alloc | apply Kd.R_drewN | apply Kd.R_drew)); exact HO408.out) hb); have n1_ := Aside0.mk (below_step (by repeat (first | (with_reducible first | exact HB.out | apply below_alloc | apply pw_below_drewN | apply below_drew1) | exact HB.out)) hb); clear HO408; clear HB; have HO408 := n0_; have HB := n1_; clear n0_ n1_; (try clear hb); (try clear hb2); (try clear hk); (try clear hi)))
                  go_meet
                  case rel => exact ⟨_, (false), (by first | rfl | (simp; done) | (simp [*]; done)), H', ⟨by first | omega | exact Nat.le_refl _⟩, ⟨by (with_reducible repeat (first | apply Kd.R_alloc | apply Kd.R_drewN | apply Kd.R_drew)); exact HO408.out⟩, ⟨by repeat (first | (with_reducible first | exact HB.out | apply below_alloc | apply pw_below_drewN | apply below_drew1) | exact HB.out)⟩⟩
              · replace c42 := Bool.eq_false_iff.mpr c42
                subst c42
                have H1 : (bywashlaw14_DomOne.j0 k l0 a1 t404 t406 false) = some r := by rw [if_neg (show ¬ (false = true) by decide)] at H; exact H
                clear H
                have H := H1
                clear H1
                have H' := Aside0.mk H
                clear H
                go_wp2_with (first | (go_at_call 17; (with_reducible refine (dom_Dominates.calls k _ _ t406 a2 a3 false _ ?side1 ?side2 A20.out).mono ?_); (case side1 => repeat (first | exact (Kd.R_reads' HO408.out).2.2 | (with_reducible refine Kd.C_alloc ?_ _) | (with_reducible refine Kd.C_drewN ?_ _) | (with_reducible refine Kd.C_drew ?_))); (case side2 => exact (Kd.R_reads' HO408.out).2.1); rintro e w51 ⟨rfl, hb⟩; have n0_ := Aside0.mk (Kd.R_below (by (with_reducible repeat (first | apply Kd.R_alloc | apply Kd.R_drewN | apply Kd.R_drew)); exact HO408.out) hb); have n1_ := Aside0.mk (below_step (by repeat (first | (with_reducible first | exact HB.out | apply below_alloc | apply pw_below_drewN | apply below_drew1) | exact HB.out)) hb); clear HO408; clear HB; have HO408 := n0_; have HB := n1_; clear n0_ n1_; (try clear hb); (try clear hb2); (try clear hk); (try clear hi)) | (go_at_call 17; (with_reducible refine (dom_Dominates.calls k _ _ t406 a1 a3 false _ ?side1 ?side2 A41.out).mono ?_); (case side1 => repeat (first | exact (Kd.R_reads' HO408.out).2.2 | (with_reducible refine Kd.C_alloc ?_ _) | (with_reducible refine Kd.C_drewN ?_ _) | (with_reducible refine Kd.C_drew ?_))); (case side2 => exact (Kd.R_reads' HO408.out).2.1); rintro e w52 ⟨rfl, hb⟩; have n0_ := Aside0.mk (Kd.R_below (by (with_reducible repeat (first | apply Kd.R_alloc | apply Kd.R_drewN | apply Kd.R_drew)); exact HO408.out) hb); have n1_ := Aside0.mk (below_step (by repeat (first | (with_reducible first | exact HB.out | apply below_alloc | apply pw_below_drewN | apply below_drew1) | exact HB.out)) hb); clear HO408; clear HB; have HO408 := n0_; have HB := n1_; clear n0_ n1_; (try clear hb); (try clear hb2); (try clear hk); (try clear hi)))
                go_meet
                case rel => exact ⟨_, (false), (by first | rfl | (simp; done) | (simp [*]; done)), H', ⟨by first | omega | exact Nat.le_refl _⟩, ⟨by (with_reducible repeat (first | apply Kd.R_alloc | apply Kd.R_drewN | apply Kd.R_drew)); exact HO408.out⟩, ⟨by repeat (first | (with_reducible first | exact HB.out | apply below_alloc | apply pw_below_drewN | apply below_drew1) | exact HB.out)⟩⟩
          · rw [if_neg c19] at H
            have c19b0 : (a1 == a2) = false := beq_eq_false_iff_ne.mpr c19
            have c19b1 : (a1 != a2) = true := bne_iff_ne.mpr c19
            (first | rw [c19b0] | (simp only [i64_w, i32_w]; rw [c19b0]) | skip)
            have H' := Aside0.mk H
            clear H
            go_wp2
            go_meet
            case rel => exact ⟨_, (true), (by first | rfl | (simp; done) | (simp [*]; done)), H', ⟨by first | omega | exact Nat.le_refl _⟩, ⟨by (with_reducible repeat (first | apply Kd.R_alloc | apply Kd.R_drewN | apply Kd.R_drew)); exact HO408.out⟩, ⟨by repeat (first | (with_reducible first | exact HB.out | apply below_alloc | apply pw_below_drewN | apply below_drew1) | exact HB.out)⟩⟩
        · replace c18 := Bool.eq_false_iff.mpr c18
          subst c18
          have H1 : ((dom_Dominates.f k t406 a2 a3).bind fun t417 => (if t417 = true then ((dom_Dominates.f k t406 a1 a3).bind fun t418 => (if t418 = true then ((dom_Dominates.f k t406 a1 a3).bind fun t419 => (if t419 = true then ((dom_Dominates.f k t406 a2 a3).bind fun t420 => (if t420 = true then (bywashlaw14_DomOne.j0 k l0 a1 t404 t406 false) else (bywashlaw14_DomOne.j0 k l0 a1 t404 t406 false))) else (bywashlaw14_DomOne.j0 k l0 a1 t404 t406 false))) else (bywashlaw14_DomOne.j0 k l0 a1 t404 t406 true))) else ((dom_Dominates.f k t406 a1 a3).bind fun t421 => (if t421 = true then ((dom_Dominates.f k t406 a2 a3).bind fun t422 => (if t422 = true then (bywashlaw14_DomOne.j0 k l0 a1 t404 t406 false) else (bywashlaw14_DomOne.j0 k l0 a1 t404 t406 false))) else (bywashlaw14_DomOne.j0 k l0 a1 t404 t406 false))))) = some r := by rw [if_neg (show ¬ (false = true) by decide)] at H; exact H
          clear H
          have H := H1
          clear H1
          replace H := Option.bind_eq_some_iff.mp H
          obtain ⟨t417, A530, H⟩ := H
          replace H : (if t417 = true then ((dom_Dominates.f k t406 a1 a3).bind fun t418 => (if t418 = true then ((dom_Dominates.f k t406 a1 a3).bind fun t419 => (if t419 = true then ((dom_Dominates.f k t406 a2 a3).bind fun t420 => (if t420 = true then (bywashlaw14_DomOne.j0 k l0 a1 t404 t406 false) else (bywashlaw14_DomOne.j0 k l0 a1 t404 t406 false))) else (bywashlaw14_DomOne.j0 k l0 a1 t404 t406 false))) else (bywashlaw14_DomOne.j0 k l0 a1 t404 t406 true))) else ((dom_Dominates.f k t406 a1 a3).bind fun t421 => (if t421 = true then ((dom_Dominates.f k t406 a2 a3).bind fun t422 => (if t422 = true then (bywashlaw14_DomOne.j0 k l0 a1 t404 t406 false) else (bywashlaw14_DomOne.j0 k l0 a1 t404 t406 false))) else (bywashlaw14_DomOne.j0 k l0 a1 t404 t406 false)))) = some r := H
          have A53 := Aside0.mk A530
          clear A530
          by_cases c54 : t417 = true
          · subst c54
            have H1 : ((dom_Dominates.f k t406 a1 a3).bind fun t418 => (if t418 = true then ((dom_Dominates.f k t406 a1 a3).bind fun t419 => (if t419 = true then ((dom_Dominates.f k t406 a2 a3).bind fun t420 => (if t420 = true then (bywashlaw14_DomOne.j0 k l0 a1 t404 t406 false) else (bywashlaw14_DomOne.j0 k l0 a1 t404 t406 false))) else (bywashlaw14_DomOne.j0 k l0 a1 t404 t406 false))) else (bywashlaw14_DomOne.j0 k l0 a1 t404 t406 true))) = some r := by rw [if_pos rfl] at H; exact H
            clear H
            have H := H1
            clear H1
            replace H := Option.bind_eq_some_iff.mp H
            obtain ⟨t418, A550, H⟩ := H
            replace H : (if t418 = true then ((dom_Dominates.f k t406 a1 a3).bind fun t419 => (if t419 = true then ((dom_Dominates.f k t406 a2 a3).bind fun t420 => (if t420 = true then (bywashlaw14_DomOne.j0 k l0 a1 t404 t406 false) else (bywashlaw14_DomOne.j0 k l0 a1 t404 t406 false))) else (bywashlaw14_DomOne.j0 k l0 a1 t404 t406 false))) else (bywashlaw14_DomOne.j0 k l0 a1 t404 t406 true)) = some r := H
            have A55 := Aside0.mk A550
            clear A550
            by_cases c56 : t418 = true
            · subst c56
              have H1 : ((dom_Dominates.f k t406 a1 a3).bind fun t419 => (if t419 = true then ((dom_Dominates.f k t406 a2 a3).bind fun t420 => (if t420 = true then (bywashlaw14_DomOne.j0 k l0 a1 t404 t406 false) else (bywashlaw14_DomOne.j0 k l0 a1 t404 t406 false))) else (bywashlaw14_DomOne.j0 k l0 a1 t404 t406 false))) = some r := by rw [if_pos rfl] at H; exact H
              clear H
              have H := H1
              clear H1
              replace H := Option.bind_eq_some_iff.mp H
              obtain ⟨t419, A570, H⟩ := H
              replace H : (if t419 = true then ((dom_Dominates.f k t406 a2 a3).bind fun t420 => (if t420 = true then (bywashlaw14_DomOne.j0 k l0 a1 t404 t406 false) else (bywashlaw14_DomOne.j0 k l0 a1 t404 t406 false))) else (bywashlaw14_DomOne.j0 k l0 a1 t404 t406 false)) = some r := H
              have A57 := Aside0.mk A570
              clear A570
              by_cases c58 : t419 = true
              · subst c58
                have H1 : ((dom_Dominates.f k t406 a2 a3).bind fun t420 => (if t420 = true then (bywashlaw14_DomOne.j0 k l0 a1 t404 t406 false) else (bywashlaw14_DomOne.j0 k l0 a1 t404 t406 false))) = some r := by rw [if_pos rfl] at H; exact H
                clear H
                have H := H1
                clear H1
                replace H := Option.bind_eq_some_iff.mp H
                obtain ⟨t420, A590, H⟩ := H
                replace H : (if t420 = true then (bywashlaw14_DomOne.j0 k l0 a1 t404 t406 false) else (bywashlaw14_DomOne.j0 k l0 a1 t404 t406 false)) = some r := H
                have A59 := Aside0.mk A590
                clear A590
                by_cases c60 : t420 = true
                · subst c60
                  have H1 : (bywashlaw14_DomOne.j0 k l0 a1 t404 t406 false) = some r := by rw [if_pos rfl] at H; exact H
                  clear H
                  have H := H1
                  clear H1
                  have H' := Aside0.mk H
                  clear H
                  go_wp2_with (first | (go_at_call 17; (with_reducible refine (dom_Dominates.calls k _ _ t406 a2 a3 true _ ?side1 ?side2 A53.out).mono ?_); (case side1 => repeat (first | exact (Kd.R_reads' HO408.out).2.2 | (with_reducible refine Kd.C_alloc ?_ _) | (with_reducible refine Kd.C_drewN ?_ _) | (with_reducible refine Kd.C_drew ?_))); (case side2 => exact (Kd.R_reads' HO408.out).2.1); rintro e w61 ⟨rfl, hb⟩; have n0_ := Aside0.mk (Kd.R_below (by (with_reducible repeat (first | apply Kd.R_alloc | apply Kd.R_drewN | apply Kd.R_drew)); exact HO408.out) hb); have n1_ := Aside0.mk (below_step (by repeat (first | (with_reducible first | exact HB.out | apply below_alloc | apply pw_below_drewN | apply below_drew1) | exact HB.out)) hb); clear HO408; clear HB; have HO408 := n0_; have HB := n1_; clear n0_ n1_; (try clear hb); (try clear hb2); (try clear hk); (try clear hi)) | (go_at_call 17; (with_reducible refine (dom_Dominates.calls k _ _ t406 a1 a3 true _ ?side1 ?side2 A55.out).mono ?_); (case side1 => repeat (first | exact (Kd.R_reads' HO408.out).2.2 | (with_reducible refine Kd.C_alloc ?_ _) | (with_reducible refine Kd.C_drewN ?_ _) | (with_reducible refine Kd.C_drew ?_))); (case side2 => exact (Kd.R_reads' HO408.out).2.1); rintro e w62 ⟨rfl, hb⟩; have n0_ := Aside0.mk (Kd.R_below (by (with_reducible repeat (first | apply Kd.R_alloc | apply Kd.R_drewN | apply Kd.R_drew)); exact HO408.out) hb); have n1_ := Aside0.mk (below_step (by repeat (first | (with_reducible first | exact HB.out | apply below_alloc | apply pw_below_drewN | apply below_drew1) | exact HB.out)) hb); clear HO408; clear HB; have HO408 := n0_; have HB := n1_; clear n0_ n1_; (try clear hb); (try clear hb2); (try clear hk); (try clear hi)) | (go_at_call 17; (with_reducible refine (dom_Dominates.calls k _ _ t406 a1 a3 true _ ?side1 ?side2 A57.out).mono ?_); (case side1 => repeat (first | exact (Kd.R_reads' HO408.out).2.2 | (with_reducible refine Kd.C_alloc ?_ _) | (with_reducible refine Kd.C_drewN ?_ _) | (with_reducible refine Kd.C_drew ?_))); (case side2 => exact (Kd.R_reads' HO408.out).2.1); rintro e w63 ⟨rfl, hb⟩; have n0_ := Aside0.mk (Kd.R_below (by (with_reducible repeat (first | apply Kd.R_alloc | apply Kd.R_drewN | apply Kd.R_drew)); exact HO408.out) hb); have n1_ := Aside0.mk (below_step (by repeat (first | (with_reducible first | exact HB.out | apply below_alloc | apply pw_below_drewN | apply below_drew1) | exact HB.out)) hb); clear HO408; clear HB; have HO408 := n0_; have HB := n1_; clear n0_ n1_; (try clear hb); (try clear hb2); (try clear hk); (try clear hi)) | (go_at_call 17; (with_reducible refine (dom_Dominates.calls k _ _ t406 a2 a3 true _ ?side1 ?side2 A59.out).mono ?_); (case side1 => repeat (first | exact (Kd.R_reads' HO408.out).2.2 | (with_reducible refine Kd.C_alloc ?_ _) | (with_reducible refine Kd.C_drewN ?_ _) | (with_reducible refine Kd.C_drew ?_))); (case side2 => exact (Kd.R_reads' HO408.out).2.1); rintro e w64 ⟨rfl, hb⟩; have n0_ := Aside0.mk (Kd.R_below (by (with_reducible repeat (first | apply Kd.R_alloc | apply Kd.R_drewN | apply Kd.R_drew)); exact HO408.out) hb); have n1_ := Aside0.mk (below_step (by repeat (first | (with_reducible first | exact HB.out | apply below_alloc | apply pw_below_drewN | apply below_drew1) | exact HB.out)) hb); clear HO408; clear HB; have HO408 := n0_; have HB := n1_; clear n0_ n1_; (try clear hb); (try clear hb2); (try clear hk); (try clear hi)))
                  go_meet
                  case rel => exact ⟨_, (false), (by first | rfl | (simp; done) | (simp [*]; done)), H', ⟨by first | omega | exact Nat.le_refl _⟩, ⟨by (with_reducible repeat (first | apply Kd.R_alloc | apply Kd.R_drewN | apply Kd.R_drew)); exact HO408.out⟩, ⟨by repeat (first | (with_reducible first | exact HB.out | apply below_alloc | apply pw_below_drewN | apply below_drew1) | exact HB.out)⟩⟩
                · replace c60 := Bool.eq_false_iff.mpr c60
                  subst c60
                  have H1 : (bywashlaw14_DomOne.j0 k l0 a1 t404 t406 false) = some r := by rw [if_neg (show ¬ (false = true) by decide)] at H; exact H
                  clear H
                  have H := H1
                  clear H1
                  have H' := Aside0.mk H
                  clear H
                  go_wp2_with (first | (go_at_call 17; (with_reducible refine (dom_Dominates.calls k _ _ t406 a2 a3 true _ ?side1 ?side2 A53.out).mono ?_); (case side1 => repeat (first | exact (Kd.R_reads' HO408.out).2.2 | (with_reducible refine Kd.C_alloc ?_ _) | (with_reducible refine Kd.C_drewN ?_ _) | (with_reducible refine Kd.C_drew ?_))); (case side2 => exact (Kd.R_reads' HO408.out).2.1); rintro e w65 ⟨rfl, hb⟩; have n0_ := Aside0.mk (Kd.R_below (by (with_reducible repeat (first | apply Kd.R_alloc | apply Kd.R_drewN | apply Kd.R_drew)); exact HO408.out) hb); have n1_ := Aside0.mk (below_step (by repeat (first | (with_reducible first | exact HB.out | apply below_alloc | apply pw_below_drewN | apply below_drew1) | exact HB.out)) hb); clear HO408; clear HB; have HO408 := n0_; have HB := n1_; clear n0_ n1_; (try clear hb); (try clear hb2); (try clear hk); (try clear hi)) | (go_at_call 17; (with_reducible refine (dom_Dominates.calls k _ _ t406 a1 a3 true _ ?side1 ?side2 A55.out).mono ?_); (case side1 => repeat (first | exact (Kd.R_reads' HO408.out).2.2 | (with_reducible refine Kd.C_alloc ?_ _) | (with_reducible refine Kd.C_drewN ?_ _) | (with_reducible refine Kd.C_drew ?_))); (case side2 => exact (Kd.R_reads' HO408.out).2.1); rintro e w66 ⟨rfl, hb⟩; have n0_ := Aside0.mk (Kd.R_below (by (with_reducible repeat (first | apply Kd.R_alloc | apply Kd.R_drewN | apply Kd.R_drew)); exact HO408.out) hb); have n1_ := Aside0.mk (below_step (by repeat (first | (with_reducible first | exact HB.out | apply below_alloc | apply pw_below_drewN | apply below_drew1) | exact HB.out)) hb); clear HO408; clear HB; have HO408 := n0_; have HB := n1_; clear n0_ n1_; (try clear hb); (try clear hb2); (try clear hk); (try clear hi)) | (go_at_call 17; (with_reducible refine (dom_Dominates.calls k _ _ t406 a1 a3 true _ ?side1 ?side2 A57.out).mono ?_); (case side1 => repeat (first | exact (Kd.R_reads' HO408.out).2.2 | (with_reducible refine Kd.C_alloc ?_ _) | (with_reducible refine Kd.C_drewN ?_ _) | (with_reducible refine Kd.C_drew ?_))); (case side2 => exact (Kd.R_reads' HO408.out).2.1); rintro e w67 ⟨rfl, hb⟩; have n0_ := Aside0.mk (Kd.R_below (by (with_reducible repeat (first | apply Kd.R_alloc | apply Kd.R_drewN | apply Kd.R_drew)); exact HO408.out) hb); have n1_ := Aside0.mk (below_step (by repeat (first | (with_reducible first | exact HB.out | apply below_alloc | apply pw_below_drewN | apply below_drew1) | exact HB.out)) hb); clear HO408; clear HB; have HO408 := n0_; have HB := n1_; clear n0_ n1_; (try clear hb); (try clear hb2); (try clear hk); (try clear hi)) | (go_at_call 17; (with_reducible refine (dom_Dominates.calls k _ _ t406 a2 a3 false _ ?side1 ?side2 A59.out).mono ?_); (case side1 => repeat (first | exact (Kd.R_reads' HO408.out).2.2 | (with_reducible refine Kd.C_alloc ?_ _) | (with_reducible refine Kd.C_drewN ?_ _) | (with_reducible refine Kd.C_drew ?_))); (case side2 => exact (Kd.R_reads' HO408.out).2.1); rintro e w68 ⟨rfl, hb⟩; have n0_ := Aside0.mk (Kd.R_below (by (with_reducible repeat (first | apply Kd.R_alloc | apply Kd.R_drewN | apply Kd.R_drew)); exact HO408.out) hb); have n1_ := Aside0.mk (below_step (by repeat (first | (with_reducible first | exact HB.out | apply below_alloc | apply pw_below_drewN | apply below_drew1) | exact HB.out)) hb); clear HO408; clear HB; have HO408 := n0_; have HB := n1_; clear n0_ n1_; (try clear hb); (try clear hb2); (try clear hk); (try clear hi)))
                  go_meet
                  case rel => exact ⟨_, (false), (by first | rfl | (simp; done) | (simp [*]; done)), H', ⟨by first | omega | exact Nat.le_refl _⟩, ⟨by (with_reducible repeat (first | apply Kd.R_alloc | apply Kd.R_drewN | apply Kd.R_drew)); exact HO408.out⟩, ⟨by repeat (first | (with_reducible first | exact HB.out | apply below_alloc | apply pw_below_drewN | apply below_drew1) | exact HB.out)⟩⟩
              · replace c58 := Bool.eq_false_iff.mpr c58
                subst c58
                have H1 : (bywashlaw14_DomOne.j0 k l0 a1 t404 t406 false) = some r := by rw [if_neg (show ¬ (false = true) by decide)] at H; exact H
                clear H
                have H := H1
                clear H1
                have H' := Aside0.mk H
                clear H
                go_wp2_with (first | (go_at_call 17; (with_reducible refine (dom_Dominates.calls k _ _ t406 a2 a3 true _ ?side1 ?side2 A53.out).mono ?_); (case side1 => repeat (first | exact (Kd.R_reads' HO408.out).2.2 | (with_reducible refine Kd.C_alloc ?_ _) | (with_reducible refine Kd.C_drewN ?_ _) | (with_reducible refine Kd.C_drew ?_))); (case side2 => exact (Kd.R_reads' HO408.out).2.1); rintro e w69 ⟨rfl, hb⟩; have n0_ := Aside0.mk (Kd.R_below (by (with_reducible repeat (first | apply Kd.R_alloc | apply Kd.R_drewN | apply Kd.R_drew)); exact HO408.out) hb); have n1_ := Aside0.mk (below_step (by repeat (first | (with_reducible first | exact HB.out | apply below_alloc | apply pw_below_drewN | apply below_drew1) | exact HB.out)) hb); clear HO408; clear HB; have HO408 := n0_; have HB := n1_; clear n0_ n1_; (try clear hb); (try clear hb2); (try clear hk); (try clear hi)) | (go_at_call 17; (with_reducible refine (dom_Dominates.calls k _ _ t406 a1 a3 true _ ?side1 ?side2 A55.out).mono ?_); (case side1 => repeat (first | exact (Kd.R_reads' HO408.out).2.2 | (with_reducible refine Kd.C_alloc ?_ _) | (with_reducible refine Kd.C_drewN ?_ _) | (with_reducible refine Kd.C_drew ?_))); (case side2 => exact (Kd.R_reads' HO408.out).2.1); rintro e w70 ⟨rfl, hb⟩; have n0_ := Aside0.mk (Kd.R_below (by (with_reducible repeat (first | apply Kd.R_alloc | apply Kd.R_drewN | apply Kd.R_drew)); exact HO408.out) hb); have n1_ := Aside0.mk (below_step (by repeat (first | (with_reducible first | exact HB.out | apply below_alloc | apply pw_below_drewN | apply below_drew1) | exact HB.out)) hb); clear HO408; clear HB; have HO408 := n0_; have HB := n1_; clear n0_ n1_; (try clear hb); (try clear hb2); (try clear hk); (try clear hi)) | (go_at_call 17; (with_reducible refine (dom_Dominates.calls k _ _ t406 a1 a3 false _ ?side1 ?side2 A57.out).mono ?_); (case side1 => repeat (first | exact (Kd.R_reads' HO408.out).2.2 | (with_reducible refine Kd.C_alloc ?_ _) | (with_reducible refine Kd.C_drewN ?_ _) | (with_reducible refine Kd.C_drew ?_))); (case side2 => exact (Kd.R_reads' HO408.out).2.1); rintro e w71 ⟨rfl, hb⟩; have n0_ := Aside0.mk (Kd.R_below (by (with_reducible repeat (first | apply Kd.R_alloc | apply Kd.R_drewN | apply Kd.R_drew)); exact HO408.out) hb); have n1_ := Aside0.mk (below_step (by repeat (first | (with_reducible first | exact HB.out | apply below_alloc | apply pw_below_drewN | apply below_drew1) | exact HB.out)) hb); clear HO408; clear HB; have HO408 := n0_; have HB := n1_; clear n0_ n1_; (try clear hb); (try clear hb2); (try clear hk); (try clear hi)))
                go_meet
                case rel => exact ⟨_, (false), (by first | rfl | (simp; done) | (simp [*]; done)), H', ⟨by first | omega | exact Nat.le_refl _⟩, ⟨by (with_reducible repeat (first | apply Kd.R_alloc | apply Kd.R_drewN | apply Kd.R_drew)); exact HO408.out⟩, ⟨by repeat (first | (with_reducible first | exact HB.out | apply below_alloc | apply pw_below_drewN | apply below_drew1) | exact HB.out)⟩⟩
            · replace c56 := Bool.eq_false_iff.mpr c56
              subst c56
              have H1 : (bywashlaw14_DomOne.j0 k l0 a1 t404 t406 true) = some r := by rw [if_neg (show ¬ (false = true) by decide)] at H; exact H
              clear H
              have H := H1
              clear H1
              have H' := Aside0.mk H
              clear H
              go_wp2_with (first | (go_at_call 17; (with_reducible refine (dom_Dominates.calls k _ _ t406 a2 a3 true _ ?side1 ?side2 A53.out).mono ?_); (case side1 => repeat (first | exact (Kd.R_reads' HO408.out).2.2 | (with_reducible refine Kd.C_alloc ?_ _) | (with_reducible refine Kd.C_drewN ?_ _) | (with_reducible refine Kd.C_drew ?_))); (case side2 => exact (Kd.R_reads' HO408.out).2.1); rintro e w72 ⟨rfl, hb⟩; have n0_ := Aside0.mk (Kd.R_below (by (with_reducible repeat (first | apply Kd.R_alloc | apply Kd.R_drewN | apply Kd.R_drew)); exact HO408.out) hb); have n1_ := Aside0.mk (below_step (by repeat (first | (with_reducible first | exact HB.out | apply below_alloc | apply pw_below_drewN | apply below_drew1) | exact HB.out)) hb); clear HO408; clear HB; have HO408 := n0_; have HB := n1_; clear n0_ n1_; (try clear hb); (try clear hb2); (try clear hk); (try clear hi)) | (go_at_call 17; (with_reducible refine (dom_Dominates.calls k _ _ t406 a1 a3 false _ ?side1 ?side2 A55.out).mono ?_); (case side1 => repeat (first | exact (Kd.R_reads' HO408.out).2.2 | (with_reducible refine Kd.C_alloc ?_ _) | (with_reducible refine Kd.C_drewN ?_ _) | (with_reducible refine Kd.C_drew ?_))); (case side2 => exact (Kd.R_reads' HO408.out).2.1); rintro e w73 ⟨rfl, hb⟩; have n0_ := Aside0.mk (Kd.R_below (by (with_reducible repeat (first | apply Kd.R_alloc | apply Kd.R_drewN | apply Kd.R_drew)); exact HO408.out) hb); have n1_ := Aside0.mk (below_step (by repeat (first | (with_reducible first | exact HB.out | apply below_alloc | apply pw_below_drewN | apply below_drew1) | exact HB.out)) hb); clear HO408; clear HB; have HO408 := n0_; have HB := n1_; clear n0_ n1_; (try clear hb); (try clear hb2); (try clear hk); (try clear hi)))
              go_meet
              case rel => exact ⟨_, (true), (by first | rfl | (simp; done) | (simp [*]; done)), H', ⟨by first | omega | exact Nat.le_refl _⟩, ⟨by (with_reducible repeat (first | apply Kd.R_alloc | apply Kd.R_drewN | apply Kd.R_drew)); exact HO408.out⟩, ⟨by repeat (first | (with_reducible first | exact HB.out | apply below_alloc | apply pw_below_drewN | apply below_drew1) | exact HB.out)⟩⟩
          · replace c54 := Bool.eq_false_iff.mpr c54
            subst c54
            have H1 : ((dom_Dominates.f k t406 a1 a3).bind fun t421 => (if t421 = true then ((dom_Dominates.f k t406 a2 a3).bind fun t422 => (if t422 = true then (bywashlaw14_DomOne.j0 k l0 a1 t404 t406 false) else (bywashlaw14_DomOne.j0 k l0 a1 t404 t406 false))) else (bywashlaw14_DomOne.j0 k l0 a1 t404 t406 false))) = some r := by rw [if_neg (show ¬ (false = true) by decide)] at H; exact H
            clear H
            have H := H1
            clear H1
            replace H := Option.bind_eq_some_iff.mp H
            obtain ⟨t421, A740, H⟩ := H
            replace H : (if t421 = true then ((dom_Dominates.f k t406 a2 a3).bind fun t422 => (if t422 = true then (bywashlaw14_DomOne.j0 k l0 a1 t404 t406 false) else (bywashlaw14_DomOne.j0 k l0 a1 t404 t406 false))) else (bywashlaw14_DomOne.j0 k l0 a1 t404 t406 false)) = some r := H
            have A74 := Aside0.mk A740
            clear A740
            by_cases c75 : t421 = true
            · subst c75
              have H1 : ((dom_Dominates.f k t406 a2 a3).bind fun t422 => (if t422 = true then (bywashlaw14_DomOne.j0 k l0 a1 t404 t406 false) else (bywashlaw14_DomOne.j0 k l0 a1 t404 t406 false))) = some r := by rw [if_pos rfl] at H; exact H
              clear H
              have H := H1
              clear H1
              replace H := Option.bind_eq_some_iff.mp H
              obtain ⟨t422, A760, H⟩ := H
              replace H : (if t422 = true then (bywashlaw14_DomOne.j0 k l0 a1 t404 t406 false) else (bywashlaw14_DomOne.j0 k l0 a1 t404 t406 false)) = some r := H
              have A76 := Aside0.mk A760
              clear A760
              by_cases c77 : t422 = true
              · subst c77
                have H1 : (bywashlaw14_DomOne.j0 k l0 a1 t404 t406 false) = some r := by rw [if_pos rfl] at H; exact H
                clear H
                have H := H1
                clear H1
                have H' := Aside0.mk H
                clear H
                go_wp2_with (first | (go_at_call 17; (with_reducible refine (dom_Dominates.calls k _ _ t406 a2 a3 false _ ?side1 ?side2 A53.out).mono ?_); (case side1 => repeat (first | exact (Kd.R_reads' HO408.out).2.2 | (with_reducible refine Kd.C_alloc ?_ _) | (with_reducible refine Kd.C_drewN ?_ _) | (with_reducible refine Kd.C_drew ?_))); (case side2 => exact (Kd.R_reads' HO408.out).2.1); rintro e w78 ⟨rfl, hb⟩; have n0_ := Aside0.mk (Kd.R_below (by (with_reducible repeat (first | apply Kd.R_alloc | apply Kd.R_drewN | apply Kd.R_drew)); exact HO408.out) hb); have n1_ := Aside0.mk (below_step (by repeat (first | (with_reducible first | exact HB.out | apply below_alloc | apply pw_below_drewN | apply below_drew1) | exact HB.out)) hb); clear HO408; clear HB; have HO408 := n0_; have HB := n1_; clear n0_ n1_; (try clear hb); (try clear hb2); (try clear hk); (try clear hi)) | (go_at_call 17; (with_reducible refine (dom_Dominates.calls k _ _ t406 a1 a3 true _ ?side1 ?side2 A74.out).mono ?_); (case side1 => repeat (first | exact (Kd.R_reads' HO408.out).2.2 | (with_reducible refine Kd.C_alloc ?_ _) | (with_reducible refine Kd.C_drewN ?_ _) | (with_reducible refine Kd.C_drew ?_))); (case side2 => exact (Kd.R_reads' HO408.out).2.1); rintro e w79 ⟨rfl, hb⟩; have n0_ := Aside0.mk (Kd.R_below (by (with_reducible repeat (first | apply Kd.R_alloc | apply Kd.R_drewN | apply Kd.R_drew)); exact HO408.out) hb); have n1_ := Aside0.mk (below_step (by repeat (first | (with_reducible first | exact HB.out | apply below_alloc | apply pw_below_drewN | apply below_drew1) | exact HB.out)) hb); clear HO408; clear HB; have HO408 := n0_; have HB := n1_; clear n0_ n1_; (try clear hb); (try clear hb2); (try clear hk); (try clear hi)) | (go_at_call 17; (with_reducible refine (dom_Dominates.calls k _ _ t406 a2 a3 true _ ?side1 ?side2 A76.out).mono ?_); (case side1 => repeat (first | exact (Kd.R_reads' HO408.out).2.2 | (with_reducible refine Kd.C_alloc ?_ _) | (with_reducible refine Kd.C_drewN ?_ _) | (with_reducible refine Kd.C_drew ?_))); (case side2 => exact (Kd.R_reads' HO408.out).2.1); rintro e w80 ⟨rfl, hb⟩; have n0_ := Aside0.mk (Kd.R_below (by (with_reducible repeat (first | apply Kd.R_alloc | apply Kd.R_drewN | apply Kd.R_drew)); exact HO408.out) hb); have n1_ := Aside0.mk (below_step (by repeat (first | (with_reducible first | exact HB.out | apply below_alloc | apply pw_below_drewN | apply below_drew1) | exact HB.out)) hb); clear HO408; clear HB; have HO408 := n0_; have HB := n1_; clear n0_ n1_; (try clear hb); (try clear hb2); (try clear hk); (try clear hi)))
                go_meet
                case rel => exact ⟨_, (false), (by first | rfl | (simp; done) | (simp [*]; done)), H', ⟨by first | omega | exact Nat.le_refl _⟩, ⟨by (with_reducible repeat (first | apply Kd.R_alloc | apply Kd.R_drewN | apply Kd.R_drew)); exact HO408.out⟩, ⟨by repeat (first | (with_reducible first | exact HB.out | apply below_alloc | apply pw_below_drewN | apply below_drew1) | exact HB.out)⟩⟩
              · replace c77 := Bool.eq_false_iff.mpr c77
                subst c77
                have H1 : (bywashlaw14_DomOne.j0 k l0 a1 t404 t406 false) = some r := by rw [if_neg (show ¬ (false = true) by decide)] at H; exact H
                clear H
                have H := H1
                clear H1
                have H' := Aside0.mk H
                clear H
                go_wp2_with (first | (go_at_call 17; (with_reducible refine (dom_Dominates.calls k _ _ t406 a2 a3 false _ ?side1 ?side2 A53.out).mono ?_); (case side1 => repeat (first | exact (Kd.R_reads' HO408.out).2.2 | (with_reducible refine Kd.C_alloc ?_ _) | (with_reducible refine Kd.C_drewN ?_ _) | (with_reducible refine Kd.C_drew ?_))); (case side2 => exact (Kd.R_reads' HO408.out).2.1); rintro e w81 ⟨rfl, hb⟩; have n0_ := Aside0.mk (Kd.R_below (by (with_reducible repeat (first | apply Kd.R_alloc | apply Kd.R_drewN | apply Kd.R_drew)); exact HO408.out) hb); have n1_ := Aside0.mk (below_step (by repeat (first | (with_reducible first | exact HB.out | apply below_alloc | apply pw_below_drewN | apply below_drew1) | exact HB.out)) hb); clear HO408; clear HB; have HO408 := n0_; have HB := n1_; clear n0_ n1_; (try clear hb); (try clear hb2); (try clear hk); (try clear hi)) | (go_at_call 17; (with_reducible refine (dom_Dominates.calls k _ _ t406 a1 a3 true _ ?side1 ?side2 A74.out).mono ?_); (case side1 => repeat (first | exact (Kd.R_reads' HO408.out).2.2 | (with_reducible refine Kd.C_alloc ?_ _) | (with_reducible refine Kd.C_drewN ?_ _) | (with_reducible refine Kd.C_drew ?_))); (case side2 => exact (Kd.R_reads' HO408.out).2.1); rintro e w82 ⟨rfl, hb⟩; have n0_ := Aside0.mk (Kd.R_below (by (with_reducible repeat (first | apply Kd.R_alloc | apply Kd.R_drewN | apply Kd.R_drew)); exact HO408.out) hb); have n1_ := Aside0.mk (below_step (by repeat (first | (with_reducible first | exact HB.out | apply below_alloc | apply pw_below_drewN | apply below_drew1) | exact HB.out)) hb); clear HO408; clear HB; have HO408 := n0_; have HB := n1_; clear n0_ n1_; (try clear hb); (try clear hb2); (try clear hk); (try clear hi)) | (go_at_call 17; (with_reducible refine (dom_Dominates.calls k _ _ t406 a2 a3 false _ ?side1 ?side2 A76.out).mono ?_); (case side1 => repeat (first | exact (Kd.R_reads' HO408.out).2.2 | (with_reducible refine Kd.C_alloc ?_ _) | (with_reducible refine Kd.C_drewN ?_ _) | (with_reducible refine Kd.C_drew ?_))); (case side2 => exact (Kd.R_reads' HO408.out).2.1); rintro e w83 ⟨rfl, hb⟩; have n0_ := Aside0.mk (Kd.R_below (by (with_reducible repeat (first | apply Kd.R_alloc | apply Kd.R_drewN | apply Kd.R_drew)); exact HO408.out) hb); have n1_ := Aside0.mk (below_step (by repeat (first | (with_reducible first | exact HB.out | apply below_alloc | apply pw_below_drewN | apply below_drew1) | exact HB.out)) hb); clear HO408; clear HB; have HO408 := n0_; have HB := n1_; clear n0_ n1_; (try clear hb); (try clear hb2); (try clear hk); (try clear hi)))
                go_meet
                case rel => exact ⟨_, (false), (by first | rfl | (simp; done) | (simp [*]; done)), H', ⟨by first | omega | exact Nat.le_refl _⟩, ⟨by (with_reducible repeat (first | apply Kd.R_alloc | apply Kd.R_drewN | apply Kd.R_drew)); exact HO408.out⟩, ⟨by repeat (first | (with_reducible first | exact HB.out | apply below_alloc | apply pw_below_drewN | apply below_drew1) | exact HB.out)⟩⟩
            · replace c75 := Bool.eq_false_iff.mpr c75
              subst c75
              have H1 : (bywashlaw14_DomOne.j0 k l0 a1 t404 t406 false) = some r := by rw [if_neg (show ¬ (false = true) by decide)] at H; exact H
              clear H
              have H := H1
              clear H1
              have H' := Aside0.mk H
              clear H
              go_wp2_with (first | (go_at_call 17; (with_reducible refine (dom_Dominates.calls k _ _ t406 a2 a3 false _ ?side1 ?side2 A53.out).mono ?_); (case side1 => repeat (first | exact (Kd.R_reads' HO408.out).2.2 | (with_reducible refine Kd.C_alloc ?_ _) | (with_reducible refine Kd.C_drewN ?_ _) | (with_reducible refine Kd.C_drew ?_))); (case side2 => exact (Kd.R_reads' HO408.out).2.1); rintro e w84 ⟨rfl, hb⟩; have n0_ := Aside0.mk (Kd.R_below (by (with_reducible repeat (first | apply Kd.R_alloc | apply Kd.R_drewN | apply Kd.R_drew)); exact HO408.out) hb); have n1_ := Aside0.mk (below_step (by repeat (first | (with_reducible first | exact HB.out | apply below_alloc | apply pw_below_drewN | apply below_drew1) | exact HB.out)) hb); clear HO408; clear HB; have HO408 := n0_; have HB := n1_; clear n0_ n1_; (try clear hb); (try clear hb2); (try clear hk); (try clear hi)) | (go_at_call 17; (with_reducible refine (dom_Dominates.calls k _ _ t406 a1 a3 false _ ?side1 ?side2 A74.out).mono ?_); (case side1 => repeat (first | exact (Kd.R_reads' HO408.out).2.2 | (with_reducible refine Kd.C_alloc ?_ _) | (with_reducible refine Kd.C_drewN ?_ _) | (with_reducible refine Kd.C_drew ?_))); (case side2 => exact (Kd.R_reads' HO408.out).2.1); rintro e w85 ⟨rfl, hb⟩; have n0_ := Aside0.mk (Kd.R_below (by (with_reducible repeat (first | apply Kd.R_alloc | apply Kd.R_drewN | apply Kd.R_drew)); exact HO408.out) hb); have n1_ := Aside0.mk (below_step (by repeat (first | (with_reducible first | exact HB.out | apply below_alloc | apply pw_below_drewN | apply below_drew1) | exact HB.out)) hb); clear HO408; clear HB; have HO408 := n0_; have HB := n1_; clear n0_ n1_; (try clear hb); (try clear hb2); (try clear hk); (try clear hi)))
              go_meet
              case rel => exact ⟨_, (false), (by first | rfl | (simp; done) | (simp [*]; done)), H', ⟨by first | omega | exact Nat.le_refl _⟩, ⟨by (with_reducible repeat (first | apply Kd.R_alloc | apply Kd.R_drewN | apply Kd.R_drew)); exact HO408.out⟩, ⟨by repeat (first | (with_reducible first | exact HB.out | apply below_alloc | apply pw_below_drewN | apply below_drew1) | exact HB.out)⟩⟩
      · replace c17 := Bool.eq_false_iff.mpr c17
        subst c17
        have H1 : ((dom_Dominates.f k t406 a1 a3).bind fun t423 => (if t423 = true then ((dom_Dominates.f k t406 a2 a3).bind fun t424 => (if t424 = true then (bywashlaw14_DomOne.j0 k l0 a1 t404 t406 (!t410)) else (bywashlaw14_DomOne.j0 k l0 a1 t404 t406 false))) else (bywashlaw14_DomOne.j0 k l0 a1 t404 t406 false))) = some r := by rw [if_neg (show ¬ (false = true) by decide)] at H; exact H
        clear H
        have H := H1
        clear H1
        replace H := Option.bind_eq_some_iff.mp H
        obtain ⟨t423, A860, H⟩ := H
        replace H : (if t423 = true then ((dom_Dominates.f k t406 a2 a3).bind fun t424 => (if t424 = true then (bywashlaw14_DomOne.j0 k l0 a1 t404 t406 (!t410)) else (bywashlaw14_DomOne.j0 k l0 a1 t404 t406 false))) else (bywashlaw14_DomOne.j0 k l0 a1 t404 t406 false)) = some r := H
        have A86 := Aside0.mk A860
        clear A860
        by_cases c87 : t423 = true
        · subst c87
          have H1 : ((dom_Dominates.f k t406 a2 a3).bind fun t424 => (if t424 = true then (bywashlaw14_DomOne.j0 k l0 a1 t404 t406 (!t410)) else (bywashlaw14_DomOne.j0 k l0 a1 t404 t406 false))) = some r := by rw [if_pos rfl] at H; exact H
          clear H
          have H := H1
          clear H1
          replace H := Option.bind_eq_some_iff.mp H
          obtain ⟨t424, A880, H⟩ := H
          replace H : (if t424 = true then (bywashlaw14_DomOne.j0 k l0 a1 t404 t406 (!t410)) else (bywashlaw14_DomOne.j0 k l0 a1 t404 t406 false)) = some r := H
          have A88 := Aside0.mk A880
          clear A880
          by_cases c89 : t424 = true
          · subst c89
            have H1 : (bywashlaw14_DomOne.j0 k l0 a1 t404 t406 (!t410)) = some r := by rw [if_pos rfl] at H; exact H
            clear H
            have H := H1
            clear H1
            have H' := Aside0.mk H
            clear H
            go_wp2_with (first | (go_at_call 17; (with_reducible refine (dom_Dominates.calls k _ _ t406 a1 a3 true _ ?side1 ?side2 A86.out).mono ?_); (case side1 => repeat (first | exact (Kd.R_reads' HO408.out).2.2 | (with_reducible refine Kd.C_alloc ?_ _) | (with_reducible refine Kd.C_drewN ?_ _) | (with_reducible refine Kd.C_drew ?_))); (case side2 => exact (Kd.R_reads' HO408.out).2.1); rintro e w90 ⟨rfl, hb⟩; have n0_ := Aside0.mk (Kd.R_below (by (with_reducible repeat (first | apply Kd.R_alloc | apply Kd.R_drewN | apply Kd.R_drew)); exact HO408.out) hb); have n1_ := Aside0.mk (below_step (by repeat (first | (with_reducible first | exact HB.out | apply below_alloc | apply pw_below_drewN | apply below_drew1) | exact HB.out)) hb); clear HO408; clear HB; have HO408 := n0_; have HB := n1_; clear n0_ n1_; (try clear hb); (try clear hb2); (try clear hk); (try clear hi)) | (go_at_call 17; (with_reducible refine (dom_Dominates.calls k _ _ t406 a2 a3 true _ ?side1 ?side2 A88.out).mono ?_); (case side1 => repeat (first | exact (Kd.R_reads' HO408.out).2.2 | (with_reducible refine Kd.C_alloc ?_ _) | (with_reducible refine Kd.C_drewN ?_ _) | (with_reducible refine Kd.C_drew ?_))); (case side2 => exact (Kd.R_reads' HO408.out).2.1); rintro e w91 ⟨rfl, hb⟩; have n0_ := Aside0.mk (Kd.R_below (by (with_reducible repeat (first | apply Kd.R_alloc | apply Kd.R_drewN | apply Kd.R_drew)); exact HO408.out) hb); have n1_ := Aside0.mk (below_step (by repeat (first | (with_reducible first | exact HB.out | apply below_alloc | apply pw_below_drewN | apply below_drew1) | exact HB.out)) hb); clear HO408; clear HB; have HO408 := n0_; have HB := n1_; clear n0_ n1_; (try clear hb); (try clear hb2); (try clear hk); (try clear hi)))
            go_meet
            case rel => exact ⟨_, (!t410), (by first | rfl | (simp; done) | (simp [*]; done)), H', ⟨by first | omega | exact Nat.le_refl _⟩, ⟨by (with_reducible repeat (first | apply Kd.R_alloc | apply Kd.R_drewN | apply Kd.R_drew)); exact HO408.out⟩, ⟨by repeat (first | (with_reducible first | exact HB.out | apply below_alloc | apply pw_below_drewN | apply below_drew1) | exact HB.out)⟩⟩
          · replace c89 := Bool.eq_false_iff.mpr c89
            subst c89
            have H1 : (bywashlaw14_DomOne.j0 k l0 a1 t404 t406 false) = some r := by rw [if_neg (show ¬ (false = true) by decide)] at H; exact H
            clear H
            have H := H1
            clear H1
            have H' := Aside0.mk H
            clear H
            go_wp2_with (first | (go_at_call 17; (with_reducible refine (dom_Dominates.calls k _ _ t406 a1 a3 true _ ?side1 ?side2 A86.out).mono ?_); (case side1 => repeat (first | exact (Kd.R_reads' HO408.out).2.2 | (with_reducible refine Kd.C_alloc ?_ _) | (with_reducible refine Kd.C_drewN ?_ _) | (with_reducible refine Kd.C_drew ?_))); (case side2 => exact (Kd.R_reads' HO408.out).2.1); rintro e w92 ⟨rfl, hb⟩; have n0_ := Aside0.mk (Kd.R_below (by (with_reducible repeat (first | apply Kd.R_alloc | apply Kd.R_drewN | apply Kd.R_drew)); exact HO408.out) hb); have n1_ := Aside0.mk (below_step (by repeat (first | (with_reducible first | exact HB.out | apply below_alloc | apply pw_below_drewN | apply below_drew1) | exact HB.out)) hb); clear HO408; clear HB; have HO408 := n0_; have HB := n1_; clear n0_ n1_; (try clear hb); (try clear hb2); (try clear hk); (try clear hi)) | (go_at_call 17; (with_reducible refine (dom_Dominates.calls k _ _ t406 a2 a3 false _ ?side1 ?side2 A88.out).mono ?_); (case side1 => repeat (first | exact (Kd.R_reads' HO408.out).2.2 | (with_reducible refine Kd.C_alloc ?_ _) | (with_reducible refine Kd.C_drewN ?_ _) | (with_reducible refine Kd.C_drew ?_))); (case side2 => exact (Kd.R_reads' HO408.out).2.1); rintro e w93 ⟨rfl, hb⟩; have n0_ := Aside0.mk (Kd.R_below (by (with_reducible repeat (first | apply Kd.R_alloc | apply Kd.R_drewN | apply Kd.R_drew)); exact HO408.out) hb); have n1_ := Aside0.mk (below_step (by repeat (first | (with_reducible first | exact HB.out | apply below_alloc | apply pw_below_drewN | apply below_drew1) | exact HB.out)) hb); clear HO408; clear HB; have HO408 := n0_; have HB := n1_; clear n0_ n1_; (try clear hb); (try clear hb2); (try clear hk); (try clear hi)))
            go_meet
            case rel => exact ⟨_, (false), (by first | rfl | (simp; done) | (simp [*]; done)), H', ⟨by first | omega | exact Nat.le_refl _⟩, ⟨by (with_reducible repeat (first | apply Kd.R_alloc | apply Kd.R_drewN | apply Kd.R_drew)); exact HO408.out⟩, ⟨by repeat (first | (with_reducible first | exact HB.out | apply below_alloc | apply pw_below_drewN | apply below_drew1) | exact HB.out)⟩⟩
        · replace c87 := Bool.eq_false_iff.mpr c87
          subst c87
          have H1 : (bywashlaw14_DomOne.j0 k l0 a1 t404 t406 false) = some r := by rw [if_neg (show ¬ (false = true) by decide)] at H; exact H
          clear H
          have H := H1
          clear H1
          have H' := Aside0.mk H
          clear H
          go_wp2_with (first | (go_at_call 17; (with_reducible refine (dom_Dominates.calls k _ _ t406 a1 a3 false _ ?side1 ?side2 A86.out).mono ?_); (case side1 => repeat (first | exact (Kd.R_reads' HO408.out).2.2 | (with_reducible refine Kd.C_alloc ?_ _) | (with_reducible refine Kd.C_drewN ?_ _) | (with_reducible refine Kd.C_drew ?_))); (case side2 => exact (Kd.R_reads' HO408.out).2.1); rintro e w94 ⟨rfl, hb⟩; have n0_ := Aside0.mk (Kd.R_below (by (with_reducible repeat (first | apply Kd.R_alloc | apply Kd.R_drewN | apply Kd.R_drew)); exact HO408.out) hb); have n1_ := Aside0.mk (below_step (by repeat (first | (with_reducible first | exact HB.out | apply below_alloc | apply pw_below_drewN | apply below_drew1) | exact HB.out)) hb); clear HO408; clear HB; have HO408 := n0_; have HB := n1_; clear n0_ n1_; (try clear hb); (try clear hb2); (try clear hk); (try clear hi)))
          go_meet
          case rel => exact ⟨_, (false), (by first | rfl | (simp; done) | (simp [*]; done)), H', ⟨by first | omega | exact Nat.le_refl _⟩, ⟨by (with_reducible repeat (first | apply Kd.R_alloc | apply Kd.R_drewN | apply Kd.R_drew)); exact HO408.out⟩, ⟨by repeat (first | (with_reducible first | exact HB.out | apply below_alloc | apply pw_below_drewN | apply below_drew1) | exact HB.out)⟩⟩
    case rest =>
      clear HC11
      try clear c1
      try clear c2
      try clear p2
      try clear c4
      try clear c5
      try clear c6
      try clear c7
      try clear c8
      try clear c13
      try clear c14
      try clear c15
      try clear c17
      try clear c18
      try clear c19
      try clear c19b0
      try clear c19b1
      try clear c21
      try clear c23
      try clear c25
      try clear c27
      try clear c42
      try clear c44
      try clear c54
      try clear c56
      try clear c58
      try clear c60
      try clear c75
      try clear c77
      try clear c87
      try clear c89
      obtain ⟨kq, x73_10, rfl, HA, HJ10, HO_10, HB⟩ := hcut
      cases kq with
      | zero => exact absurd HA.out (by simp [bywashlaw14_DomOne.j0])
      | succ kj10 =>
        have H := HA.out
        clear HA
        simp only [bywashlaw14_DomOne.j0] at H
        by_cases c95 : x73_10 = true
        · subst c95
          have H1 : (some false) = some r := by rw [if_pos rfl] at H; exact H
          clear H
          have H := H1
          clear H1
          obtain rfl := Option.some.inj H
          go_wp2
          go_ret
          exact ⟨by first | rfl | (simp [errW_none, errW_some] <;> rfl) | (simp [*, errW_none, errW_some] <;> rfl) | (exfalso; (try simp_all); (try omega); done), by repeat (first | (with_reducible first | exact HB.out | apply below_alloc | apply pw_below_drewN | apply below_drew1) | exact HB.out)⟩
        · replace c95 := Bool.eq_false_iff.mpr c95
          subst c95
          have H1 : (if a1 ≥ 0 then (if a1 < (t406.length : Int) then (if 0 ≤ a1 then (if t404 = true then ((dom_Dominates.f kj10 t406 a1 a1).bind fun t426 => (if (t426 == ((rd t406 a1) != (-2))) = true then ((dom_Dominates.f kj10 t406 0 a1).bind fun t427 => (if (t427 == ((rd t406 a1) != (-2))) = true then ((dom_Below.f kj10 t406 0).bind fun t428 => (some ((decide ((t428.length : Int) > 0)) == (decide ((l0.length : Int) > 0))))) else (some false))) else (some false))) else (some false)) else (none)) else (if t404 = true then ((dom_Dominates.f kj10 t406 a1 a1).bind fun t431 => (if (t431 == false) = true then ((dom_Dominates.f kj10 t406 0 a1).bind fun t432 => (if (t432 == false) = true then ((dom_Below.f kj10 t406 0).bind fun t433 => (some ((decide ((t433.length : Int) > 0)) == (decide ((l0.length : Int) > 0))))) else (some false))) else (some false))) else (some false))) else (if t404 = true then ((dom_Dominates.f kj10 t406 a1 a1).bind fun t436 => (if (t436 == false) = true then ((dom_Dominates.f kj10 t406 0 a1).bind fun t437 => (if (t437 == false) = true then ((dom_Below.f kj10 t406 0).bind fun t438 => (some ((decide ((t438.length : Int) > 0)) == (decide ((l0.length : Int) > 0))))) else (some false))) else (some false))) else (some false))) = some r := by rw [if_neg (show ¬ (false = true) by decide)] at H; exact H
          clear H
          have H := H1
          clear H1
          by_cases c96 : a1 ≥ 0
          · rw [if_pos c96] at H
            have c96b0 : decide (0 ≤ a1) = true := decide_eq_true c96
            clear c96
            by_cases c97 : a1 < (t406.length : Int)
            · rw [if_pos c97] at H
              have c97b0 : decide (a1 < (t406.length : Int)) = true := decide_eq_true c97
              clear c97
              by_cases c98 : 0 ≤ a1
              · rw [if_pos c98] at H
                have c98b0 : decide (0 ≤ a1) = true := decide_eq_true c98
                clear c98
                by_cases c99 : t404 = true
                · subst c99
                  have H1 : ((dom_Dominates.f kj10 t406 a1 a1).bind fun t426 => (if (t426 == ((rd t406 a1) != (-2))) = true then ((dom_Dominates.f kj10 t406 0 a1).bind fun t427 => (if (t427 == ((rd t406 a1) != (-2))) = true then ((dom_Below.f kj10 t406 0).bind fun t428 => (some ((decide ((t428.length : Int) > 0)) == (decide ((l0.length : Int) > 0))))) else (some false))) else (some false))) = some r := by rw [if_pos rfl] at H; exact H
                  clear H
                  have H := H1
                  clear H1
                  replace H := Option.bind_eq_some_iff.mp H
                  obtain ⟨t426, A1000, H⟩ := H
                  replace H : (if (t426 == ((rd t406 a1) != (-2))) = true then ((dom_Dominates.f kj10 t406 0 a1).bind fun t427 => (if (t427 == ((rd t406 a1) != (-2))) = true then ((dom_Below.f kj10 t406 0).bind fun t428 => (some ((decide ((t428.length : Int) > 0)) == (decide ((l0.length : Int) > 0))))) else (some false))) else (some false)) = some r := H
                  have A100 := Aside0.mk A1000
                  clear A1000
                  by_cases c101 : (t426 == ((rd t406 a1) != (-2))) = true
                  · rw [if_pos c101] at H
                    have c101b0 : (t426 == ((rd t406 a1) != (-2))) = true := c101
                    (try (have c101b1 : decide (t426 = ((rd t406 a1) != (-2))) = true := by simpa using c101))
                    (try (have c101b2 : (t426 == ((rd t406 a1) != (-2))) = true := by simpa using c101))
                    clear c101
                    replace H := Option.bind_eq_some_iff.mp H
                    obtain ⟨t427, A1020, H⟩ := H
                    replace H : (if (t427 == ((rd t406 a1) != (-2))) = true then ((dom_Below.f kj10 t406 0).bind fun t428 => (some ((decide ((t428.length : Int) > 0)) == (decide ((l0.length : Int) > 0))))) else (some false)) = some r := H
                    have A102 := Aside0.mk A1020
                    clear A1020
                    by_cases c103 : (t427 == ((rd t406 a1) != (-2))) = true
                    · rw [if_pos c103] at H
                      have c103b0 : (t427 == ((rd t406 a1) != (-2))) = true := c103
                      (try (have c103b1 : decide (t427 = ((rd t406 a1) != (-2))) = true := by simpa using c103))
                      (try (have c103b2 : (t427 == ((rd t406 a1) != (-2))) = true := by simpa using c103))
                      clear c103
                      replace H := Option.bind_eq_some_iff.mp H
                      obtain ⟨t428, A1040, H⟩ := H
                      replace H : (some ((decide ((t428.length : Int) > 0)) == (decide ((l0.length : Int) > 0)))) = some r := H
                      have A104 := Aside0.mk A1040
                      clear A1040
                      obtain rfl := Option.some.inj H
                      have p425 : 0 ≤ (a1 : Int) := of_decide_eq_true (by first | (with_reducible assumption) | assumption)
                      have q425 : a1 < (t406.length : Int) := of_decide_eq_true (by first | (with_reducible assumption) | assumption)
                      obtain ⟨ad425, e425, hx425_0⟩ := Kd.at_int (Kd.R_reads' HO_10.out).2.2 a1 p425 q425
                      cases e425
                      replace p425 := eq_true p425
                      replace q425 := eq_true q425
                      go_wp2_with (first | (go_at_call 17; (with_reducible refine (dom_Dominates.calls kj10 _ _ t406 a1 a1 t426 _ ?side1 ?side2 A100.out).mono ?_); (case side1 => repeat (first | exact (Kd.R_reads' HO_10.out).2.2 | (with_reducible refine Kd.C_alloc ?_ _) | (with_reducible refine Kd.C_drewN ?_ _) | (with_reducible refine Kd.C_drew ?_))); (case side2 => exact (Kd.R_reads' HO_10.out).2.1); rintro e w105 ⟨rfl, hb⟩; have n0_ := Aside0.mk (Kd.R_below (by (with_reducible repeat (first | apply Kd.R_alloc | apply Kd.R_drewN | apply Kd.R_drew)); exact HO_10.out) hb); have n1_ := Aside0.mk (below_step (by repeat (first | (with_reducible first | exact HB.out | apply below_alloc | apply pw_below_drewN | apply below_drew1) | exact HB.out)) hb); clear HO_10; clear HB; have HO_10 := n0_; have HB := n1_; clear n0_ n1_; (try clear hb); (try clear hb2); (try clear hk); (try clear hi)) | (go_at_call 17; (with_reducible refine (dom_Dominates.calls kj10 _ _ t406 0 a1 t427 _ ?side1 ?side2 A102.out).mono ?_); (case side1 => repeat (first | exact (Kd.R_reads' HO_10.out).2.2 | (with_reducible refine Kd.C_alloc ?_ _) | (with_reducible refine Kd.C_drewN ?_ _) | (with_reducible refine Kd.C_drew ?_))); (case side2 => exact (Kd.R_reads' HO_10.out).2.1); rintro e w106 ⟨rfl, hb⟩; have n0_ := Aside0.mk (Kd.R_below (by (with_reducible repeat (first | apply Kd.R_alloc | apply Kd.R_drewN | apply Kd.R_drew)); exact HO_10.out) hb); have n1_ := Aside0.mk (below_step (by repeat (first | (with_reducible first | exact HB.out | apply below_alloc | apply pw_below_drewN | apply below_drew1) | exact HB.out)) hb); clear HO_10; clear HB; have HO_10 := n0_; have HB := n1_; clear n0_ n1_; (try clear hb); (try clear hb2); (try clear hk); (try clear hi)) | (go_at_call 29; (with_reducible refine (dom_Below.calls kj10 _ _ t406 0 t428 _ ?side1 ?side2 A104.out).mono ?_); (case side1 => repeat (first | exact (Kd.R_reads' HO_10.out).2.2 | (with_reducible refine Kd.C_alloc ?_ _) | (with_reducible refine Kd.C_drewN ?_ _) | (with_reducible refine Kd.C_drew ?_))); (case side2 => exact (Kd.R_reads' HO_10.out).2.1); rintro e w107 ⟨v429, rfl, ho0, hb⟩; have n0_ := Aside0.mk (Kd.R_elder' (by (with_reducible repeat (first | apply Kd.R_alloc | apply Kd.R_drewN | apply Kd.R_drew)); exact HO_10.out) (Kd.R_base ho0) hb); have n1_ := Aside0.mk (Kd.R_lower (Kd.R_new' ho0 (Kd.R_lt (by (with_reducible repeat (first | apply Kd.R_alloc | apply Kd.R_drewN | apply Kd.R_drew)); exact HO_10.out))) (below_size (by repeat (first | (with_reducible first | exact HB.out | apply below_alloc | apply pw_below_drewN | apply below_drew1) | exact HB.out)))); have n2_ := Aside0.mk (below_step (by repeat (first | (with_reducible first | exact HB.out | apply below_alloc | apply pw_below_drewN | apply below_drew1) | exact HB.out)) hb); clear HO_10; clear HB; have HO_10 := n0_; have HO430 := n1_; have HB := n2_; clear n0_ n1_ n2_; (try clear hb); (try clear hb2); (try clear hk); (try clear hi); (try clear ho0); obtain ⟨Ao108, co108, eo108⟩ := Kd.R_slice HO430.out; subst eo108))
                      go_ret
                      exact ⟨by first | rfl | (simp [errW_none, errW_some] <;> rfl) | (simp [*, errW_none, errW_some] <;> rfl) | (exfalso; (try simp_all); (try omega); done), by repeat (first | (with_reducible first | exact HB.out | apply below_alloc | apply pw_below_drewN | apply below_drew1) | exact HB.out)⟩
                    · rw [if_neg c103] at H
                      have c103b0 : (t427 == ((rd t406 a1) != (-2))) = false := by simpa using c103
                      (try (have c103b1 : decide (t427 = ((rd t406 a1) != (-2))) = false := by simpa using c103))
                      (try (have c103b2 : (t427 == ((rd t406 a1) != (-2))) = false := by simpa using c103))
                      (try (have c103b3 : ¬ (t427 = ((rd t406 a1) != (-2))) := by simpa using c103))
                      clear c103
                      obtain rfl := Option.some.inj H
                      have p425 : 0 ≤ (a1 : Int) := of_decide_eq_true (by first | (with_reducible assumption) | assumption)
                      have q425 : a1 < (t406.length : Int) := of_decide_eq_true (by first | (with_reducible assumption) | assumption)
                      obtain ⟨ad425, e425, hx425_0⟩ := Kd.at_int (Kd.R_reads' HO_10.out).2.2 a1 p425 q425
                      cases e425
                      replace p425 := eq_true p425
                      replace q425 := eq_true q425
                      go_wp2_with (first | (go_at_call 17; (with_reducible refine (dom_Dominates.calls kj10 _ _ t406 a1 a1 t426 _ ?side1 ?side2 A100.out).mono ?_); (case side1 => repeat (first | exact (Kd.R_reads' HO_10.out).2.2 | (with_reducible refine Kd.C_alloc ?_ _) | (with_reducible refine Kd.C_drewN ?_ _) | (with_reducible refine Kd.C_drew ?_))); (case side2 => exact (Kd.R_reads' HO_10.out).2.1); rintro e w109 ⟨rfl, hb⟩; have n0_ := Aside0.mk (Kd.R_below (by (with_reducible repeat (first | apply Kd.R_alloc | apply Kd.R_drewN | apply Kd.R_drew)); exact HO_10.out) hb); have n1_ := Aside0.mk (below_step (by repeat (first | (with_reducible first | exact HB.out | apply below_alloc | apply pw_below_drewN | apply below_drew1) | exact HB.out)) hb); clear HO_10; clear HB; have HO_10 := n0_; have HB := n1_; clear n0_ n1_; (try clear hb); (try clear hb2); (try clear hk); (try clear hi)) | (go_at_call 17; (with_reducible refine (dom_Dominates.calls kj10 _ _ t406 0 a1 t427 _ ?side1 ?side2 A102.out).mono ?_); (case side1 => repeat (first | exact (Kd.R_reads' HO_10.out).2.2 | (with_reducible refine Kd.C_alloc ?_ _) | (with_reducible refine Kd.C_drewN ?_ _) | (with_reducible refine Kd.C_drew ?_))); (case side2 => exact (Kd.R_reads' HO_10.out).2.1); rintro e w110 ⟨rfl, hb⟩; have n0_ := Aside0.mk (Kd.R_below (by (with_reducible repeat (first | apply Kd.R_alloc | apply Kd.R_drewN | apply Kd.R_drew)); exact HO_10.out) hb); have n1_ := Aside0.mk (below_step (by repeat (first | (with_reducible first | exact HB.out | apply below_alloc | apply pw_below_drewN | apply below_drew1) | exact HB.out)) hb); clear HO_10; clear HB; have HO_10 := n0_; have HB := n1_; clear n0_ n1_; (try clear hb); (try clear hb2); (try clear hk); (try clear hi)))
                      go_ret
                      exact ⟨by first | rfl | (simp [errW_none, errW_some] <;> rfl) | (simp [*, errW_none, errW_some] <;> rfl) | (exfalso; (try simp_all); (try omega); done), by repeat (first | (with_reducible first | exact HB.out | apply below_alloc | apply pw_below_drewN | apply below_drew1) | exact HB.out)⟩
                  · rw [if_neg c101] at H
                    have c101b0 : (t426 == ((rd t406 a1) != (-2))) = false := by simpa using c101
                    (try (have c101b1 : decide (t426 = ((rd t406 a1) != (-2))) = false := by simpa using c101))
                    (try (have c101b2 : (t426 == ((rd t406 a1) != (-2))) = false := by simpa using c101))
                    (try (have c101b3 : ¬ (t426 = ((rd t406 a1) != (-2))) := by simpa using c101))
                    clear c101
                    obtain rfl := Option.some.inj H
                    have p425 : 0 ≤ (a1 : Int) := of_decide_eq_true (by first | (with_reducible assumption) | assumption)
                    have q425 : a1 < (t406.length : Int) := of_decide_eq_true (by first | (with_reducible assumption) | assumption)
                    obtain ⟨ad425, e425, hx425_0⟩ := Kd.at_int (Kd.R_reads' HO_10.out).2.2 a1 p425 q425
                    cases e425
                    replace p425 := eq_true p425
                    replace q425 := eq_true q425
                    go_wp2_with (first | (go_at_call 17; (with_reducible refine (dom_Dominates.calls kj10 _ _ t406 a1 a1 t426 _ ?side1 ?side2 A100.out).mono ?_); (case side1 => repeat (first | exact (Kd.R_reads' HO_10.out).2.2 | (with_reducible refine Kd.C_alloc ?_ _) | (with_reducible refine Kd.C_drewN ?_ _) | (with_reducible refine Kd.C_drew ?_))); (case side2 => exact (Kd.R_reads' HO_10.out).2.1); rintro e w111 ⟨rfl, hb⟩; have n0_ := Aside0.mk (Kd.R_below (by (with_reducible repeat (first | apply Kd.R_alloc | apply Kd.R_drewN | apply Kd.R_drew)); exact HO_10.out) hb); have n1_ := Aside0.mk (below_step (by repeat (first | (with_reducible first | exact HB.out | apply below_alloc | apply pw_below_drewN | apply below_drew1) | exact HB.out)) hb); clear HO_10; clear HB; have HO_10 := n0_; have HB := n1_; clear n0_ n1_; (try clear hb); (try clear hb2); (try clear hk); (try clear hi)))
                    go_ret
                    exact ⟨by first | rfl | (simp [errW_none, errW_some] <;> rfl) | (simp [*, errW_none, errW_some] <;> rfl) | (exfalso; (try simp_all); (try omega); done), by repeat (first | (with_reducible first | exact HB.out | apply below_alloc | apply pw_below_drewN | apply below_drew1) | exact HB.out)⟩
                · replace c99 := Bool.eq_false_iff.mpr c99
                  subst c99
                  have H1 : (some false) = some r := by rw [if_neg (show ¬ (false = true) by decide)] at H; exact H
                  clear H
                  have H := H1
                  clear H1
                  obtain rfl := Option.some.inj H
                  have p425 : 0 ≤ (a1 : Int) := of_decide_eq_true (by first | (with_reducible assumption) | assumption)
                  have q425 : a1 < (t406.length : Int) := of_decide_eq_true (by first | (with_reducible assumption) | assumption)
                  obtain ⟨ad425, e425, hx425_0⟩ := Kd.at_int (Kd.R_reads' HO_10.out).2.2 a1 p425 q425
                  cases e425
                  replace p425 := eq_true p425
                  replace q425 := eq_true q425
                  go_wp2
                  go_ret
                  exact ⟨by first | rfl | (simp [errW_none, errW_some] <;> rfl) | (simp [*, errW_none, errW_some] <;> rfl) | (exfalso; (try simp_all); (try omega); done), by repeat (first | (with_reducible first | exact HB.out | apply below_alloc | apply pw_below_drewN | apply below_drew1) | exact HB.out)⟩
              · rw [if_neg c98] at H
                exact absurd H (by simp)
            · rw [if_neg c97] at H
              have c97b0 : decide (a1 < (t406.length : Int)) = false := decide_eq_false c97
              clear c97
              by_cases c112 : t404 = true
              · subst c112
                have H1 : ((dom_Dominates.f kj10 t406 a1 a1).bind fun t431 => (if (t431 == false) = true then ((dom_Dominates.f kj10 t406 0 a1).bind fun t432 => (if (t432 == false) = true then ((dom_Below.f kj10 t406 0).bind fun t433 => (some ((decide ((t433.length : Int) > 0)) == (decide ((l0.length : Int) > 0))))) else (some false))) else (some false))) = some r := by rw [if_pos rfl] at H; exact H
                clear H
                have H := H1
                clear H1
                replace H := Option.bind_eq_some_iff.mp H
                obtain ⟨t431, A1130, H⟩ := H
                replace H : (if (t431 == false) = true then ((dom_Dominates.f kj10 t406 0 a1).bind fun t432 => (if (t432 == false) = true then ((dom_Below.f kj10 t406 0).bind fun t433 => (some ((decide ((t433.length : Int) > 0)) == (decide ((l0.length : Int) > 0))))) else (some false))) else (some false)) = some r := H
                have A113 := Aside0.mk A1130
                clear A1130
                by_cases c114 : (t431 == false) = true
                · rw [if_pos c114] at H
                  have c114b0 : (t431 == false) = true := c114
                  (try (have c114b1 : decide (t431 = false) = true := by simpa using c114))
                  (try (have c114b2 : (t431 == false) = true := by simpa using c114))
                  clear c114
                  replace H := Option.bind_eq_some_iff.mp H
                  obtain ⟨t432, A1150, H⟩ := H
                  replace H : (if (t432 == false) = true then ((dom_Below.f kj10 t406 0).bind fun t433 => (some ((decide ((t433.length : Int) > 0)) == (decide ((l0.length : Int) > 0))))) else (some false)) = some r := H
                  have A115 := Aside0.mk A1150
                  clear A1150
                  by_cases c116 : (t432 == false) = true
                  · rw [if_pos c116] at H
                    have c116b0 : (t432 == false) = true := c116
                    (try (have c116b1 : decide (t432 = false) = true := by simpa using c116))
                    (try (have c116b2 : (t432 == false) = true := by simpa using c116))
                    clear c116
                    replace H := Option.bind_eq_some_iff.mp H
                    obtain ⟨t433, A1170, H⟩ := H
                    replace H : (some ((decide ((t433.length : Int) > 0)) == (decide ((l0.length : Int) > 0)))) = some r := H
                    have A117 := Aside0.mk A1170
                    clear A1170
                    obtain rfl := Option.some.inj H
                    go_wp2_with (first | (go_at_call 17; (with_reducible refine (dom_Dominates.calls kj10 _ _ t406 a1 a1 t431 _ ?side1 ?side2 A113.out).mono ?_); (case side1 => repeat (first | exact (Kd.R_reads' HO_10.out).2.2 | (with_reducible refine Kd.C_alloc ?_ _) | (with_reducible refine Kd.C_drewN ?_ _) | (with_reducible refine Kd.C_drew ?_))); (case side2 => exact (Kd.R_reads' HO_10.out).2.1); rintro e w118 ⟨rfl, hb⟩; have n0_ := Aside0.mk (Kd.R_below (by (with_reducible repeat (first | apply Kd.R_alloc | apply Kd.R_drewN | apply Kd.R_drew)); exact HO_10.out) hb); have n1_ := Aside0.mk (below_step (by repeat (first | (with_reducible first | exact HB.out | apply below_alloc | apply pw_below_drewN | apply below_drew1) | exact HB.out)) hb); clear HO_10; clear HB; have HO_10 := n0_; have HB := n1_; clear n0_ n1_; (try clear hb); (try clear hb2); (try clear hk); (try clear hi)) | (go_at_call 17; (with_reducible refine (dom_Dominates.calls kj10 _ _ t406 0 a1 t432 _ ?side1 ?side2 A115.out).mono ?_); (case side1 => repeat (first | exact (Kd.R_reads' HO_10.out).2.2 | (with_reducible refine Kd.C_alloc ?_ _) | (with_reducible refine Kd.C_drewN ?_ _) | (with_reducible refine Kd.C_drew ?_))); (case side2 => exact (Kd.R_reads' HO_10.out).2.1); rintro e w119 ⟨rfl, hb⟩; have n0_ := Aside0.mk (Kd.R_below (by (with_reducible repeat (first | apply Kd.R_alloc | apply Kd.R_drewN | apply Kd.R_drew)); exact HO_10.out) hb); have n1_ := Aside0.mk (below_step (by repeat (first | (with_reducible first | exact HB.out | apply below_alloc | apply pw_below_drewN | apply below_drew1) | exact HB.out)) hb); clear HO_10; clear HB; have HO_10 := n0_; have HB := n1_; clear n0_ n1_; (try clear hb); (try clear hb2); (try clear hk); (try clear hi)) | (go_at_call 29; (with_reducible refine (dom_Below.calls kj10 _ _ t406 0 t433 _ ?side1 ?side2 A117.out).mono ?_); (case side1 => repeat (first | exact (Kd.R_reads' HO_10.out).2.2 | (with_reducible refine Kd.C_alloc ?_ _) | (with_reducible refine Kd.C_drewN ?_ _) | (with_reducible refine Kd.C_drew ?_))); (case side2 => exact (Kd.R_reads' HO_10.out).2.1); rintro e w120 ⟨v434, rfl, ho0, hb⟩; have n0_ := Aside0.mk (Kd.R_elder' (by (with_reducible repeat (first | apply Kd.R_alloc | apply Kd.R_drewN | apply Kd.R_drew)); exact HO_10.out) (Kd.R_base ho0) hb); have n1_ := Aside0.mk (Kd.R_lower (Kd.R_new' ho0 (Kd.R_lt (by (with_reducible repeat (first | apply Kd.R_alloc | apply Kd.R_drewN | apply Kd.R_drew)); exact HO_10.out))) (below_size (by repeat (first | (with_reducible first | exact HB.out | apply below_alloc | apply pw_below_drewN | apply below_drew1) | exact HB.out)))); have n2_ := Aside0.mk (below_step (by repeat (first | (with_reducible first | exact HB.out | apply below_alloc | apply pw_below_drewN | apply below_drew1) | exact HB.out)) hb); clear HO_10; clear HB; have HO_10 := n0_; have HO435 := n1_; have HB := n2_; clear n0_ n1_ n2_; (try clear hb); (try clear hb2); (try clear hk); (try clear hi); (try clear ho0); obtain ⟨Ao121, co121, eo121⟩ := Kd.R_slice HO435.out; subst eo121))
                    go_ret
                    exact ⟨by first | rfl | (simp [errW_none, errW_some] <;> rfl) | (simp [*, errW_none, errW_some] <;> rfl) | (exfalso; (try simp_all); (try omega); done), by repeat (first | (with_reducible first | exact HB.out | apply below_alloc | apply pw_below_drewN | apply below_drew1) | exact HB.out)⟩
                  · rw [if_neg c116] at H
                    have c116b0 : (t432 == false) = false := by simpa using c116
                    (try (have c116b1 : decide (t432 = false) = false := by simpa using c116))
                    (try (have c116b2 : (t432 == false) = false := by simpa using c116))
                    (try (have c116b3 : ¬ (t432 = false) := by simpa using c116))
                    clear c116
                    obtain rfl := Option.some.inj H
                    go_wp2_with (first | (go_at_call 17; (with_reducible refine (dom_Dominates.calls kj10 _ _ t406 a1 a1 t431 _ ?side1 ?side2 A113.out).mono ?_); (case side1 => repeat (first | exact (Kd.R_reads' HO_10.out).2.2 | (with_reducible refine Kd.C_alloc ?_ _) | (with_reducible refine Kd.C_drewN ?_ _) | (with_reducible refine Kd.C_drew ?_))); (case side2 => exact (Kd.R_reads' HO_10.out).2.1); rintro e w122 ⟨rfl, hb⟩; have n0_ := Aside0.mk (Kd.R_below (by (with_reducible repeat (first | apply Kd.R_alloc | apply Kd.R_drewN | apply Kd.R_drew)); exact HO_10.out) hb); have n1_ := Aside0.mk (below_step (by repeat (first | (with_reducible first | exact HB.out | apply below_alloc | apply pw_below_drewN | apply below_drew1) | exact HB.out)) hb); clear HO_10; clear HB; have HO_10 := n0_; have HB := n1_; clear n0_ n1_; (try clear hb); (try clear hb2); (try clear hk); (try clear hi)) | (go_at_call 17; (with_reducible refine (dom_Dominates.calls kj10 _ _ t406 0 a1 t432 _ ?side1 ?side2 A115.out).mono ?_); (case side1 => repeat (first | exact (Kd.R_reads' HO_10.out).2.2 | (with_reducible refine Kd.C_alloc ?_ _) | (with_reducible refine Kd.C_drewN ?_ _) | (with_reducible refine Kd.C_drew ?_))); (case side2 => exact (Kd.R_reads' HO_10.out).2.1); rintro e w123 ⟨rfl, hb⟩; have n0_ := Aside0.mk (Kd.R_below (by (with_reducible repeat (first | apply Kd.R_alloc | apply Kd.R_drewN | apply Kd.R_drew)); exact HO_10.out) hb); have n1_ := Aside0.mk (below_step (by repeat (first | (with_reducible first | exact HB.out | apply below_alloc | apply pw_below_drewN | apply below_drew1) | exact HB.out)) hb); clear HO_10; clear HB; have HO_10 := n0_; have HB := n1_; clear n0_ n1_; (try clear hb); (try clear hb2); (try clear hk); (try clear hi)))
                    go_ret
                    exact ⟨by first | rfl | (simp [errW_none, errW_some] <;> rfl) | (simp [*, errW_none, errW_some] <;> rfl) | (exfalso; (try simp_all); (try omega); done), by repeat (first | (with_reducible first | exact HB.out | apply below_alloc | apply pw_below_drewN | apply below_drew1) | exact HB.out)⟩
                · rw [if_neg c114] at H
                  have c114b0 : (t431 == false) = false := by simpa using c114
                  (try (have c114b1 : decide (t431 = false) = false := by simpa using c114))
                  (try (have c114b2 : (t431 == false) = false := by simpa using c114))
                  (try (have c114b3 : ¬ (t431 = false) := by simpa using c114))
                  clear c114
                  obtain rfl := Option.some.inj H
                  go_wp2_with (first | (go_at_call 17; (with_reducible refine (dom_Dominates.calls kj10 _ _ t406 a1 a1 t431 _ ?side1 ?side2 A113.out).mono ?_); (case side1 => repeat (first | exact (Kd.R_reads' HO_10.out).2.2 | (with_reducible refine Kd.C_alloc ?_ _) | (with_reducible refine Kd.C_drewN ?_ _) | (with_reducible refine Kd.C_drew ?_))); (case side2 => exact (Kd.R_reads' HO_10.out).2.1); rintro e w124 ⟨rfl, hb⟩; have n0_ := Aside0.mk (Kd.R_below (by (with_reducible repeat (first | apply Kd.R_alloc | apply Kd.R_drewN | apply Kd.R_drew)); exact HO_10.out) hb); have n1_ := Aside0.mk (below_step (by repeat (first | (with_reducible first | exact HB.out | apply below_alloc | apply pw_below_drewN | apply below_drew1) | exact HB.out)) hb); clear HO_10; clear HB; have HO_10 := n0_; have HB := n1_; clear n0_ n1_; (try clear hb); (try clear hb2); (try clear hk); (try clear hi)))
                  go_ret
                  exact ⟨by first | rfl | (simp [errW_none, errW_some] <;> rfl) | (simp [*, errW_none, errW_some] <;> rfl) | (exfalso; (try simp_all); (try omega); done), by repeat (first | (with_reducible first | exact HB.out | apply below_alloc | apply pw_below_drewN | apply below_drew1) | exact HB.out)⟩
              · replace c112 := Bool.eq_false_iff.mpr c112
                subst c112
                have H1 : (some false) = some r := by rw [if_neg (show ¬ (false = true) by decide)] at H; exact H
                clear H
                have H := H1
                clear H1
                obtain rfl := Option.some.inj H
                go_wp2
                go_ret
                exact ⟨by first | rfl | (simp [errW_none, errW_some] <;> rfl) | (simp [*, errW_none, errW_some] <;> rfl) | (exfalso; (try simp_all); (try omega); done), by repeat (first | (with_reducible first | exact HB.out | apply below_alloc | apply pw_below_drewN | apply below_drew1) | exact HB.out)⟩
          · rw [if_neg c96] at H
            have c96b0 : decide (0 ≤ a1) = false := decide_eq_false c96
            clear c96
            by_cases c125 : t404 = true
            · subst c125
              have H1 : ((dom_Dominates.f kj10 t406 a1 a1).bind fun t436 => (if (t436 == false) = true then ((dom_Dominates.f kj10 t406 0 a1).bind fun t437 => (if (t437 == false) = true then ((dom_Below.f kj10 t406 0).bind fun t438 => (some ((decide ((t438.length : Int) > 0)) == (decide ((l0.length : Int) > 0))))) else (some false))) else (some false))) = some r := by rw [if_pos rfl] at H; exact H
              clear H
              have H := H1
              clear H1
              replace H := Option.bind_eq_some_iff.mp H
              obtain ⟨t436, A1260, H⟩ := H
              replace H : (if (t436 == false) = true then ((dom_Dominates.f kj10 t406 0 a1).bind fun t437 => (if (t437 == false) = true then ((dom_Below.f kj10 t406 0).bind fun t438 => (some ((decide ((t438.length : Int) > 0)) == (decide ((l0.length : Int) > 0))))) else (some false))) else (some false)) = some r := H
              have A126 := Aside0.mk A1260
              clear A1260
              by_cases c127 : (t436 == false) = true
              · rw [if_pos c127] at H
                have c127b0 : (t436 == false) = true := c127
                (try (have c127b1 : decide (t436 = false) = true := by simpa using c127))
                (try (have c127b2 : (t436 == false) = true := by simpa using c127))
                clear c127
                replace H := Option.bind_eq_some_iff.mp H
                obtain ⟨t437, A1280, H⟩ := H
                replace H : (if (t437 == false) = true then ((dom_Below.f kj10 t406 0).bind fun t438 => (some ((decide ((t438.length : Int) > 0)) == (decide ((l0.length : Int) > 0))))) else (some false)) = some r := H
                have A128 := Aside0.mk A1280
                clear A1280
                by_cases c129 : (t437 == false) = true
                · rw [if_pos c129] at H
                  have c129b0 : (t437 == false) = true := c129
                  (try (have c129b1 : decide (t437 = false) = true := by simpa using c129))
                  (try (have c129b2 : (t437 == false) = true := by simpa using c129))
                  clear c129
                  replace H := Option.bind_eq_some_iff.mp H
                  obtain ⟨t438, A1300, H⟩ := H
                  replace H : (some ((decide ((t438.length : Int) > 0)) == (decide ((l0.length : Int) > 0)))) = some r := H
                  have A130 := Aside0.mk A1300
                  clear A1300
                  obtain rfl := Option.some.inj H
                  go_wp2_with (first | (go_at_call 17; (with_reducible refine (dom_Dominates.calls kj10 _ _ t406 a1 a1 t436 _ ?side1 ?side2 A126.out).mono ?_); (case side1 => repeat (first | exact (Kd.R_reads' HO_10.out).2.2 | (with_reducible refine Kd.C_alloc ?_ _) | (with_reducible refine Kd.C_drewN ?_ _) | (with_reducible refine Kd.C_drew ?_))); (case side2 => exact (Kd.R_reads' HO_10.out).2.1); rintro e w131 ⟨rfl, hb⟩; have n0_ := Aside0.mk (Kd.R_below (by (with_reducible repeat (first | apply Kd.R_alloc | apply Kd.R_drewN | apply Kd.R_drew)); exact HO_10.out) hb); have n1_ := Aside0.mk (below_step (by repeat (first | (with_reducible first | exact HB.out | apply below_alloc | apply pw_below_drewN | apply below_drew1) | exact HB.out)) hb); clear HO_10; clear HB; have HO_10 := n0_; have HB := n1_; clear n0_ n1_; (try clear hb); (try clear hb2); (try clear hk); (try clear hi)) | (go_at_call 17; (with_reducible refine (dom_Dominates.calls kj10 _ _ t406 0 a1 t437 _ ?side1 ?side2 A128.out).mono ?_); (case side1 => repeat (first | exact (Kd.R_reads' HO_10.out).2.2 | (with_reducible refine Kd.C_alloc ?_ _) | (with_reducible refine Kd.C_drewN ?_ _) | (with_reducible refine Kd.C_drew ?_))); (case side2 => exact (Kd.R_reads' HO_10.out).2.1); rintro e w132 ⟨rfl, hb⟩; have n0_ := Aside0.mk (Kd.R_below (by (with_reducible repeat (first | apply Kd.R_alloc | apply Kd.R_drewN | apply Kd.R_drew)); exact HO_10.out) hb); have n1_ := Aside0.mk (below_step (by repeat (first | (with_reducible first | exact HB.out | apply below_alloc | apply pw_below_drewN | apply below_drew1) | exact HB.out)) hb); clear HO_10; clear HB; have HO_10 := n0_; have HB := n1_; clear n0_ n1_; (try clear hb); (try clear hb2); (try clear hk); (try clear hi)) | (go_at_call 29; (with_reducible refine (dom_Below.calls kj10 _ _ t406 0 t438 _ ?side1 ?side2 A130.out).mono ?_); (case side1 => repeat (first | exact (Kd.R_reads' HO_10.out).2.2 | (with_reducible refine Kd.C_alloc ?_ _) | (with_reducible refine Kd.C_drewN ?_ _) | (with_reducible refine Kd.C_drew ?_))); (case side2 => exact (Kd.R_reads' HO_10.out).2.1); rintro e w133 ⟨v439, rfl, ho0, hb⟩; have n0_ := Aside0.mk (Kd.R_elder' (by (with_reducible repeat (first | apply Kd.R_alloc | apply Kd.R_drewN | apply Kd.R_drew)); exact HO_10.out) (Kd.R_base ho0) hb); have n1_ := Aside0.mk (Kd.R_lower (Kd.R_new' ho0 (Kd.R_lt (by (with_reducible repeat (first | apply Kd.R_alloc | apply Kd.R_drewN | apply Kd.R_drew)); exact HO_10.out))) (below_size (by repeat (first | (with_reducible first | exact HB.out | apply below_alloc | apply pw_below_drewN | apply below_drew1) | exact HB.out)))); have n2_ := Aside0.mk (below_step (by repeat (first | (with_reducible first | exact HB.out | apply below_alloc | apply pw_below_drewN | apply below_drew1) | exact HB.out)) hb); clear HO_10; clear HB; have HO_10 := n0_; have HO440 := n1_; have HB := n2_; clear n0_ n1_ n2_; (try clear hb); (try clear hb2); (try clear hk); (try clear hi); (try clear ho0); obtain ⟨Ao134, co134, eo134⟩ := Kd.R_slice HO440.out; subst eo134))
                  go_ret
                  exact ⟨by first | rfl | (simp [errW_none, errW_some] <;> rfl) | (simp [*, errW_none, errW_some] <;> rfl) | (exfalso; (try simp_all); (try omega); done), by repeat (first | (with_reducible first | exact HB.out | apply below_alloc | apply pw_below_drewN | apply below_drew1) | exact HB.out)⟩
                · rw [if_neg c129] at H
                  have c129b0 : (t437 == false) = false := by simpa using c129
                  (try (have c129b1 : decide (t437 = false) = false := by simpa using c129))
                  (try (have c129b2 : (t437 == false) = false := by simpa using c129))
                  (try (have c129b3 : ¬ (t437 = false) := by simpa using c129))
                  clear c129
                  obtain rfl := Option.some.inj H
                  go_wp2_with (first | (go_at_call 17; (with_reducible refine (dom_Dominates.calls kj10 _ _ t406 a1 a1 t436 _ ?side1 ?side2 A126.out).mono ?_); (case side1 => repeat (first | exact (Kd.R_reads' HO_10.out).2.2 | (with_reducible refine Kd.C_alloc ?_ _) | (with_reducible refine Kd.C_drewN ?_ _) | (with_reducible refine Kd.C_drew ?_))); (case side2 => exact (Kd.R_reads' HO_10.out).2.1); rintro e w135 ⟨rfl, hb⟩; have n0_ := Aside0.mk (Kd.R_below (by (with_reducible repeat (first | apply Kd.R_alloc | apply Kd.R_drewN | apply Kd.R_drew)); exact HO_10.out) hb); have n1_ := Aside0.mk (below_step (by repeat (first | (with_reducible first | exact HB.out | apply below_alloc | apply pw_below_drewN | apply below_drew1) | exact HB.out)) hb); clear HO_10; clear HB; have HO_10 := n0_; have HB := n1_; clear n0_ n1_; (try clear hb); (try clear hb2); (try clear hk); (try clear hi)) | (go_at_call 17; (with_reducible refine (dom_Dominates.calls kj10 _ _ t406 0 a1 t437 _ ?side1 ?side2 A128.out).mono ?_); (case side1 => repeat (first | exact (Kd.R_reads' HO_10.out).2.2 | (with_reducible refine Kd.C_alloc ?_ _) | (with_reducible refine Kd.C_drewN ?_ _) | (with_reducible refine Kd.C_drew ?_))); (case side2 => exact (Kd.R_reads' HO_10.out).2.1); rintro e w136 ⟨rfl, hb⟩; have n0_ := Aside0.mk (Kd.R_below (by (with_reducible repeat (first | apply Kd.R_alloc | apply Kd.R_drewN | apply Kd.R_drew)); exact HO_10.out) hb); have n1_ := Aside0.mk (below_step (by repeat (first | (with_reducible first | exact HB.out | apply below_alloc | apply pw_below_drewN | apply below_drew1) | exact HB.out)) hb); clear HO_10; clear HB; have HO_10 := n0_; have HB := n1_; clear n0_ n1_; (try clear hb); (try clear hb2); (try clear hk); (try clear hi)))
                  go_ret
                  exact ⟨by first | rfl | (simp [errW_none, errW_some] <;> rfl) | (simp [*, errW_none, errW_some] <;> rfl) | (exfalso; (try simp_all); (try omega); done), by repeat (first | (with_reducible first | exact HB.out | apply below_alloc | apply pw_below_drewN | apply below_drew1) | exact HB.out)⟩
              · rw [if_neg c127] at H
                have c127b0 : (t436 == false) = false := by simpa using c127
                (try (have c127b1 : decide (t436 = false) = false := by simpa using c127))
                (try (have c127b2 : (t436 == false) = false := by simpa using c127))
                (try (have c127b3 : ¬ (t436 = false) := by simpa using c127))
                clear c127
                obtain rfl := Option.some.inj H
                go_wp2_with (first | (go_at_call 17; (with_reducible refine (dom_Dominates.calls kj10 _ _ t406 a1 a1 t436 _ ?side1 ?side2 A126.out).mono ?_); (case side1 => repeat (first | exact (Kd.R_reads' HO_10.out).2.2 | (with_reducible refine Kd.C_alloc ?_ _) | (with_reducible refine Kd.C_drewN ?_ _) | (with_reducible refine Kd.C_drew ?_))); (case side2 => exact (Kd.R_reads' HO_10.out).2.1); rintro e w137 ⟨rfl, hb⟩; have n0_ := Aside0.mk (Kd.R_below (by (with_reducible repeat (first | apply Kd.R_alloc | apply Kd.R_drewN | apply Kd.R_drew)); exact HO_10.out) hb); have n1_ := Aside0.mk (below_step (by repeat (first | (with_reducible first | exact HB.out | apply below_alloc | apply pw_below_drewN | apply below_drew1) | exact HB.out)) hb); clear HO_10; clear HB; have HO_10 := n0_; have HB := n1_; clear n0_ n1_; (try clear hb); (try clear hb2); (try clear hk); (try clear hi)))
                go_ret
                exact ⟨by first | rfl | (simp [errW_none, errW_some] <;> rfl) | (simp [*, errW_none, errW_some] <;> rfl) | (exfalso; (try simp_all); (try omega); done), by repeat (first | (with_reducible first | exact HB.out | apply below_alloc | apply pw_below_drewN | apply below_drew1) | exact HB.out)⟩
            · replace c125 := Bool.eq_false_iff.mpr c125
              subst c125
              have H1 : (some false) = some r := by rw [if_neg (show ¬ (false = true) by decide)] at H; exact H
              clear H
              have H := H1
              clear H1
              obtain rfl := Option.some.inj H
              go_wp2
              go_ret
              exact ⟨by first | rfl | (simp [errW_none, errW_some] <;> rfl) | (simp [*, errW_none, errW_some] <;> rfl) | (exfalso; (try simp_all); (try omega); done), by repeat (first | (with_reducible first | exact HB.out | apply below_alloc | apply pw_below_drewN | apply below_drew1) | exact HB.out)⟩
  · replace c7 := Bool.eq_false_iff.mpr c7
    subst c7
    have H1 : (some t404) = some r := by rw [if_neg (show ¬ (false = true) by decide)] at H; exact H
    clear H
    have H := H1
    clear H1
    obtain rfl := Option.some.inj H
    go_enter Try.func8, Try.ntmps8
    go_wp2_with (first | ((with_reducible refine gate_callee (f := 13) rfl ?_); refine goesL_ (some 14) rfl rfl Try.func13 (by kernel_rfl) rfl #[] rfl (by (try simp only [List.map_toArray, List.map_cons, List.map_nil]); first | done | rfl | (simp only [List.length_drop, List.length_take]; rfl)) ?_; (with_reducible refine (bywashlaw14_awake.calls k  t404 _ A5.out).mono ?_); rintro e w138 ⟨rfl, hb⟩; refine ⟨_, rfl, ?_⟩; have n0_ := Aside0.mk (below_step (by repeat (first | (with_reducible first | exact HB.out | apply below_alloc | apply pw_below_drewN | apply below_drew1) | exact HB.out)) hb); clear HB; have HB := n0_; clear n0_; (try clear hb); (try clear hb2); (try clear hk); (try clear hi)) | ((with_reducible refine gate_callee (f := 14) rfl ?_); refine goesL_ (some 16) rfl rfl Try.func14 (by kernel_rfl) rfl #[.slice A0 l0.length c0] rfl (by (try simp only [List.map_toArray, List.map_cons, List.map_nil]); first | done | rfl | (simp only [List.length_drop, List.length_take]; rfl)) ?_; (with_reducible refine (bywashref10_Few.calls k _ _ l0 false _ ?side1 ?side2 A6.out).mono ?_); (case side1 => repeat (first | exact (Kd.C_below HR0.out HB.out) | (with_reducible refine Kd.C_alloc ?_ _) | (with_reducible refine Kd.C_drewN ?_ _) | (with_reducible refine Kd.C_drew ?_))); (case side2 => exact HC0.out); rintro e w' ⟨rfl, ⟨nd, rfl⟩⟩; refine ⟨_, rfl, ?_⟩))
    go_ret
    exact ⟨by first | rfl | (simp [errW_none, errW_some] <;> rfl) | (simp [*, errW_none, errW_some] <;> rfl) | (exfalso; (try simp_all); (try omega); done), by repeat (first | (with_reducible first | exact HB.out | apply below_alloc | apply pw_below_drewN | apply below_drew1) | exact HB.out)⟩

end Go.Proofs.Ytemcmcnhpdkdfaa.P
