/- What the claim uses of: PlawDomupFound -/
import Derived.Test.YtemcmcnhpdkdfaaQUDomupFound0
namespace Go.Proofs.Ytemcmcnhpdkdfaa.P
open Go.RowKit Go.Proofs.YtemcmcnhpdkdfaaW.PrintWords Go.Proofs.YtemcmcnhpdkdfaaW.PrintLast Go.Proofs.YtemcmcnhpdkdfaaW.PrintMore
attribute [local go_sem] max2_int min2_int max_two min_two max_three min_three max_four min_four
set_option linter.unusedVariables false
set_option linter.unusedSimpArgs false
theorem za_ {α : Type} (l : List α) (i : Nat) (a : α) : l.toArray.setIfInBounds i a = (l.set i a).toArray := List.setIfInBounds_toArray ..
theorem zb_ {α : Type} (l : List α) (a b : α) : (a :: l).set 0 b = b :: l := rfl
theorem zc_ {α : Type} (l : List α) (a b : α) (n : Nat) : (a :: l).set (n + 1) b = a :: l.set n b := rfl
def mm (l : List (Nat × Bool)) : Array Bool := (l.flatMap fun p => List.replicate p.1 p.2).toArray
def bywashlaw15_DomupFound.T14 : Bool × List (List Nat × List Nat) := (true, [([], []), ([], []), ([0, 1], [0, 1]), ([2], [2]), ([], []), ([4], [4]), ([], []), ([5, 6], [5, 6]), ([7], [7]), ([8], [8]), ([3, 9], [3, 9]), ([10], [10]), ([11], [11]), ([11], [11]), ([12, 13, 11], [11, 12, 13]), ([14, 11], [11, 14]), ([11], [11]), ([16, 11], [11, 16]), ([11], [11]), ([17, 18, 11], [11, 17, 18]), ([19, 11], [11, 19]), ([20, 11], [11, 20]), ([15, 21, 11], [11, 15, 21]), ([11, 22], [11, 22])])
def bywashlaw15_DomupFound.B14 : List Nat := [0, 0, 3, 7, 0, 16, 0, 112, 240, 496, 1023, 2047, 4095, 4095, 16383, 32767, 4095, 69631, 4095, 462847, 987135, 2035711, 4194303, 8388607]
theorem bywashlaw15_DomupFound.tab14 : rtab .any (opsOf Try.f11 14) = bywashlaw15_DomupFound.T14 := by kernel_rfl
theorem bywashlaw15_DomupFound.bits14 : waitsOk bywashlaw15_DomupFound.T14.2 bywashlaw15_DomupFound.B14 = true := by kernel_rfl
def bywashlaw15_DomupFound.T19 : Bool × List (List Nat × List Nat) := (true, [([], []), ([0], [0]), ([1], [1]), ([2, 1], [1, 2]), ([3, 1], [1, 3]), ([4, 1, 1], [1, 4]), ([5], [5]), ([6, 5], [5, 6]), ([5], [5]), ([8, 5], [5, 8]), ([7, 9, 5], [5, 7, 9]), ([10, 5, 5], [5, 10]), ([11], [11]), ([12, 11], [11, 12]), ([13, 11], [11, 13]), ([11, 14, 5], [5, 11, 14]), ([5, 15, 1], [1, 5, 15]), ([1, 16], [1, 16]), ([17, 11], [17]), ([18], [18]), ([19, 18], [18, 19]), ([20, 18], [18, 20]), ([21, 18, 18], [18, 21]), ([22], [22]), ([23, 22], [22, 23]), ([22], [22]), ([25, 22], [22, 25]), ([24, 26, 22], [22, 24, 26]), ([22, 27, 18], [18, 22, 27]), ([18, 28], [18, 28]), ([29, 22], [29]), ([30], [30]), ([31, 30], [30, 31]), ([32, 30, 30], [30, 32]), ([30], [30]), ([34, 30], [30, 34]), ([33, 35, 33, 30], [30, 33, 35]), ([30, 36], [30, 36]), ([37, 36, 0, 1, 2, 3, 4, 5, 6, 7, 8, 9, 10, 11, 12, 13, 14, 15, 16, 17, 18, 19, 20, 21, 22, 23, 24, 25, 26, 27, 28, 29, 30, 31, 32, 33, 34, 35, 36, 37], [37])])
def bywashlaw15_DomupFound.B19 : List Nat := [0, 1, 3, 7, 15, 31, 63, 127, 63, 319, 1023, 2047, 4095, 8191, 16383, 32767, 65535, 131071, 262143, 524287, 1048575, 2097151, 4194303, 8388607, 16777215, 8388607, 41943039, 134217727, 268435455, 536870911, 1073741823, 2147483647, 4294967295, 8589934591, 2147483647, 19327352831, 68719476735, 137438953471, 274877906943]
theorem bywashlaw15_DomupFound.tab19 : rtab .any (opsOf Try.f11 19) = bywashlaw15_DomupFound.T19 := by kernel_rfl
theorem bywashlaw15_DomupFound.bits19 : waitsOk bywashlaw15_DomupFound.T19.2 bywashlaw15_DomupFound.B19 = true := by kernel_rfl
set_option maxHeartbeats 8000000 in
set_option maxRecDepth 100000 in
theorem DomupFound_t (k : Nat) (A0 : Option Addr) (c0 : Nat) (l0 : List (List Int)) (a1 : Int) (a2 : Int) (a3 : Int) (r : Bool) (w : World) (hr0 : Kd.C (Kd.slice 3 (Kd.int .i64)) w A0 l0.length l0) (hc0 : l0.length ≤ c0) (hrt : r = true) (h : bywashlaw15_DomupFound.f k l0 a1 a2 a3 = some r) :
  Calls Try.prog 11 #[.slice A0 l0.length c0, .int .i64 a1, .int .i64 a2, .int .i64 a3] w fun e w' => e = .returned (.bool r) ∧ Below w.heap.size w w' := by
 have hu40 := Try.underlying40
 have HRT := Aside0.mk hrt
 clear hrt
 have HR0 := Aside0.mk hr0
 have HC0 := Aside0.mk hc0
 clear hr0 hc0
 have HB := Aside0.mk (Below.refl w.heap.size w)
 have H : ((bywashlaw15_awake.f k).bind fun t486 => ((bywashref10_Few.f k l0).bind fun t487 => (if t487 = true then ((domup_New.f k l0).bind fun bt488 => ((domup_Add.f k bt488.1 bt488.2.1 bt488.2.2 a1 a2).bind fun bt496 => ((domup_Del.f k bt488.1 bt488.2.1 bt488.2.2 a1 a2).bind fun bt507 => ((graph_Reach.f bt496.1 0).bind fun t518 => ((graph_Reach.f bt507.1 0).bind fun t521 => (if (t518.length : Int) = (bt496.2.1.length : Int) then (if (t521.length : Int) = (bt507.2.1.length : Int) then (if (bt496.2.1.length : Int) = (l0.length : Int) then (bywashlaw15_DomupFound.j0 k l0 a3 t486 t518 t521 ((bt507.2.1.length : Int) != (l0.length : Int)) bt488.1 bt488.2.1 bt488.2.2 bt496.1 bt496.2.1 bt496.2.2.1 bt507.1 bt507.2.1 bt507.2.2.1) else (bywashlaw15_DomupFound.j0 k l0 a3 t486 t518 t521 true bt488.1 bt488.2.1 bt488.2.2 bt496.1 bt496.2.1 bt496.2.2.1 bt507.1 bt507.2.1 bt507.2.2.1)) else (bywashlaw15_DomupFound.j0 k l0 a3 t486 t518 t521 true bt488.1 bt488.2.1 bt488.2.2 bt496.1 bt496.2.1 bt496.2.2.1 bt507.1 bt507.2.1 bt507.2.2.1)) else (bywashlaw15_DomupFound.j0 k l0 a3 t486 t518 t521 true bt488.1 bt488.2.1 bt488.2.2 bt496.1 bt496.2.1 bt496.2.2.1 bt507.1 bt507.2.1 bt507.2.2.1))))))) else (some t486)))) = some r := h
 clear h
 replace H := Option.bind_eq_some_iff.mp H
 obtain ⟨t486, A50, H⟩ := H
 replace H : ((bywashref10_Few.f k l0).bind fun t487 => (if t487 = true then ((domup_New.f k l0).bind fun bt488 => ((domup_Add.f k bt488.1 bt488.2.1 bt488.2.2 a1 a2).bind fun bt496 => ((domup_Del.f k bt488.1 bt488.2.1 bt488.2.2 a1 a2).bind fun bt507 => ((graph_Reach.f bt496.1 0).bind fun t518 => ((graph_Reach.f bt507.1 0).bind fun t521 => (if (t518.length : Int) = (bt496.2.1.length : Int) then (if (t521.length : Int) = (bt507.2.1.length : Int) then (if (bt496.2.1.length : Int) = (l0.length : Int) then (bywashlaw15_DomupFound.j0 k l0 a3 t486 t518 t521 ((bt507.2.1.length : Int) != (l0.length : Int)) bt488.1 bt488.2.1 bt488.2.2 bt496.1 bt496.2.1 bt496.2.2.1 bt507.1 bt507.2.1 bt507.2.2.1) else (bywashlaw15_DomupFound.j0 k l0 a3 t486 t518 t521 true bt488.1 bt488.2.1 bt488.2.2 bt496.1 bt496.2.1 bt496.2.2.1 bt507.1 bt507.2.1 bt507.2.2.1)) else (bywashlaw15_DomupFound.j0 k l0 a3 t486 t518 t521 true bt488.1 bt488.2.1 bt488.2.2 bt496.1 bt496.2.1 bt496.2.2.1 bt507.1 bt507.2.1 bt507.2.2.1)) else (bywashlaw15_DomupFound.j0 k l0 a3 t486 t518 t521 true bt488.1 bt488.2.1 bt488.2.2 bt496.1 bt496.2.1 bt496.2.2.1 bt507.1 bt507.2.1 bt507.2.2.1))))))) else (some t486))) = some r := H
 have A5 := Aside0.mk A50
 clear A50
 replace H := Option.bind_eq_some_iff.mp H
 obtain ⟨t487, A60, H⟩ := H
 replace H : (if t487 = true then ((domup_New.f k l0).bind fun bt488 => ((domup_Add.f k bt488.1 bt488.2.1 bt488.2.2 a1 a2).bind fun bt496 => ((domup_Del.f k bt488.1 bt488.2.1 bt488.2.2 a1 a2).bind fun bt507 => ((graph_Reach.f bt496.1 0).bind fun t518 => ((graph_Reach.f bt507.1 0).bind fun t521 => (if (t518.length : Int) = (bt496.2.1.length : Int) then (if (t521.length : Int) = (bt507.2.1.length : Int) then (if (bt496.2.1.length : Int) = (l0.length : Int) then (bywashlaw15_DomupFound.j0 k l0 a3 t486 t518 t521 ((bt507.2.1.length : Int) != (l0.length : Int)) bt488.1 bt488.2.1 bt488.2.2 bt496.1 bt496.2.1 bt496.2.2.1 bt507.1 bt507.2.1 bt507.2.2.1) else (bywashlaw15_DomupFound.j0 k l0 a3 t486 t518 t521 true bt488.1 bt488.2.1 bt488.2.2 bt496.1 bt496.2.1 bt496.2.2.1 bt507.1 bt507.2.1 bt507.2.2.1)) else (bywashlaw15_DomupFound.j0 k l0 a3 t486 t518 t521 true bt488.1 bt488.2.1 bt488.2.2 bt496.1 bt496.2.1 bt496.2.2.1 bt507.1 bt507.2.1 bt507.2.2.1)) else (bywashlaw15_DomupFound.j0 k l0 a3 t486 t518 t521 true bt488.1 bt488.2.1 bt488.2.2 bt496.1 bt496.2.1 bt496.2.2.1 bt507.1 bt507.2.1 bt507.2.2.1))))))) else (some t486)) = some r := H
 have A6 := Aside0.mk A60
 clear A60
 by_cases c7 : t487 = true
 ·
  subst c7
  have H1 : ((domup_New.f k l0).bind fun bt488 => ((domup_Add.f k bt488.1 bt488.2.1 bt488.2.2 a1 a2).bind fun bt496 => ((domup_Del.f k bt488.1 bt488.2.1 bt488.2.2 a1 a2).bind fun bt507 => ((graph_Reach.f bt496.1 0).bind fun t518 => ((graph_Reach.f bt507.1 0).bind fun t521 => (if (t518.length : Int) = (bt496.2.1.length : Int) then (if (t521.length : Int) = (bt507.2.1.length : Int) then (if (bt496.2.1.length : Int) = (l0.length : Int) then (bywashlaw15_DomupFound.j0 k l0 a3 t486 t518 t521 ((bt507.2.1.length : Int) != (l0.length : Int)) bt488.1 bt488.2.1 bt488.2.2 bt496.1 bt496.2.1 bt496.2.2.1 bt507.1 bt507.2.1 bt507.2.2.1) else (bywashlaw15_DomupFound.j0 k l0 a3 t486 t518 t521 true bt488.1 bt488.2.1 bt488.2.2 bt496.1 bt496.2.1 bt496.2.2.1 bt507.1 bt507.2.1 bt507.2.2.1)) else (bywashlaw15_DomupFound.j0 k l0 a3 t486 t518 t521 true bt488.1 bt488.2.1 bt488.2.2 bt496.1 bt496.2.1 bt496.2.2.1 bt507.1 bt507.2.1 bt507.2.2.1)) else (bywashlaw15_DomupFound.j0 k l0 a3 t486 t518 t521 true bt488.1 bt488.2.1 bt488.2.2 bt496.1 bt496.2.1 bt496.2.2.1 bt507.1 bt507.2.1 bt507.2.2.1))))))) = some r := by rw [if_pos rfl] at H; exact H
  clear H
  have H := H1
  clear H1
  replace H := Option.bind_eq_some_iff.mp H
  obtain ⟨⟨t488, t491, t494⟩, A80, H⟩ := H
  replace H : ((domup_Add.f k t488 t491 t494 a1 a2).bind fun bt496 => ((domup_Del.f k t488 t491 t494 a1 a2).bind fun bt507 => ((graph_Reach.f bt496.1 0).bind fun t518 => ((graph_Reach.f bt507.1 0).bind fun t521 => (if (t518.length : Int) = (bt496.2.1.length : Int) then (if (t521.length : Int) = (bt507.2.1.length : Int) then (if (bt496.2.1.length : Int) = (l0.length : Int) then (bywashlaw15_DomupFound.j0 k l0 a3 t486 t518 t521 ((bt507.2.1.length : Int) != (l0.length : Int)) t488 t491 t494 bt496.1 bt496.2.1 bt496.2.2.1 bt507.1 bt507.2.1 bt507.2.2.1) else (bywashlaw15_DomupFound.j0 k l0 a3 t486 t518 t521 true t488 t491 t494 bt496.1 bt496.2.1 bt496.2.2.1 bt507.1 bt507.2.1 bt507.2.2.1)) else (bywashlaw15_DomupFound.j0 k l0 a3 t486 t518 t521 true t488 t491 t494 bt496.1 bt496.2.1 bt496.2.2.1 bt507.1 bt507.2.1 bt507.2.2.1)) else (bywashlaw15_DomupFound.j0 k l0 a3 t486 t518 t521 true t488 t491 t494 bt496.1 bt496.2.1 bt496.2.2.1 bt507.1 bt507.2.1 bt507.2.2.1)))))) = some r := H
  have A8 := Aside0.mk A80
  clear A80
  replace H := Option.bind_eq_some_iff.mp H
  obtain ⟨⟨t496, t499, t502, t503⟩, A90, H⟩ := H
  replace H : ((domup_Del.f k t488 t491 t494 a1 a2).bind fun bt507 => ((graph_Reach.f t496 0).bind fun t518 => ((graph_Reach.f bt507.1 0).bind fun t521 => (if (t518.length : Int) = (t499.length : Int) then (if (t521.length : Int) = (bt507.2.1.length : Int) then (if (t499.length : Int) = (l0.length : Int) then (bywashlaw15_DomupFound.j0 k l0 a3 t486 t518 t521 ((bt507.2.1.length : Int) != (l0.length : Int)) t488 t491 t494 t496 t499 t502 bt507.1 bt507.2.1 bt507.2.2.1) else (bywashlaw15_DomupFound.j0 k l0 a3 t486 t518 t521 true t488 t491 t494 t496 t499 t502 bt507.1 bt507.2.1 bt507.2.2.1)) else (bywashlaw15_DomupFound.j0 k l0 a3 t486 t518 t521 true t488 t491 t494 t496 t499 t502 bt507.1 bt507.2.1 bt507.2.2.1)) else (bywashlaw15_DomupFound.j0 k l0 a3 t486 t518 t521 true t488 t491 t494 t496 t499 t502 bt507.1 bt507.2.1 bt507.2.2.1))))) = some r := H
  have A9 := Aside0.mk A90
  clear A90
  replace H := Option.bind_eq_some_iff.mp H
  obtain ⟨⟨t507, t510, t513, t514⟩, A100, H⟩ := H
  replace H : ((graph_Reach.f t496 0).bind fun t518 => ((graph_Reach.f t507 0).bind fun t521 => (if (t518.length : Int) = (t499.length : Int) then (if (t521.length : Int) = (t510.length : Int) then (if (t499.length : Int) = (l0.length : Int) then (bywashlaw15_DomupFound.j0 k l0 a3 t486 t518 t521 ((t510.length : Int) != (l0.length : Int)) t488 t491 t494 t496 t499 t502 t507 t510 t513) else (bywashlaw15_DomupFound.j0 k l0 a3 t486 t518 t521 true t488 t491 t494 t496 t499 t502 t507 t510 t513)) else (bywashlaw15_DomupFound.j0 k l0 a3 t486 t518 t521 true t488 t491 t494 t496 t499 t502 t507 t510 t513)) else (bywashlaw15_DomupFound.j0 k l0 a3 t486 t518 t521 true t488 t491 t494 t496 t499 t502 t507 t510 t513)))) = some r := H
  have A10 := Aside0.mk A100
  clear A100
  replace H := Option.bind_eq_some_iff.mp H
  obtain ⟨t518, A110, H⟩ := H
  replace H : ((graph_Reach.f t507 0).bind fun t521 => (if (t518.length : Int) = (t499.length : Int) then (if (t521.length : Int) = (t510.length : Int) then (if (t499.length : Int) = (l0.length : Int) then (bywashlaw15_DomupFound.j0 k l0 a3 t486 t518 t521 ((t510.length : Int) != (l0.length : Int)) t488 t491 t494 t496 t499 t502 t507 t510 t513) else (bywashlaw15_DomupFound.j0 k l0 a3 t486 t518 t521 true t488 t491 t494 t496 t499 t502 t507 t510 t513)) else (bywashlaw15_DomupFound.j0 k l0 a3 t486 t518 t521 true t488 t491 t494 t496 t499 t502 t507 t510 t513)) else (bywashlaw15_DomupFound.j0 k l0 a3 t486 t518 t521 true t488 t491 t494 t496 t499 t502 t507 t510 t513))) = some r := H
  have A11 := Aside0.mk A110
  clear A110
  replace H := Option.bind_eq_some_iff.mp H
  obtain ⟨t521, A120, H⟩ := H
  replace H : (if (t518.length : Int) = (t499.length : Int) then (if (t521.length : Int) = (t510.length : Int) then (if (t499.length : Int) = (l0.length : Int) then (bywashlaw15_DomupFound.j0 k l0 a3 t486 t518 t521 ((t510.length : Int) != (l0.length : Int)) t488 t491 t494 t496 t499 t502 t507 t510 t513) else (bywashlaw15_DomupFound.j0 k l0 a3 t486 t518 t521 true t488 t491 t494 t496 t499 t502 t507 t510 t513)) else (bywashlaw15_DomupFound.j0 k l0 a3 t486 t518 t521 true t488 t491 t494 t496 t499 t502 t507 t510 t513)) else (bywashlaw15_DomupFound.j0 k l0 a3 t486 t518 t521 true t488 t491 t494 t496 t499 t502 t507 t510 t513)) = some r := H
  have A12 := Aside0.mk A120
  clear A120
  have HC13 := Aside0.mk H
  clear H
  go_enter Try.func11, Try.ntmps11
  go_upto_region 9 with (first | ((with_reducible refine gate_callee (f := 31) rfl ?_); refine goesL_ (some 21) rfl rfl Try.func31 (by kernel_rfl) rfl #[] rfl (by (try simp only [List.map_toArray, List.map_cons, List.map_nil]); first | done | rfl | (simp only [List.length_drop, List.length_take]; rfl)) ?_; (with_reducible refine (bywashlaw15_awake.calls k  t486 _ A5.out).mono ?_); rintro e w14 ⟨rfl, hb⟩; refine ⟨_, rfl, ?_⟩; have n0_ := Aside0.mk (below_step (by repeat (first | (with_reducible first | exact HB.out | apply below_alloc | apply pw_below_drewN | apply below_drew1) | exact HB.out)) hb); clear HB; have HB := n0_; clear n0_; (try clear hb); (try clear hb2); (try clear hk); (try clear hi)) | ((with_reducible refine gate_callee (f := 14) rfl ?_); refine goesL_ (some 23) rfl rfl Try.func14 (by kernel_rfl) rfl #[.slice A0 l0.length c0] rfl (by (try simp only [List.map_toArray, List.map_cons, List.map_nil]); first | done | rfl | (simp only [List.length_drop, List.length_take]; rfl)) ?_; (with_reducible refine (bywashref10_Few.calls k _ _ l0 true _ ?side1 ?side2 A6.out).mono ?_); (case side1 => repeat (first | exact (Kd.C_below HR0.out HB.out) | (with_reducible refine Kd.C_alloc ?_ _) | (with_reducible refine Kd.C_drewN ?_ _) | (with_reducible refine Kd.C_drew ?_))); (case side2 => exact HC0.out); rintro e w' ⟨rfl, ⟨nd, rfl⟩⟩; refine ⟨_, rfl, ?_⟩; (try (rw [drewN_self w14]; generalize hq_ : World.drewN w14 _ = w14; have n0_ : Aside0 (Below w.heap.size w w14) := ⟨by rw [← hq_]; exact (by repeat (first | (with_reducible first | exact HB.out | apply below_alloc | apply pw_below_drewN | apply below_drew1) | exact HB.out))⟩; clear HB hq_; have HB := n0_; clear n0_))) | ((with_reducible refine gate_callee (f := 32) rfl ?_); refine goesL_ (some 27) rfl rfl Try.func32 (by kernel_rfl) rfl #[.slice A0 l0.length c0] rfl (by (try simp only [List.map_toArray, List.map_cons, List.map_nil]); first | done | rfl | (simp only [List.length_drop, List.length_take]; rfl)) ?_; (with_reducible refine (domup_New.calls k _ _ l0 t488 t491 t494 _ ?side1 ?side2 A8.out).mono ?_); (case side1 => repeat (first | exact (Kd.C_below HR0.out HB.out) | (with_reducible refine Kd.C_alloc ?_ _) | (with_reducible refine Kd.C_drewN ?_ _) | (with_reducible refine Kd.C_drew ?_))); (case side2 => exact HC0.out); rintro e w15 ⟨v489, v492, rfl, ho0, ho1, hb⟩; refine ⟨_, rfl, ?_⟩; have n0_ := Aside0.mk (Kd.S_lower ho0 (below_size (by repeat (first | (with_reducible first | exact HB.out | apply below_alloc | apply pw_below_drewN | apply below_drew1) | exact HB.out)))); have n1_ := Aside0.mk (Kd.R_lower ho1 (below_size (by repeat (first | (with_reducible first | exact HB.out | apply below_alloc | apply pw_below_drewN | apply below_drew1) | exact HB.out)))); have n2_ := Aside0.mk (below_step (by repeat (first | (with_reducible first | exact HB.out | apply below_alloc | apply pw_below_drewN | apply below_drew1) | exact HB.out)) hb); clear HB; have HO490 := n0_; have HO493 := n1_; have HB := n2_; clear n0_ n1_ n2_; (try clear hb); (try clear hb2); (try clear hk); (try clear hi); (try clear ho0); (try clear ho1)) | ((with_reducible refine gate_dst (N := 10) rfl ?_); (try (refine gate_guard (by rfl) ?_; dsimp only)); refine box_event ?hg (N := 10) ?hd (cs := #[.slice none 0 0, .slice none 0 0, .bool false]) (t := 40) ?hr ?_; (case hd => rfl); (case hg => rfl); (case hr => first | (go_simp; done) | (go_simp; rfl)); intro gb495 hg w16 hbox hb; have n0_ := Aside0.mk (Kd.S_below (by (with_reducible repeat (first | apply Kd.S_alloc | apply Kd.S_drewN | apply Kd.S_drew)); exact HO490.out) hb); have n1_ := Aside0.mk (Kd.R_below (by (with_reducible repeat (first | apply Kd.R_alloc | apply Kd.R_drewN | apply Kd.R_drew)); exact HO493.out) hb); have n2_ := Aside0.mk (below_step (by repeat (first | (with_reducible first | exact HB.out | apply below_alloc | apply pw_below_drewN | apply below_drew1) | exact HB.out)) hb); have n3_ := Aside0.mk (hbox); have n4_ := Aside0.mk ((by rw [hg]; exact (below_size (by repeat (first | (with_reducible first | exact HB.out | apply below_alloc | apply pw_below_drewN | apply below_drew1) | exact HB.out))) : w.heap.size ≤ gb495)); have n5_ := Aside0.mk ((by rw [hg]; exact (below_size (by repeat (first | (with_reducible first | exact HB.out | apply below_alloc | apply pw_below_drewN | apply below_drew1) | exact HB.out))) : w.heap.size ≤ gb495)); clear HO490; clear HO493; clear HB; have HO490 := n0_; have HO493 := n1_; have HB := n2_; have BK495 := n3_; have GW495 := n4_; have GE495 := n5_; clear n0_ n1_ n2_ n3_ n4_ n5_; clear hb hbox hg; obtain ⟨Ao17, co17, eo17⟩ := Kd.S_slice HO490.out; subst eo17; have hcz18_0 : w16.cell? ⟨gb495, 0, none⟩ = some (.slice none 0 0) := (blk_cell BK495.out 0).trans rfl; have hcz18_1 : w16.cell? ⟨gb495, 1, none⟩ = some (.slice none 0 0) := (blk_cell BK495.out 1).trans rfl; have hcz18_2 : w16.cell? ⟨gb495, 2, none⟩ = some (.bool false) := (blk_cell BK495.out 2).trans rfl; have hfz18_0 := blk_frozen BK495.out 0; have hfz18_1 := blk_frozen BK495.out 1; have hfz18_2 := blk_frozen BK495.out 2; obtain ⟨Ao19, co19, eo19⟩ := Kd.R_slice HO493.out; subst eo19) | ((with_reducible refine gate_callee (f := 33) rfl ?_); refine goesL_ (some 32) rfl rfl Try.func33 (by kernel_rfl) rfl #[.agg #[.slice Ao17 t488.length co17, .slice Ao19 t491.length co19, .bool t494], .int .i64 a1, .int .i64 a2] rfl (by (try simp only [List.map_toArray, List.map_cons, List.map_nil]); first | done | rfl | (simp only [List.length_drop, List.length_take]; rfl)) ?_; (with_reducible refine (domup_Add.calls k _ _ t488 _ _ t491 t494 a1 a2 t496 t499 t502 t503 _ ?side1 ?side2 ?side3 ?side4 A9.out).mono ?_); (case side1 => refine (Kd.S_reads' (e := 25) (base := w.heap.size) (ok := fun k_ => some k_ ≠ (.slice Ao19 t491.length co19 : Value).ownBlock) (n := t488.length) (c := co17) ?_).2.2; exact (by (with_reducible repeat (first | apply Kd.S_alloc | apply Kd.S_drewN | apply Kd.S_drew)); exact (Kd.S_mono (Kd.S_far (p := ⟨gb495, 2, none⟩) (Kd.S_far (p := ⟨gb495, 1, none⟩) (Kd.S_far (p := ⟨gb495, 0, none⟩) (Kd.S_types HO490.out BK495.out (by decide)) (fun _ hk => hk.2) (.slice Ao17 t488.length co17)) (fun _ hk => hk.2) (.slice Ao19 t491.length co19)) (fun _ hk => hk.2) (.bool t494)) (fun _ h_ => h_.1)))); (case side2 => exact (Kd.S_reads' HO490.out).2.1); (case side3 => refine (Kd.R_reads' (e := 3) (base := w.heap.size) (ok := fun k_ => True) (n := t491.length) (c := co19) ?_).2.2; exact (by (with_reducible repeat (first | apply Kd.R_alloc | apply Kd.R_drewN | apply Kd.R_drew)); exact (Kd.R_mono (Kd.R_far (p := ⟨gb495, 2, none⟩) (Kd.R_far (p := ⟨gb495, 1, none⟩) (Kd.R_far (p := ⟨gb495, 0, none⟩) (Kd.R_types HO493.out BK495.out (by decide)) (fun _ hk => hk.2) (.slice Ao17 t488.length co17)) (fun _ hk => hk.2) (.slice Ao19 t491.length co19)) (fun _ hk => hk.2) (.bool t494)) (fun _ h_ => h_.1)))); (case side4 => exact (Kd.R_reads' HO493.out).2.1); rintro e w20 ⟨v497, v500, v504, rfl, ho0, ho1, ho2, hb⟩; refine ⟨_, rfl, ?_⟩; have n0_ := Aside0.mk (Kd.S_mono (Kd.S_told (Kd.S_told (Kd.S_told (Kd.S_old (by (with_reducible repeat (first | apply Kd.S_alloc | apply Kd.S_drewN | apply Kd.S_drew)); exact (Kd.S_mono (Kd.S_far (p := ⟨gb495, 2, none⟩) (Kd.S_far (p := ⟨gb495, 1, none⟩) (Kd.S_far (p := ⟨gb495, 0, none⟩) (Kd.S_types HO490.out BK495.out (by decide)) (fun _ hk => hk.2) (.slice Ao17 t488.length co17)) (fun _ hk => hk.2) (.slice Ao19 t491.length co19)) (fun _ hk => hk.2) (.bool t494)) (fun _ h_ => h_.1))) hb) (Kd.S_base ho0)) (Kd.R_base ho1)) (Kd.R_base ho2)) (fun _ h_ => h_.1)); have n1_ := Aside0.mk (Kd.R_mono (Kd.R_told (Kd.R_told (Kd.R_old (by (with_reducible repeat (first | apply Kd.R_alloc | apply Kd.R_drewN | apply Kd.R_drew)); exact (Kd.R_mono (Kd.R_far (p := ⟨gb495, 2, none⟩) (Kd.R_far (p := ⟨gb495, 1, none⟩) (Kd.R_far (p := ⟨gb495, 0, none⟩) (Kd.R_types HO493.out BK495.out (by decide)) (fun _ hk => hk.2) (.slice Ao17 t488.length co17)) (fun _ hk => hk.2) (.slice Ao19 t491.length co19)) (fun _ hk => hk.2) (.bool t494)) (fun _ h_ => h_.1))) hb) (Kd.R_base ho1)) (Kd.R_base ho2)) (fun _ h_ => h_.1)); have n2_ := Aside0.mk (Kd.S_lower (Kd.S_new' (Kd.S_new' ho0 (Kd.S_lt (by (with_reducible repeat (first | apply Kd.S_alloc | apply Kd.S_drewN | apply Kd.S_drew)); exact (Kd.S_mono (Kd.S_far (p := ⟨gb495, 2, none⟩) (Kd.S_far (p := ⟨gb495, 1, none⟩) (Kd.S_far (p := ⟨gb495, 0, none⟩) (Kd.S_types HO490.out BK495.out (by decide)) (fun _ hk => hk.2) (.slice Ao17 t488.length co17)) (fun _ hk => hk.2) (.slice Ao19 t491.length co19)) (fun _ hk => hk.2) (.bool t494)) (fun _ h_ => h_.1))))) (Kd.R_lt (by (with_reducible repeat (first | apply Kd.R_alloc | apply Kd.R_drewN | apply Kd.R_drew)); exact (Kd.R_mono (Kd.R_far (p := ⟨gb495, 2, none⟩) (Kd.R_far (p := ⟨gb495, 1, none⟩) (Kd.R_far (p := ⟨gb495, 0, none⟩) (Kd.R_types HO493.out BK495.out (by decide)) (fun _ hk => hk.2) (.slice Ao17 t488.length co17)) (fun _ hk => hk.2) (.slice Ao19 t491.length co19)) (fun _ hk => hk.2) (.bool t494)) (fun _ h_ => h_.1))))) (below_size (by repeat (first | (with_reducible first | exact HB.out | apply below_alloc | apply pw_below_drewN | apply below_drew1 | refine below_set ?_ GE495.out) | exact HB.out)))); have n3_ := Aside0.mk (Kd.R_lower (Kd.R_new' ho1 (Kd.R_lt (by (with_reducible repeat (first | apply Kd.R_alloc | apply Kd.R_drewN | apply Kd.R_drew)); exact (Kd.R_mono (Kd.R_far (p := ⟨gb495, 2, none⟩) (Kd.R_far (p := ⟨gb495, 1, none⟩) (Kd.R_far (p := ⟨gb495, 0, none⟩) (Kd.R_types HO493.out BK495.out (by decide)) (fun _ hk => hk.2) (.slice Ao17 t488.length co17)) (fun _ hk => hk.2) (.slice Ao19 t491.length co19)) (fun _ hk => hk.2) (.bool t494)) (fun _ h_ => h_.1))))) (below_size (by repeat (first | (with_reducible first | exact HB.out | apply below_alloc | apply pw_below_drewN | apply below_drew1 | refine below_set ?_ GE495.out) | exact HB.out)))); have n4_ := Aside0.mk (Kd.R_lower (Kd.R_new' ho2 (Kd.R_lt (by (with_reducible repeat (first | apply Kd.R_alloc | apply Kd.R_drewN | apply Kd.R_drew)); exact (Kd.R_mono (Kd.R_far (p := ⟨gb495, 2, none⟩) (Kd.R_far (p := ⟨gb495, 1, none⟩) (Kd.R_far (p := ⟨gb495, 0, none⟩) (Kd.R_types HO493.out BK495.out (by decide)) (fun _ hk => hk.2) (.slice Ao17 t488.length co17)) (fun _ hk => hk.2) (.slice Ao19 t491.length co19)) (fun _ hk => hk.2) (.bool t494)) (fun _ h_ => h_.1))))) (below_size (by repeat (first | (with_reducible first | exact HB.out | apply below_alloc | apply pw_below_drewN | apply below_drew1 | refine below_set ?_ GE495.out) | exact HB.out)))); have n5_ := Aside0.mk (blk_below (g := gb495) (o := .cells #[.slice Ao17 t488.length co17, .slice Ao19 t491.length co19, .bool t494] 40 (0, 0)) (by (with_reducible repeat (first | refine blk_drewN ?_ _ | refine blk_drew ?_ | refine blk_alloc ?_ _)); refine blk_put (cs := #[.slice Ao17 t488.length co17, .slice Ao19 t491.length co19, .bool false]) ?_ 2 _ rfl; (with_reducible repeat (first | refine blk_drewN ?_ _ | refine blk_drew ?_ | refine blk_alloc ?_ _)); refine blk_put (cs := #[.slice Ao17 t488.length co17, .slice none 0 0, .bool false]) ?_ 1 _ rfl; (with_reducible repeat (first | refine blk_drewN ?_ _ | refine blk_drew ?_ | refine blk_alloc ?_ _)); refine blk_put (cs := #[.slice none 0 0, .slice none 0 0, .bool false]) ?_ 0 _ rfl; (with_reducible repeat (first | refine blk_drewN ?_ _ | refine blk_drew ?_ | refine blk_alloc ?_ _)); exact BK495.out) hb); have n6_ := Aside0.mk (below_step (by repeat (first | (with_reducible first | exact HB.out | apply below_alloc | apply pw_below_drewN | apply below_drew1 | refine below_set ?_ GE495.out) | exact HB.out)) hb); clear HO490; clear HO493; clear BK495; clear HB; have HO490 := n0_; have HO493 := n1_; have HO498 := n2_; have HO501 := n3_; have HO505 := n4_; have BK495 := n5_; have HB := n6_; clear n0_ n1_ n2_ n3_ n4_ n5_ n6_; (try clear hb); (try clear hb2); (try clear hk); (try clear hi); (try clear ho0); (try clear ho1); (try clear ho2)) | ((with_reducible refine gate_dst (N := 11) rfl ?_); (try (refine gate_guard (by rfl) ?_; dsimp only)); refine box_event ?hg (N := 11) ?hd (cs := #[.slice none 0 0, .slice none 0 0, .bool false]) (t := 40) ?hr ?_; (case hd => rfl); (case hg => rfl); (case hr => first | (go_simp; done) | (go_simp; rfl)); intro gb506 hg w21 hbox hb; have n0_ := Aside0.mk (Kd.S_below (by (with_reducible repeat (first | apply Kd.S_alloc | apply Kd.S_drewN | apply Kd.S_drew)); exact HO490.out) hb); have n1_ := Aside0.mk (Kd.R_below (by (with_reducible repeat (first | apply Kd.R_alloc | apply Kd.R_drewN | apply Kd.R_drew)); exact HO493.out) hb); have n2_ := Aside0.mk (Kd.S_below (by (with_reducible repeat (first | apply Kd.S_alloc | apply Kd.S_drewN | apply Kd.S_drew)); exact HO498.out) hb); have n3_ := Aside0.mk (Kd.R_below (by (with_reducible repeat (first | apply Kd.R_alloc | apply Kd.R_drewN | apply Kd.R_drew)); exact HO501.out) hb); have n4_ := Aside0.mk (Kd.R_below (by (with_reducible repeat (first | apply Kd.R_alloc | apply Kd.R_drewN | apply Kd.R_drew)); exact HO505.out) hb); have n5_ := Aside0.mk (blk_below (g := gb495) (o := .cells #[.slice Ao17 t488.length co17, .slice Ao19 t491.length co19, .bool t494] 40 (0, 0)) (by (with_reducible repeat (first | refine blk_drewN ?_ _ | refine blk_drew ?_ | refine blk_alloc ?_ _)); exact BK495.out) hb); have n6_ := Aside0.mk (below_step (by repeat (first | (with_reducible first | exact HB.out | apply below_alloc | apply pw_below_drewN | apply below_drew1 | refine below_set ?_ GE495.out) | exact HB.out)) hb); have n7_ := Aside0.mk (hbox); have n8_ := Aside0.mk ((by rw [hg]; exact (below_size (by repeat (first | (with_reducible first | exact HB.out | apply below_alloc | apply pw_below_drewN | apply below_drew1 | refine below_set ?_ GE495.out) | exact HB.out))) : w.heap.size ≤ gb506)); have n9_ := Aside0.mk ((by rw [hg]; exact (below_size (by repeat (first | (with_reducible first | exact HB.out | apply below_alloc | apply pw_below_drewN | apply below_drew1 | refine below_set ?_ GE495.out) | exact HB.out))) : w.heap.size ≤ gb506)); have n10_ := Aside0.mk ((by rw [hg]; exact Nat.ne_of_lt (blk_lt (g := gb495) (o := .cells #[.slice Ao17 t488.length co17, .slice Ao19 t491.length co19, .bool t494] 40 (0, 0)) (by (with_reducible repeat (first | refine blk_drewN ?_ _ | refine blk_drew ?_ | refine blk_alloc ?_ _)); exact BK495.out)) : gb495 ≠ gb506)); have n11_ := Aside0.mk ((by rw [hg]; exact Nat.ne_of_gt (blk_lt (g := gb495) (o := .cells #[.slice Ao17 t488.length co17, .slice Ao19 t491.length co19, .bool t494] 40 (0, 0)) (by (with_reducible repeat (first | refine blk_drewN ?_ _ | refine blk_drew ?_ | refine blk_alloc ?_ _)); exact BK495.out)) : gb506 ≠ gb495)); clear HO490; clear HO493; clear HO498; clear HO501; clear HO505; clear BK495; clear HB; have HO490 := n0_; have HO493 := n1_; have HO498 := n2_; have HO501 := n3_; have HO505 := n4_; have BK495 := n5_; have HB := n6_; have BK506 := n7_; have GW506 := n8_; have GE506 := n9_; have NB495_506 := n10_; have NB506_495 := n11_; clear n0_ n1_ n2_ n3_ n4_ n5_ n6_ n7_ n8_ n9_ n10_ n11_; clear hb hbox hg; obtain ⟨Ao22, co22, eo22⟩ := Kd.S_slice HO498.out; subst eo22; have hnb23 := NB506_495.out; have hnc23 := NB495_506.out; have hcz24_0 : w21.cell? ⟨gb506, 0, none⟩ = some (.slice none 0 0) := (blk_cell BK506.out 0).trans rfl; have hcz24_1 : w21.cell? ⟨gb506, 1, none⟩ = some (.slice none 0 0) := (blk_cell BK506.out 1).trans rfl; have hcz24_2 : w21.cell? ⟨gb506, 2, none⟩ = some (.bool false) := (blk_cell BK506.out 2).trans rfl; have hfz24_0 := blk_frozen BK506.out 0; have hfz24_1 := blk_frozen BK506.out 1; have hfz24_2 := blk_frozen BK506.out 2; obtain ⟨Ao25, co25, eo25⟩ := Kd.R_slice HO501.out; subst eo25; have hcz26_0 : w21.cell? ⟨gb495, 0, none⟩ = some (.slice Ao17 t488.length co17) := (blk_cell BK495.out 0).trans rfl; have hcz26_1 : w21.cell? ⟨gb495, 1, none⟩ = some (.slice Ao19 t491.length co19) := (blk_cell BK495.out 1).trans rfl; have hcz26_2 : w21.cell? ⟨gb495, 2, none⟩ = some (.bool t494) := (blk_cell BK495.out 2).trans rfl; have hfz26_0 := blk_frozen BK495.out 0; have hfz26_1 := blk_frozen BK495.out 1; have hfz26_2 := blk_frozen BK495.out 2) | ((with_reducible refine gate_callee (f := 35) rfl ?_); refine goesL_ (some 39) rfl rfl Try.func35 (by kernel_rfl) rfl #[.agg #[.slice Ao17 t488.length co17, .slice Ao19 t491.length co19, .bool t494], .int .i64 a1, .int .i64 a2] rfl (by (try simp only [List.map_toArray, List.map_cons, List.map_nil]); first | done | rfl | (simp only [List.length_drop, List.length_take]; rfl)) ?_; (with_reducible refine (domup_Del.calls k _ _ t488 _ _ t491 t494 a1 a2 t507 t510 t513 t514 _ ?side1 ?side2 ?side3 ?side4 A10.out).mono ?_); (case side1 => refine (Kd.S_reads' (e := 25) (base := w.heap.size) (ok := fun k_ => (((some k_ ≠ (.slice Ao19 t491.length co19 : Value).ownBlock ∧ some k_ ≠ (.slice Ao22 t496.length co22 : Value).ownBlock) ∧ some k_ ≠ (.slice Ao25 t499.length co25 : Value).ownBlock) ∧ some k_ ≠ (v504 : Value).ownBlock)) (n := t488.length) (c := co17) ?_).2.2; exact (by (with_reducible repeat (first | apply Kd.S_alloc | apply Kd.S_drewN | apply Kd.S_drew)); exact (Kd.S_mono (Kd.S_far (p := ⟨gb506, 2, none⟩) (Kd.S_far (p := ⟨gb506, 1, none⟩) (Kd.S_far (p := ⟨gb506, 0, none⟩) (Kd.S_types HO490.out BK506.out (by decide)) (fun _ hk => hk.2) (.slice Ao22 t496.length co22)) (fun _ hk => hk.2) (.slice Ao25 t499.length co25)) (fun _ hk => hk.2) (.bool t502)) (fun _ h_ => h_.1)))); (case side2 => exact (Kd.S_reads' HO490.out).2.1); (case side3 => refine (Kd.R_reads' (e := 3) (base := w.heap.size) (ok := fun k_ => ((True ∧ some k_ ≠ (.slice Ao25 t499.length co25 : Value).ownBlock) ∧ some k_ ≠ (v504 : Value).ownBlock)) (n := t491.length) (c := co19) ?_).2.2; exact (by (with_reducible repeat (first | apply Kd.R_alloc | apply Kd.R_drewN | apply Kd.R_drew)); exact (Kd.R_mono (Kd.R_far (p := ⟨gb506, 2, none⟩) (Kd.R_far (p := ⟨gb506, 1, none⟩) (Kd.R_far (p := ⟨gb506, 0, none⟩) (Kd.R_types HO493.out BK506.out (by decide)) (fun _ hk => hk.2) (.slice Ao22 t496.length co22)) (fun _ hk => hk.2) (.slice Ao25 t499.length co25)) (fun _ hk => hk.2) (.bool t502)) (fun _ h_ => h_.1)))); (case side4 => exact (Kd.R_reads' HO493.out).2.1); rintro e w27 ⟨v508, v511, v515, rfl, ho0, ho1, ho2, hb⟩; refine ⟨_, rfl, ?_⟩; have n0_ := Aside0.mk (Kd.S_mono (Kd.S_told (Kd.S_told (Kd.S_told (Kd.S_old (by (with_reducible repeat (first | apply Kd.S_alloc | apply Kd.S_drewN | apply Kd.S_drew)); exact (Kd.S_mono (Kd.S_far (p := ⟨gb506, 2, none⟩) (Kd.S_far (p := ⟨gb506, 1, none⟩) (Kd.S_far (p := ⟨gb506, 0, none⟩) (Kd.S_types HO490.out BK506.out (by decide)) (fun _ hk => hk.2) (.slice Ao22 t496.length co22)) (fun _ hk => hk.2) (.slice Ao25 t499.length co25)) (fun _ hk => hk.2) (.bool t502)) (fun _ h_ => h_.1))) hb) (Kd.S_base ho0)) (Kd.R_base ho1)) (Kd.R_base ho2)) (fun _ h_ => h_.1)); have n1_ := Aside0.mk (Kd.R_mono (Kd.R_told (Kd.R_told (Kd.R_old (by (with_reducible repeat (first | apply Kd.R_alloc | apply Kd.R_drewN | apply Kd.R_drew)); exact (Kd.R_mono (Kd.R_far (p := ⟨gb506, 2, none⟩) (Kd.R_far (p := ⟨gb506, 1, none⟩) (Kd.R_far (p := ⟨gb506, 0, none⟩) (Kd.R_types HO493.out BK506.out (by decide)) (fun _ hk => hk.2) (.slice Ao22 t496.length co22)) (fun _ hk => hk.2) (.slice Ao25 t499.length co25)) (fun _ hk => hk.2) (.bool t502)) (fun _ h_ => h_.1))) hb) (Kd.R_base ho1)) (Kd.R_base ho2)) (fun _ h_ => h_.1)); have n2_ := Aside0.mk (Kd.S_mono (Kd.S_told (Kd.S_told (Kd.S_told (Kd.S_old (by (with_reducible repeat (first | apply Kd.S_alloc | apply Kd.S_drewN | apply Kd.S_drew)); exact (Kd.S_mono (Kd.S_far (p := ⟨gb506, 2, none⟩) (Kd.S_far (p := ⟨gb506, 1, none⟩) (Kd.S_far (p := ⟨gb506, 0, none⟩) (Kd.S_types HO498.out BK506.out (by decide)) (fun _ hk => hk.2) (.slice Ao22 t496.length co22)) (fun _ hk => hk.2) (.slice Ao25 t499.length co25)) (fun _ hk => hk.2) (.bool t502)) (fun _ h_ => h_.1))) hb) (Kd.S_base ho0)) (Kd.R_base ho1)) (Kd.R_base ho2)) (fun _ h_ => h_.1)); have n3_ := Aside0.mk (Kd.R_mono (Kd.R_told (Kd.R_told (Kd.R_old (by (with_reducible repeat (first | apply Kd.R_alloc | apply Kd.R_drewN | apply Kd.R_drew)); exact (Kd.R_mono (Kd.R_far (p := ⟨gb506, 2, none⟩) (Kd.R_far (p := ⟨gb506, 1, none⟩) (Kd.R_far (p := ⟨gb506, 0, none⟩) (Kd.R_types HO501.out BK506.out (by decide)) (fun _ hk => hk.2) (.slice Ao22 t496.length co22)) (fun _ hk => hk.2) (.slice Ao25 t499.length co25)) (fun _ hk => hk.2) (.bool t502)) (fun _ h_ => h_.1))) hb) (Kd.R_base ho1)) (Kd.R_base ho2)) (fun _ h_ => h_.1)); have n4_ := Aside0.mk (Kd.R_mono (Kd.R_told (Kd.R_told (Kd.R_old (by (with_reducible repeat (first | apply Kd.R_alloc | apply Kd.R_drewN | apply Kd.R_drew)); exact (Kd.R_mono (Kd.R_far (p := ⟨gb506, 2, none⟩) (Kd.R_far (p := ⟨gb506, 1, none⟩) (Kd.R_far (p := ⟨gb506, 0, none⟩) (Kd.R_types HO505.out BK506.out (by decide)) (fun _ hk => hk.2) (.slice Ao22 t496.length co22)) (fun _ hk => hk.2) (.slice Ao25 t499.length co25)) (fun _ hk => hk.2) (.bool t502)) (fun _ h_ => h_.1))) hb) (Kd.R_base ho1)) (Kd.R_base ho2)) (fun _ h_ => h_.1)); have n5_ := Aside0.mk (Kd.S_lower (Kd.S_new' (Kd.S_new' (Kd.S_new' (Kd.S_new' (Kd.S_new' ho0 (Kd.S_lt (by (with_reducible repeat (first | apply Kd.S_alloc | apply Kd.S_drewN | apply Kd.S_drew)); exact (Kd.S_mono (Kd.S_far (p := ⟨gb506, 2, none⟩) (Kd.S_far (p := ⟨gb506, 1, none⟩) (Kd.S_far (p := ⟨gb506, 0, none⟩) (Kd.S_types HO490.out BK506.out (by decide)) (fun _ hk => hk.2) (.slice Ao22 t496.length co22)) (fun _ hk => hk.2) (.slice Ao25 t499.length co25)) (fun _ hk => hk.2) (.bool t502)) (fun _ h_ => h_.1))))) (Kd.R_lt (by (with_reducible repeat (first | apply Kd.R_alloc | apply Kd.R_drewN | apply Kd.R_drew)); exact (Kd.R_mono (Kd.R_far (p := ⟨gb506, 2, none⟩) (Kd.R_far (p := ⟨gb506, 1, none⟩) (Kd.R_far (p := ⟨gb506, 0, none⟩) (Kd.R_types HO493.out BK506.out (by decide)) (fun _ hk => hk.2) (.slice Ao22 t496.length co22)) (fun _ hk => hk.2) (.slice Ao25 t499.length co25)) (fun _ hk => hk.2) (.bool t502)) (fun _ h_ => h_.1))))) (Kd.S_lt (by (with_reducible repeat (first | apply Kd.S_alloc | apply Kd.S_drewN | apply Kd.S_drew)); exact (Kd.S_mono (Kd.S_far (p := ⟨gb506, 2, none⟩) (Kd.S_far (p := ⟨gb506, 1, none⟩) (Kd.S_far (p := ⟨gb506, 0, none⟩) (Kd.S_types HO498.out BK506.out (by decide)) (fun _ hk => hk.2) (.slice Ao22 t496.length co22)) (fun _ hk => hk.2) (.slice Ao25 t499.length co25)) (fun _ hk => hk.2) (.bool t502)) (fun _ h_ => h_.1))))) (Kd.R_lt (by (with_reducible repeat (first | apply Kd.R_alloc | apply Kd.R_drewN | apply Kd.R_drew)); exact (Kd.R_mono (Kd.R_far (p := ⟨gb506, 2, none⟩) (Kd.R_far (p := ⟨gb506, 1, none⟩) (Kd.R_far (p := ⟨gb506, 0, none⟩) (Kd.R_types HO501.out BK506.out (by decide)) (fun _ hk => hk.2) (.slice Ao22 t496.length co22)) (fun _ hk => hk.2) (.slice Ao25 t499.length co25)) (fun _ hk => hk.2) (.bool t502)) (fun _ h_ => h_.1))))) (Kd.R_lt (by (with_reducible repeat (first | apply Kd.R_alloc | apply Kd.R_drewN | apply Kd.R_drew)); exact (Kd.R_mono (Kd.R_far (p := ⟨gb506, 2, none⟩) (Kd.R_far (p := ⟨gb506, 1, none⟩) (Kd.R_far (p := ⟨gb506, 0, none⟩) (Kd.R_types HO505.out BK506.out (by decide)) (fun _ hk => hk.2) (.slice Ao22 t496.length co22)) (fun _ hk => hk.2) (.slice Ao25 t499.length co25)) (fun _ hk => hk.2) (.bool t502)) (fun _ h_ => h_.1))))) (below_size (by repeat (first | (with_reducible first | exact HB.out | apply below_alloc | apply pw_below_drewN | apply below_drew1 | refine below_set ?_ GE495.out | refine below_set ?_ GE506.out) | exact HB.out)))); have n6_ := Aside0.mk (Kd.R_lower (Kd.R_new' (Kd.R_new' (Kd.R_new' ho1 (Kd.R_lt (by (with_reducible repeat (first | apply Kd.R_alloc | apply Kd.R_drewN | apply Kd.R_drew)); exact (Kd.R_mono (Kd.R_far (p := ⟨gb506, 2, none⟩) (Kd.R_far (p := ⟨gb506, 1, none⟩) (Kd.R_far (p := ⟨gb506, 0, none⟩) (Kd.R_types HO493.out BK506.out (by decide)) (fun _ hk => hk.2) (.slice Ao22 t496.length co22)) (fun _ hk => hk.2) (.slice Ao25 t499.length co25)) (fun _ hk => hk.2) (.bool t502)) (fun _ h_ => h_.1))))) (Kd.R_lt (by (with_reducible repeat (first | apply Kd.R_alloc | apply Kd.R_drewN | apply Kd.R_drew)); exact (Kd.R_mono (Kd.R_far (p := ⟨gb506, 2, none⟩) (Kd.R_far (p := ⟨gb506, 1, none⟩) (Kd.R_far (p := ⟨gb506, 0, none⟩) (Kd.R_types HO501.out BK506.out (by decide)) (fun _ hk => hk.2) (.slice Ao22 t496.length co22)) (fun _ hk => hk.2) (.slice Ao25 t499.length co25)) (fun _ hk => hk.2) (.bool t502)) (fun _ h_ => h_.1))))) (Kd.R_lt (by (with_reducible repeat (first | apply Kd.R_alloc | apply Kd.R_drewN | apply Kd.R_drew)); exact (Kd.R_mono (Kd.R_far (p := ⟨gb506, 2, none⟩) (Kd.R_far (p := ⟨gb506, 1, none⟩) (Kd.R_far (p := ⟨gb506, 0, none⟩) (Kd.R_types HO505.out BK506.out (by decide)) (fun _ hk => hk.2) (.slice Ao22 t496.length co22)) (fun _ hk => hk.2) (.slice Ao25 t499.length co25)) (fun _ hk => hk.2) (.bool t502)) (fun _ h_ => h_.1))))) (below_size (by repeat (first | (with_reducible first | exact HB.out | apply below_alloc | apply pw_below_drewN | apply below_drew1 | refine below_set ?_ GE495.out | refine below_set ?_ GE506.out) | exact HB.out)))); have n7_ := Aside0.mk (Kd.R_lower (Kd.R_new' (Kd.R_new' (Kd.R_new' ho2 (Kd.R_lt (by (with_reducible repeat (first | apply Kd.R_alloc | apply Kd.R_drewN | apply Kd.R_drew)); exact (Kd.R_mono (Kd.R_far (p := ⟨gb506, 2, none⟩) (Kd.R_far (p := ⟨gb506, 1, none⟩) (Kd.R_far (p := ⟨gb506, 0, none⟩) (Kd.R_types HO493.out BK506.out (by decide)) (fun _ hk => hk.2) (.slice Ao22 t496.length co22)) (fun _ hk => hk.2) (.slice Ao25 t499.length co25)) (fun _ hk => hk.2) (.bool t502)) (fun _ h_ => h_.1))))) (Kd.R_lt (by (with_reducible repeat (first | apply Kd.R_alloc | apply Kd.R_drewN | apply Kd.R_drew)); exact (Kd.R_mono (Kd.R_far (p := ⟨gb506, 2, none⟩) (Kd.R_far (p := ⟨gb506, 1, none⟩) (Kd.R_far (p := ⟨gb506, 0, none⟩) (Kd.R_types HO501.out BK506.out (by decide)) (fun _ hk => hk.2) (.slice Ao22 t496.length co22)) (fun _ hk => hk.2) (.slice Ao25 t499.length co25)) (fun _ hk => hk.2) (.bool t502)) (fun _ h_ => h_.1))))) (Kd.R_lt (by (with_reducible repeat (first | apply Kd.R_alloc | apply Kd.R_drewN | apply Kd.R_drew)); exact (Kd.R_mono (Kd.R_far (p := ⟨gb506, 2, none⟩) (Kd.R_far (p := ⟨gb506, 1, none⟩) (Kd.R_far (p := ⟨gb506, 0, none⟩) (Kd.R_types HO505.out BK506.out (by decide)) (fun _ hk => hk.2) (.slice Ao22 t496.length co22)) (fun _ hk => hk.2) (.slice Ao25 t499.length co25)) (fun _ hk => hk.2) (.bool t502)) (fun _ h_ => h_.1))))) (below_size (by repeat (first | (with_reducible first | exact HB.out | apply below_alloc | apply pw_below_drewN | apply below_drew1 | refine below_set ?_ GE495.out | refine below_set ?_ GE506.out) | exact HB.out)))); have n8_ := Aside0.mk (blk_below (g := gb495) (o := .cells #[.slice Ao17 t488.length co17, .slice Ao19 t491.length co19, .bool t494] 40 (0, 0)) (by (with_reducible repeat (first | refine blk_drewN ?_ _ | refine blk_drew ?_ | refine blk_alloc ?_ _)); refine blk_far ?_ NB495_506.out _; (with_reducible repeat (first | refine blk_drewN ?_ _ | refine blk_drew ?_ | refine blk_alloc ?_ _)); refine blk_far ?_ NB495_506.out _; (with_reducible repeat (first | refine blk_drewN ?_ _ | refine blk_drew ?_ | refine blk_alloc ?_ _)); refine blk_far ?_ NB495_506.out _; (with_reducible repeat (first | refine blk_drewN ?_ _ | refine blk_drew ?_ | refine blk_alloc ?_ _)); exact BK495.out) hb); have n9_ := Aside0.mk (blk_below (g := gb506) (o := .cells #[.slice Ao22 t496.length co22, .slice Ao25 t499.length co25, .bool t502] 40 (0, 0)) (by (with_reducible repeat (first | refine blk_drewN ?_ _ | refine blk_drew ?_ | refine blk_alloc ?_ _)); refine blk_put (cs := #[.slice Ao22 t496.length co22, .slice Ao25 t499.length co25, .bool false]) ?_ 2 _ rfl; (with_reducible repeat (first | refine blk_drewN ?_ _ | refine blk_drew ?_ | refine blk_alloc ?_ _)); refine blk_put (cs := #[.slice Ao22 t496.length co22, .slice none 0 0, .bool false]) ?_ 1 _ rfl; (with_reducible repeat (first | refine blk_drewN ?_ _ | refine blk_drew ?_ | refine blk_alloc ?_ _)); refine blk_put (cs := #[.slice none 0 0, .slice none 0 0, .bool false]) ?_ 0 _ rfl; (with_reducible repeat (first | refine blk_drewN ?_ _ | refine blk_drew ?_ | refine blk_alloc ?_ _)); exact BK506.out) hb); have n10_ := Aside0.mk (below_step (by repeat (first | (with_reducible first | exact HB.out | apply below_alloc | apply pw_below_drewN | apply below_drew1 | refine below_set ?_ GE495.out | refine below_set ?_ GE506.out) | exact HB.out)) hb); clear HO490; clear HO493; clear HO498; clear HO501; clear HO505; clear BK495; clear BK506; clear HB; have HO490 := n0_; have HO493 := n1_; have HO498 := n2_; have HO501 := n3_; have HO505 := n4_; have HO509 := n5_; have HO512 := n6_; have HO516 := n7_; have BK495 := n8_; have BK506 := n9_; have HB := n10_; clear n0_ n1_ n2_ n3_ n4_ n5_ n6_ n7_ n8_ n9_ n10_; (try clear hb); (try clear hb2); (try clear hk); (try clear hi); (try clear ho0); (try clear ho1); (try clear ho2)) | ((with_reducible refine gate_dst (N := 13) rfl ?_); (try (refine gate_guard (by rfl) ?_; dsimp only)); refine box_event ?hg (N := 13) ?hd (cs := #[.slice none 0 0, .slice none 0 0, .bool false]) (t := 40) ?hr ?_; (case hd => rfl); (case hg => rfl); (case hr => first | (go_simp; done) | (go_simp; rfl)); intro gb517 hg w28 hbox hb; have n0_ := Aside0.mk (Kd.S_below (by (with_reducible repeat (first | apply Kd.S_alloc | apply Kd.S_drewN | apply Kd.S_drew)); exact HO490.out) hb); have n1_ := Aside0.mk (Kd.R_below (by (with_reducible repeat (first | apply Kd.R_alloc | apply Kd.R_drewN | apply Kd.R_drew)); exact HO493.out) hb); have n2_ := Aside0.mk (Kd.S_below (by (with_reducible repeat (first | apply Kd.S_alloc | apply Kd.S_drewN | apply Kd.S_drew)); exact HO498.out) hb); have n3_ := Aside0.mk (Kd.R_below (by (with_reducible repeat (first | apply Kd.R_alloc | apply Kd.R_drewN | apply Kd.R_drew)); exact HO501.out) hb); have n4_ := Aside0.mk (Kd.R_below (by (with_reducible repeat (first | apply Kd.R_alloc | apply Kd.R_drewN | apply Kd.R_drew)); exact HO505.out) hb); have n5_ := Aside0.mk (Kd.S_below (by (with_reducible repeat (first | apply Kd.S_alloc | apply Kd.S_drewN | apply Kd.S_drew)); exact HO509.out) hb); have n6_ := Aside0.mk (Kd.R_below (by (with_reducible repeat (first | apply Kd.R_alloc | apply Kd.R_drewN | apply Kd.R_drew)); exact HO512.out) hb); have n7_ := Aside0.mk (Kd.R_below (by (with_reducible repeat (first | apply Kd.R_alloc | apply Kd.R_drewN | apply Kd.R_drew)); exact HO516.out) hb); have n8_ := Aside0.mk (blk_below (g := gb495) (o := .cells #[.slice Ao17 t488.length co17, .slice Ao19 t491.length co19, .bool t494] 40 (0, 0)) (by (with_reducible repeat (first | refine blk_drewN ?_ _ | refine blk_drew ?_ | refine blk_alloc ?_ _)); exact BK495.out) hb); have n9_ := Aside0.mk (blk_below (g := gb506) (o := .cells #[.slice Ao22 t496.length co22, .slice Ao25 t499.length co25, .bool t502] 40 (0, 0)) (by (with_reducible repeat (first | refine blk_drewN ?_ _ | refine blk_drew ?_ | refine blk_alloc ?_ _)); exact BK506.out) hb); have n10_ := Aside0.mk (below_step (by repeat (first | (with_reducible first | exact HB.out | apply below_alloc | apply pw_below_drewN | apply below_drew1 | refine below_set ?_ GE495.out | refine below_set ?_ GE506.out) | exact HB.out)) hb); have n11_ := Aside0.mk (hbox); have n12_ := Aside0.mk ((by rw [hg]; exact (below_size (by repeat (first | (with_reducible first | exact HB.out | apply below_alloc | apply pw_below_drewN | apply below_drew1 | refine below_set ?_ GE495.out | refine below_set ?_ GE506.out) | exact HB.out))) : w.heap.size ≤ gb517)); have n13_ := Aside0.mk ((by rw [hg]; exact (below_size (by repeat (first | (with_reducible first | exact HB.out | apply below_alloc | apply pw_below_drewN | apply below_drew1 | refine below_set ?_ GE495.out | refine below_set ?_ GE506.out) | exact HB.out))) : w.heap.size ≤ gb517)); have n14_ := Aside0.mk ((by rw [hg]; exact Nat.ne_of_lt (blk_lt (g := gb495) (o := .cells #[.slice Ao17 t488.length co17, .slice Ao19 t491.length co19, .bool t494] 40 (0, 0)) (by (with_reducible repeat (first | refine blk_drewN ?_ _ | refine blk_drew ?_ | refine blk_alloc ?_ _)); exact BK495.out)) : gb495 ≠ gb517)); have n15_ := Aside0.mk ((by rw [hg]; exact Nat.ne_of_gt (blk_lt (g := gb495) (o := .cells #[.slice Ao17 t488.length co17, .slice Ao19 t491.length co19, .bool t494] 40 (0, 0)) (by (with_reducible repeat (first | refine blk_drewN ?_ _ | refine blk_drew ?_ | refine blk_alloc ?_ _)); exact BK495.out)) : gb517 ≠ gb495)); have n16_ := Aside0.mk ((by rw [hg]; exact Nat.ne_of_lt (blk_lt (g := gb506) (o := .cells #[.slice Ao22 t496.length co22, .slice Ao25 t499.length co25, .bool t502] 40 (0, 0)) (by (with_reducible repeat (first | refine blk_drewN ?_ _ | refine blk_drew ?_ | refine blk_alloc ?_ _)); exact BK506.out)) : gb506 ≠ gb517)); have n17_ := Aside0.mk ((by rw [hg]; exact Nat.ne_of_gt (blk_lt (g := gb506) (o := .cells #[.slice Ao22 t496.length co22, .slice Ao25 t499.length co25, .bool t502] 40 (0, 0)) (by (with_reducible repeat (first | refine blk_drewN ?_ _ | refine blk_drew ?_ | refine blk_alloc ?_ _)); exact BK506.out)) : gb517 ≠ gb506)); clear HO490; clear HO493; clear HO498; clear HO501; clear HO505; clear HO509; clear HO512; clear HO516; clear BK495; clear BK506; clear HB; have HO490 := n0_; have HO493 := n1_; have HO498 := n2_; have HO501 := n3_; have HO505 := n4_; have HO509 := n5_; have HO512 := n6_; have HO516 := n7_; have BK495 := n8_; have BK506 := n9_; have HB := n10_; have BK517 := n11_; have GW517 := n12_; have GE517 := n13_; have NB495_517 := n14_; have NB517_495 := n15_; have NB506_517 := n16_; have NB517_506 := n17_; clear n0_ n1_ n2_ n3_ n4_ n5_ n6_ n7_ n8_ n9_ n10_ n11_ n12_ n13_ n14_ n15_ n16_ n17_; clear hb hbox hg; obtain ⟨Ao29, co29, eo29⟩ := Kd.S_slice HO509.out; subst eo29; have hnb30 := NB517_495.out; have hnc30 := NB495_517.out; have hnb31 := NB517_506.out; have hnc31 := NB506_517.out; have hcz32_0 : w28.cell? ⟨gb517, 0, none⟩ = some (.slice none 0 0) := (blk_cell BK517.out 0).trans rfl; have hcz32_1 : w28.cell? ⟨gb517, 1, none⟩ = some (.slice none 0 0) := (blk_cell BK517.out 1).trans rfl; have hcz32_2 : w28.cell? ⟨gb517, 2, none⟩ = some (.bool false) := (blk_cell BK517.out 2).trans rfl; have hfz32_0 := blk_frozen BK517.out 0; have hfz32_1 := blk_frozen BK517.out 1; have hfz32_2 := blk_frozen BK517.out 2; obtain ⟨Ao33, co33, eo33⟩ := Kd.R_slice HO512.out; subst eo33; have hcz34_0 : w28.cell? ⟨gb506, 0, none⟩ = some (.slice Ao22 t496.length co22) := (blk_cell BK506.out 0).trans rfl; have hcz34_1 : w28.cell? ⟨gb506, 1, none⟩ = some (.slice Ao25 t499.length co25) := (blk_cell BK506.out 1).trans rfl; have hcz34_2 : w28.cell? ⟨gb506, 2, none⟩ = some (.bool t502) := (blk_cell BK506.out 2).trans rfl; have hfz34_0 := blk_frozen BK506.out 0; have hfz34_1 := blk_frozen BK506.out 1; have hfz34_2 := blk_frozen BK506.out 2) | ((with_reducible refine gate_callee (f := 20) rfl ?_); refine goesL_ (some 44) rfl rfl Try.func20 (by kernel_rfl) rfl #[.slice Ao22 t496.length co22, .int .i64 0] rfl (by (try simp only [List.map_toArray, List.map_cons, List.map_nil]); first | done | rfl | (simp only [List.length_drop, List.length_take]; rfl)) ?_; (with_reducible refine (graph_Reach.calls _ _ t496 0 t518 _ ?side1 ?side2 A11.out).mono ?_); (case side1 => refine (Kd.S_reads' (e := 25) (base := w.heap.size) (ok := fun k_ => ((((((some k_ ≠ (.slice Ao25 t499.length co25 : Value).ownBlock ∧ some k_ ≠ (v504 : Value).ownBlock) ∧ some k_ ≠ (.slice Ao17 t488.length co17 : Value).ownBlock) ∧ some k_ ≠ (.slice Ao19 t491.length co19 : Value).ownBlock) ∧ some k_ ≠ (.slice Ao29 t507.length co29 : Value).ownBlock) ∧ some k_ ≠ (.slice Ao33 t510.length co33 : Value).ownBlock) ∧ some k_ ≠ (v515 : Value).ownBlock)) (n := t496.length) (c := co22) ?_).2.2; exact (by (with_reducible repeat (first | apply Kd.S_alloc | apply Kd.S_drewN | apply Kd.S_drew)); exact (Kd.S_mono (Kd.S_far (p := ⟨gb517, 2, none⟩) (Kd.S_far (p := ⟨gb517, 1, none⟩) (Kd.S_far (p := ⟨gb517, 0, none⟩) (Kd.S_types HO498.out BK517.out (by decide)) (fun _ hk => hk.2) (.slice Ao29 t507.length co29)) (fun _ hk => hk.2) (.slice Ao33 t510.length co33)) (fun _ hk => hk.2) (.bool t513)) (fun _ h_ => h_.1)))); (case side2 => exact (Kd.S_reads' HO498.out).2.1); rintro e w35 ⟨v519, rfl, ho0, hb⟩; refine ⟨_, rfl, ?_⟩; have n0_ := Aside0.mk (Kd.S_below (by (with_reducible repeat (first | apply Kd.S_alloc | apply Kd.S_drewN | apply Kd.S_drew)); exact (Kd.S_mono (Kd.S_far (p := ⟨gb517, 2, none⟩) (Kd.S_far (p := ⟨gb517, 1, none⟩) (Kd.S_far (p := ⟨gb517, 0, none⟩) (Kd.S_types HO490.out BK517.out (by decide)) (fun _ hk => hk.2) (.slice Ao29 t507.length co29)) (fun _ hk => hk.2) (.slice Ao33 t510.length co33)) (fun _ hk => hk.2) (.bool t513)) (fun _ h_ => h_.1))) hb); have n1_ := Aside0.mk (Kd.R_below (by (with_reducible repeat (first | apply Kd.R_alloc | apply Kd.R_drewN | apply Kd.R_drew)); exact (Kd.R_mono (Kd.R_far (p := ⟨gb517, 2, none⟩) (Kd.R_far (p := ⟨gb517, 1, none⟩) (Kd.R_far (p := ⟨gb517, 0, none⟩) (Kd.R_types HO493.out BK517.out (by decide)) (fun _ hk => hk.2) (.slice Ao29 t507.length co29)) (fun _ hk => hk.2) (.slice Ao33 t510.length co33)) (fun _ hk => hk.2) (.bool t513)) (fun _ h_ => h_.1))) hb); have n2_ := Aside0.mk (Kd.S_below (by (with_reducible repeat (first | apply Kd.S_alloc | apply Kd.S_drewN | apply Kd.S_drew)); exact (Kd.S_mono (Kd.S_far (p := ⟨gb517, 2, none⟩) (Kd.S_far (p := ⟨gb517, 1, none⟩) (Kd.S_far (p := ⟨gb517, 0, none⟩) (Kd.S_types HO498.out BK517.out (by decide)) (fun _ hk => hk.2) (.slice Ao29 t507.length co29)) (fun _ hk => hk.2) (.slice Ao33 t510.length co33)) (fun _ hk => hk.2) (.bool t513)) (fun _ h_ => h_.1))) hb); have n3_ := Aside0.mk (Kd.R_below (by (with_reducible repeat (first | apply Kd.R_alloc | apply Kd.R_drewN | apply Kd.R_drew)); exact (Kd.R_mono (Kd.R_far (p := ⟨gb517, 2, none⟩) (Kd.R_far (p := ⟨gb517, 1, none⟩) (Kd.R_far (p := ⟨gb517, 0, none⟩) (Kd.R_types HO501.out BK517.out (by decide)) (fun _ hk => hk.2) (.slice Ao29 t507.length co29)) (fun _ hk => hk.2) (.slice Ao33 t510.length co33)) (fun _ hk => hk.2) (.bool t513)) (fun _ h_ => h_.1))) hb); have n4_ := Aside0.mk (Kd.R_below (by (with_reducible repeat (first | apply Kd.R_alloc | apply Kd.R_drewN | apply Kd.R_drew)); exact (Kd.R_mono (Kd.R_far (p := ⟨gb517, 2, none⟩) (Kd.R_far (p := ⟨gb517, 1, none⟩) (Kd.R_far (p := ⟨gb517, 0, none⟩) (Kd.R_types HO505.out BK517.out (by decide)) (fun _ hk => hk.2) (.slice Ao29 t507.length co29)) (fun _ hk => hk.2) (.slice Ao33 t510.length co33)) (fun _ hk => hk.2) (.bool t513)) (fun _ h_ => h_.1))) hb); have n5_ := Aside0.mk (Kd.S_below (by (with_reducible repeat (first | apply Kd.S_alloc | apply Kd.S_drewN | apply Kd.S_drew)); exact (Kd.S_mono (Kd.S_far (p := ⟨gb517, 2, none⟩) (Kd.S_far (p := ⟨gb517, 1, none⟩) (Kd.S_far (p := ⟨gb517, 0, none⟩) (Kd.S_types HO509.out BK517.out (by decide)) (fun _ hk => hk.2) (.slice Ao29 t507.length co29)) (fun _ hk => hk.2) (.slice Ao33 t510.length co33)) (fun _ hk => hk.2) (.bool t513)) (fun _ h_ => h_.1))) hb); have n6_ := Aside0.mk (Kd.R_below (by (with_reducible repeat (first | apply Kd.R_alloc | apply Kd.R_drewN | apply Kd.R_drew)); exact (Kd.R_mono (Kd.R_far (p := ⟨gb517, 2, none⟩) (Kd.R_far (p := ⟨gb517, 1, none⟩) (Kd.R_far (p := ⟨gb517, 0, none⟩) (Kd.R_types HO512.out BK517.out (by decide)) (fun _ hk => hk.2) (.slice Ao29 t507.length co29)) (fun _ hk => hk.2) (.slice Ao33 t510.length co33)) (fun _ hk => hk.2) (.bool t513)) (fun _ h_ => h_.1))) hb); have n7_ := Aside0.mk (Kd.R_below (by (with_reducible repeat (first | apply Kd.R_alloc | apply Kd.R_drewN | apply Kd.R_drew)); exact (Kd.R_mono (Kd.R_far (p := ⟨gb517, 2, none⟩) (Kd.R_far (p := ⟨gb517, 1, none⟩) (Kd.R_far (p := ⟨gb517, 0, none⟩) (Kd.R_types HO516.out BK517.out (by decide)) (fun _ hk => hk.2) (.slice Ao29 t507.length co29)) (fun _ hk => hk.2) (.slice Ao33 t510.length co33)) (fun _ hk => hk.2) (.bool t513)) (fun _ h_ => h_.1))) hb); have n8_ := Aside0.mk (Kd.R_lower ho0 (below_size (by repeat (first | (with_reducible first | exact HB.out | apply below_alloc | apply pw_below_drewN | apply below_drew1 | refine below_set ?_ GE495.out | refine below_set ?_ GE506.out | refine below_set ?_ GE517.out) | exact HB.out)))); have n9_ := Aside0.mk (blk_below (g := gb495) (o := .cells #[.slice Ao17 t488.length co17, .slice Ao19 t491.length co19, .bool t494] 40 (0, 0)) (by (with_reducible repeat (first | refine blk_drewN ?_ _ | refine blk_drew ?_ | refine blk_alloc ?_ _)); refine blk_far ?_ NB495_517.out _; (with_reducible repeat (first | refine blk_drewN ?_ _ | refine blk_drew ?_ | refine blk_alloc ?_ _)); refine blk_far ?_ NB495_517.out _; (with_reducible repeat (first | refine blk_drewN ?_ _ | refine blk_drew ?_ | refine blk_alloc ?_ _)); refine blk_far ?_ NB495_517.out _; (with_reducible repeat (first | refine blk_drewN ?_ _ | refine blk_drew ?_ | refine blk_alloc ?_ _)); exact BK495.out) hb); have n10_ := Aside0.mk (blk_below (g := gb506) (o := .cells #[.slice Ao22 t496.length co22, .slice Ao25 t499.length co25, .bool t502] 40 (0, 0)) (by (with_reducible repeat (first | refine blk_drewN ?_ _ | refine blk_drew ?_ | refine blk_alloc ?_ _)); refine blk_far ?_ NB506_517.out _; (with_reducible repeat (first | refine blk_drewN ?_ _ | refine blk_drew ?_ | refine blk_alloc ?_ _)); refine blk_far ?_ NB506_517.out _; (with_reducible repeat (first | refine blk_drewN ?_ _ | refine blk_drew ?_ | refine blk_alloc ?_ _)); refine blk_far ?_ NB506_517.out _; (with_reducible repeat (first | refine blk_drewN ?_ _ | refine blk_drew ?_ | refine blk_alloc ?_ _)); exact BK506.out) hb); have n11_ := Aside0.mk (blk_below (g := gb517) (o := .cells #[.slice Ao29 t507.length co29, .slice Ao33 t510.length co33, .bool t513] 40 (0, 0)) (by (with_reducible repeat (first | refine blk_drewN ?_ _ | refine blk_drew ?_ | refine blk_alloc ?_ _)); refine blk_put (cs := #[.slice Ao29 t507.length co29, .slice Ao33 t510.length co33, .bool false]) ?_ 2 _ rfl; (with_reducible repeat (first | refine blk_drewN ?_ _ | refine blk_drew ?_ | refine blk_alloc ?_ _)); refine blk_put (cs := #[.slice Ao29 t507.length co29, .slice none 0 0, .bool false]) ?_ 1 _ rfl; (with_reducible repeat (first | refine blk_drewN ?_ _ | refine blk_drew ?_ | refine blk_alloc ?_ _)); refine blk_put (cs := #[.slice none 0 0, .slice none 0 0, .bool false]) ?_ 0 _ rfl; (with_reducible repeat (first | refine blk_drewN ?_ _ | refine blk_drew ?_ | refine blk_alloc ?_ _)); exact BK517.out) hb); have n12_ := Aside0.mk (below_step (by repeat (first | (with_reducible first | exact HB.out | apply below_alloc | apply pw_below_drewN | apply below_drew1 | refine below_set ?_ GE495.out | refine below_set ?_ GE506.out | refine below_set ?_ GE517.out) | exact HB.out)) hb); clear HO490; clear HO493; clear HO498; clear HO501; clear HO505; clear HO509; clear HO512; clear HO516; clear BK495; clear BK506; clear BK517; clear HB; have HO490 := n0_; have HO493 := n1_; have HO498 := n2_; have HO501 := n3_; have HO505 := n4_; have HO509 := n5_; have HO512 := n6_; have HO516 := n7_; have HO520 := n8_; have BK495 := n9_; have BK506 := n10_; have BK517 := n11_; have HB := n12_; clear n0_ n1_ n2_ n3_ n4_ n5_ n6_ n7_ n8_ n9_ n10_ n11_ n12_; (try clear hb); (try clear hb2); (try clear hk); (try clear hi); (try clear ho0); have hcz36_0 : w35.cell? ⟨gb517, 0, none⟩ = some (.slice Ao29 t507.length co29) := (blk_cell BK517.out 0).trans rfl; have hcz36_1 : w35.cell? ⟨gb517, 1, none⟩ = some (.slice Ao33 t510.length co33) := (blk_cell BK517.out 1).trans rfl; have hcz36_2 : w35.cell? ⟨gb517, 2, none⟩ = some (.bool t513) := (blk_cell BK517.out 2).trans rfl; have hfz36_0 := blk_frozen BK517.out 0; have hfz36_1 := blk_frozen BK517.out 1; have hfz36_2 := blk_frozen BK517.out 2) | ((with_reducible refine gate_callee (f := 20) rfl ?_); refine goesL_ (some 47) rfl rfl Try.func20 (by kernel_rfl) rfl #[.slice Ao29 t507.length co29, .int .i64 0] rfl (by (try simp only [List.map_toArray, List.map_cons, List.map_nil]); first | done | rfl | (simp only [List.length_drop, List.length_take]; rfl)) ?_; (with_reducible refine (graph_Reach.calls _ _ t507 0 t521 _ ?side1 ?side2 A12.out).mono ?_); (case side1 => repeat (first | exact (Kd.S_reads' HO509.out).2.2 | (with_reducible refine Kd.C_alloc ?_ _) | (with_reducible refine Kd.C_drewN ?_ _) | (with_reducible refine Kd.C_drew ?_))); (case side2 => exact (Kd.S_reads' HO509.out).2.1); rintro e w37 ⟨v522, rfl, ho0, hb⟩; refine ⟨_, rfl, ?_⟩; have n0_ := Aside0.mk (Kd.S_below (by (with_reducible repeat (first | apply Kd.S_alloc | apply Kd.S_drewN | apply Kd.S_drew)); exact HO490.out) hb); have n1_ := Aside0.mk (Kd.R_below (by (with_reducible repeat (first | apply Kd.R_alloc | apply Kd.R_drewN | apply Kd.R_drew)); exact HO493.out) hb); have n2_ := Aside0.mk (Kd.S_below (by (with_reducible repeat (first | apply Kd.S_alloc | apply Kd.S_drewN | apply Kd.S_drew)); exact HO498.out) hb); have n3_ := Aside0.mk (Kd.R_below (by (with_reducible repeat (first | apply Kd.R_alloc | apply Kd.R_drewN | apply Kd.R_drew)); exact HO501.out) hb); have n4_ := Aside0.mk (Kd.R_below (by (with_reducible repeat (first | apply Kd.R_alloc | apply Kd.R_drewN | apply Kd.R_drew)); exact HO505.out) hb); have n5_ := Aside0.mk (Kd.S_below (by (with_reducible repeat (first | apply Kd.S_alloc | apply Kd.S_drewN | apply Kd.S_drew)); exact HO509.out) hb); have n6_ := Aside0.mk (Kd.R_below (by (with_reducible repeat (first | apply Kd.R_alloc | apply Kd.R_drewN | apply Kd.R_drew)); exact HO512.out) hb); have n7_ := Aside0.mk (Kd.R_below (by (with_reducible repeat (first | apply Kd.R_alloc | apply Kd.R_drewN | apply Kd.R_drew)); exact HO516.out) hb); have n8_ := Aside0.mk (Kd.R_elder' (by (with_reducible repeat (first | apply Kd.R_alloc | apply Kd.R_drewN | apply Kd.R_drew)); exact HO520.out) (Kd.R_base ho0) hb); have n9_ := Aside0.mk (Kd.R_lower (Kd.R_new' ho0 (Kd.R_lt (by (with_reducible repeat (first | apply Kd.R_alloc | apply Kd.R_drewN | apply Kd.R_drew)); exact HO520.out))) (below_size (by repeat (first | (with_reducible first | exact HB.out | apply below_alloc | apply pw_below_drewN | apply below_drew1 | refine below_set ?_ GE495.out | refine below_set ?_ GE506.out | refine below_set ?_ GE517.out) | exact HB.out)))); have n10_ := Aside0.mk (blk_below (g := gb495) (o := .cells #[.slice Ao17 t488.length co17, .slice Ao19 t491.length co19, .bool t494] 40 (0, 0)) (by (with_reducible repeat (first | refine blk_drewN ?_ _ | refine blk_drew ?_ | refine blk_alloc ?_ _)); exact BK495.out) hb); have n11_ := Aside0.mk (blk_below (g := gb506) (o := .cells #[.slice Ao22 t496.length co22, .slice Ao25 t499.length co25, .bool t502] 40 (0, 0)) (by (with_reducible repeat (first | refine blk_drewN ?_ _ | refine blk_drew ?_ | refine blk_alloc ?_ _)); exact BK506.out) hb); have n12_ := Aside0.mk (blk_below (g := gb517) (o := .cells #[.slice Ao29 t507.length co29, .slice Ao33 t510.length co33, .bool t513] 40 (0, 0)) (by (with_reducible repeat (first | refine blk_drewN ?_ _ | refine blk_drew ?_ | refine blk_alloc ?_ _)); exact BK517.out) hb); have n13_ := Aside0.mk (below_step (by repeat (first | (with_reducible first | exact HB.out | apply below_alloc | apply pw_below_drewN | apply below_drew1 | refine below_set ?_ GE495.out | refine below_set ?_ GE506.out | refine below_set ?_ GE517.out) | exact HB.out)) hb); clear HO490; clear HO493; clear HO498; clear HO501; clear HO505; clear HO509; clear HO512; clear HO516; clear HO520; clear BK495; clear BK506; clear BK517; clear HB; have HO490 := n0_; have HO493 := n1_; have HO498 := n2_; have HO501 := n3_; have HO505 := n4_; have HO509 := n5_; have HO512 := n6_; have HO516 := n7_; have HO520 := n8_; have HO523 := n9_; have BK495 := n10_; have BK506 := n11_; have BK517 := n12_; have HB := n13_; clear n0_ n1_ n2_ n3_ n4_ n5_ n6_ n7_ n8_ n9_ n10_ n11_ n12_ n13_; (try clear hb); (try clear hb2); (try clear hk); (try clear hi); (try clear ho0)))
  (try simp only [Act.put, za_, zb_, zc_])
  go_cut [77] (fun v77 wc => ∃ (kq : Nat) (x77_12 : Bool), v77 = .bool x77_12 ∧ Aside0 (bywashlaw15_DomupFound.j0 kq l0 a3 t486 t518 t521 x77_12 t488 t491 t494 t496 t499 t502 t507 t510 t513 = some r) ∧ Aside0 (kq ≤ k) ∧ Aside0 (Kd.R Kd.bool 4 wc w.heap.size (fun k_ => some k_ ≠ (v522 : Value).ownBlock) v519 t518) ∧ Aside0 (Kd.R Kd.bool 4 wc w.heap.size (fun k_ => some k_ ≠ (v519 : Value).ownBlock) v522 t521) ∧ Aside0 (Kd.S (Kd.slice 3 (Kd.int .i64)) 25 wc w.heap.size (fun k_ => some k_ ≠ ((.slice Ao19 t491.length co19) : Value).ownBlock ∧ some k_ ≠ ((.slice Ao22 t496.length co22) : Value).ownBlock ∧ some k_ ≠ ((.slice Ao25 t499.length co25) : Value).ownBlock ∧ some k_ ≠ ((.slice Ao29 t507.length co29) : Value).ownBlock ∧ some k_ ≠ ((.slice Ao33 t510.length co33) : Value).ownBlock) (.slice Ao17 t488.length co17) t488) ∧ Aside0 (Kd.R (Kd.int .i64) 3 wc w.heap.size (fun k_ => some k_ ≠ ((.slice Ao25 t499.length co25) : Value).ownBlock ∧ some k_ ≠ ((.slice Ao33 t510.length co33) : Value).ownBlock) (.slice Ao19 t491.length co19) t491) ∧ Aside0 (Kd.S (Kd.slice 3 (Kd.int .i64)) 25 wc w.heap.size (fun k_ => some k_ ≠ ((.slice Ao17 t488.length co17) : Value).ownBlock ∧ some k_ ≠ ((.slice Ao19 t491.length co19) : Value).ownBlock ∧ some k_ ≠ ((.slice Ao25 t499.length co25) : Value).ownBlock ∧ some k_ ≠ ((.slice Ao29 t507.length co29) : Value).ownBlock ∧ some k_ ≠ ((.slice Ao33 t510.length co33) : Value).ownBlock) (.slice Ao22 t496.length co22) t496) ∧ Aside0 (Kd.R (Kd.int .i64) 3 wc w.heap.size (fun k_ => some k_ ≠ ((.slice Ao19 t491.length co19) : Value).ownBlock ∧ some k_ ≠ ((.slice Ao33 t510.length co33) : Value).ownBlock) (.slice Ao25 t499.length co25) t499) ∧ Aside0 (Kd.S (Kd.slice 3 (Kd.int .i64)) 25 wc w.heap.size (fun k_ => some k_ ≠ ((.slice Ao17 t488.length co17) : Value).ownBlock ∧ some k_ ≠ ((.slice Ao19 t491.length co19) : Value).ownBlock ∧ some k_ ≠ ((.slice Ao22 t496.length co22) : Value).ownBlock ∧ some k_ ≠ ((.slice Ao25 t499.length co25) : Value).ownBlock ∧ some k_ ≠ ((.slice Ao33 t510.length co33) : Value).ownBlock) (.slice Ao29 t507.length co29) t507) ∧ Aside0 (Kd.R (Kd.int .i64) 3 wc w.heap.size (fun k_ => some k_ ≠ ((.slice Ao19 t491.length co19) : Value).ownBlock ∧ some k_ ≠ ((.slice Ao25 t499.length co25) : Value).ownBlock) (.slice Ao33 t510.length co33) t510) ∧ Aside0 (wc.heap[gb495]? = some (.cells #[(.slice Ao17 t488.length co17), (.slice Ao19 t491.length co19), .bool t494] 40 (0, 0))) ∧ Aside0 (wc.heap[gb506]? = some (.cells #[(.slice Ao22 t496.length co22), (.slice Ao25 t499.length co25), .bool t502] 40 (0, 0))) ∧ Aside0 (wc.heap[gb517]? = some (.cells #[(.slice Ao29 t507.length co29), (.slice Ao33 t510.length co33), .bool t513] 40 (0, 0))) ∧ Aside0 (Below w.heap.size w wc))
  case first =>
   have H := HC13.out
   clear HC13
   by_cases c38 : (t518.length : Int) = (t499.length : Int)
   ·
    rw [if_pos c38] at H
    have c38b0 : ((t518.length : Int) == (t499.length : Int)) = true := beq_iff_eq.mpr c38
    have c38b1 : ((t518.length : Int) != (t499.length : Int)) = false := bne_eq_false_iff_eq.mpr c38
    have c38b2 : (t518.length == t499.length) = true := by first | simpa using c38 | (simp at c38 ⊢; omega)
    clear c38
    (first | rw [c38b0] | (simp only [i64_w, i32_w]; rw [c38b0]) | skip)
    by_cases c39 : (t521.length : Int) = (t510.length : Int)
    ·
     rw [if_pos c39] at H
     have c39b0 : ((t521.length : Int) == (t510.length : Int)) = true := beq_iff_eq.mpr c39
     have c39b1 : ((t521.length : Int) != (t510.length : Int)) = false := bne_eq_false_iff_eq.mpr c39
     have c39b2 : (t521.length == t510.length) = true := by first | simpa using c39 | (simp at c39 ⊢; omega)
     clear c39
     by_cases c40 : (t499.length : Int) = (l0.length : Int)
     ·
      rw [if_pos c40] at H
      have c40b0 : ((t499.length : Int) == (l0.length : Int)) = true := beq_iff_eq.mpr c40
      have c40b1 : ((t499.length : Int) != (l0.length : Int)) = false := bne_eq_false_iff_eq.mpr c40
      have c40b2 : (t499.length == l0.length) = true := by first | simpa using c40 | (simp at c40 ⊢; omega)
      clear c40
      have H' := Aside0.mk H
      clear H
      obtain ⟨Ao41, co41, eo41⟩ := Kd.R_slice HO520.out
      subst eo41
      have hnb42 := NB506_495.out
      have hnc42 := NB495_506.out
      have hnb43 := NB506_517.out
      have hnc43 := NB517_506.out
      have hcz44_0 : w37.cell? ⟨gb506, 0, none⟩ = some (.slice Ao22 t496.length co22) := (blk_cell BK506.out 0).trans rfl
      have hcz44_1 : w37.cell? ⟨gb506, 1, none⟩ = some (.slice Ao25 t499.length co25) := (blk_cell BK506.out 1).trans rfl
      have hcz44_2 : w37.cell? ⟨gb506, 2, none⟩ = some (.bool t502) := (blk_cell BK506.out 2).trans rfl
      have hfz44_0 := blk_frozen BK506.out 0
      have hfz44_1 := blk_frozen BK506.out 1
      have hfz44_2 := blk_frozen BK506.out 2
      obtain ⟨Ao45, co45, eo45⟩ := Kd.R_slice HO523.out
      subst eo45
      have hnb46 := NB517_495.out
      have hnc46 := NB495_517.out
      have hcz47_0 : w37.cell? ⟨gb517, 0, none⟩ = some (.slice Ao29 t507.length co29) := (blk_cell BK517.out 0).trans rfl
      have hcz47_1 : w37.cell? ⟨gb517, 1, none⟩ = some (.slice Ao33 t510.length co33) := (blk_cell BK517.out 1).trans rfl
      have hcz47_2 : w37.cell? ⟨gb517, 2, none⟩ = some (.bool t513) := (blk_cell BK517.out 2).trans rfl
      have hfz47_0 := blk_frozen BK517.out 0
      have hfz47_1 := blk_frozen BK517.out 1
      have hfz47_2 := blk_frozen BK517.out 2
      go_wp2
      go_meet
      case rel => exact ⟨_, (((t510.length : Int) != (l0.length : Int))), (by first | rfl | (simp; done) | (simp [*]; done)), H', ⟨by first | omega | exact Nat.le_refl _⟩, ⟨by (with_reducible repeat (first | apply Kd.R_alloc | apply Kd.R_drewN | apply Kd.R_drew)); exact Kd.R_mono HO520.out (fun _ hk => hk.2)⟩, ⟨by (with_reducible repeat (first | apply Kd.R_alloc | apply Kd.R_drewN | apply Kd.R_drew)); exact Kd.R_mono HO523.out (fun _ hk => hk.2)⟩, ⟨by (with_reducible repeat (first | apply Kd.S_alloc | apply Kd.S_drewN | apply Kd.S_drew)); exact Kd.S_mono HO490.out (fun _ hk => ⟨hk.1.1.1.1.1.1, ⟨hk.1.1.1.1.1.2, ⟨hk.1.1.1.1.2, ⟨hk.1.1.2, hk.1.2⟩⟩⟩⟩)⟩, ⟨by (with_reducible repeat (first | apply Kd.R_alloc | apply Kd.R_drewN | apply Kd.R_drew)); exact Kd.R_mono HO493.out (fun _ hk => ⟨hk.1.1.1.2, hk.1.2⟩)⟩, ⟨by (with_reducible repeat (first | apply Kd.S_alloc | apply Kd.S_drewN | apply Kd.S_drew)); exact Kd.S_mono HO498.out (fun _ hk => ⟨hk.1.1.1.1.2, ⟨hk.1.1.1.2, ⟨hk.1.1.1.1.1.1, ⟨hk.1.1.2, hk.1.2⟩⟩⟩⟩)⟩, ⟨by (with_reducible repeat (first | apply Kd.R_alloc | apply Kd.R_drewN | apply Kd.R_drew)); exact Kd.R_mono HO501.out (fun _ hk => ⟨hk.1.1.2, hk.1.2⟩)⟩, ⟨by (with_reducible repeat (first | apply Kd.S_alloc | apply Kd.S_drewN | apply Kd.S_drew)); exact Kd.S_mono HO509.out (fun _ hk => ⟨hk.1.1.1.1.2, ⟨hk.1.1.1.2, ⟨hk.1.1.2, ⟨hk.1.2, hk.1.1.1.1.1.1⟩⟩⟩⟩)⟩, ⟨by (with_reducible repeat (first | apply Kd.R_alloc | apply Kd.R_drewN | apply Kd.R_drew)); exact Kd.R_mono HO512.out (fun _ hk => ⟨hk.1.1.2, hk.1.2⟩)⟩, ⟨by (with_reducible repeat (first | refine blk_drewN ?_ _ | refine blk_drew ?_ | refine blk_alloc ?_ _)); exact BK495.out⟩, ⟨by (with_reducible repeat (first | refine blk_drewN ?_ _ | refine blk_drew ?_ | refine blk_alloc ?_ _)); exact BK506.out⟩, ⟨by (with_reducible repeat (first | refine blk_drewN ?_ _ | refine blk_drew ?_ | refine blk_alloc ?_ _)); exact BK517.out⟩, ⟨by repeat (first | (with_reducible first | exact HB.out | apply below_alloc | apply pw_below_drewN | apply below_drew1 | refine below_set ?_ GE495.out | refine below_set ?_ GE506.out | refine below_set ?_ GE517.out) | exact HB.out)⟩⟩
     ·
      rw [if_neg c40] at H
      have c40b0 : ((t499.length : Int) == (l0.length : Int)) = false := beq_eq_false_iff_ne.mpr c40
      have c40b1 : ((t499.length : Int) != (l0.length : Int)) = true := bne_iff_ne.mpr c40
      have c40b2 : (t499.length == l0.length) = false := by first | simpa using c40 | (simp at c40 ⊢; omega)
      have H' := Aside0.mk H
      clear H
      obtain ⟨Ao48, co48, eo48⟩ := Kd.R_slice HO520.out
      subst eo48
      have hnb49 := NB506_495.out
      have hnc49 := NB495_506.out
      have hnb50 := NB506_517.out
      have hnc50 := NB517_506.out
      have hcz51_0 : w37.cell? ⟨gb506, 0, none⟩ = some (.slice Ao22 t496.length co22) := (blk_cell BK506.out 0).trans rfl
      have hcz51_1 : w37.cell? ⟨gb506, 1, none⟩ = some (.slice Ao25 t499.length co25) := (blk_cell BK506.out 1).trans rfl
      have hcz51_2 : w37.cell? ⟨gb506, 2, none⟩ = some (.bool t502) := (blk_cell BK506.out 2).trans rfl
      have hfz51_0 := blk_frozen BK506.out 0
      have hfz51_1 := blk_frozen BK506.out 1
      have hfz51_2 := blk_frozen BK506.out 2
      obtain ⟨Ao52, co52, eo52⟩ := Kd.R_slice HO523.out
      subst eo52
      have hnb53 := NB517_495.out
      have hnc53 := NB495_517.out
      have hcz54_0 : w37.cell? ⟨gb517, 0, none⟩ = some (.slice Ao29 t507.length co29) := (blk_cell BK517.out 0).trans rfl
      have hcz54_1 : w37.cell? ⟨gb517, 1, none⟩ = some (.slice Ao33 t510.length co33) := (blk_cell BK517.out 1).trans rfl
      have hcz54_2 : w37.cell? ⟨gb517, 2, none⟩ = some (.bool t513) := (blk_cell BK517.out 2).trans rfl
      have hfz54_0 := blk_frozen BK517.out 0
      have hfz54_1 := blk_frozen BK517.out 1
      have hfz54_2 := blk_frozen BK517.out 2
      go_wp2
      go_meet
      case rel => exact ⟨_, (true), (by first | rfl | (simp; done) | (simp [*]; done)), H', ⟨by first | omega | exact Nat.le_refl _⟩, ⟨by (with_reducible repeat (first | apply Kd.R_alloc | apply Kd.R_drewN | apply Kd.R_drew)); exact Kd.R_mono HO520.out (fun _ hk => hk.2)⟩, ⟨by (with_reducible repeat (first | apply Kd.R_alloc | apply Kd.R_drewN | apply Kd.R_drew)); exact Kd.R_mono HO523.out (fun _ hk => hk.2)⟩, ⟨by (with_reducible repeat (first | apply Kd.S_alloc | apply Kd.S_drewN | apply Kd.S_drew)); exact Kd.S_mono HO490.out (fun _ hk => ⟨hk.1.1.1.1.1.1, ⟨hk.1.1.1.1.1.2, ⟨hk.1.1.1.1.2, ⟨hk.1.1.2, hk.1.2⟩⟩⟩⟩)⟩, ⟨by (with_reducible repeat (first | apply Kd.R_alloc | apply Kd.R_drewN | apply Kd.R_drew)); exact Kd.R_mono HO493.out (fun _ hk => ⟨hk.1.1.1.2, hk.1.2⟩)⟩, ⟨by (with_reducible repeat (first | apply Kd.S_alloc | apply Kd.S_drewN | apply Kd.S_drew)); exact Kd.S_mono HO498.out (fun _ hk => ⟨hk.1.1.1.1.2, ⟨hk.1.1.1.2, ⟨hk.1.1.1.1.1.1, ⟨hk.1.1.2, hk.1.2⟩⟩⟩⟩)⟩, ⟨by (with_reducible repeat (first | apply Kd.R_alloc | apply Kd.R_drewN | apply Kd.R_drew)); exact Kd.R_mono HO501.out (fun _ hk => ⟨hk.1.1.2, hk.1.2⟩)⟩, ⟨by (with_reducible repeat (first | apply Kd.S_alloc | apply Kd.S_drewN | apply Kd.S_drew)); exact Kd.S_mono HO509.out (fun _ hk => ⟨hk.1.1.1.1.2, ⟨hk.1.1.1.2, ⟨hk.1.1.2, ⟨hk.1.2, hk.1.1.1.1.1.1⟩⟩⟩⟩)⟩, ⟨by (with_reducible repeat (first | apply Kd.R_alloc | apply Kd.R_drewN | apply Kd.R_drew)); exact Kd.R_mono HO512.out (fun _ hk => ⟨hk.1.1.2, hk.1.2⟩)⟩, ⟨by (with_reducible repeat (first | refine blk_drewN ?_ _ | refine blk_drew ?_ | refine blk_alloc ?_ _)); exact BK495.out⟩, ⟨by (with_reducible repeat (first | refine blk_drewN ?_ _ | refine blk_drew ?_ | refine blk_alloc ?_ _)); exact BK506.out⟩, ⟨by (with_reducible repeat (first | refine blk_drewN ?_ _ | refine blk_drew ?_ | refine blk_alloc ?_ _)); exact BK517.out⟩, ⟨by repeat (first | (with_reducible first | exact HB.out | apply below_alloc | apply pw_below_drewN | apply below_drew1 | refine below_set ?_ GE495.out | refine below_set ?_ GE506.out | refine below_set ?_ GE517.out) | exact HB.out)⟩⟩
    ·
     rw [if_neg c39] at H
     have c39b0 : ((t521.length : Int) == (t510.length : Int)) = false := beq_eq_false_iff_ne.mpr c39
     have c39b1 : ((t521.length : Int) != (t510.length : Int)) = true := bne_iff_ne.mpr c39
     have c39b2 : (t521.length == t510.length) = false := by first | simpa using c39 | (simp at c39 ⊢; omega)
     have H' := Aside0.mk H
     clear H
     obtain ⟨Ao55, co55, eo55⟩ := Kd.R_slice HO520.out
     subst eo55
     have hnb56 := NB506_495.out
     have hnc56 := NB495_506.out
     have hnb57 := NB506_517.out
     have hnc57 := NB517_506.out
     have hcz58_0 : w37.cell? ⟨gb506, 0, none⟩ = some (.slice Ao22 t496.length co22) := (blk_cell BK506.out 0).trans rfl
     have hcz58_1 : w37.cell? ⟨gb506, 1, none⟩ = some (.slice Ao25 t499.length co25) := (blk_cell BK506.out 1).trans rfl
     have hcz58_2 : w37.cell? ⟨gb506, 2, none⟩ = some (.bool t502) := (blk_cell BK506.out 2).trans rfl
     have hfz58_0 := blk_frozen BK506.out 0
     have hfz58_1 := blk_frozen BK506.out 1
     have hfz58_2 := blk_frozen BK506.out 2
     obtain ⟨Ao59, co59, eo59⟩ := Kd.R_slice HO523.out
     subst eo59
     have hnb60 := NB517_495.out
     have hnc60 := NB495_517.out
     have hcz61_0 : w37.cell? ⟨gb517, 0, none⟩ = some (.slice Ao29 t507.length co29) := (blk_cell BK517.out 0).trans rfl
     have hcz61_1 : w37.cell? ⟨gb517, 1, none⟩ = some (.slice Ao33 t510.length co33) := (blk_cell BK517.out 1).trans rfl
     have hcz61_2 : w37.cell? ⟨gb517, 2, none⟩ = some (.bool t513) := (blk_cell BK517.out 2).trans rfl
     have hfz61_0 := blk_frozen BK517.out 0
     have hfz61_1 := blk_frozen BK517.out 1
     have hfz61_2 := blk_frozen BK517.out 2
     go_wp2
     go_meet
     case rel => exact ⟨_, (true), (by first | rfl | (simp; done) | (simp [*]; done)), H', ⟨by first | omega | exact Nat.le_refl _⟩, ⟨by (with_reducible repeat (first | apply Kd.R_alloc | apply Kd.R_drewN | apply Kd.R_drew)); exact Kd.R_mono HO520.out (fun _ hk => hk.2)⟩, ⟨by (with_reducible repeat (first | apply Kd.R_alloc | apply Kd.R_drewN | apply Kd.R_drew)); exact Kd.R_mono HO523.out (fun _ hk => hk.2)⟩, ⟨by (with_reducible repeat (first | apply Kd.S_alloc | apply Kd.S_drewN | apply Kd.S_drew)); exact Kd.S_mono HO490.out (fun _ hk => ⟨hk.1.1.1.1.1.1, ⟨hk.1.1.1.1.1.2, ⟨hk.1.1.1.1.2, ⟨hk.1.1.2, hk.1.2⟩⟩⟩⟩)⟩, ⟨by (with_reducible repeat (first | apply Kd.R_alloc | apply Kd.R_drewN | apply Kd.R_drew)); exact Kd.R_mono HO493.out (fun _ hk => ⟨hk.1.1.1.2, hk.1.2⟩)⟩, ⟨by (with_reducible repeat (first | apply Kd.S_alloc | apply Kd.S_drewN | apply Kd.S_drew)); exact Kd.S_mono HO498.out (fun _ hk => ⟨hk.1.1.1.1.2, ⟨hk.1.1.1.2, ⟨hk.1.1.1.1.1.1, ⟨hk.1.1.2, hk.1.2⟩⟩⟩⟩)⟩, ⟨by (with_reducible repeat (first | apply Kd.R_alloc | apply Kd.R_drewN | apply Kd.R_drew)); exact Kd.R_mono HO501.out (fun _ hk => ⟨hk.1.1.2, hk.1.2⟩)⟩, ⟨by (with_reducible repeat (first | apply Kd.S_alloc | apply Kd.S_drewN | apply Kd.S_drew)); exact Kd.S_mono HO509.out (fun _ hk => ⟨hk.1.1.1.1.2, ⟨hk.1.1.1.2, ⟨hk.1.1.2, ⟨hk.1.2, hk.1.1.1.1.1.1⟩⟩⟩⟩)⟩, ⟨by (with_reducible repeat (first | apply Kd.R_alloc | apply Kd.R_drewN | apply Kd.R_drew)); exact Kd.R_mono HO512.out (fun _ hk => ⟨hk.1.1.2, hk.1.2⟩)⟩, ⟨by (with_reducible repeat (first | refine blk_drewN ?_ _ | refine blk_drew ?_ | refine blk_alloc ?_ _)); exact BK495.out⟩, ⟨by (with_reducible repeat (first | refine blk_drewN ?_ _ | refine blk_drew ?_ | refine blk_alloc ?_ _)); exact BK506.out⟩, ⟨by (with_reducible repeat (first | refine blk_drewN ?_ _ | refine blk_drew ?_ | refine blk_alloc ?_ _)); exact BK517.out⟩, ⟨by repeat (first | (with_reducible first | exact HB.out | apply below_alloc | apply pw_below_drewN | apply below_drew1 | refine below_set ?_ GE495.out | refine below_set ?_ GE506.out | refine below_set ?_ GE517.out) | exact HB.out)⟩⟩
   ·
    rw [if_neg c38] at H
    have c38b0 : ((t518.length : Int) == (t499.length : Int)) = false := beq_eq_false_iff_ne.mpr c38
    have c38b1 : ((t518.length : Int) != (t499.length : Int)) = true := bne_iff_ne.mpr c38
    have c38b2 : (t518.length == t499.length) = false := by first | simpa using c38 | (simp at c38 ⊢; omega)
    (first | rw [c38b0] | (simp only [i64_w, i32_w]; rw [c38b0]) | skip)
    have H' := Aside0.mk H
    clear H
    obtain ⟨Ao62, co62, eo62⟩ := Kd.R_slice HO520.out
    subst eo62
    have hnb63 := NB506_495.out
    have hnc63 := NB495_506.out
    have hnb64 := NB506_517.out
    have hnc64 := NB517_506.out
    have hcz65_0 : w37.cell? ⟨gb506, 0, none⟩ = some (.slice Ao22 t496.length co22) := (blk_cell BK506.out 0).trans rfl
    have hcz65_1 : w37.cell? ⟨gb506, 1, none⟩ = some (.slice Ao25 t499.length co25) := (blk_cell BK506.out 1).trans rfl
    have hcz65_2 : w37.cell? ⟨gb506, 2, none⟩ = some (.bool t502) := (blk_cell BK506.out 2).trans rfl
    have hfz65_0 := blk_frozen BK506.out 0
    have hfz65_1 := blk_frozen BK506.out 1
    have hfz65_2 := blk_frozen BK506.out 2
    go_wp2
    go_meet
    case rel => exact ⟨_, (true), (by first | rfl | (simp; done) | (simp [*]; done)), H', ⟨by first | omega | exact Nat.le_refl _⟩, ⟨by (with_reducible repeat (first | apply Kd.R_alloc | apply Kd.R_drewN | apply Kd.R_drew)); exact Kd.R_mono HO520.out (fun _ hk => hk.2)⟩, ⟨by (with_reducible repeat (first | apply Kd.R_alloc | apply Kd.R_drewN | apply Kd.R_drew)); exact Kd.R_mono HO523.out (fun _ hk => hk.2)⟩, ⟨by (with_reducible repeat (first | apply Kd.S_alloc | apply Kd.S_drewN | apply Kd.S_drew)); exact Kd.S_mono HO490.out (fun _ hk => ⟨hk.1.1.1.1.1.1, ⟨hk.1.1.1.1.1.2, ⟨hk.1.1.1.1.2, ⟨hk.1.1.2, hk.1.2⟩⟩⟩⟩)⟩, ⟨by (with_reducible repeat (first | apply Kd.R_alloc | apply Kd.R_drewN | apply Kd.R_drew)); exact Kd.R_mono HO493.out (fun _ hk => ⟨hk.1.1.1.2, hk.1.2⟩)⟩, ⟨by (with_reducible repeat (first | apply Kd.S_alloc | apply Kd.S_drewN | apply Kd.S_drew)); exact Kd.S_mono HO498.out (fun _ hk => ⟨hk.1.1.1.1.2, ⟨hk.1.1.1.2, ⟨hk.1.1.1.1.1.1, ⟨hk.1.1.2, hk.1.2⟩⟩⟩⟩)⟩, ⟨by (with_reducible repeat (first | apply Kd.R_alloc | apply Kd.R_drewN | apply Kd.R_drew)); exact Kd.R_mono HO501.out (fun _ hk => ⟨hk.1.1.2, hk.1.2⟩)⟩, ⟨by (with_reducible repeat (first | apply Kd.S_alloc | apply Kd.S_drewN | apply Kd.S_drew)); exact Kd.S_mono HO509.out (fun _ hk => ⟨hk.1.1.1.1.2, ⟨hk.1.1.1.2, ⟨hk.1.1.2, ⟨hk.1.2, hk.1.1.1.1.1.1⟩⟩⟩⟩)⟩, ⟨by (with_reducible repeat (first | apply Kd.R_alloc | apply Kd.R_drewN | apply Kd.R_drew)); exact Kd.R_mono HO512.out (fun _ hk => ⟨hk.1.1.2, hk.1.2⟩)⟩, ⟨by (with_reducible repeat (first | refine blk_drewN ?_ _ | refine blk_drew ?_ | refine blk_alloc ?_ _)); exact BK495.out⟩, ⟨by (with_reducible repeat (first | refine blk_drewN ?_ _ | refine blk_drew ?_ | refine blk_alloc ?_ _)); exact BK506.out⟩, ⟨by (with_reducible repeat (first | refine blk_drewN ?_ _ | refine blk_drew ?_ | refine blk_alloc ?_ _)); exact BK517.out⟩, ⟨by repeat (first | (with_reducible first | exact HB.out | apply below_alloc | apply pw_below_drewN | apply below_drew1 | refine below_set ?_ GE495.out | refine below_set ?_ GE506.out | refine below_set ?_ GE517.out) | exact HB.out)⟩⟩
  case rest =>
   clear HC13
   try clear c1
   try clear c2
   try clear p2
   try clear c3
   try clear c4
   try clear c5
   try clear c6
   try clear c7
   try clear c11
   try clear c14
   try clear c20
   try clear c23
   try clear c30
   try clear c31
   try clear c32
   try clear c33
   try clear c35
   try clear c38
   try clear c38b0
   try clear c38b1
   try clear c38b2
   try clear c39
   try clear c39b0
   try clear c39b1
   try clear c39b2
   try clear c40
   try clear c40b0
   try clear c40b1
   try clear c40b2
   try clear c42
   try clear c43
   try clear c46
   try clear c49
   try clear c50
   try clear c53
   try clear c56
   try clear c57
   try clear c60
   try clear c63
   try clear c64
   try clear hcz18_0
   try clear hcz18_1
   try clear hcz18_2
   try clear hcz24_0
   try clear hcz24_1
   try clear hcz24_2
   try clear hcz26_0
   try clear hcz26_1
   try clear hcz26_2
   try clear hcz32_0
   try clear hcz32_1
   try clear hcz32_2
   try clear hcz34_0
   try clear hcz34_1
   try clear hcz34_2
   try clear hcz36_0
   try clear hcz36_1
   try clear hcz36_2
   try clear hcz44_0
   try clear hcz44_1
   try clear hcz44_2
   try clear hcz47_0
   try clear hcz47_1
   try clear hcz47_2
   try clear hcz51_0
   try clear hcz51_1
   try clear hcz51_2
   try clear hcz54_0
   try clear hcz54_1
   try clear hcz54_2
   try clear hcz58_0
   try clear hcz58_1
   try clear hcz58_2
   try clear hcz61_0
   try clear hcz61_1
   try clear hcz61_2
   try clear hcz65_0
   try clear hcz65_1
   try clear hcz65_2
   try clear hfz18_0
   try clear hfz18_1
   try clear hfz18_2
   try clear hfz24_0
   try clear hfz24_1
   try clear hfz24_2
   try clear hfz26_0
   try clear hfz26_1
   try clear hfz26_2
   try clear hfz32_0
   try clear hfz32_1
   try clear hfz32_2
   try clear hfz34_0
   try clear hfz34_1
   try clear hfz34_2
   try clear hfz36_0
   try clear hfz36_1
   try clear hfz36_2
   try clear hfz44_0
   try clear hfz44_1
   try clear hfz44_2
   try clear hfz47_0
   try clear hfz47_1
   try clear hfz47_2
   try clear hfz51_0
   try clear hfz51_1
   try clear hfz51_2
   try clear hfz54_0
   try clear hfz54_1
   try clear hfz54_2
   try clear hfz58_0
   try clear hfz58_1
   try clear hfz58_2
   try clear hfz61_0
   try clear hfz61_1
   try clear hfz61_2
   try clear hfz65_0
   try clear hfz65_1
   try clear hfz65_2
   obtain ⟨kq, x77_12, rfl, HA, HJ12, HO_15, HO_16, O0, O1, O2, O3, O4, O5, BK495, BK506, BK517, HB⟩ := hcut
   cases kq with
   | zero => exact absurd HA.out (by simp [bywashlaw15_DomupFound.j0])
   | succ kj12 =>
    have H := HA.out
    clear HA
    simp only [bywashlaw15_DomupFound.j0] at H
    by_cases c66 : x77_12 = true
    ·
     subst c66
     have H1 : (some false) = some r := by rw [if_pos rfl] at H; exact H
     clear H
     have H := H1
     clear H1
     obtain rfl := Option.some.inj H
     go_wp2
     go_ret
     exact ⟨by first | rfl | (simp [errW_none, errW_some] <;> rfl) | (simp [*, errW_none, errW_some] <;> rfl) | (exfalso; (try simp_all); (try omega); done), by repeat (first | (with_reducible first | exact HB.out | apply below_alloc | apply pw_below_drewN | apply below_drew1 | refine below_set ?_ GE495.out | refine below_set ?_ GE506.out | refine below_set ?_ GE517.out) | exact HB.out)⟩
    ·
     replace c66 := Bool.eq_false_iff.mpr c66
     subst c66
     have H1 : (bywashlaw15_DomupFound.l0 kj12 l0 a3 t486 t518 t521 0 t488 t491 t494 t496 t499 t502 t507 t510 t513) = some r := by rw [if_neg (show ¬ (false = true) by decide)] at H; exact H
     clear H
     have H := H1
     clear H1
     have H' := Aside0.mk H
     clear H
     go_wp2
     go_loopg [17] kj12 (fun kq v17 w' => ∃ (x17_2 : Int), v17 = .int .i64 x17_2 ∧ Aside0 (bywashlaw15_DomupFound.l0 kq l0 a3 t486 t518 t521 x17_2 t488 t491 t494 t496 t499 t502 t507 t510 t513 = some r) ∧ Aside0 (kq ≤ kj12) ∧ Aside0 (Kd.R Kd.bool 4 w' w.heap.size (fun k_ => some k_ ≠ (v522 : Value).ownBlock) v519 t518) ∧ Aside0 (Kd.R Kd.bool 4 w' w.heap.size (fun k_ => some k_ ≠ (v519 : Value).ownBlock) v522 t521) ∧ Aside0 (Kd.S (Kd.slice 3 (Kd.int .i64)) 25 w' w.heap.size (fun k_ => some k_ ≠ ((.slice Ao19 t491.length co19) : Value).ownBlock ∧ some k_ ≠ ((.slice Ao22 t496.length co22) : Value).ownBlock ∧ some k_ ≠ ((.slice Ao25 t499.length co25) : Value).ownBlock ∧ some k_ ≠ ((.slice Ao29 t507.length co29) : Value).ownBlock ∧ some k_ ≠ ((.slice Ao33 t510.length co33) : Value).ownBlock) (.slice Ao17 t488.length co17) t488) ∧ Aside0 (Kd.R (Kd.int .i64) 3 w' w.heap.size (fun k_ => some k_ ≠ ((.slice Ao25 t499.length co25) : Value).ownBlock ∧ some k_ ≠ ((.slice Ao33 t510.length co33) : Value).ownBlock) (.slice Ao19 t491.length co19) t491) ∧ Aside0 (Kd.S (Kd.slice 3 (Kd.int .i64)) 25 w' w.heap.size (fun k_ => some k_ ≠ ((.slice Ao17 t488.length co17) : Value).ownBlock ∧ some k_ ≠ ((.slice Ao19 t491.length co19) : Value).ownBlock ∧ some k_ ≠ ((.slice Ao25 t499.length co25) : Value).ownBlock ∧ some k_ ≠ ((.slice Ao29 t507.length co29) : Value).ownBlock ∧ some k_ ≠ ((.slice Ao33 t510.length co33) : Value).ownBlock) (.slice Ao22 t496.length co22) t496) ∧ Aside0 (Kd.R (Kd.int .i64) 3 w' w.heap.size (fun k_ => some k_ ≠ ((.slice Ao19 t491.length co19) : Value).ownBlock ∧ some k_ ≠ ((.slice Ao33 t510.length co33) : Value).ownBlock) (.slice Ao25 t499.length co25) t499) ∧ Aside0 (Kd.S (Kd.slice 3 (Kd.int .i64)) 25 w' w.heap.size (fun k_ => some k_ ≠ ((.slice Ao17 t488.length co17) : Value).ownBlock ∧ some k_ ≠ ((.slice Ao19 t491.length co19) : Value).ownBlock ∧ some k_ ≠ ((.slice Ao22 t496.length co22) : Value).ownBlock ∧ some k_ ≠ ((.slice Ao25 t499.length co25) : Value).ownBlock ∧ some k_ ≠ ((.slice Ao33 t510.length co33) : Value).ownBlock) (.slice Ao29 t507.length co29) t507) ∧ Aside0 (Kd.R (Kd.int .i64) 3 w' w.heap.size (fun k_ => some k_ ≠ ((.slice Ao19 t491.length co19) : Value).ownBlock ∧ some k_ ≠ ((.slice Ao25 t499.length co25) : Value).ownBlock) (.slice Ao33 t510.length co33) t510) ∧ Aside0 (w'.heap[gb495]? = some (.cells #[(.slice Ao17 t488.length co17), (.slice Ao19 t491.length co19), .bool t494] 40 (0, 0))) ∧ Aside0 (w'.heap[gb506]? = some (.cells #[(.slice Ao22 t496.length co22), (.slice Ao25 t499.length co25), .bool t502] 40 (0, 0))) ∧ Aside0 (w'.heap[gb517]? = some (.cells #[(.slice Ao29 t507.length co29), (.slice Ao33 t510.length co33), .bool t513] 40 (0, 0))) ∧ Aside0 (Below w.heap.size w w'))
     case atStart => exact ⟨(0), (by first | rfl | (simp; done) | (simp [*]; done)), H', ⟨Nat.le_refl _⟩, ⟨by (with_reducible repeat (first | apply Kd.R_alloc | apply Kd.R_drewN | apply Kd.R_drew)); exact HO_15.out⟩, ⟨by (with_reducible repeat (first | apply Kd.R_alloc | apply Kd.R_drewN | apply Kd.R_drew)); exact HO_16.out⟩, ⟨by (with_reducible repeat (first | apply Kd.S_alloc | apply Kd.S_drewN | apply Kd.S_drew)); exact O0.out⟩, ⟨by (with_reducible repeat (first | apply Kd.R_alloc | apply Kd.R_drewN | apply Kd.R_drew)); exact O1.out⟩, ⟨by (with_reducible repeat (first | apply Kd.S_alloc | apply Kd.S_drewN | apply Kd.S_drew)); exact O2.out⟩, ⟨by (with_reducible repeat (first | apply Kd.R_alloc | apply Kd.R_drewN | apply Kd.R_drew)); exact O3.out⟩, ⟨by (with_reducible repeat (first | apply Kd.S_alloc | apply Kd.S_drewN | apply Kd.S_drew)); exact O4.out⟩, ⟨by (with_reducible repeat (first | apply Kd.R_alloc | apply Kd.R_drewN | apply Kd.R_drew)); exact O5.out⟩, ⟨by (with_reducible repeat (first | refine blk_drewN ?_ _ | refine blk_drew ?_ | refine blk_alloc ?_ _)); exact BK495.out⟩, ⟨by (with_reducible repeat (first | refine blk_drewN ?_ _ | refine blk_drew ?_ | refine blk_alloc ?_ _)); exact BK506.out⟩, ⟨by (with_reducible repeat (first | refine blk_drewN ?_ _ | refine blk_drew ?_ | refine blk_alloc ?_ _)); exact BK517.out⟩, ⟨by repeat (first | (with_reducible first | exact HB.out | apply below_alloc | apply pw_below_drewN | apply below_drew1 | refine below_set ?_ GE495.out | refine below_set ?_ GE506.out | refine below_set ?_ GE517.out) | exact HB.out)⟩⟩
     case round =>
      clear H'
      try clear c1
      try clear c2
      try clear p2
      try clear c3
      try clear c4
      try clear c5
      try clear c6
      try clear c7
      try clear c11
      try clear c14
      try clear c20
      try clear c23
      try clear c30
      try clear c31
      try clear c32
      try clear c33
      try clear c35
      try clear c38
      try clear c38b0
      try clear c38b1
      try clear c38b2
      try clear c39
      try clear c39b0
      try clear c39b1
      try clear c39b2
      try clear c40
      try clear c40b0
      try clear c40b1
      try clear c40b2
      try clear c42
      try clear c43
      try clear c46
      try clear c49
      try clear c50
      try clear c53
      try clear c56
      try clear c57
      try clear c60
      try clear c63
      try clear c64
      try clear c66
      try clear hcz18_0
      try clear hcz18_1
      try clear hcz18_2
      try clear hcz24_0
      try clear hcz24_1
      try clear hcz24_2
      try clear hcz26_0
      try clear hcz26_1
      try clear hcz26_2
      try clear hcz32_0
      try clear hcz32_1
      try clear hcz32_2
      try clear hcz34_0
      try clear hcz34_1
      try clear hcz34_2
      try clear hcz36_0
      try clear hcz36_1
      try clear hcz36_2
      try clear hcz44_0
      try clear hcz44_1
      try clear hcz44_2
      try clear hcz47_0
      try clear hcz47_1
      try clear hcz47_2
      try clear hcz51_0
      try clear hcz51_1
      try clear hcz51_2
      try clear hcz54_0
      try clear hcz54_1
      try clear hcz54_2
      try clear hcz58_0
      try clear hcz58_1
      try clear hcz58_2
      try clear hcz61_0
      try clear hcz61_1
      try clear hcz61_2
      try clear hcz65_0
      try clear hcz65_1
      try clear hcz65_2
      try clear hfz18_0
      try clear hfz18_1
      try clear hfz18_2
      try clear hfz24_0
      try clear hfz24_1
      try clear hfz24_2
      try clear hfz26_0
      try clear hfz26_1
      try clear hfz26_2
      try clear hfz32_0
      try clear hfz32_1
      try clear hfz32_2
      try clear hfz34_0
      try clear hfz34_1
      try clear hfz34_2
      try clear hfz36_0
      try clear hfz36_1
      try clear hfz36_2
      try clear hfz44_0
      try clear hfz44_1
      try clear hfz44_2
      try clear hfz47_0
      try clear hfz47_1
      try clear hfz47_2
      try clear hfz51_0
      try clear hfz51_1
      try clear hfz51_2
      try clear hfz54_0
      try clear hfz54_1
      try clear hfz54_2
      try clear hfz58_0
      try clear hfz58_1
      try clear hfz58_2
      try clear hfz61_0
      try clear hfz61_1
      try clear hfz61_2
      try clear hfz65_0
      try clear hfz65_1
      try clear hfz65_2
      try clear p2
      obtain ⟨x17_2, rfl, HA, HK2, HO_15, HO_16, O0, O1, O2, O3, O4, O5, BK495, BK506, BK517, HB⟩ := hrel
      cases gk with
      | zero => exact absurd HA.out (by simp [bywashlaw15_DomupFound.l0])
      | succ k2 =>
       have H := HA.out
       clear HA
       simp only [bywashlaw15_DomupFound.l0] at H
       by_cases c67 : x17_2 < (l0.length : Int)
       ·
        rw [if_pos c67] at H
        have c67b0 : decide (x17_2 < (l0.length : Int)) = true := decide_eq_true c67
        clear c67
        by_cases c68 : 0 ≤ x17_2
        ·
         rw [if_pos c68] at H
         have c68b0 : decide (0 ≤ x17_2) = true := decide_eq_true c68
         clear c68
         by_cases c69 : x17_2 < (t518.length : Int)
         ·
          rw [if_pos c69] at H
          have c69b0 : decide (x17_2 < (t518.length : Int)) = true := decide_eq_true c69
          clear c69
          by_cases c70 : x17_2 < (t499.length : Int)
          ·
           rw [if_pos c70] at H
           have c70b0 : decide (x17_2 < (t499.length : Int)) = true := decide_eq_true c70
           clear c70
           by_cases c71 : ((rdOf false t518 x17_2) == ((rd t499 x17_2) == (-2))) = true
           ·
            rw [if_pos c71] at H
            exact absurd (Option.some.inj H) (by rw [HRT.out]; decide)
           ·
            rw [if_neg c71] at H
            have c71b0 : ((rdOf false t518 x17_2) == ((rd t499 x17_2) == (-2))) = false := by simpa using c71
            (try (have c71b1 : decide ((rdOf false t518 x17_2) = ((rd t499 x17_2) == (-2))) = false := by simpa using c71))
            (try (have c71b2 : ((rdOf false t518 x17_2) == ((rd t499 x17_2) == (-2))) = false := by simpa using c71))
            (try (have c71b3 : ¬ ((rdOf false t518 x17_2) = ((rd t499 x17_2) == (-2))) := by simpa using c71))
            clear c71
            by_cases c74 : x17_2 < (t521.length : Int)
            ·
             rw [if_pos c74] at H
             have c74b0 : decide (x17_2 < (t521.length : Int)) = true := decide_eq_true c74
             clear c74
             by_cases c75 : x17_2 < (t510.length : Int)
             ·
              rw [if_pos c75] at H
              have c75b0 : decide (x17_2 < (t510.length : Int)) = true := decide_eq_true c75
              clear c75
              by_cases c76 : ((rdOf false t521 x17_2) == ((rd t510 x17_2) == (-2))) = true
              ·
               rw [if_pos c76] at H
               exact absurd (Option.some.inj H) (by rw [HRT.out]; decide)
              ·
               rw [if_neg c76] at H
               have c76b0 : ((rdOf false t521 x17_2) == ((rd t510 x17_2) == (-2))) = false := by simpa using c76
               (try (have c76b1 : decide ((rdOf false t521 x17_2) = ((rd t510 x17_2) == (-2))) = false := by simpa using c76))
               (try (have c76b2 : ((rdOf false t521 x17_2) == ((rd t510 x17_2) == (-2))) = false := by simpa using c76))
               (try (have c76b3 : ¬ ((rdOf false t521 x17_2) = ((rd t510 x17_2) == (-2))) := by simpa using c76))
               clear c76
               have H' := Aside0.mk H
               clear H
               try go_wp2
               have n0_ := Aside0.mk (Kd.R_drew HO_15.out)
               have n1_ := Aside0.mk (Kd.R_drew HO_16.out)
               have n2_ := Aside0.mk (Kd.S_drew O0.out)
               have n3_ := Aside0.mk (Kd.R_drew O1.out)
               have n4_ := Aside0.mk (Kd.S_drew O2.out)
               have n5_ := Aside0.mk (Kd.R_drew O3.out)
               have n6_ := Aside0.mk (Kd.S_drew O4.out)
               have n7_ := Aside0.mk (Kd.R_drew O5.out)
               have n8_ := Aside0.mk (blk_drew BK495.out)
               have n9_ := Aside0.mk (blk_drew BK506.out)
               have n10_ := Aside0.mk (blk_drew BK517.out)
               have n11_ := Aside0.mk (below_drew1 HB.out)
               clear HO_15 HO_16 O0 O1 O2 O3 O4 O5 BK495 BK506 BK517 HB
               have HO_15 := n0_
               have HO_16 := n1_
               have O0 := n2_
               have O1 := n3_
               have O2 := n4_
               have O3 := n5_
               have O4 := n6_
               have O5 := n7_
               have BK495 := n8_
               have BK506 := n9_
               have BK517 := n10_
               have HB := n11_
               clear n0_ n1_ n2_ n3_ n4_ n5_ n6_ n7_ n8_ n9_ n10_ n11_
               obtain ⟨Ao81, co81, eo81⟩ := Kd.R_slice HO_15.out
               (first | subst eo81 | (injection eo81 with f1_ f2_ f3_; have f4_ := f1_.symm; have f5_ := f3_.symm; clear f1_ f2_ f3_; subst f4_; subst f5_))
               have p524 : 0 ≤ (x17_2 : Int) := of_decide_eq_true (by first | (with_reducible assumption) | assumption)
               have q524 : x17_2 < (t518.length : Int) := of_decide_eq_true (by first | (with_reducible assumption) | assumption)
               obtain ⟨ad524, e524, hx524_0⟩ := Kd.at_bool (Kd.R_reads' HO_15.out).2.2 x17_2 p524 q524
               cases e524
               replace p524 := eq_true p524
               replace q524 := eq_true q524
               have p525 : 0 ≤ (x17_2 : Int) := of_decide_eq_true (by first | (with_reducible assumption) | assumption)
               have q525 : x17_2 < (t499.length : Int) := of_decide_eq_true (by first | (with_reducible assumption) | assumption)
               obtain ⟨ad525, e525, hx525_0⟩ := Kd.at_int (Kd.R_reads' O3.out).2.2 x17_2 p525 q525
               cases e525
               replace p525 := eq_true p525
               replace q525 := eq_true q525
               obtain ⟨Ao82, co82, eo82⟩ := Kd.R_slice HO_16.out
               (first | subst eo82 | (injection eo82 with f1_ f2_ f3_; have f4_ := f1_.symm; have f5_ := f3_.symm; clear f1_ f2_ f3_; subst f4_; subst f5_))
               have p526 : 0 ≤ (x17_2 : Int) := of_decide_eq_true (by first | (with_reducible assumption) | assumption)
               have q526 : x17_2 < (t521.length : Int) := of_decide_eq_true (by first | (with_reducible assumption) | assumption)
               obtain ⟨ad526, e526, hx526_0⟩ := Kd.at_bool (Kd.R_reads' HO_16.out).2.2 x17_2 p526 q526
               cases e526
               replace p526 := eq_true p526
               replace q526 := eq_true q526
               have p527 : 0 ≤ (x17_2 : Int) := of_decide_eq_true (by first | (with_reducible assumption) | assumption)
               have q527 : x17_2 < (t510.length : Int) := of_decide_eq_true (by first | (with_reducible assumption) | assumption)
               obtain ⟨ad527, e527, hx527_0⟩ := Kd.at_int (Kd.R_reads' O5.out).2.2 x17_2 p527 q527
               cases e527
               replace p527 := eq_true p527
               replace q527 := eq_true q527
               refine start_ (n := 24) (S := fun w' => w'.cell? ⟨gb506, 0, none⟩ = some (.slice Ao22 t496.length co22) ∧ w'.cell? ⟨gb506, 1, none⟩ = some (.slice (some ad525) t499.length co25) ∧ w'.cell? ⟨gb506, 2, none⟩ = some (.bool t502) ∧ w'.cell? ⟨gb517, 0, none⟩ = some (.slice Ao29 t507.length co29) ∧ w'.cell? ⟨gb517, 1, none⟩ = some (.slice (some ad527) t510.length co33) ∧ w'.cell? ⟨gb517, 2, none⟩ = some (.bool t513) ∧ w'.cell? (ad524.add (x17_2).toNat) = some (.bool (rdOf false t518 x17_2)) ∧ w'.cell? (ad525.add (x17_2).toNat) = some (.int .i64 (rd t499 x17_2)) ∧ w'.cell? (ad526.add (x17_2).toNat) = some (.bool (rdOf false t521 x17_2)) ∧ w'.cell? (ad527.add (x17_2).toNat) = some (.int .i64 (rd t510 x17_2))) (ds := []) (mm [(24, false)]) (by kernel_rfl) rfl rfl ⟨(blk_cell BK506.out 0).trans rfl, (blk_cell BK506.out 1).trans rfl, (blk_cell BK506.out 2).trans rfl, (blk_cell BK517.out 0).trans rfl, (blk_cell BK517.out 1).trans rfl, (blk_cell BK517.out 2).trans rfl, hx524_0, hx525_0, hx526_0, hx527_0⟩ (fun hHeld => ?_); refine with_tabW bywashlaw15_DomupFound.tab14 bywashlaw15_DomupFound.bits14 (fun HT_ HW_ => ?_)
               generalize wr.drew = w80 at HO_15 HO_16 O0 O1 O2 O3 O4 O5 BK495 BK506 BK517 HB hx524_0 hx525_0 hx526_0 hx527_0 hHeld ⊢
               refine pure_ (i := 0) (N := some 84) (v := ?_) (a' := ?_) (mm [(1, true), (23, false)]) rfl rfl (any_of HT_.out (by kernel_rfl)) (fun _ _ _ h => h) (Or.inl ⟨by rfl, ?_⟩) ?_ ?_
               rotate_left
               ·
                intro w'
                go_simp
                with_reducible rfl
               rotate_left
               ·
                simp only [Act.put, za_, zb_, zc_, i64_w, i32_w]
                rfl
               refine pure_ (i := 1) (N := some 85) (v := ?_) (a' := ?_) (mm [(2, true), (22, false)]) rfl rfl (any_of HT_.out (by kernel_rfl)) (fun _ _ _ h => h) (Or.inl ⟨by rfl, ?_⟩) ?_ ?_
               rotate_left
               ·
                intro w'
                go_simp
                with_reducible rfl
               rotate_left
               ·
                simp only [Act.put, za_, zb_, zc_, i64_w, i32_w]
                rfl
               refine pure_ (i := 2) (N := some 86) (v := ?_) (a' := ?_) (mm [(3, true), (21, false)]) rfl rfl (any_of HT_.out (by kernel_rfl)) (fun _ _ _ h => h) (Or.inl ⟨by rfl, ?_⟩) ?_ ?_
               rotate_left
               ·
                intro w'
                go_simp
                with_reducible rfl
               rotate_left
               ·
                simp only [Act.put, za_, zb_, zc_, i64_w, i32_w]
                rfl
               refine pure_ (i := 4) (N := some 88) (v := ?_) (a' := ?_) (mm [(3, true), (1, false), (1, true), (19, false)]) rfl rfl (any_of HT_.out (by kernel_rfl)) (fun _ _ _ h => h) (Or.inl ⟨by rfl, ?_⟩) ?_ ?_
               rotate_left
               ·
                intro w'
                go_simp
                with_reducible rfl
               rotate_left
               ·
                simp only [Act.put, za_, zb_, zc_, i64_w, i32_w]
                rfl
               refine pure_ (i := 6) (N := some 90) (v := ?_) (a' := ?_) (mm [(3, true), (1, false), (1, true), (1, false), (1, true), (17, false)]) rfl rfl (any_of HT_.out (by kernel_rfl)) (fun _ _ _ h => h) (Or.inl ⟨by rfl, ?_⟩) ?_ ?_
               rotate_left
               ·
                intro w'
                go_simp
                with_reducible rfl
               rotate_left
               ·
                simp only [Act.put, za_, zb_, zc_, i64_w, i32_w]
                rfl
               refine take_ (i := 3) (N := some 87) (v := ?_) (a' := ?_) (mm [(5, true), (1, false), (1, true), (17, false)]) rfl rfl (take_ofW HT_.out HW_.out (by kernel_rfl)) (fun _ _ _ h => h) (Or.inl ⟨by rfl, ?_⟩) hHeld ?_ ?_
               rotate_left
               ·
                rintro w' ⟨s0, s1, s2, s3, s4, s5, s6, s7, s8, s9⟩
                go_simp
                with_reducible rfl
               rotate_left
               ·
                simp only [Act.put, za_, zb_, zc_, i64_w, i32_w]
                rfl
               refine take_ (i := 5) (N := some 89) (v := ?_) (a' := ?_) (mm [(7, true), (17, false)]) rfl rfl (take_ofW HT_.out HW_.out (by kernel_rfl)) (fun _ _ _ h => h) (Or.inl ⟨by rfl, ?_⟩) hHeld ?_ ?_
               rotate_left
               ·
                rintro w' ⟨s0, s1, s2, s3, s4, s5, s6, s7, s8, s9⟩
                go_simp
                with_reducible rfl
               rotate_left
               ·
                simp only [Act.put, za_, zb_, zc_, i64_w, i32_w]
                rfl
               refine pure_ (i := 7) (N := some 91) (v := ?_) (a' := ?_) (mm [(8, true), (16, false)]) rfl rfl (any_of HT_.out (by kernel_rfl)) (fun _ _ _ h => h) (Or.inl ⟨by rfl, ?_⟩) ?_ ?_
               rotate_left
               ·
                intro w'
                go_simp
                with_reducible rfl
               rotate_left
               ·
                simp only [Act.put, za_, zb_, zc_, i64_w, i32_w]
                rfl
               refine take_ (i := 8) (N := some 92) (v := ?_) (a' := ?_) (mm [(9, true), (15, false)]) rfl rfl (take_ofW HT_.out HW_.out (by kernel_rfl)) (fun _ _ _ h => h) (Or.inl ⟨by rfl, ?_⟩) hHeld ?_ ?_
               rotate_left
               ·
                rintro w' ⟨s0, s1, s2, s3, s4, s5, s6, s7, s8, s9⟩
                go_simp
                with_reducible rfl
               rotate_left
               ·
                simp only [Act.put, za_, zb_, zc_, i64_w, i32_w]
                rfl
               refine pure_ (i := 9) (N := some 93) (v := ?_) (a' := ?_) (mm [(10, true), (14, false)]) rfl rfl (any_of HT_.out (by kernel_rfl)) (fun _ _ _ h => h) (Or.inl ⟨by rfl, ?_⟩) ?_ ?_
               rotate_left
               ·
                intro w'
                go_simp
                with_reducible rfl
               rotate_left
               ·
                simp only [Act.put, za_, zb_, zc_, i64_w, i32_w]
                rfl
               refine pure_ (i := 10) (N := some 94) (v := ?_) (a' := ?_) (mm [(11, true), (13, false)]) rfl rfl (any_of HT_.out (by kernel_rfl)) (fun _ _ _ h => h) (Or.inl ⟨by rfl, ?_⟩) ?_ ?_
               rotate_left
               ·
                intro w'
                go_simp
                with_reducible rfl
               rotate_left
               ·
                simp only [Act.put, za_, zb_, zc_, i64_w, i32_w]
                rfl
               refine pure_ (i := 11) (N := some 95) (v := ?_) (a' := ?_) (mm [(12, true), (12, false)]) rfl rfl (any_of HT_.out (by kernel_rfl)) (fun _ _ _ h => h) (Or.inl ⟨by rfl, ?_⟩) ?_ ?_
               rotate_left
               ·
                intro w'
                go_simp
                with_reducible rfl
               rotate_left
               ·
                simp only [Act.put, za_, zb_, zc_, i64_w, i32_w]
                rfl
               refine pure_ (i := 12) (N := some 96) (v := ?_) (a' := ?_) (mm [(13, true), (11, false)]) rfl rfl (any_of HT_.out (by kernel_rfl)) (fun _ _ _ h => h) (Or.inl ⟨by rfl, ?_⟩) ?_ ?_
               rotate_left
               ·
                intro w'
                go_simp
                with_reducible rfl
               rotate_left
               ·
                simp only [Act.put, za_, zb_, zc_, i64_w, i32_w]
                rfl
               refine pure_ (i := 13) (N := some 97) (v := ?_) (a' := ?_) (mm [(14, true), (10, false)]) rfl rfl (any_of HT_.out (by kernel_rfl)) (fun _ _ _ h => h) (Or.inl ⟨by rfl, ?_⟩) ?_ ?_
               rotate_left
               ·
                intro w'
                go_simp
                with_reducible rfl
               rotate_left
               ·
                simp only [Act.put, za_, zb_, zc_, i64_w, i32_w]
                rfl
               refine pure_ (i := 14) (N := some 98) (v := ?_) (a' := ?_) (mm [(15, true), (9, false)]) rfl rfl (any_of HT_.out (by kernel_rfl)) (fun _ _ _ h => h) (Or.inl ⟨by rfl, ?_⟩) ?_ ?_
               rotate_left
               ·
                intro w'
                go_simp
                with_reducible rfl
               rotate_left
               ·
                simp only [Act.put, za_, zb_, zc_, i64_w, i32_w]
                rfl
               refine pure_ (i := 16) (N := some 100) (v := ?_) (a' := ?_) (mm [(15, true), (1, false), (1, true), (7, false)]) rfl rfl (any_of HT_.out (by kernel_rfl)) (fun _ _ _ h => h) (Or.inl ⟨by rfl, ?_⟩) ?_ ?_
               rotate_left
               ·
                intro w'
                go_simp
                with_reducible rfl
               rotate_left
               ·
                simp only [Act.put, za_, zb_, zc_, i64_w, i32_w]
                rfl
               refine pure_ (i := 18) (N := some 102) (v := ?_) (a' := ?_) (mm [(15, true), (1, false), (1, true), (1, false), (1, true), (5, false)]) rfl rfl (any_of HT_.out (by kernel_rfl)) (fun _ _ _ h => h) (Or.inl ⟨by rfl, ?_⟩) ?_ ?_
               rotate_left
               ·
                intro w'
                go_simp
                with_reducible rfl
               rotate_left
               ·
                simp only [Act.put, za_, zb_, zc_, i64_w, i32_w]
                rfl
               refine take_ (i := 15) (N := some 99) (v := ?_) (a' := ?_) (mm [(17, true), (1, false), (1, true), (5, false)]) rfl rfl (take_ofW HT_.out HW_.out (by kernel_rfl)) (fun _ _ _ h => h) (Or.inl ⟨by rfl, ?_⟩) hHeld ?_ ?_
               rotate_left
               ·
                rintro w' ⟨s0, s1, s2, s3, s4, s5, s6, s7, s8, s9⟩
                go_simp
                with_reducible rfl
               rotate_left
               ·
                simp only [Act.put, za_, zb_, zc_, i64_w, i32_w]
                rfl
               refine take_ (i := 17) (N := some 101) (v := ?_) (a' := ?_) (mm [(19, true), (5, false)]) rfl rfl (take_ofW HT_.out HW_.out (by kernel_rfl)) (fun _ _ _ h => h) (Or.inl ⟨by rfl, ?_⟩) hHeld ?_ ?_
               rotate_left
               ·
                rintro w' ⟨s0, s1, s2, s3, s4, s5, s6, s7, s8, s9⟩
                go_simp
                with_reducible rfl
               rotate_left
               ·
                simp only [Act.put, za_, zb_, zc_, i64_w, i32_w]
                rfl
               refine pure_ (i := 19) (N := some 103) (v := ?_) (a' := ?_) (mm [(20, true), (4, false)]) rfl rfl (any_of HT_.out (by kernel_rfl)) (fun _ _ _ h => h) (Or.inl ⟨by rfl, ?_⟩) ?_ ?_
               rotate_left
               ·
                intro w'
                go_simp
                with_reducible rfl
               rotate_left
               ·
                simp only [Act.put, za_, zb_, zc_, i64_w, i32_w]
                rfl
               refine take_ (i := 20) (N := some 104) (v := ?_) (a' := ?_) (mm [(21, true), (3, false)]) rfl rfl (take_ofW HT_.out HW_.out (by kernel_rfl)) (fun _ _ _ h => h) (Or.inl ⟨by rfl, ?_⟩) hHeld ?_ ?_
               rotate_left
               ·
                rintro w' ⟨s0, s1, s2, s3, s4, s5, s6, s7, s8, s9⟩
                go_simp
                with_reducible rfl
               rotate_left
               ·
                simp only [Act.put, za_, zb_, zc_, i64_w, i32_w]
                rfl
               refine pure_ (i := 21) (N := some 105) (v := ?_) (a' := ?_) (mm [(22, true), (2, false)]) rfl rfl (any_of HT_.out (by kernel_rfl)) (fun _ _ _ h => h) (Or.inl ⟨by rfl, ?_⟩) ?_ ?_
               rotate_left
               ·
                intro w'
                go_simp
                with_reducible rfl
               rotate_left
               ·
                simp only [Act.put, za_, zb_, zc_, i64_w, i32_w]
                rfl
               refine pure_ (i := 22) (N := some 106) (v := ?_) (a' := ?_) (mm [(23, true), (1, false)]) rfl rfl (any_of HT_.out (by kernel_rfl)) (fun _ _ _ h => h) (Or.inl ⟨by rfl, ?_⟩) ?_ ?_
               rotate_left
               ·
                intro w'
                go_simp
                with_reducible rfl
               rotate_left
               ·
                simp only [Act.put, za_, zb_, zc_, i64_w, i32_w]
                rfl
               refine pure_ (i := 23) (N := some 107) (v := ?_) (a' := ?_) (mm [(24, true)]) rfl rfl (any_of HT_.out (by kernel_rfl)) (fun _ _ _ h => h) (Or.inl ⟨by rfl, ?_⟩) ?_ ?_
               rotate_left
               ·
                intro w'
                go_simp
                with_reducible rfl
               rotate_left
               ·
                simp only [Act.put, za_, zb_, zc_, i64_w, i32_w]
                rfl
               refine done_ (done_of HT_.out (by kernel_rfl)) ?_
               try go_wp2
               go_roundg k2
               case measure => have := HJ12.out; have := HK2.out; omega
               case rel => exact ⟨(wrap64 (x17_2 + 1)), (by first | rfl | (simp; done) | (simp [*]; done)), H', ⟨by have := HJ12.out; have := HK2.out; omega⟩, ⟨by (with_reducible repeat (first | apply Kd.R_alloc | apply Kd.R_drewN | apply Kd.R_drew)); exact HO_15.out⟩, ⟨by (with_reducible repeat (first | apply Kd.R_alloc | apply Kd.R_drewN | apply Kd.R_drew)); exact HO_16.out⟩, ⟨by (with_reducible repeat (first | apply Kd.S_alloc | apply Kd.S_drewN | apply Kd.S_drew)); exact O0.out⟩, ⟨by (with_reducible repeat (first | apply Kd.R_alloc | apply Kd.R_drewN | apply Kd.R_drew)); exact O1.out⟩, ⟨by (with_reducible repeat (first | apply Kd.S_alloc | apply Kd.S_drewN | apply Kd.S_drew)); exact O2.out⟩, ⟨by (with_reducible repeat (first | apply Kd.R_alloc | apply Kd.R_drewN | apply Kd.R_drew)); exact O3.out⟩, ⟨by (with_reducible repeat (first | apply Kd.S_alloc | apply Kd.S_drewN | apply Kd.S_drew)); exact O4.out⟩, ⟨by (with_reducible repeat (first | apply Kd.R_alloc | apply Kd.R_drewN | apply Kd.R_drew)); exact O5.out⟩, ⟨by (with_reducible repeat (first | refine blk_drewN ?_ _ | refine blk_drew ?_ | refine blk_alloc ?_ _)); exact BK495.out⟩, ⟨by (with_reducible repeat (first | refine blk_drewN ?_ _ | refine blk_drew ?_ | refine blk_alloc ?_ _)); exact BK506.out⟩, ⟨by (with_reducible repeat (first | refine blk_drewN ?_ _ | refine blk_drew ?_ | refine blk_alloc ?_ _)); exact BK517.out⟩, ⟨by repeat (first | (with_reducible first | exact HB.out | apply below_alloc | apply pw_below_drewN | apply below_drew1 | refine below_set ?_ GE495.out | refine below_set ?_ GE506.out | refine below_set ?_ GE517.out) | exact HB.out)⟩⟩
             ·
              rw [if_neg c75] at H
              exact absurd H (by simp)
            ·
             rw [if_neg c74] at H
             exact absurd H (by simp)
          ·
           rw [if_neg c70] at H
           exact absurd H (by simp)
         ·
          rw [if_neg c69] at H
          exact absurd H (by simp)
        ·
         rw [if_neg c68] at H
         exact absurd H (by simp)
       ·
        rw [if_neg c67] at H
        have c67b0 : decide (x17_2 < (l0.length : Int)) = false := decide_eq_false c67
        clear c67
        replace H := Option.bind_eq_some_iff.mp H
        obtain ⟨t528, A830, H⟩ := H
        replace H : ((dom_Chain.f k2 t499 a3).bind fun t531 => ((dom_Chain.f k2 t510 a3).bind fun t534 => (if t486 = true then (if (t528.length : Int) = 0 then (if (t534.length : Int) = 0 then ((dom_Idoms.f k2 t496).bind fun t537 => ((bywashref01_Ints.f k2 t537 t499).bind fun t540 => (some t540))) else (if (t534.length : Int) ≥ (t528.length : Int) then ((dom_Idoms.f k2 t496).bind fun t541 => ((bywashref01_Ints.f k2 t541 t499).bind fun t544 => (some t544))) else (some false))) else (if (t531.length : Int) ≤ (t528.length : Int) then (if (t531.length : Int) > 0 then (if (t534.length : Int) = 0 then ((dom_Idoms.f k2 t496).bind fun t545 => ((bywashref01_Ints.f k2 t545 t499).bind fun t548 => (some t548))) else (if (t534.length : Int) ≥ (t528.length : Int) then ((dom_Idoms.f k2 t496).bind fun t549 => ((bywashref01_Ints.f k2 t549 t499).bind fun t552 => (some t552))) else (some false))) else (some false)) else (some false))) else (some false)))) = some r := H
        have A83 := Aside0.mk A830
        clear A830
        replace H := Option.bind_eq_some_iff.mp H
        obtain ⟨t531, A840, H⟩ := H
        replace H : ((dom_Chain.f k2 t510 a3).bind fun t534 => (if t486 = true then (if (t528.length : Int) = 0 then (if (t534.length : Int) = 0 then ((dom_Idoms.f k2 t496).bind fun t537 => ((bywashref01_Ints.f k2 t537 t499).bind fun t540 => (some t540))) else (if (t534.length : Int) ≥ (t528.length : Int) then ((dom_Idoms.f k2 t496).bind fun t541 => ((bywashref01_Ints.f k2 t541 t499).bind fun t544 => (some t544))) else (some false))) else (if (t531.length : Int) ≤ (t528.length : Int) then (if (t531.length : Int) > 0 then (if (t534.length : Int) = 0 then ((dom_Idoms.f k2 t496).bind fun t545 => ((bywashref01_Ints.f k2 t545 t499).bind fun t548 => (some t548))) else (if (t534.length : Int) ≥ (t528.length : Int) then ((dom_Idoms.f k2 t496).bind fun t549 => ((bywashref01_Ints.f k2 t549 t499).bind fun t552 => (some t552))) else (some false))) else (some false)) else (some false))) else (some false))) = some r := H
        have A84 := Aside0.mk A840
        clear A840
        replace H := Option.bind_eq_some_iff.mp H
        obtain ⟨t534, A850, H⟩ := H
        replace H : (if t486 = true then (if (t528.length : Int) = 0 then (if (t534.length : Int) = 0 then ((dom_Idoms.f k2 t496).bind fun t537 => ((bywashref01_Ints.f k2 t537 t499).bind fun t540 => (some t540))) else (if (t534.length : Int) ≥ (t528.length : Int) then ((dom_Idoms.f k2 t496).bind fun t541 => ((bywashref01_Ints.f k2 t541 t499).bind fun t544 => (some t544))) else (some false))) else (if (t531.length : Int) ≤ (t528.length : Int) then (if (t531.length : Int) > 0 then (if (t534.length : Int) = 0 then ((dom_Idoms.f k2 t496).bind fun t545 => ((bywashref01_Ints.f k2 t545 t499).bind fun t548 => (some t548))) else (if (t534.length : Int) ≥ (t528.length : Int) then ((dom_Idoms.f k2 t496).bind fun t549 => ((bywashref01_Ints.f k2 t549 t499).bind fun t552 => (some t552))) else (some false))) else (some false)) else (some false))) else (some false)) = some r := H
        have A85 := Aside0.mk A850
        clear A850
        by_cases c86 : t486 = true
        ·
         subst c86
         have H1 : (if (t528.length : Int) = 0 then (if (t534.length : Int) = 0 then ((dom_Idoms.f k2 t496).bind fun t537 => ((bywashref01_Ints.f k2 t537 t499).bind fun t540 => (some t540))) else (if (t534.length : Int) ≥ (t528.length : Int) then ((dom_Idoms.f k2 t496).bind fun t541 => ((bywashref01_Ints.f k2 t541 t499).bind fun t544 => (some t544))) else (some false))) else (if (t531.length : Int) ≤ (t528.length : Int) then (if (t531.length : Int) > 0 then (if (t534.length : Int) = 0 then ((dom_Idoms.f k2 t496).bind fun t545 => ((bywashref01_Ints.f k2 t545 t499).bind fun t548 => (some t548))) else (if (t534.length : Int) ≥ (t528.length : Int) then ((dom_Idoms.f k2 t496).bind fun t549 => ((bywashref01_Ints.f k2 t549 t499).bind fun t552 => (some t552))) else (some false))) else (some false)) else (some false))) = some r := by rw [if_pos rfl] at H; exact H
         clear H
         have H := H1
         clear H1
         by_cases c87 : (t528.length : Int) = 0
         ·
          rw [if_pos c87] at H
          have c87b0 : ((t528.length : Int) == 0) = true := beq_iff_eq.mpr c87
          have c87b1 : ((t528.length : Int) != 0) = false := bne_eq_false_iff_eq.mpr c87
          clear c87
          by_cases c88 : (t534.length : Int) = 0
          ·
           rw [if_pos c88] at H
           have c88b0 : ((t534.length : Int) == 0) = true := beq_iff_eq.mpr c88
           have c88b1 : ((t534.length : Int) != 0) = false := bne_eq_false_iff_eq.mpr c88
           clear c88
           replace H := Option.bind_eq_some_iff.mp H
           obtain ⟨t537, A890, H⟩ := H
           replace H : ((bywashref01_Ints.f k2 t537 t499).bind fun t540 => (some t540)) = some r := H
           have A89 := Aside0.mk A890
           clear A890
           replace H := Option.bind_eq_some_iff.mp H
           obtain ⟨t540, A900, H⟩ := H
           replace H : (some t540) = some r := H
           have A90 := Aside0.mk A900
           clear A900
           obtain rfl := Option.some.inj H
           have hnb91 := NB495_506.out
           have hnc91 := NB506_495.out
           have hnb92 := NB495_517.out
           have hnc92 := NB517_495.out
           have hcz93_0 : wr.cell? ⟨gb495, 0, none⟩ = some (.slice Ao17 t488.length co17) := (blk_cell BK495.out 0).trans rfl
           have hcz93_1 : wr.cell? ⟨gb495, 1, none⟩ = some (.slice Ao19 t491.length co19) := (blk_cell BK495.out 1).trans rfl
           have hcz93_2 : wr.cell? ⟨gb495, 2, none⟩ = some (.bool t494) := (blk_cell BK495.out 2).trans rfl
           have hfz93_0 := blk_frozen BK495.out 0
           have hfz93_1 := blk_frozen BK495.out 1
           have hfz93_2 := blk_frozen BK495.out 2
           try go_wp2_with (first | ((with_reducible refine gate_callee (f := 25) rfl ?_); refine goesL_ (some 111) rfl rfl Try.func25 (by kernel_rfl) rfl #[.slice Ao19 t491.length co19, .int .i64 a3] rfl (by (try simp only [List.map_toArray, List.map_cons, List.map_nil]); first | done | rfl | (simp only [List.length_drop, List.length_take]; rfl)) ?_; (with_reducible refine (dom_Chain.calls k2 _ _ t491 a3 t528 _ ?side1 ?side2 A83.out).mono ?_); (case side1 => repeat (first | exact (Kd.R_reads' O1.out).2.2 | (with_reducible refine Kd.C_alloc ?_ _) | (with_reducible refine Kd.C_drewN ?_ _) | (with_reducible refine Kd.C_drew ?_))); (case side2 => exact (Kd.R_reads' O1.out).2.1); rintro e w94 ⟨v529, rfl, ho0, hb⟩; refine ⟨_, rfl, ?_⟩; have n0_ := Aside0.mk (Kd.R_below (by (with_reducible repeat (first | apply Kd.R_alloc | apply Kd.R_drewN | apply Kd.R_drew)); exact HO_15.out) hb); have n1_ := Aside0.mk (Kd.R_below (by (with_reducible repeat (first | apply Kd.R_alloc | apply Kd.R_drewN | apply Kd.R_drew)); exact HO_16.out) hb); have n2_ := Aside0.mk (Kd.S_elder' (by (with_reducible repeat (first | apply Kd.S_alloc | apply Kd.S_drewN | apply Kd.S_drew)); exact O0.out) (Kd.R_base ho0) hb); have n3_ := Aside0.mk (Kd.R_elder' (by (with_reducible repeat (first | apply Kd.R_alloc | apply Kd.R_drewN | apply Kd.R_drew)); exact O1.out) (Kd.R_base ho0) hb); have n4_ := Aside0.mk (Kd.S_elder' (by (with_reducible repeat (first | apply Kd.S_alloc | apply Kd.S_drewN | apply Kd.S_drew)); exact O2.out) (Kd.R_base ho0) hb); have n5_ := Aside0.mk (Kd.R_elder' (by (with_reducible repeat (first | apply Kd.R_alloc | apply Kd.R_drewN | apply Kd.R_drew)); exact O3.out) (Kd.R_base ho0) hb); have n6_ := Aside0.mk (Kd.S_elder' (by (with_reducible repeat (first | apply Kd.S_alloc | apply Kd.S_drewN | apply Kd.S_drew)); exact O4.out) (Kd.R_base ho0) hb); have n7_ := Aside0.mk (Kd.R_elder' (by (with_reducible repeat (first | apply Kd.R_alloc | apply Kd.R_drewN | apply Kd.R_drew)); exact O5.out) (Kd.R_base ho0) hb); have n8_ := Aside0.mk (Kd.R_lower (Kd.R_new' (Kd.R_new' (Kd.R_new' ho0 (Kd.R_lt (by (with_reducible repeat (first | apply Kd.R_alloc | apply Kd.R_drewN | apply Kd.R_drew)); exact O1.out))) (Kd.R_lt (by (with_reducible repeat (first | apply Kd.R_alloc | apply Kd.R_drewN | apply Kd.R_drew)); exact O3.out))) (Kd.R_lt (by (with_reducible repeat (first | apply Kd.R_alloc | apply Kd.R_drewN | apply Kd.R_drew)); exact O5.out))) (below_size (by repeat (first | (with_reducible first | exact HB.out | apply below_alloc | apply pw_below_drewN | apply below_drew1 | refine below_set ?_ GE495.out | refine below_set ?_ GE506.out | refine below_set ?_ GE517.out) | exact HB.out)))); have n9_ := Aside0.mk (blk_below (g := gb495) (o := .cells #[.slice Ao17 t488.length co17, .slice Ao19 t491.length co19, .bool t494] 40 (0, 0)) (by (with_reducible repeat (first | refine blk_drewN ?_ _ | refine blk_drew ?_ | refine blk_alloc ?_ _)); exact BK495.out) hb); have n10_ := Aside0.mk (blk_below (g := gb506) (o := .cells #[.slice Ao22 t496.length co22, .slice Ao25 t499.length co25, .bool t502] 40 (0, 0)) (by (with_reducible repeat (first | refine blk_drewN ?_ _ | refine blk_drew ?_ | refine blk_alloc ?_ _)); exact BK506.out) hb); have n11_ := Aside0.mk (blk_below (g := gb517) (o := .cells #[.slice Ao29 t507.length co29, .slice Ao33 t510.length co33, .bool t513] 40 (0, 0)) (by (with_reducible repeat (first | refine blk_drewN ?_ _ | refine blk_drew ?_ | refine blk_alloc ?_ _)); exact BK517.out) hb); have n12_ := Aside0.mk (below_step (by repeat (first | (with_reducible first | exact HB.out | apply below_alloc | apply pw_below_drewN | apply below_drew1 | refine below_set ?_ GE495.out | refine below_set ?_ GE506.out | refine below_set ?_ GE517.out) | exact HB.out)) hb); clear HO_15; clear HO_16; clear O0; clear O1; clear O2; clear O3; clear O4; clear O5; clear BK495; clear BK506; clear BK517; clear HB; have HO_15 := n0_; have HO_16 := n1_; have O0 := n2_; have O1 := n3_; have O2 := n4_; have O3 := n5_; have O4 := n6_; have O5 := n7_; have HO530 := n8_; have BK495 := n9_; have BK506 := n10_; have BK517 := n11_; have HB := n12_; clear n0_ n1_ n2_ n3_ n4_ n5_ n6_ n7_ n8_ n9_ n10_ n11_ n12_; (try clear hb); (try clear hb2); (try clear hk); (try clear hi); (try clear ho0); have hnb95 := NB506_517.out; have hnc95 := NB517_506.out; have hcz96_0 : w94.cell? ⟨gb506, 0, none⟩ = some (.slice Ao22 t496.length co22) := (blk_cell BK506.out 0).trans rfl; have hcz96_1 : w94.cell? ⟨gb506, 1, none⟩ = some (.slice Ao25 t499.length co25) := (blk_cell BK506.out 1).trans rfl; have hcz96_2 : w94.cell? ⟨gb506, 2, none⟩ = some (.bool t502) := (blk_cell BK506.out 2).trans rfl; have hfz96_0 := blk_frozen BK506.out 0; have hfz96_1 := blk_frozen BK506.out 1; have hfz96_2 := blk_frozen BK506.out 2) | ((with_reducible refine gate_callee (f := 25) rfl ?_); refine goesL_ (some 115) rfl rfl Try.func25 (by kernel_rfl) rfl #[.slice Ao25 t499.length co25, .int .i64 a3] rfl (by (try simp only [List.map_toArray, List.map_cons, List.map_nil]); first | done | rfl | (simp only [List.length_drop, List.length_take]; rfl)) ?_; (with_reducible refine (dom_Chain.calls k2 _ _ t499 a3 t531 _ ?side1 ?side2 A84.out).mono ?_); (case side1 => repeat (first | exact (Kd.R_reads' O3.out).2.2 | (with_reducible refine Kd.C_alloc ?_ _) | (with_reducible refine Kd.C_drewN ?_ _) | (with_reducible refine Kd.C_drew ?_))); (case side2 => exact (Kd.R_reads' O3.out).2.1); rintro e w97 ⟨v532, rfl, ho0, hb⟩; refine ⟨_, rfl, ?_⟩; have n0_ := Aside0.mk (Kd.R_below (by (with_reducible repeat (first | apply Kd.R_alloc | apply Kd.R_drewN | apply Kd.R_drew)); exact HO_15.out) hb); have n1_ := Aside0.mk (Kd.R_below (by (with_reducible repeat (first | apply Kd.R_alloc | apply Kd.R_drewN | apply Kd.R_drew)); exact HO_16.out) hb); have n2_ := Aside0.mk (Kd.S_elder' (by (with_reducible repeat (first | apply Kd.S_alloc | apply Kd.S_drewN | apply Kd.S_drew)); exact O0.out) (Kd.R_base ho0) hb); have n3_ := Aside0.mk (Kd.R_elder' (by (with_reducible repeat (first | apply Kd.R_alloc | apply Kd.R_drewN | apply Kd.R_drew)); exact O1.out) (Kd.R_base ho0) hb); have n4_ := Aside0.mk (Kd.S_elder' (by (with_reducible repeat (first | apply Kd.S_alloc | apply Kd.S_drewN | apply Kd.S_drew)); exact O2.out) (Kd.R_base ho0) hb); have n5_ := Aside0.mk (Kd.R_elder' (by (with_reducible repeat (first | apply Kd.R_alloc | apply Kd.R_drewN | apply Kd.R_drew)); exact O3.out) (Kd.R_base ho0) hb); have n6_ := Aside0.mk (Kd.S_elder' (by (with_reducible repeat (first | apply Kd.S_alloc | apply Kd.S_drewN | apply Kd.S_drew)); exact O4.out) (Kd.R_base ho0) hb); have n7_ := Aside0.mk (Kd.R_elder' (by (with_reducible repeat (first | apply Kd.R_alloc | apply Kd.R_drewN | apply Kd.R_drew)); exact O5.out) (Kd.R_base ho0) hb); have n8_ := Aside0.mk (Kd.R_elder' (by (with_reducible repeat (first | apply Kd.R_alloc | apply Kd.R_drewN | apply Kd.R_drew)); exact HO530.out) (Kd.R_base ho0) hb); have n9_ := Aside0.mk (Kd.R_lower (Kd.R_new' (Kd.R_new' (Kd.R_new' (Kd.R_new' ho0 (Kd.R_lt (by (with_reducible repeat (first | apply Kd.R_alloc | apply Kd.R_drewN | apply Kd.R_drew)); exact O1.out))) (Kd.R_lt (by (with_reducible repeat (first | apply Kd.R_alloc | apply Kd.R_drewN | apply Kd.R_drew)); exact O3.out))) (Kd.R_lt (by (with_reducible repeat (first | apply Kd.R_alloc | apply Kd.R_drewN | apply Kd.R_drew)); exact O5.out))) (Kd.R_lt (by (with_reducible repeat (first | apply Kd.R_alloc | apply Kd.R_drewN | apply Kd.R_drew)); exact HO530.out))) (below_size (by repeat (first | (with_reducible first | exact HB.out | apply below_alloc | apply pw_below_drewN | apply below_drew1 | refine below_set ?_ GE495.out | refine below_set ?_ GE506.out | refine below_set ?_ GE517.out) | exact HB.out)))); have n10_ := Aside0.mk (blk_below (g := gb495) (o := .cells #[.slice Ao17 t488.length co17, .slice Ao19 t491.length co19, .bool t494] 40 (0, 0)) (by (with_reducible repeat (first | refine blk_drewN ?_ _ | refine blk_drew ?_ | refine blk_alloc ?_ _)); exact BK495.out) hb); have n11_ := Aside0.mk (blk_below (g := gb506) (o := .cells #[.slice Ao22 t496.length co22, .slice Ao25 t499.length co25, .bool t502] 40 (0, 0)) (by (with_reducible repeat (first | refine blk_drewN ?_ _ | refine blk_drew ?_ | refine blk_alloc ?_ _)); exact BK506.out) hb); have n12_ := Aside0.mk (blk_below (g := gb517) (o := .cells #[.slice Ao29 t507.length co29, .slice Ao33 t510.length co33, .bool t513] 40 (0, 0)) (by (with_reducible repeat (first | refine blk_drewN ?_ _ | refine blk_drew ?_ | refine blk_alloc ?_ _)); exact BK517.out) hb); have n13_ := Aside0.mk (below_step (by repeat (first | (with_reducible first | exact HB.out | apply below_alloc | apply pw_below_drewN | apply below_drew1 | refine below_set ?_ GE495.out | refine below_set ?_ GE506.out | refine below_set ?_ GE517.out) | exact HB.out)) hb); clear HO_15; clear HO_16; clear O0; clear O1; clear O2; clear O3; clear O4; clear O5; clear HO530; clear BK495; clear BK506; clear BK517; clear HB; have HO_15 := n0_; have HO_16 := n1_; have O0 := n2_; have O1 := n3_; have O2 := n4_; have O3 := n5_; have O4 := n6_; have O5 := n7_; have HO530 := n8_; have HO533 := n9_; have BK495 := n10_; have BK506 := n11_; have BK517 := n12_; have HB := n13_; clear n0_ n1_ n2_ n3_ n4_ n5_ n6_ n7_ n8_ n9_ n10_ n11_ n12_ n13_; (try clear hb); (try clear hb2); (try clear hk); (try clear hi); (try clear ho0); have hcz98_0 : w97.cell? ⟨gb517, 0, none⟩ = some (.slice Ao29 t507.length co29) := (blk_cell BK517.out 0).trans rfl; have hcz98_1 : w97.cell? ⟨gb517, 1, none⟩ = some (.slice Ao33 t510.length co33) := (blk_cell BK517.out 1).trans rfl; have hcz98_2 : w97.cell? ⟨gb517, 2, none⟩ = some (.bool t513) := (blk_cell BK517.out 2).trans rfl; have hfz98_0 := blk_frozen BK517.out 0; have hfz98_1 := blk_frozen BK517.out 1; have hfz98_2 := blk_frozen BK517.out 2) | ((with_reducible refine gate_callee (f := 25) rfl ?_); refine goesL_ (some 119) rfl rfl Try.func25 (by kernel_rfl) rfl #[.slice Ao33 t510.length co33, .int .i64 a3] rfl (by (try simp only [List.map_toArray, List.map_cons, List.map_nil]); first | done | rfl | (simp only [List.length_drop, List.length_take]; rfl)) ?_; (with_reducible refine (dom_Chain.calls k2 _ _ t510 a3 t534 _ ?side1 ?side2 A85.out).mono ?_); (case side1 => repeat (first | exact (Kd.R_reads' O5.out).2.2 | (with_reducible refine Kd.C_alloc ?_ _) | (with_reducible refine Kd.C_drewN ?_ _) | (with_reducible refine Kd.C_drew ?_))); (case side2 => exact (Kd.R_reads' O5.out).2.1); rintro e w99 ⟨v535, rfl, ho0, hb⟩; refine ⟨_, rfl, ?_⟩; have n0_ := Aside0.mk (Kd.R_below (by (with_reducible repeat (first | apply Kd.R_alloc | apply Kd.R_drewN | apply Kd.R_drew)); exact HO_15.out) hb); have n1_ := Aside0.mk (Kd.R_below (by (with_reducible repeat (first | apply Kd.R_alloc | apply Kd.R_drewN | apply Kd.R_drew)); exact HO_16.out) hb); have n2_ := Aside0.mk (Kd.S_elder' (by (with_reducible repeat (first | apply Kd.S_alloc | apply Kd.S_drewN | apply Kd.S_drew)); exact O0.out) (Kd.R_base ho0) hb); have n3_ := Aside0.mk (Kd.R_elder' (by (with_reducible repeat (first | apply Kd.R_alloc | apply Kd.R_drewN | apply Kd.R_drew)); exact O1.out) (Kd.R_base ho0) hb); have n4_ := Aside0.mk (Kd.S_elder' (by (with_reducible repeat (first | apply Kd.S_alloc | apply Kd.S_drewN | apply Kd.S_drew)); exact O2.out) (Kd.R_base ho0) hb); have n5_ := Aside0.mk (Kd.R_elder' (by (with_reducible repeat (first | apply Kd.R_alloc | apply Kd.R_drewN | apply Kd.R_drew)); exact O3.out) (Kd.R_base ho0) hb); have n6_ := Aside0.mk (Kd.S_elder' (by (with_reducible repeat (first | apply Kd.S_alloc | apply Kd.S_drewN | apply Kd.S_drew)); exact O4.out) (Kd.R_base ho0) hb); have n7_ := Aside0.mk (Kd.R_elder' (by (with_reducible repeat (first | apply Kd.R_alloc | apply Kd.R_drewN | apply Kd.R_drew)); exact O5.out) (Kd.R_base ho0) hb); have n8_ := Aside0.mk (Kd.R_elder' (by (with_reducible repeat (first | apply Kd.R_alloc | apply Kd.R_drewN | apply Kd.R_drew)); exact HO530.out) (Kd.R_base ho0) hb); have n9_ := Aside0.mk (Kd.R_elder' (by (with_reducible repeat (first | apply Kd.R_alloc | apply Kd.R_drewN | apply Kd.R_drew)); exact HO533.out) (Kd.R_base ho0) hb); have n10_ := Aside0.mk (Kd.R_lower (Kd.R_new' (Kd.R_new' (Kd.R_new' (Kd.R_new' (Kd.R_new' ho0 (Kd.R_lt (by (with_reducible repeat (first | apply Kd.R_alloc | apply Kd.R_drewN | apply Kd.R_drew)); exact O1.out))) (Kd.R_lt (by (with_reducible repeat (first | apply Kd.R_alloc | apply Kd.R_drewN | apply Kd.R_drew)); exact O3.out))) (Kd.R_lt (by (with_reducible repeat (first | apply Kd.R_alloc | apply Kd.R_drewN | apply Kd.R_drew)); exact O5.out))) (Kd.R_lt (by (with_reducible repeat (first | apply Kd.R_alloc | apply Kd.R_drewN | apply Kd.R_drew)); exact HO530.out))) (Kd.R_lt (by (with_reducible repeat (first | apply Kd.R_alloc | apply Kd.R_drewN | apply Kd.R_drew)); exact HO533.out))) (below_size (by repeat (first | (with_reducible first | exact HB.out | apply below_alloc | apply pw_below_drewN | apply below_drew1 | refine below_set ?_ GE495.out | refine below_set ?_ GE506.out | refine below_set ?_ GE517.out) | exact HB.out)))); have n11_ := Aside0.mk (blk_below (g := gb495) (o := .cells #[.slice Ao17 t488.length co17, .slice Ao19 t491.length co19, .bool t494] 40 (0, 0)) (by (with_reducible repeat (first | refine blk_drewN ?_ _ | refine blk_drew ?_ | refine blk_alloc ?_ _)); exact BK495.out) hb); have n12_ := Aside0.mk (blk_below (g := gb506) (o := .cells #[.slice Ao22 t496.length co22, .slice Ao25 t499.length co25, .bool t502] 40 (0, 0)) (by (with_reducible repeat (first | refine blk_drewN ?_ _ | refine blk_drew ?_ | refine blk_alloc ?_ _)); exact BK506.out) hb); have n13_ := Aside0.mk (blk_below (g := gb517) (o := .cells #[.slice Ao29 t507.length co29, .slice Ao33 t510.length co33, .bool t513] 40 (0, 0)) (by (with_reducible repeat (first | refine blk_drewN ?_ _ | refine blk_drew ?_ | refine blk_alloc ?_ _)); exact BK517.out) hb); have n14_ := Aside0.mk (below_step (by repeat (first | (with_reducible first | exact HB.out | apply below_alloc | apply pw_below_drewN | apply below_drew1 | refine below_set ?_ GE495.out | refine below_set ?_ GE506.out | refine below_set ?_ GE517.out) | exact HB.out)) hb); clear HO_15; clear HO_16; clear O0; clear O1; clear O2; clear O3; clear O4; clear O5; clear HO530; clear HO533; clear BK495; clear BK506; clear BK517; clear HB; have HO_15 := n0_; have HO_16 := n1_; have O0 := n2_; have O1 := n3_; have O2 := n4_; have O3 := n5_; have O4 := n6_; have O5 := n7_; have HO530 := n8_; have HO533 := n9_; have HO536 := n10_; have BK495 := n11_; have BK506 := n12_; have BK517 := n13_; have HB := n14_; clear n0_ n1_ n2_ n3_ n4_ n5_ n6_ n7_ n8_ n9_ n10_ n11_ n12_ n13_ n14_; (try clear hb); (try clear hb2); (try clear hk); (try clear hi); (try clear ho0)))
           have n0_ := Aside0.mk (Kd.R_drew HO_15.out)
           have n1_ := Aside0.mk (Kd.R_drew HO_16.out)
           have n2_ := Aside0.mk (Kd.S_drew O0.out)
           have n3_ := Aside0.mk (Kd.R_drew O1.out)
           have n4_ := Aside0.mk (Kd.S_drew O2.out)
           have n5_ := Aside0.mk (Kd.R_drew O3.out)
           have n6_ := Aside0.mk (Kd.S_drew O4.out)
           have n7_ := Aside0.mk (Kd.R_drew O5.out)
           have n8_ := Aside0.mk (Kd.R_drew HO530.out)
           have n9_ := Aside0.mk (Kd.R_drew HO533.out)
           have n10_ := Aside0.mk (Kd.R_drew HO536.out)
           have n11_ := Aside0.mk (blk_drew BK495.out)
           have n12_ := Aside0.mk (blk_drew BK506.out)
           have n13_ := Aside0.mk (blk_drew BK517.out)
           have n14_ := Aside0.mk (below_drew1 HB.out)
           clear HO_15 HO_16 O0 O1 O2 O3 O4 O5 HO530 HO533 HO536 BK495 BK506 BK517 HB
           have HO_15 := n0_
           have HO_16 := n1_
           have O0 := n2_
           have O1 := n3_
           have O2 := n4_
           have O3 := n5_
           have O4 := n6_
           have O5 := n7_
           have HO530 := n8_
           have HO533 := n9_
           have HO536 := n10_
           have BK495 := n11_
           have BK506 := n12_
           have BK517 := n13_
           have HB := n14_
           clear n0_ n1_ n2_ n3_ n4_ n5_ n6_ n7_ n8_ n9_ n10_ n11_ n12_ n13_ n14_
           obtain ⟨Ao101, co101, eo101⟩ := Kd.R_slice HO530.out
           (first | subst eo101 | (injection eo101 with f1_ f2_ f3_; have f4_ := f1_.symm; have f5_ := f3_.symm; clear f1_ f2_ f3_; subst f4_; subst f5_))
           obtain ⟨Ao102, co102, eo102⟩ := Kd.R_slice HO536.out
           (first | subst eo102 | (injection eo102 with f1_ f2_ f3_; have f4_ := f1_.symm; have f5_ := f3_.symm; clear f1_ f2_ f3_; subst f4_; subst f5_))
           refine start_ (n := 39) (S := fun w' => w'.cell? ⟨gb506, 0, none⟩ = some (.slice Ao22 t496.length co22) ∧ w'.cell? ⟨gb506, 1, none⟩ = some (.slice Ao25 t499.length co25) ∧ w'.cell? ⟨gb506, 2, none⟩ = some (.bool t502)) (ds := []) (mm [(39, false)]) (by kernel_rfl) rfl rfl ⟨(blk_cell BK506.out 0).trans rfl, (blk_cell BK506.out 1).trans rfl, (blk_cell BK506.out 2).trans rfl⟩ (fun hHeld => ?_); refine with_tabW bywashlaw15_DomupFound.tab19 bywashlaw15_DomupFound.bits19 (fun HT_ HW_ => ?_)
           generalize w99.drew = w100 at HO_15 HO_16 O0 O1 O2 O3 O4 O5 HO530 HO533 HO536 BK495 BK506 BK517 HB hHeld ⊢
           refine pure_ (i := 0) (N := some 120) (v := ?_) (a' := ?_) (mm [(1, true), (38, false)]) rfl rfl (any_of HT_.out (by kernel_rfl)) (fun _ _ _ h => h) (Or.inl ⟨by rfl, ?_⟩) ?_ ?_
           rotate_left
           ·
            intro w'
            go_simp
            with_reducible rfl
           rotate_left
           ·
            simp only [Act.put, za_, zb_, zc_, i64_w, i32_w]
            rfl
           refine pure_ (i := 1) (N := some 121) (v := ?_) (a' := ?_) (mm [(2, true), (37, false)]) rfl rfl (any_of HT_.out (by kernel_rfl)) (fun _ _ _ h => h) (Or.inl ⟨by rfl, ?_⟩) ?_ ?_
           rotate_left
           ·
            intro w'
            go_simp
            with_reducible rfl
           rotate_left
           ·
            simp only [Act.put, za_, zb_, zc_, i64_w, i32_w]
            rfl
           refine pure_ (i := 2) (N := some 122) (v := ?_) (a' := ?_) (mm [(3, true), (36, false)]) rfl rfl (any_of HT_.out (by kernel_rfl)) (fun _ _ _ h => h) (Or.inl ⟨by rfl, ?_⟩) ?_ ?_
           rotate_left
           ·
            intro w'
            go_simp
            with_reducible rfl
           rotate_left
           ·
            simp only [Act.put, za_, zb_, zc_, i64_w, i32_w]
            rfl
           refine pure_ (i := 3) (N := some 123) (v := ?_) (a' := ?_) (mm [(4, true), (35, false)]) rfl rfl (any_of HT_.out (by kernel_rfl)) (fun _ _ _ h => h) (Or.inl ⟨by rfl, ?_⟩) ?_ ?_
           rotate_left
           ·
            intro w'
            go_simp
            with_reducible rfl
           rotate_left
           ·
            simp only [Act.put, za_, zb_, zc_, i64_w, i32_w]
            rfl
           refine pure_ (i := 4) (N := some 124) (v := ?_) (a' := ?_) (mm [(5, true), (34, false)]) rfl rfl (any_of HT_.out (by kernel_rfl)) (fun _ _ _ h => h) (Or.inl ⟨by rfl, ?_⟩) ?_ ?_
           rotate_left
           ·
            intro w'
            go_simp
            with_reducible rfl
           rotate_left
           ·
            simp only [Act.put, za_, zb_, zc_, i64_w, i32_w]
            rfl
           refine pure_ (i := 5) (N := some 125) (v := ?_) (a' := ?_) (mm [(6, true), (33, false)]) rfl rfl (any_of HT_.out (by kernel_rfl)) (fun _ _ _ h => h) (Or.inl ⟨by rfl, ?_⟩) ?_ ?_
           rotate_left
           ·
            intro w'
            go_simp
            with_reducible rfl
           rotate_left
           ·
            simp only [Act.put, za_, zb_, zc_, i64_w, i32_w]
            rfl
           refine pure_ (i := 6) (N := some 126) (v := undef) (a' := ?_) (mm [(7, true), (32, false)]) rfl rfl (any_of HT_.out (by kernel_rfl)) (fun _ _ _ h => h) (Or.inr ⟨by rfl, rfl⟩) ?_ ?_
           rotate_left
           ·
            simp only [Act.put, za_, zb_, zc_, i64_w, i32_w]
            rfl
           refine pure_ (i := 7) (N := some 127) (v := undef) (a' := ?_) (mm [(8, true), (31, false)]) rfl rfl (any_of HT_.out (by kernel_rfl)) (fun _ _ _ h => h) (Or.inr ⟨by rfl, rfl⟩) ?_ ?_
           rotate_left
           ·
            simp only [Act.put, za_, zb_, zc_, i64_w, i32_w]
            rfl
           refine pure_ (i := 8) (N := some 128) (v := undef) (a' := ?_) (mm [(9, true), (30, false)]) rfl rfl (any_of HT_.out (by kernel_rfl)) (fun _ _ _ h => h) (Or.inr ⟨by rfl, rfl⟩) ?_ ?_
           rotate_left
           ·
            simp only [Act.put, za_, zb_, zc_, i64_w, i32_w]
            rfl
           refine pure_ (i := 9) (N := some 129) (v := undef) (a' := ?_) (mm [(10, true), (29, false)]) rfl rfl (any_of HT_.out (by kernel_rfl)) (fun _ _ _ h => h) (Or.inr ⟨by rfl, rfl⟩) ?_ ?_
           rotate_left
           ·
            simp only [Act.put, za_, zb_, zc_, i64_w, i32_w]
            rfl
           refine pure_ (i := 10) (N := some 130) (v := undef) (a' := ?_) (mm [(11, true), (28, false)]) rfl rfl (any_of HT_.out (by kernel_rfl)) (fun _ _ _ h => h) (Or.inr ⟨by rfl, rfl⟩) ?_ ?_
           rotate_left
           ·
            simp only [Act.put, za_, zb_, zc_, i64_w, i32_w]
            rfl
           refine pure_ (i := 11) (N := some 131) (v := undef) (a' := ?_) (mm [(12, true), (27, false)]) rfl rfl (any_of HT_.out (by kernel_rfl)) (fun _ _ _ h => h) (Or.inr ⟨by rfl, rfl⟩) ?_ ?_
           rotate_left
           ·
            simp only [Act.put, za_, zb_, zc_, i64_w, i32_w]
            rfl
           refine pure_ (i := 12) (N := some 132) (v := undef) (a' := ?_) (mm [(13, true), (26, false)]) rfl rfl (any_of HT_.out (by kernel_rfl)) (fun _ _ _ h => h) (Or.inr ⟨by rfl, rfl⟩) ?_ ?_
           rotate_left
           ·
            simp only [Act.put, za_, zb_, zc_, i64_w, i32_w]
            rfl
           refine pure_ (i := 13) (N := some 133) (v := undef) (a' := ?_) (mm [(14, true), (25, false)]) rfl rfl (any_of HT_.out (by kernel_rfl)) (fun _ _ _ h => h) (Or.inr ⟨by rfl, rfl⟩) ?_ ?_
           rotate_left
           ·
            simp only [Act.put, za_, zb_, zc_, i64_w, i32_w]
            rfl
           refine pure_ (i := 14) (N := some 134) (v := undef) (a' := ?_) (mm [(15, true), (24, false)]) rfl rfl (any_of HT_.out (by kernel_rfl)) (fun _ _ _ h => h) (Or.inr ⟨by rfl, rfl⟩) ?_ ?_
           rotate_left
           ·
            simp only [Act.put, za_, zb_, zc_, i64_w, i32_w]
            rfl
           refine pure_ (i := 15) (N := some 135) (v := undef) (a' := ?_) (mm [(16, true), (23, false)]) rfl rfl (any_of HT_.out (by kernel_rfl)) (fun _ _ _ h => h) (Or.inr ⟨by rfl, rfl⟩) ?_ ?_
           rotate_left
           ·
            simp only [Act.put, za_, zb_, zc_, i64_w, i32_w]
            rfl
           refine pure_ (i := 16) (N := some 136) (v := ?_) (a' := ?_) (mm [(17, true), (22, false)]) rfl rfl (any_of HT_.out (by kernel_rfl)) (fun _ _ _ h => h) (Or.inl ⟨by rfl, ?_⟩) ?_ ?_
           rotate_left
           ·
            intro w'
            go_simp
            with_reducible rfl
           rotate_left
           ·
            simp only [Act.put, za_, zb_, zc_, i64_w, i32_w]
            rfl
           refine pure_ (i := 17) (N := some 137) (v := ?_) (a' := ?_) (mm [(18, true), (21, false)]) rfl rfl (any_of HT_.out (by kernel_rfl)) (fun _ _ _ h => h) (Or.inl ⟨by rfl, ?_⟩) ?_ ?_
           rotate_left
           ·
            intro w'
            go_simp
            with_reducible rfl
           rotate_left
           ·
            simp only [Act.put, za_, zb_, zc_, i64_w, i32_w]
            rfl
           refine pure_ (i := 18) (N := some 138) (v := ?_) (a' := ?_) (mm [(19, true), (20, false)]) rfl rfl (any_of HT_.out (by kernel_rfl)) (fun _ _ _ h => h) (Or.inl ⟨by rfl, ?_⟩) ?_ ?_
           rotate_left
           ·
            intro w'
            go_simp
            with_reducible rfl
           rotate_left
           ·
            simp only [Act.put, za_, zb_, zc_, i64_w, i32_w]
            rfl
           refine pure_ (i := 19) (N := some 139) (v := ?_) (a' := ?_) (mm [(20, true), (19, false)]) rfl rfl (any_of HT_.out (by kernel_rfl)) (fun _ _ _ h => h) (Or.inl ⟨by rfl, ?_⟩) ?_ ?_
           rotate_left
           ·
            intro w'
            go_simp
            with_reducible rfl
           rotate_left
           ·
            simp only [Act.put, za_, zb_, zc_, i64_w, i32_w]
            rfl
           refine pure_ (i := 20) (N := some 140) (v := ?_) (a' := ?_) (mm [(21, true), (18, false)]) rfl rfl (any_of HT_.out (by kernel_rfl)) (fun _ _ _ h => h) (Or.inl ⟨by rfl, ?_⟩) ?_ ?_
           rotate_left
           ·
            intro w'
            go_simp
            with_reducible rfl
           rotate_left
           ·
            simp only [Act.put, za_, zb_, zc_, i64_w, i32_w]
            rfl
           refine pure_ (i := 21) (N := some 141) (v := ?_) (a' := ?_) (mm [(22, true), (17, false)]) rfl rfl (any_of HT_.out (by kernel_rfl)) (fun _ _ _ h => h) (Or.inl ⟨by rfl, ?_⟩) ?_ ?_
           rotate_left
           ·
            intro w'
            go_simp
            with_reducible rfl
           rotate_left
           ·
            simp only [Act.put, za_, zb_, zc_, i64_w, i32_w]
            rfl
           refine pure_ (i := 22) (N := some 142) (v := ?_) (a' := ?_) (mm [(23, true), (16, false)]) rfl rfl (any_of HT_.out (by kernel_rfl)) (fun _ _ _ h => h) (Or.inl ⟨by rfl, ?_⟩) ?_ ?_
           rotate_left
           ·
            intro w'
            go_simp
            with_reducible rfl
           rotate_left
           ·
            simp only [Act.put, za_, zb_, zc_, i64_w, i32_w]
            rfl
           refine pure_ (i := 23) (N := some 143) (v := undef) (a' := ?_) (mm [(24, true), (15, false)]) rfl rfl (any_of HT_.out (by kernel_rfl)) (fun _ _ _ h => h) (Or.inr ⟨by rfl, rfl⟩) ?_ ?_
           rotate_left
           ·
            simp only [Act.put, za_, zb_, zc_, i64_w, i32_w]
            rfl
           refine pure_ (i := 24) (N := some 144) (v := undef) (a' := ?_) (mm [(25, true), (14, false)]) rfl rfl (any_of HT_.out (by kernel_rfl)) (fun _ _ _ h => h) (Or.inr ⟨by rfl, rfl⟩) ?_ ?_
           rotate_left
           ·
            simp only [Act.put, za_, zb_, zc_, i64_w, i32_w]
            rfl
           refine pure_ (i := 25) (N := some 145) (v := undef) (a' := ?_) (mm [(26, true), (13, false)]) rfl rfl (any_of HT_.out (by kernel_rfl)) (fun _ _ _ h => h) (Or.inr ⟨by rfl, rfl⟩) ?_ ?_
           rotate_left
           ·
            simp only [Act.put, za_, zb_, zc_, i64_w, i32_w]
            rfl
           refine pure_ (i := 26) (N := some 146) (v := undef) (a' := ?_) (mm [(27, true), (12, false)]) rfl rfl (any_of HT_.out (by kernel_rfl)) (fun _ _ _ h => h) (Or.inr ⟨by rfl, rfl⟩) ?_ ?_
           rotate_left
           ·
            simp only [Act.put, za_, zb_, zc_, i64_w, i32_w]
            rfl
           refine pure_ (i := 27) (N := some 147) (v := undef) (a' := ?_) (mm [(28, true), (11, false)]) rfl rfl (any_of HT_.out (by kernel_rfl)) (fun _ _ _ h => h) (Or.inr ⟨by rfl, rfl⟩) ?_ ?_
           rotate_left
           ·
            simp only [Act.put, za_, zb_, zc_, i64_w, i32_w]
            rfl
           refine pure_ (i := 28) (N := some 148) (v := ?_) (a' := ?_) (mm [(29, true), (10, false)]) rfl rfl (any_of HT_.out (by kernel_rfl)) (fun _ _ _ h => h) (Or.inl ⟨by rfl, ?_⟩) ?_ ?_
           rotate_left
           ·
            intro w'
            go_simp
            with_reducible rfl
           rotate_left
           ·
            simp only [Act.put, za_, zb_, zc_, i64_w, i32_w]
            rfl
           refine pure_ (i := 29) (N := some 149) (v := ?_) (a' := ?_) (mm [(30, true), (9, false)]) rfl rfl (any_of HT_.out (by kernel_rfl)) (fun _ _ _ h => h) (Or.inl ⟨by rfl, ?_⟩) ?_ ?_
           rotate_left
           ·
            intro w'
            go_simp
            with_reducible rfl
           rotate_left
           ·
            simp only [Act.put, za_, zb_, zc_, i64_w, i32_w]
            rfl
           refine pure_ (i := 30) (N := some 150) (v := ?_) (a' := ?_) (mm [(31, true), (8, false)]) rfl rfl (any_of HT_.out (by kernel_rfl)) (fun _ _ _ h => h) (Or.inl ⟨by rfl, ?_⟩) ?_ ?_
           rotate_left
           ·
            intro w'
            go_simp
            with_reducible rfl
           rotate_left
           ·
            simp only [Act.put, za_, zb_, zc_, i64_w, i32_w]
            rfl
           refine pure_ (i := 31) (N := some 151) (v := ?_) (a' := ?_) (mm [(32, true), (7, false)]) rfl rfl (any_of HT_.out (by kernel_rfl)) (fun _ _ _ h => h) (Or.inl ⟨by rfl, ?_⟩) ?_ ?_
           rotate_left
           ·
            intro w'
            go_simp
            with_reducible rfl
           rotate_left
           ·
            simp only [Act.put, za_, zb_, zc_, i64_w, i32_w]
            rfl
           refine pure_ (i := 34) (N := some 154) (v := ?_) (a' := ?_) (mm [(32, true), (2, false), (1, true), (4, false)]) rfl rfl (any_of HT_.out (by kernel_rfl)) (fun _ _ _ h => h) (Or.inl ⟨by rfl, ?_⟩) ?_ ?_
           rotate_left
           ·
            intro w'
            go_simp
            with_reducible rfl
           rotate_left
           ·
            simp only [Act.put, za_, zb_, zc_, i64_w, i32_w]
            rfl
           refine take_ (i := 32) (N := some 152) (v := ?_) (a' := ?_) (mm [(33, true), (1, false), (1, true), (4, false)]) rfl rfl (take_ofW HT_.out HW_.out (by kernel_rfl)) (fun _ _ _ h => h) (Or.inl ⟨by rfl, ?_⟩) hHeld ?_ ?_
           rotate_left
           ·
            rintro w' ⟨s0, s1, s2⟩
            go_simp
            with_reducible rfl
           rotate_left
           ·
            simp only [Act.put, za_, zb_, zc_, i64_w, i32_w]
            rfl
           refine take_ (i := 35) (N := some 155) (v := ?_) (a' := ?_) (mm [(33, true), (1, false), (2, true), (3, false)]) rfl rfl (take_ofW HT_.out HW_.out (by kernel_rfl)) (fun _ _ _ h => h) (Or.inl ⟨by rfl, ?_⟩) hHeld ?_ ?_
           rotate_left
           ·
            rintro w' ⟨s0, s1, s2⟩
            go_simp
            with_reducible rfl
           rotate_left
           ·
            simp only [Act.put, za_, zb_, zc_, i64_w, i32_w]
            rfl
           refine one_ (i := 33) (N := some 153) (mm [(36, true), (3, false)]) rfl rfl (one_of HT_.out (by kernel_rfl)) (by decide) (fun K hK => ?_)
           refine goes_ Try.func15 (by kernel_rfl) rfl #[.slice Ao22 t496.length co22] (by rfl) rfl rfl (by (try simp only [List.map_toArray, List.map_cons, List.map_nil]); first | done | rfl | (simp only [List.length_drop, List.length_take]; rfl)) ?_
           with_reducible refine (dom_Idoms.calls k2 _ _ t496 t537 _ ?side1 ?side2 A89.out).mono ?_
           (case side1 => repeat (first | exact (Kd.S_reads' O2.out).2.2 | (with_reducible refine Kd.C_alloc ?_ _) | (with_reducible refine Kd.C_drewN ?_ _) | (with_reducible refine Kd.C_drew ?_)))
           (case side2 => exact (Kd.S_reads' O2.out).2.1)
           rintro e w103 ⟨v538, rfl, ho0, hb⟩
           refine ⟨_, rfl, ?_⟩
           have n0_ := Aside0.mk (Kd.R_below (by (with_reducible repeat (first | apply Kd.R_alloc | apply Kd.R_drewN | apply Kd.R_drew)); exact HO_15.out) hb)
           have n1_ := Aside0.mk (Kd.R_below (by (with_reducible repeat (first | apply Kd.R_alloc | apply Kd.R_drewN | apply Kd.R_drew)); exact HO_16.out) hb)
           have n2_ := Aside0.mk (Kd.S_elder' (by (with_reducible repeat (first | apply Kd.S_alloc | apply Kd.S_drewN | apply Kd.S_drew)); exact O0.out) (Kd.R_base ho0) hb)
           have n3_ := Aside0.mk (Kd.R_elder' (by (with_reducible repeat (first | apply Kd.R_alloc | apply Kd.R_drewN | apply Kd.R_drew)); exact O1.out) (Kd.R_base ho0) hb)
           have n4_ := Aside0.mk (Kd.S_elder' (by (with_reducible repeat (first | apply Kd.S_alloc | apply Kd.S_drewN | apply Kd.S_drew)); exact O2.out) (Kd.R_base ho0) hb)
           have n5_ := Aside0.mk (Kd.R_elder' (by (with_reducible repeat (first | apply Kd.R_alloc | apply Kd.R_drewN | apply Kd.R_drew)); exact O3.out) (Kd.R_base ho0) hb)
           have n6_ := Aside0.mk (Kd.S_elder' (by (with_reducible repeat (first | apply Kd.S_alloc | apply Kd.S_drewN | apply Kd.S_drew)); exact O4.out) (Kd.R_base ho0) hb)
           have n7_ := Aside0.mk (Kd.R_elder' (by (with_reducible repeat (first | apply Kd.R_alloc | apply Kd.R_drewN | apply Kd.R_drew)); exact O5.out) (Kd.R_base ho0) hb)
           have n8_ := Aside0.mk (Kd.R_elder' (by (with_reducible repeat (first | apply Kd.R_alloc | apply Kd.R_drewN | apply Kd.R_drew)); exact HO530.out) (Kd.R_base ho0) hb)
           have n9_ := Aside0.mk (Kd.R_elder' (by (with_reducible repeat (first | apply Kd.R_alloc | apply Kd.R_drewN | apply Kd.R_drew)); exact HO533.out) (Kd.R_base ho0) hb)
           have n10_ := Aside0.mk (Kd.R_elder' (by (with_reducible repeat (first | apply Kd.R_alloc | apply Kd.R_drewN | apply Kd.R_drew)); exact HO536.out) (Kd.R_base ho0) hb)
           have n11_ := Aside0.mk (Kd.R_lower (Kd.R_new' (Kd.R_new' (Kd.R_new' (Kd.R_new' (Kd.R_new' (Kd.R_new' ho0 (Kd.R_lt (by (with_reducible repeat (first | apply Kd.R_alloc | apply Kd.R_drewN | apply Kd.R_drew)); exact O1.out))) (Kd.R_lt (by (with_reducible repeat (first | apply Kd.R_alloc | apply Kd.R_drewN | apply Kd.R_drew)); exact O3.out))) (Kd.R_lt (by (with_reducible repeat (first | apply Kd.R_alloc | apply Kd.R_drewN | apply Kd.R_drew)); exact O5.out))) (Kd.R_lt (by (with_reducible repeat (first | apply Kd.R_alloc | apply Kd.R_drewN | apply Kd.R_drew)); exact HO530.out))) (Kd.R_lt (by (with_reducible repeat (first | apply Kd.R_alloc | apply Kd.R_drewN | apply Kd.R_drew)); exact HO533.out))) (Kd.R_lt (by (with_reducible repeat (first | apply Kd.R_alloc | apply Kd.R_drewN | apply Kd.R_drew)); exact HO536.out))) (below_size (by repeat (first | (with_reducible first | exact HB.out | apply below_alloc | apply pw_below_drewN | apply below_drew1 | refine below_set ?_ GE495.out | refine below_set ?_ GE506.out | refine below_set ?_ GE517.out) | exact HB.out))))
           have n12_ := Aside0.mk (blk_below (g := gb495) (o := .cells #[.slice Ao17 t488.length co17, .slice Ao19 t491.length co19, .bool t494] 40 (0, 0)) (by (with_reducible repeat (first | refine blk_drewN ?_ _ | refine blk_drew ?_ | refine blk_alloc ?_ _)); exact BK495.out) hb)
           have n13_ := Aside0.mk (blk_below (g := gb506) (o := .cells #[.slice Ao22 t496.length co22, .slice Ao25 t499.length co25, .bool t502] 40 (0, 0)) (by (with_reducible repeat (first | refine blk_drewN ?_ _ | refine blk_drew ?_ | refine blk_alloc ?_ _)); exact BK506.out) hb)
           have n14_ := Aside0.mk (blk_below (g := gb517) (o := .cells #[.slice Ao29 t507.length co29, .slice Ao33 t510.length co33, .bool t513] 40 (0, 0)) (by (with_reducible repeat (first | refine blk_drewN ?_ _ | refine blk_drew ?_ | refine blk_alloc ?_ _)); exact BK517.out) hb)
           have n15_ := Aside0.mk (below_step (by repeat (first | (with_reducible first | exact HB.out | apply below_alloc | apply pw_below_drewN | apply below_drew1 | refine below_set ?_ GE495.out | refine below_set ?_ GE506.out | refine below_set ?_ GE517.out) | exact HB.out)) hb)
           clear HO_15 HO_16 O0 O1 O2 O3 O4 O5 HO530 HO533 HO536 BK495 BK506 BK517 HB
           have HO_15 := n0_
           have HO_16 := n1_
           have O0 := n2_
           have O1 := n3_
           have O2 := n4_
           have O3 := n5_
           have O4 := n6_
           have O5 := n7_
           have HO530 := n8_
           have HO533 := n9_
           have HO536 := n10_
           have HO539 := n11_
           have BK495 := n12_
           have BK506 := n13_
           have BK517 := n14_
           have HB := n15_
           clear n0_ n1_ n2_ n3_ n4_ n5_ n6_ n7_ n8_ n9_ n10_ n11_ n12_ n13_ n14_ n15_
           (try clear hb)
           (try clear hb2)
           (try clear hk)
           (try clear hi)
           (try clear ho0)
           obtain ⟨Ao104, co104, eo104⟩ := Kd.R_slice HO539.out
           (first | subst eo104 | (injection eo104 with f1_ f2_ f3_; have f4_ := f1_.symm; have f5_ := f3_.symm; clear f1_ f2_ f3_; subst f4_; subst f5_))
           refine hK.out _ _ ⟨(blk_cell BK506.out 0).trans rfl, (blk_cell BK506.out 1).trans rfl, (blk_cell BK506.out 2).trans rfl⟩ (fun hHeld => ?_)
           clear hK K
           refine norm_ (a' := ?_) ?_ ?_
           rotate_left
           ·
            show Act.put _ (some 153) _ = _
            simp only [Act.put, za_, zb_, zc_, i64_w, i32_w]
            rfl
           refine one_ (i := 36) (N := some 156) (mm [(37, true), (2, false)]) rfl rfl (one_of HT_.out (by kernel_rfl)) (by decide) (fun K hK => ?_)
           refine goes_ Try.func21 (by kernel_rfl) rfl #[.slice Ao104 t537.length co104, .slice Ao25 t499.length co25] (by rfl) rfl rfl (by (try simp only [List.map_toArray, List.map_cons, List.map_nil]); first | done | rfl | (simp only [List.length_drop, List.length_take]; rfl)) ?_
           with_reducible refine (bywashref01_Ints.calls k2 _ _ t537 _ _ t499 t540 _ ?side1 ?side2 ?side3 ?side4 A90.out).mono ?_
           (case side1 => repeat (first | exact (Kd.R_reads' HO539.out).2.2 | (with_reducible refine Kd.C_alloc ?_ _) | (with_reducible refine Kd.C_drewN ?_ _) | (with_reducible refine Kd.C_drew ?_)))
           (case side2 => exact (Kd.R_reads' HO539.out).2.1)
           (case side3 => repeat (first | exact (Kd.R_reads' O3.out).2.2 | (with_reducible refine Kd.C_alloc ?_ _) | (with_reducible refine Kd.C_drewN ?_ _) | (with_reducible refine Kd.C_drew ?_)))
           (case side4 => exact (Kd.R_reads' O3.out).2.1)
           rintro e w' ⟨rfl, ⟨nd, rfl⟩⟩
           refine ⟨_, rfl, ?_⟩
           refine hK.out _ _ ⟨(blk_cell BK506.out 0).trans rfl, (blk_cell BK506.out 1).trans rfl, (blk_cell BK506.out 2).trans rfl⟩ (fun hHeld => ?_)
           clear hK K
           refine norm_ (a' := ?_) ?_ ?_
           rotate_left
           ·
            show Act.put _ (some 156) _ = _
            simp only [Act.put, za_, zb_, zc_, i64_w, i32_w]
            rfl
           refine pure_ (i := 37) (N := some 157) (v := ?_) (a' := ?_) (mm [(38, true), (1, false)]) rfl rfl (any_of HT_.out (by kernel_rfl)) (fun _ _ _ h => h) (Or.inl ⟨by rfl, ?_⟩) ?_ ?_
           rotate_left
           ·
            intro w'
            go_simp
            with_reducible rfl
           rotate_left
           ·
            simp only [Act.put, za_, zb_, zc_, i64_w, i32_w]
            rfl
           refine pure_ (i := 38) (N := some 8) (v := ?_) (a' := ?_) (mm [(39, true)]) rfl rfl (any_of HT_.out (by kernel_rfl)) (fun _ _ _ h => h) (Or.inl ⟨by rfl, ?_⟩) ?_ ?_
           rotate_left
           ·
            intro w'
            go_simp
            with_reducible rfl
           rotate_left
           ·
            simp only [Act.put, za_, zb_, zc_, i64_w, i32_w]
            rfl
           refine done_ (done_of HT_.out (by kernel_rfl)) ?_
           try go_wp2
           go_ret
           exact ⟨by first | rfl | (simp [errW_none, errW_some] <;> rfl) | (simp [*, errW_none, errW_some] <;> rfl) | (exfalso; (try simp_all); (try omega); done), by repeat (first | (with_reducible first | exact HB.out | apply below_alloc | apply pw_below_drewN | apply below_drew1 | refine below_set ?_ GE495.out | refine below_set ?_ GE506.out | refine below_set ?_ GE517.out) | exact HB.out)⟩
          ·
           rw [if_neg c88] at H
           have c88b0 : ((t534.length : Int) == 0) = false := beq_eq_false_iff_ne.mpr c88
           have c88b1 : ((t534.length : Int) != 0) = true := bne_iff_ne.mpr c88
           have c88b2 : ¬ (t534 = []) := fun h_ => c88 (by rw [h_]; rfl)
           by_cases c105 : (t534.length : Int) ≥ (t528.length : Int)
           ·
            rw [if_pos c105] at H
            have c105b0 : decide ((t528.length : Int) ≤ (t534.length : Int)) = true := decide_eq_true c105
            have c105b1 : decide (t528.length ≤ t534.length) = true := decide_eq_true (Int.ofNat_le.mp c105)
            clear c105
            replace H := Option.bind_eq_some_iff.mp H
            obtain ⟨t541, A1060, H⟩ := H
            replace H : ((bywashref01_Ints.f k2 t541 t499).bind fun t544 => (some t544)) = some r := H
            have A106 := Aside0.mk A1060
            clear A1060
            replace H := Option.bind_eq_some_iff.mp H
            obtain ⟨t544, A1070, H⟩ := H
            replace H : (some t544) = some r := H
            have A107 := Aside0.mk A1070
            clear A1070
            obtain rfl := Option.some.inj H
            have hnb108 := NB495_506.out
            have hnc108 := NB506_495.out
            have hnb109 := NB495_517.out
            have hnc109 := NB517_495.out
            have hcz110_0 : wr.cell? ⟨gb495, 0, none⟩ = some (.slice Ao17 t488.length co17) := (blk_cell BK495.out 0).trans rfl
            have hcz110_1 : wr.cell? ⟨gb495, 1, none⟩ = some (.slice Ao19 t491.length co19) := (blk_cell BK495.out 1).trans rfl
            have hcz110_2 : wr.cell? ⟨gb495, 2, none⟩ = some (.bool t494) := (blk_cell BK495.out 2).trans rfl
            have hfz110_0 := blk_frozen BK495.out 0
            have hfz110_1 := blk_frozen BK495.out 1
            have hfz110_2 := blk_frozen BK495.out 2
            try go_wp2_with (first | ((with_reducible refine gate_callee (f := 25) rfl ?_); refine goesL_ (some 111) rfl rfl Try.func25 (by kernel_rfl) rfl #[.slice Ao19 t491.length co19, .int .i64 a3] rfl (by (try simp only [List.map_toArray, List.map_cons, List.map_nil]); first | done | rfl | (simp only [List.length_drop, List.length_take]; rfl)) ?_; (with_reducible refine (dom_Chain.calls k2 _ _ t491 a3 t528 _ ?side1 ?side2 A83.out).mono ?_); (case side1 => repeat (first | exact (Kd.R_reads' O1.out).2.2 | (with_reducible refine Kd.C_alloc ?_ _) | (with_reducible refine Kd.C_drewN ?_ _) | (with_reducible refine Kd.C_drew ?_))); (case side2 => exact (Kd.R_reads' O1.out).2.1); rintro e w111 ⟨v529, rfl, ho0, hb⟩; refine ⟨_, rfl, ?_⟩; have n0_ := Aside0.mk (Kd.R_below (by (with_reducible repeat (first | apply Kd.R_alloc | apply Kd.R_drewN | apply Kd.R_drew)); exact HO_15.out) hb); have n1_ := Aside0.mk (Kd.R_below (by (with_reducible repeat (first | apply Kd.R_alloc | apply Kd.R_drewN | apply Kd.R_drew)); exact HO_16.out) hb); have n2_ := Aside0.mk (Kd.S_elder' (by (with_reducible repeat (first | apply Kd.S_alloc | apply Kd.S_drewN | apply Kd.S_drew)); exact O0.out) (Kd.R_base ho0) hb); have n3_ := Aside0.mk (Kd.R_elder' (by (with_reducible repeat (first | apply Kd.R_alloc | apply Kd.R_drewN | apply Kd.R_drew)); exact O1.out) (Kd.R_base ho0) hb); have n4_ := Aside0.mk (Kd.S_elder' (by (with_reducible repeat (first | apply Kd.S_alloc | apply Kd.S_drewN | apply Kd.S_drew)); exact O2.out) (Kd.R_base ho0) hb); have n5_ := Aside0.mk (Kd.R_elder' (by (with_reducible repeat (first | apply Kd.R_alloc | apply Kd.R_drewN | apply Kd.R_drew)); exact O3.out) (Kd.R_base ho0) hb); have n6_ := Aside0.mk (Kd.S_elder' (by (with_reducible repeat (first | apply Kd.S_alloc | apply Kd.S_drewN | apply Kd.S_drew)); exact O4.out) (Kd.R_base ho0) hb); have n7_ := Aside0.mk (Kd.R_elder' (by (with_reducible repeat (first | apply Kd.R_alloc | apply Kd.R_drewN | apply Kd.R_drew)); exact O5.out) (Kd.R_base ho0) hb); have n8_ := Aside0.mk (Kd.R_lower (Kd.R_new' (Kd.R_new' (Kd.R_new' ho0 (Kd.R_lt (by (with_reducible repeat (first | apply Kd.R_alloc | apply Kd.R_drewN | apply Kd.R_drew)); exact O1.out))) (Kd.R_lt (by (with_reducible repeat (first | apply Kd.R_alloc | apply Kd.R_drewN | apply Kd.R_drew)); exact O3.out))) (Kd.R_lt (by (with_reducible repeat (first | apply Kd.R_alloc | apply Kd.R_drewN | apply Kd.R_drew)); exact O5.out))) (below_size (by repeat (first | (with_reducible first | exact HB.out | apply below_alloc | apply pw_below_drewN | apply below_drew1 | refine below_set ?_ GE495.out | refine below_set ?_ GE506.out | refine below_set ?_ GE517.out) | exact HB.out)))); have n9_ := Aside0.mk (blk_below (g := gb495) (o := .cells #[.slice Ao17 t488.length co17, .slice Ao19 t491.length co19, .bool t494] 40 (0, 0)) (by (with_reducible repeat (first | refine blk_drewN ?_ _ | refine blk_drew ?_ | refine blk_alloc ?_ _)); exact BK495.out) hb); have n10_ := Aside0.mk (blk_below (g := gb506) (o := .cells #[.slice Ao22 t496.length co22, .slice Ao25 t499.length co25, .bool t502] 40 (0, 0)) (by (with_reducible repeat (first | refine blk_drewN ?_ _ | refine blk_drew ?_ | refine blk_alloc ?_ _)); exact BK506.out) hb); have n11_ := Aside0.mk (blk_below (g := gb517) (o := .cells #[.slice Ao29 t507.length co29, .slice Ao33 t510.length co33, .bool t513] 40 (0, 0)) (by (with_reducible repeat (first | refine blk_drewN ?_ _ | refine blk_drew ?_ | refine blk_alloc ?_ _)); exact BK517.out) hb); have n12_ := Aside0.mk (below_step (by repeat (first | (with_reducible first | exact HB.out | apply below_alloc | apply pw_below_drewN | apply below_drew1 | refine below_set ?_ GE495.out | refine below_set ?_ GE506.out | refine below_set ?_ GE517.out) | exact HB.out)) hb); clear HO_15; clear HO_16; clear O0; clear O1; clear O2; clear O3; clear O4; clear O5; clear BK495; clear BK506; clear BK517; clear HB; have HO_15 := n0_; have HO_16 := n1_; have O0 := n2_; have O1 := n3_; have O2 := n4_; have O3 := n5_; have O4 := n6_; have O5 := n7_; have HO530 := n8_; have BK495 := n9_; have BK506 := n10_; have BK517 := n11_; have HB := n12_; clear n0_ n1_ n2_ n3_ n4_ n5_ n6_ n7_ n8_ n9_ n10_ n11_ n12_; (try clear hb); (try clear hb2); (try clear hk); (try clear hi); (try clear ho0); have hnb112 := NB506_517.out; have hnc112 := NB517_506.out; have hcz113_0 : w111.cell? ⟨gb506, 0, none⟩ = some (.slice Ao22 t496.length co22) := (blk_cell BK506.out 0).trans rfl; have hcz113_1 : w111.cell? ⟨gb506, 1, none⟩ = some (.slice Ao25 t499.length co25) := (blk_cell BK506.out 1).trans rfl; have hcz113_2 : w111.cell? ⟨gb506, 2, none⟩ = some (.bool t502) := (blk_cell BK506.out 2).trans rfl; have hfz113_0 := blk_frozen BK506.out 0; have hfz113_1 := blk_frozen BK506.out 1; have hfz113_2 := blk_frozen BK506.out 2) | ((with_reducible refine gate_callee (f := 25) rfl ?_); refine goesL_ (some 115) rfl rfl Try.func25 (by kernel_rfl) rfl #[.slice Ao25 t499.length co25, .int .i64 a3] rfl (by (try simp only [List.map_toArray, List.map_cons, List.map_nil]); first | done | rfl | (simp only [List.length_drop, List.length_take]; rfl)) ?_; (with_reducible refine (dom_Chain.calls k2 _ _ t499 a3 t531 _ ?side1 ?side2 A84.out).mono ?_); (case side1 => repeat (first | exact (Kd.R_reads' O3.out).2.2 | (with_reducible refine Kd.C_alloc ?_ _) | (with_reducible refine Kd.C_drewN ?_ _) | (with_reducible refine Kd.C_drew ?_))); (case side2 => exact (Kd.R_reads' O3.out).2.1); rintro e w114 ⟨v532, rfl, ho0, hb⟩; refine ⟨_, rfl, ?_⟩; have n0_ := Aside0.mk (Kd.R_below (by (with_reducible repeat (first | apply Kd.R_alloc | apply Kd.R_drewN | apply Kd.R_drew)); exact HO_15.out) hb); have n1_ := Aside0.mk (Kd.R_below (by (with_reducible repeat (first | apply Kd.R_alloc | apply Kd.R_drewN | apply Kd.R_drew)); exact HO_16.out) hb); have n2_ := Aside0.mk (Kd.S_elder' (by (with_reducible repeat (first | apply Kd.S_alloc | apply Kd.S_drewN | apply Kd.S_drew)); exact O0.out) (Kd.R_base ho0) hb); have n3_ := Aside0.mk (Kd.R_elder' (by (with_reducible repeat (first | apply Kd.R_alloc | apply Kd.R_drewN | apply Kd.R_drew)); exact O1.out) (Kd.R_base ho0) hb); have n4_ := Aside0.mk (Kd.S_elder' (by (with_reducible repeat (first | apply Kd.S_alloc | apply Kd.S_drewN | apply Kd.S_drew)); exact O2.out) (Kd.R_base ho0) hb); have n5_ := Aside0.mk (Kd.R_elder' (by (with_reducible repeat (first | apply Kd.R_alloc | apply Kd.R_drewN | apply Kd.R_drew)); exact O3.out) (Kd.R_base ho0) hb); have n6_ := Aside0.mk (Kd.S_elder' (by (with_reducible repeat (first | apply Kd.S_alloc | apply Kd.S_drewN | apply Kd.S_drew)); exact O4.out) (Kd.R_base ho0) hb); have n7_ := Aside0.mk (Kd.R_elder' (by (with_reducible repeat (first | apply Kd.R_alloc | apply Kd.R_drewN | apply Kd.R_drew)); exact O5.out) (Kd.R_base ho0) hb); have n8_ := Aside0.mk (Kd.R_elder' (by (with_reducible repeat (first | apply Kd.R_alloc | apply Kd.R_drewN | apply Kd.R_drew)); exact HO530.out) (Kd.R_base ho0) hb); have n9_ := Aside0.mk (Kd.R_lower (Kd.R_new' (Kd.R_new' (Kd.R_new' (Kd.R_new' ho0 (Kd.R_lt (by (with_reducible repeat (first | apply Kd.R_alloc | apply Kd.R_drewN | apply Kd.R_drew)); exact O1.out))) (Kd.R_lt (by (with_reducible repeat (first | apply Kd.R_alloc | apply Kd.R_drewN | apply Kd.R_drew)); exact O3.out))) (Kd.R_lt (by (with_reducible repeat (first | apply Kd.R_alloc | apply Kd.R_drewN | apply Kd.R_drew)); exact O5.out))) (Kd.R_lt (by (with_reducible repeat (first | apply Kd.R_alloc | apply Kd.R_drewN | apply Kd.R_drew)); exact HO530.out))) (below_size (by repeat (first | (with_reducible first | exact HB.out | apply below_alloc | apply pw_below_drewN | apply below_drew1 | refine below_set ?_ GE495.out | refine below_set ?_ GE506.out | refine below_set ?_ GE517.out) | exact HB.out)))); have n10_ := Aside0.mk (blk_below (g := gb495) (o := .cells #[.slice Ao17 t488.length co17, .slice Ao19 t491.length co19, .bool t494] 40 (0, 0)) (by (with_reducible repeat (first | refine blk_drewN ?_ _ | refine blk_drew ?_ | refine blk_alloc ?_ _)); exact BK495.out) hb); have n11_ := Aside0.mk (blk_below (g := gb506) (o := .cells #[.slice Ao22 t496.length co22, .slice Ao25 t499.length co25, .bool t502] 40 (0, 0)) (by (with_reducible repeat (first | refine blk_drewN ?_ _ | refine blk_drew ?_ | refine blk_alloc ?_ _)); exact BK506.out) hb); have n12_ := Aside0.mk (blk_below (g := gb517) (o := .cells #[.slice Ao29 t507.length co29, .slice Ao33 t510.length co33, .bool t513] 40 (0, 0)) (by (with_reducible repeat (first | refine blk_drewN ?_ _ | refine blk_drew ?_ | refine blk_alloc ?_ _)); exact BK517.out) hb); have n13_ := Aside0.mk (below_step (by repeat (first | (with_reducible first | exact HB.out | apply below_alloc | apply pw_below_drewN | apply below_drew1 | refine below_set ?_ GE495.out | refine below_set ?_ GE506.out | refine below_set ?_ GE517.out) | exact HB.out)) hb); clear HO_15; clear HO_16; clear O0; clear O1; clear O2; clear O3; clear O4; clear O5; clear HO530; clear BK495; clear BK506; clear BK517; clear HB; have HO_15 := n0_; have HO_16 := n1_; have O0 := n2_; have O1 := n3_; have O2 := n4_; have O3 := n5_; have O4 := n6_; have O5 := n7_; have HO530 := n8_; have HO533 := n9_; have BK495 := n10_; have BK506 := n11_; have BK517 := n12_; have HB := n13_; clear n0_ n1_ n2_ n3_ n4_ n5_ n6_ n7_ n8_ n9_ n10_ n11_ n12_ n13_; (try clear hb); (try clear hb2); (try clear hk); (try clear hi); (try clear ho0); have hcz115_0 : w114.cell? ⟨gb517, 0, none⟩ = some (.slice Ao29 t507.length co29) := (blk_cell BK517.out 0).trans rfl; have hcz115_1 : w114.cell? ⟨gb517, 1, none⟩ = some (.slice Ao33 t510.length co33) := (blk_cell BK517.out 1).trans rfl; have hcz115_2 : w114.cell? ⟨gb517, 2, none⟩ = some (.bool t513) := (blk_cell BK517.out 2).trans rfl; have hfz115_0 := blk_frozen BK517.out 0; have hfz115_1 := blk_frozen BK517.out 1; have hfz115_2 := blk_frozen BK517.out 2) | ((with_reducible refine gate_callee (f := 25) rfl ?_); refine goesL_ (some 119) rfl rfl Try.func25 (by kernel_rfl) rfl #[.slice Ao33 t510.length co33, .int .i64 a3] rfl (by (try simp only [List.map_toArray, List.map_cons, List.map_nil]); first | done | rfl | (simp only [List.length_drop, List.length_take]; rfl)) ?_; (with_reducible refine (dom_Chain.calls k2 _ _ t510 a3 t534 _ ?side1 ?side2 A85.out).mono ?_); (case side1 => repeat (first | exact (Kd.R_reads' O5.out).2.2 | (with_reducible refine Kd.C_alloc ?_ _) | (with_reducible refine Kd.C_drewN ?_ _) | (with_reducible refine Kd.C_drew ?_))); (case side2 => exact (Kd.R_reads' O5.out).2.1); rintro e w116 ⟨v535, rfl, ho0, hb⟩; refine ⟨_, rfl, ?_⟩; have n0_ := Aside0.mk (Kd.R_below (by (with_reducible repeat (first | apply Kd.R_alloc | apply Kd.R_drewN | apply Kd.R_drew)); exact HO_15.out) hb); have n1_ := Aside0.mk (Kd.R_below (by (with_reducible repeat (first | apply Kd.R_alloc | apply Kd.R_drewN | apply Kd.R_drew)); exact HO_16.out) hb); have n2_ := Aside0.mk (Kd.S_elder' (by (with_reducible repeat (first | apply Kd.S_alloc | apply Kd.S_drewN | apply Kd.S_drew)); exact O0.out) (Kd.R_base ho0) hb); have n3_ := Aside0.mk (Kd.R_elder' (by (with_reducible repeat (first | apply Kd.R_alloc | apply Kd.R_drewN | apply Kd.R_drew)); exact O1.out) (Kd.R_base ho0) hb); have n4_ := Aside0.mk (Kd.S_elder' (by (with_reducible repeat (first | apply Kd.S_alloc | apply Kd.S_drewN | apply Kd.S_drew)); exact O2.out) (Kd.R_base ho0) hb); have n5_ := Aside0.mk (Kd.R_elder' (by (with_reducible repeat (first | apply Kd.R_alloc | apply Kd.R_drewN | apply Kd.R_drew)); exact O3.out) (Kd.R_base ho0) hb); have n6_ := Aside0.mk (Kd.S_elder' (by (with_reducible repeat (first | apply Kd.S_alloc | apply Kd.S_drewN | apply Kd.S_drew)); exact O4.out) (Kd.R_base ho0) hb); have n7_ := Aside0.mk (Kd.R_elder' (by (with_reducible repeat (first | apply Kd.R_alloc | apply Kd.R_drewN | apply Kd.R_drew)); exact O5.out) (Kd.R_base ho0) hb); have n8_ := Aside0.mk (Kd.R_elder' (by (with_reducible repeat (first | apply Kd.R_alloc | apply Kd.R_drewN | apply Kd.R_drew)); exact HO530.out) (Kd.R_base ho0) hb); have n9_ := Aside0.mk (Kd.R_elder' (by (with_reducible repeat (first | apply Kd.R_alloc | apply Kd.R_drewN | apply Kd.R_drew)); exact HO533.out) (Kd.R_base ho0) hb); have n10_ := Aside0.mk (Kd.R_lower (Kd.R_new' (Kd.R_new' (Kd.R_new' (Kd.R_new' (Kd.R_new' ho0 (Kd.R_lt (by (with_reducible repeat (first | apply Kd.R_alloc | apply Kd.R_drewN | apply Kd.R_drew)); exact O1.out))) (Kd.R_lt (by (with_reducible repeat (first | apply Kd.R_alloc | apply Kd.R_drewN | apply Kd.R_drew)); exact O3.out))) (Kd.R_lt (by (with_reducible repeat (first | apply Kd.R_alloc | apply Kd.R_drewN | apply Kd.R_drew)); exact O5.out))) (Kd.R_lt (by (with_reducible repeat (first | apply Kd.R_alloc | apply Kd.R_drewN | apply Kd.R_drew)); exact HO530.out))) (Kd.R_lt (by (with_reducible repeat (first | apply Kd.R_alloc | apply Kd.R_drewN | apply Kd.R_drew)); exact HO533.out))) (below_size (by repeat (first | (with_reducible first | exact HB.out | apply below_alloc | apply pw_below_drewN | apply below_drew1 | refine below_set ?_ GE495.out | refine below_set ?_ GE506.out | refine below_set ?_ GE517.out) | exact HB.out)))); have n11_ := Aside0.mk (blk_below (g := gb495) (o := .cells #[.slice Ao17 t488.length co17, .slice Ao19 t491.length co19, .bool t494] 40 (0, 0)) (by (with_reducible repeat (first | refine blk_drewN ?_ _ | refine blk_drew ?_ | refine blk_alloc ?_ _)); exact BK495.out) hb); have n12_ := Aside0.mk (blk_below (g := gb506) (o := .cells #[.slice Ao22 t496.length co22, .slice Ao25 t499.length co25, .bool t502] 40 (0, 0)) (by (with_reducible repeat (first | refine blk_drewN ?_ _ | refine blk_drew ?_ | refine blk_alloc ?_ _)); exact BK506.out) hb); have n13_ := Aside0.mk (blk_below (g := gb517) (o := .cells #[.slice Ao29 t507.length co29, .slice Ao33 t510.length co33, .bool t513] 40 (0, 0)) (by (with_reducible repeat (first | refine blk_drewN ?_ _ | refine blk_drew ?_ | refine blk_alloc ?_ _)); exact BK517.out) hb); have n14_ := Aside0.mk (below_step (by repeat (first | (with_reducible first | exact HB.out | apply below_alloc | apply pw_below_drewN | apply below_drew1 | refine below_set ?_ GE495.out | refine below_set ?_ GE506.out | refine below_set ?_ GE517.out) | exact HB.out)) hb); clear HO_15; clear HO_16; clear O0; clear O1; clear O2; clear O3; clear O4; clear O5; clear HO530; clear HO533; clear BK495; clear BK506; clear BK517; clear HB; have HO_15 := n0_; have HO_16 := n1_; have O0 := n2_; have O1 := n3_; have O2 := n4_; have O3 := n5_; have O4 := n6_; have O5 := n7_; have HO530 := n8_; have HO533 := n9_; have HO536 := n10_; have BK495 := n11_; have BK506 := n12_; have BK517 := n13_; have HB := n14_; clear n0_ n1_ n2_ n3_ n4_ n5_ n6_ n7_ n8_ n9_ n10_ n11_ n12_ n13_ n14_; (try clear hb); (try clear hb2); (try clear hk); (try clear hi); (try clear ho0)))
            have n0_ := Aside0.mk (Kd.R_drew HO_15.out)
            have n1_ := Aside0.mk (Kd.R_drew HO_16.out)
            have n2_ := Aside0.mk (Kd.S_drew O0.out)
            have n3_ := Aside0.mk (Kd.R_drew O1.out)
            have n4_ := Aside0.mk (Kd.S_drew O2.out)
            have n5_ := Aside0.mk (Kd.R_drew O3.out)
            have n6_ := Aside0.mk (Kd.S_drew O4.out)
            have n7_ := Aside0.mk (Kd.R_drew O5.out)
            have n8_ := Aside0.mk (Kd.R_drew HO530.out)
            have n9_ := Aside0.mk (Kd.R_drew HO533.out)
            have n10_ := Aside0.mk (Kd.R_drew HO536.out)
            have n11_ := Aside0.mk (blk_drew BK495.out)
            have n12_ := Aside0.mk (blk_drew BK506.out)
            have n13_ := Aside0.mk (blk_drew BK517.out)
            have n14_ := Aside0.mk (below_drew1 HB.out)
            clear HO_15 HO_16 O0 O1 O2 O3 O4 O5 HO530 HO533 HO536 BK495 BK506 BK517 HB
            have HO_15 := n0_
            have HO_16 := n1_
            have O0 := n2_
            have O1 := n3_
            have O2 := n4_
            have O3 := n5_
            have O4 := n6_
            have O5 := n7_
            have HO530 := n8_
            have HO533 := n9_
            have HO536 := n10_
            have BK495 := n11_
            have BK506 := n12_
            have BK517 := n13_
            have HB := n14_
            clear n0_ n1_ n2_ n3_ n4_ n5_ n6_ n7_ n8_ n9_ n10_ n11_ n12_ n13_ n14_
            obtain ⟨Ao118, co118, eo118⟩ := Kd.R_slice HO530.out
            (first | subst eo118 | (injection eo118 with f1_ f2_ f3_; have f4_ := f1_.symm; have f5_ := f3_.symm; clear f1_ f2_ f3_; subst f4_; subst f5_))
            obtain ⟨Ao119, co119, eo119⟩ := Kd.R_slice HO536.out
            (first | subst eo119 | (injection eo119 with f1_ f2_ f3_; have f4_ := f1_.symm; have f5_ := f3_.symm; clear f1_ f2_ f3_; subst f4_; subst f5_))
            refine start_ (n := 39) (S := fun w' => w'.cell? ⟨gb506, 0, none⟩ = some (.slice Ao22 t496.length co22) ∧ w'.cell? ⟨gb506, 1, none⟩ = some (.slice Ao25 t499.length co25) ∧ w'.cell? ⟨gb506, 2, none⟩ = some (.bool t502)) (ds := []) (mm [(39, false)]) (by kernel_rfl) rfl rfl ⟨(blk_cell BK506.out 0).trans rfl, (blk_cell BK506.out 1).trans rfl, (blk_cell BK506.out 2).trans rfl⟩ (fun hHeld => ?_); refine with_tabW bywashlaw15_DomupFound.tab19 bywashlaw15_DomupFound.bits19 (fun HT_ HW_ => ?_)
            generalize w116.drew = w117 at HO_15 HO_16 O0 O1 O2 O3 O4 O5 HO530 HO533 HO536 BK495 BK506 BK517 HB hHeld ⊢
            refine pure_ (i := 0) (N := some 120) (v := ?_) (a' := ?_) (mm [(1, true), (38, false)]) rfl rfl (any_of HT_.out (by kernel_rfl)) (fun _ _ _ h => h) (Or.inl ⟨by rfl, ?_⟩) ?_ ?_
            rotate_left
            ·
             intro w'
             go_simp
             with_reducible rfl
            rotate_left
            ·
             simp only [Act.put, za_, zb_, zc_, i64_w, i32_w]
             rfl
            refine pure_ (i := 1) (N := some 121) (v := ?_) (a' := ?_) (mm [(2, true), (37, false)]) rfl rfl (any_of HT_.out (by kernel_rfl)) (fun _ _ _ h => h) (Or.inl ⟨by rfl, ?_⟩) ?_ ?_
            rotate_left
            ·
             intro w'
             go_simp
             with_reducible rfl
            rotate_left
            ·
             simp only [Act.put, za_, zb_, zc_, i64_w, i32_w]
             rfl
            refine pure_ (i := 2) (N := some 122) (v := ?_) (a' := ?_) (mm [(3, true), (36, false)]) rfl rfl (any_of HT_.out (by kernel_rfl)) (fun _ _ _ h => h) (Or.inl ⟨by rfl, ?_⟩) ?_ ?_
            rotate_left
            ·
             intro w'
             go_simp
             with_reducible rfl
            rotate_left
            ·
             simp only [Act.put, za_, zb_, zc_, i64_w, i32_w]
             rfl
            refine pure_ (i := 3) (N := some 123) (v := ?_) (a' := ?_) (mm [(4, true), (35, false)]) rfl rfl (any_of HT_.out (by kernel_rfl)) (fun _ _ _ h => h) (Or.inl ⟨by rfl, ?_⟩) ?_ ?_
            rotate_left
            ·
             intro w'
             go_simp
             with_reducible rfl
            rotate_left
            ·
             simp only [Act.put, za_, zb_, zc_, i64_w, i32_w]
             rfl
            refine pure_ (i := 4) (N := some 124) (v := ?_) (a' := ?_) (mm [(5, true), (34, false)]) rfl rfl (any_of HT_.out (by kernel_rfl)) (fun _ _ _ h => h) (Or.inl ⟨by rfl, ?_⟩) ?_ ?_
            rotate_left
            ·
             intro w'
             go_simp
             with_reducible rfl
            rotate_left
            ·
             simp only [Act.put, za_, zb_, zc_, i64_w, i32_w]
             rfl
            refine pure_ (i := 5) (N := some 125) (v := ?_) (a' := ?_) (mm [(6, true), (33, false)]) rfl rfl (any_of HT_.out (by kernel_rfl)) (fun _ _ _ h => h) (Or.inl ⟨by rfl, ?_⟩) ?_ ?_
            rotate_left
            ·
             intro w'
             go_simp
             with_reducible rfl
            rotate_left
            ·
             simp only [Act.put, za_, zb_, zc_, i64_w, i32_w]
             rfl
            refine pure_ (i := 6) (N := some 126) (v := undef) (a' := ?_) (mm [(7, true), (32, false)]) rfl rfl (any_of HT_.out (by kernel_rfl)) (fun _ _ _ h => h) (Or.inr ⟨by rfl, rfl⟩) ?_ ?_
            rotate_left
            ·
             simp only [Act.put, za_, zb_, zc_, i64_w, i32_w]
             rfl
            refine pure_ (i := 7) (N := some 127) (v := undef) (a' := ?_) (mm [(8, true), (31, false)]) rfl rfl (any_of HT_.out (by kernel_rfl)) (fun _ _ _ h => h) (Or.inr ⟨by rfl, rfl⟩) ?_ ?_
            rotate_left
            ·
             simp only [Act.put, za_, zb_, zc_, i64_w, i32_w]
             rfl
            refine pure_ (i := 8) (N := some 128) (v := undef) (a' := ?_) (mm [(9, true), (30, false)]) rfl rfl (any_of HT_.out (by kernel_rfl)) (fun _ _ _ h => h) (Or.inr ⟨by rfl, rfl⟩) ?_ ?_
            rotate_left
            ·
             simp only [Act.put, za_, zb_, zc_, i64_w, i32_w]
             rfl
            refine pure_ (i := 9) (N := some 129) (v := undef) (a' := ?_) (mm [(10, true), (29, false)]) rfl rfl (any_of HT_.out (by kernel_rfl)) (fun _ _ _ h => h) (Or.inr ⟨by rfl, rfl⟩) ?_ ?_
            rotate_left
            ·
             simp only [Act.put, za_, zb_, zc_, i64_w, i32_w]
             rfl
            refine pure_ (i := 10) (N := some 130) (v := undef) (a' := ?_) (mm [(11, true), (28, false)]) rfl rfl (any_of HT_.out (by kernel_rfl)) (fun _ _ _ h => h) (Or.inr ⟨by rfl, rfl⟩) ?_ ?_
            rotate_left
            ·
             simp only [Act.put, za_, zb_, zc_, i64_w, i32_w]
             rfl
            refine pure_ (i := 11) (N := some 131) (v := undef) (a' := ?_) (mm [(12, true), (27, false)]) rfl rfl (any_of HT_.out (by kernel_rfl)) (fun _ _ _ h => h) (Or.inr ⟨by rfl, rfl⟩) ?_ ?_
            rotate_left
            ·
             simp only [Act.put, za_, zb_, zc_, i64_w, i32_w]
             rfl
            refine pure_ (i := 12) (N := some 132) (v := undef) (a' := ?_) (mm [(13, true), (26, false)]) rfl rfl (any_of HT_.out (by kernel_rfl)) (fun _ _ _ h => h) (Or.inr ⟨by rfl, rfl⟩) ?_ ?_
            rotate_left
            ·
             simp only [Act.put, za_, zb_, zc_, i64_w, i32_w]
             rfl
            refine pure_ (i := 13) (N := some 133) (v := undef) (a' := ?_) (mm [(14, true), (25, false)]) rfl rfl (any_of HT_.out (by kernel_rfl)) (fun _ _ _ h => h) (Or.inr ⟨by rfl, rfl⟩) ?_ ?_
            rotate_left
            ·
             simp only [Act.put, za_, zb_, zc_, i64_w, i32_w]
             rfl
            refine pure_ (i := 14) (N := some 134) (v := undef) (a' := ?_) (mm [(15, true), (24, false)]) rfl rfl (any_of HT_.out (by kernel_rfl)) (fun _ _ _ h => h) (Or.inr ⟨by rfl, rfl⟩) ?_ ?_
            rotate_left
            ·
             simp only [Act.put, za_, zb_, zc_, i64_w, i32_w]
             rfl
            refine pure_ (i := 15) (N := some 135) (v := undef) (a' := ?_) (mm [(16, true), (23, false)]) rfl rfl (any_of HT_.out (by kernel_rfl)) (fun _ _ _ h => h) (Or.inr ⟨by rfl, rfl⟩) ?_ ?_
            rotate_left
            ·
             simp only [Act.put, za_, zb_, zc_, i64_w, i32_w]
             rfl
            refine pure_ (i := 16) (N := some 136) (v := ?_) (a' := ?_) (mm [(17, true), (22, false)]) rfl rfl (any_of HT_.out (by kernel_rfl)) (fun _ _ _ h => h) (Or.inl ⟨by rfl, ?_⟩) ?_ ?_
            rotate_left
            ·
             intro w'
             go_simp
             with_reducible rfl
            rotate_left
            ·
             simp only [Act.put, za_, zb_, zc_, i64_w, i32_w]
             rfl
            refine pure_ (i := 17) (N := some 137) (v := ?_) (a' := ?_) (mm [(18, true), (21, false)]) rfl rfl (any_of HT_.out (by kernel_rfl)) (fun _ _ _ h => h) (Or.inl ⟨by rfl, ?_⟩) ?_ ?_
            rotate_left
            ·
             intro w'
             go_simp
             with_reducible rfl
            rotate_left
            ·
             simp only [Act.put, za_, zb_, zc_, i64_w, i32_w]
             rfl
            refine pure_ (i := 18) (N := some 138) (v := ?_) (a' := ?_) (mm [(19, true), (20, false)]) rfl rfl (any_of HT_.out (by kernel_rfl)) (fun _ _ _ h => h) (Or.inl ⟨by rfl, ?_⟩) ?_ ?_
            rotate_left
            ·
             intro w'
             go_simp
             with_reducible rfl
            rotate_left
            ·
             simp only [Act.put, za_, zb_, zc_, i64_w, i32_w]
             rfl
            refine pure_ (i := 19) (N := some 139) (v := ?_) (a' := ?_) (mm [(20, true), (19, false)]) rfl rfl (any_of HT_.out (by kernel_rfl)) (fun _ _ _ h => h) (Or.inl ⟨by rfl, ?_⟩) ?_ ?_
            rotate_left
            ·
             intro w'
             go_simp
             with_reducible rfl
            rotate_left
            ·
             simp only [Act.put, za_, zb_, zc_, i64_w, i32_w]
             rfl
            refine pure_ (i := 20) (N := some 140) (v := ?_) (a' := ?_) (mm [(21, true), (18, false)]) rfl rfl (any_of HT_.out (by kernel_rfl)) (fun _ _ _ h => h) (Or.inl ⟨by rfl, ?_⟩) ?_ ?_
            rotate_left
            ·
             intro w'
             go_simp
             with_reducible rfl
            rotate_left
            ·
             simp only [Act.put, za_, zb_, zc_, i64_w, i32_w]
             rfl
            refine pure_ (i := 21) (N := some 141) (v := ?_) (a' := ?_) (mm [(22, true), (17, false)]) rfl rfl (any_of HT_.out (by kernel_rfl)) (fun _ _ _ h => h) (Or.inl ⟨by rfl, ?_⟩) ?_ ?_
            rotate_left
            ·
             intro w'
             go_simp
             with_reducible rfl
            rotate_left
            ·
             simp only [Act.put, za_, zb_, zc_, i64_w, i32_w]
             rfl
            refine pure_ (i := 22) (N := some 142) (v := ?_) (a' := ?_) (mm [(23, true), (16, false)]) rfl rfl (any_of HT_.out (by kernel_rfl)) (fun _ _ _ h => h) (Or.inl ⟨by rfl, ?_⟩) ?_ ?_
            rotate_left
            ·
             intro w'
             go_simp
             with_reducible rfl
            rotate_left
            ·
             simp only [Act.put, za_, zb_, zc_, i64_w, i32_w]
             rfl
            refine pure_ (i := 23) (N := some 143) (v := ?_) (a' := ?_) (mm [(24, true), (15, false)]) rfl rfl (any_of HT_.out (by kernel_rfl)) (fun _ _ _ h => h) (Or.inl ⟨by rfl, ?_⟩) ?_ ?_
            rotate_left
            ·
             intro w'
             go_simp
             with_reducible rfl
            rotate_left
            ·
             simp only [Act.put, za_, zb_, zc_, i64_w, i32_w]
             rfl
            refine pure_ (i := 24) (N := some 144) (v := ?_) (a' := ?_) (mm [(25, true), (14, false)]) rfl rfl (any_of HT_.out (by kernel_rfl)) (fun _ _ _ h => h) (Or.inl ⟨by rfl, ?_⟩) ?_ ?_
            rotate_left
            ·
             intro w'
             go_simp
             with_reducible rfl
            rotate_left
            ·
             simp only [Act.put, za_, zb_, zc_, i64_w, i32_w]
             rfl
            refine pure_ (i := 25) (N := some 145) (v := ?_) (a' := ?_) (mm [(26, true), (13, false)]) rfl rfl (any_of HT_.out (by kernel_rfl)) (fun _ _ _ h => h) (Or.inl ⟨by rfl, ?_⟩) ?_ ?_
            rotate_left
            ·
             intro w'
             go_simp
             with_reducible rfl
            rotate_left
            ·
             simp only [Act.put, za_, zb_, zc_, i64_w, i32_w]
             rfl
            refine pure_ (i := 26) (N := some 146) (v := ?_) (a' := ?_) (mm [(27, true), (12, false)]) rfl rfl (any_of HT_.out (by kernel_rfl)) (fun _ _ _ h => h) (Or.inl ⟨by rfl, ?_⟩) ?_ ?_
            rotate_left
            ·
             intro w'
             go_simp
             with_reducible rfl
            rotate_left
            ·
             simp only [Act.put, za_, zb_, zc_, i64_w, i32_w]
             rfl
            refine pure_ (i := 27) (N := some 147) (v := ?_) (a' := ?_) (mm [(28, true), (11, false)]) rfl rfl (any_of HT_.out (by kernel_rfl)) (fun _ _ _ h => h) (Or.inl ⟨by rfl, ?_⟩) ?_ ?_
            rotate_left
            ·
             intro w'
             go_simp
             with_reducible rfl
            rotate_left
            ·
             simp only [Act.put, za_, zb_, zc_, i64_w, i32_w]
             rfl
            refine pure_ (i := 28) (N := some 148) (v := ?_) (a' := ?_) (mm [(29, true), (10, false)]) rfl rfl (any_of HT_.out (by kernel_rfl)) (fun _ _ _ h => h) (Or.inl ⟨by rfl, ?_⟩) ?_ ?_
            rotate_left
            ·
             intro w'
             go_simp
             with_reducible rfl
            rotate_left
            ·
             simp only [Act.put, za_, zb_, zc_, i64_w, i32_w]
             rfl
            refine pure_ (i := 29) (N := some 149) (v := ?_) (a' := ?_) (mm [(30, true), (9, false)]) rfl rfl (any_of HT_.out (by kernel_rfl)) (fun _ _ _ h => h) (Or.inl ⟨by rfl, ?_⟩) ?_ ?_
            rotate_left
            ·
             intro w'
             go_simp
             with_reducible rfl
            rotate_left
            ·
             simp only [Act.put, za_, zb_, zc_, i64_w, i32_w]
             rfl
            refine pure_ (i := 30) (N := some 150) (v := ?_) (a' := ?_) (mm [(31, true), (8, false)]) rfl rfl (any_of HT_.out (by kernel_rfl)) (fun _ _ _ h => h) (Or.inl ⟨by rfl, ?_⟩) ?_ ?_
            rotate_left
            ·
             intro w'
             go_simp
             with_reducible rfl
            rotate_left
            ·
             simp only [Act.put, za_, zb_, zc_, i64_w, i32_w]
             rfl
            refine pure_ (i := 31) (N := some 151) (v := ?_) (a' := ?_) (mm [(32, true), (7, false)]) rfl rfl (any_of HT_.out (by kernel_rfl)) (fun _ _ _ h => h) (Or.inl ⟨by rfl, ?_⟩) ?_ ?_
            rotate_left
            ·
             intro w'
             go_simp
             with_reducible rfl
            rotate_left
            ·
             simp only [Act.put, za_, zb_, zc_, i64_w, i32_w]
             rfl
            refine pure_ (i := 34) (N := some 154) (v := ?_) (a' := ?_) (mm [(32, true), (2, false), (1, true), (4, false)]) rfl rfl (any_of HT_.out (by kernel_rfl)) (fun _ _ _ h => h) (Or.inl ⟨by rfl, ?_⟩) ?_ ?_
            rotate_left
            ·
             intro w'
             go_simp
             with_reducible rfl
            rotate_left
            ·
             simp only [Act.put, za_, zb_, zc_, i64_w, i32_w]
             rfl
            refine take_ (i := 32) (N := some 152) (v := ?_) (a' := ?_) (mm [(33, true), (1, false), (1, true), (4, false)]) rfl rfl (take_ofW HT_.out HW_.out (by kernel_rfl)) (fun _ _ _ h => h) (Or.inl ⟨by rfl, ?_⟩) hHeld ?_ ?_
            rotate_left
            ·
             rintro w' ⟨s0, s1, s2⟩
             go_simp
             with_reducible rfl
            rotate_left
            ·
             simp only [Act.put, za_, zb_, zc_, i64_w, i32_w]
             rfl
            refine take_ (i := 35) (N := some 155) (v := ?_) (a' := ?_) (mm [(33, true), (1, false), (2, true), (3, false)]) rfl rfl (take_ofW HT_.out HW_.out (by kernel_rfl)) (fun _ _ _ h => h) (Or.inl ⟨by rfl, ?_⟩) hHeld ?_ ?_
            rotate_left
            ·
             rintro w' ⟨s0, s1, s2⟩
             go_simp
             with_reducible rfl
            rotate_left
            ·
             simp only [Act.put, za_, zb_, zc_, i64_w, i32_w]
             rfl
            refine one_ (i := 33) (N := some 153) (mm [(36, true), (3, false)]) rfl rfl (one_of HT_.out (by kernel_rfl)) (by decide) (fun K hK => ?_)
            refine goes_ Try.func15 (by kernel_rfl) rfl #[.slice Ao22 t496.length co22] (by rfl) rfl rfl (by (try simp only [List.map_toArray, List.map_cons, List.map_nil]); first | done | rfl | (simp only [List.length_drop, List.length_take]; rfl)) ?_
            with_reducible refine (dom_Idoms.calls k2 _ _ t496 t541 _ ?side1 ?side2 A106.out).mono ?_
            (case side1 => repeat (first | exact (Kd.S_reads' O2.out).2.2 | (with_reducible refine Kd.C_alloc ?_ _) | (with_reducible refine Kd.C_drewN ?_ _) | (with_reducible refine Kd.C_drew ?_)))
            (case side2 => exact (Kd.S_reads' O2.out).2.1)
            rintro e w120 ⟨v542, rfl, ho0, hb⟩
            refine ⟨_, rfl, ?_⟩
            have n0_ := Aside0.mk (Kd.R_below (by (with_reducible repeat (first | apply Kd.R_alloc | apply Kd.R_drewN | apply Kd.R_drew)); exact HO_15.out) hb)
            have n1_ := Aside0.mk (Kd.R_below (by (with_reducible repeat (first | apply Kd.R_alloc | apply Kd.R_drewN | apply Kd.R_drew)); exact HO_16.out) hb)
            have n2_ := Aside0.mk (Kd.S_elder' (by (with_reducible repeat (first | apply Kd.S_alloc | apply Kd.S_drewN | apply Kd.S_drew)); exact O0.out) (Kd.R_base ho0) hb)
            have n3_ := Aside0.mk (Kd.R_elder' (by (with_reducible repeat (first | apply Kd.R_alloc | apply Kd.R_drewN | apply Kd.R_drew)); exact O1.out) (Kd.R_base ho0) hb)
            have n4_ := Aside0.mk (Kd.S_elder' (by (with_reducible repeat (first | apply Kd.S_alloc | apply Kd.S_drewN | apply Kd.S_drew)); exact O2.out) (Kd.R_base ho0) hb)
            have n5_ := Aside0.mk (Kd.R_elder' (by (with_reducible repeat (first | apply Kd.R_alloc | apply Kd.R_drewN | apply Kd.R_drew)); exact O3.out) (Kd.R_base ho0) hb)
            have n6_ := Aside0.mk (Kd.S_elder' (by (with_reducible repeat (first | apply Kd.S_alloc | apply Kd.S_drewN | apply Kd.S_drew)); exact O4.out) (Kd.R_base ho0) hb)
            have n7_ := Aside0.mk (Kd.R_elder' (by (with_reducible repeat (first | apply Kd.R_alloc | apply Kd.R_drewN | apply Kd.R_drew)); exact O5.out) (Kd.R_base ho0) hb)
            have n8_ := Aside0.mk (Kd.R_elder' (by (with_reducible repeat (first | apply Kd.R_alloc | apply Kd.R_drewN | apply Kd.R_drew)); exact HO530.out) (Kd.R_base ho0) hb)
            have n9_ := Aside0.mk (Kd.R_elder' (by (with_reducible repeat (first | apply Kd.R_alloc | apply Kd.R_drewN | apply Kd.R_drew)); exact HO533.out) (Kd.R_base ho0) hb)
            have n10_ := Aside0.mk (Kd.R_elder' (by (with_reducible repeat (first | apply Kd.R_alloc | apply Kd.R_drewN | apply Kd.R_drew)); exact HO536.out) (Kd.R_base ho0) hb)
            have n11_ := Aside0.mk (Kd.R_lower (Kd.R_new' (Kd.R_new' (Kd.R_new' (Kd.R_new' (Kd.R_new' (Kd.R_new' ho0 (Kd.R_lt (by (with_reducible repeat (first | apply Kd.R_alloc | apply Kd.R_drewN | apply Kd.R_drew)); exact O1.out))) (Kd.R_lt (by (with_reducible repeat (first | apply Kd.R_alloc | apply Kd.R_drewN | apply Kd.R_drew)); exact O3.out))) (Kd.R_lt (by (with_reducible repeat (first | apply Kd.R_alloc | apply Kd.R_drewN | apply Kd.R_drew)); exact O5.out))) (Kd.R_lt (by (with_reducible repeat (first | apply Kd.R_alloc | apply Kd.R_drewN | apply Kd.R_drew)); exact HO530.out))) (Kd.R_lt (by (with_reducible repeat (first | apply Kd.R_alloc | apply Kd.R_drewN | apply Kd.R_drew)); exact HO533.out))) (Kd.R_lt (by (with_reducible repeat (first | apply Kd.R_alloc | apply Kd.R_drewN | apply Kd.R_drew)); exact HO536.out))) (below_size (by repeat (first | (with_reducible first | exact HB.out | apply below_alloc | apply pw_below_drewN | apply below_drew1 | refine below_set ?_ GE495.out | refine below_set ?_ GE506.out | refine below_set ?_ GE517.out) | exact HB.out))))
            have n12_ := Aside0.mk (blk_below (g := gb495) (o := .cells #[.slice Ao17 t488.length co17, .slice Ao19 t491.length co19, .bool t494] 40 (0, 0)) (by (with_reducible repeat (first | refine blk_drewN ?_ _ | refine blk_drew ?_ | refine blk_alloc ?_ _)); exact BK495.out) hb)
            have n13_ := Aside0.mk (blk_below (g := gb506) (o := .cells #[.slice Ao22 t496.length co22, .slice Ao25 t499.length co25, .bool t502] 40 (0, 0)) (by (with_reducible repeat (first | refine blk_drewN ?_ _ | refine blk_drew ?_ | refine blk_alloc ?_ _)); exact BK506.out) hb)
            have n14_ := Aside0.mk (blk_below (g := gb517) (o := .cells #[.slice Ao29 t507.length co29, .slice Ao33 t510.length co33, .bool t513] 40 (0, 0)) (by (with_reducible repeat (first | refine blk_drewN ?_ _ | refine blk_drew ?_ | refine blk_alloc ?_ _)); exact BK517.out) hb)
            have n15_ := Aside0.mk (below_step (by repeat (first | (with_reducible first | exact HB.out | apply below_alloc | apply pw_below_drewN | apply below_drew1 | refine below_set ?_ GE495.out | refine below_set ?_ GE506.out | refine below_set ?_ GE517.out) | exact HB.out)) hb)
            clear HO_15 HO_16 O0 O1 O2 O3 O4 O5 HO530 HO533 HO536 BK495 BK506 BK517 HB
            have HO_15 := n0_
            have HO_16 := n1_
            have O0 := n2_
            have O1 := n3_
            have O2 := n4_
            have O3 := n5_
            have O4 := n6_
            have O5 := n7_
            have HO530 := n8_
            have HO533 := n9_
            have HO536 := n10_
            have HO543 := n11_
            have BK495 := n12_
            have BK506 := n13_
            have BK517 := n14_
            have HB := n15_
            clear n0_ n1_ n2_ n3_ n4_ n5_ n6_ n7_ n8_ n9_ n10_ n11_ n12_ n13_ n14_ n15_
            (try clear hb)
            (try clear hb2)
            (try clear hk)
            (try clear hi)
            (try clear ho0)
            obtain ⟨Ao121, co121, eo121⟩ := Kd.R_slice HO543.out
            (first | subst eo121 | (injection eo121 with f1_ f2_ f3_; have f4_ := f1_.symm; have f5_ := f3_.symm; clear f1_ f2_ f3_; subst f4_; subst f5_))
            refine hK.out _ _ ⟨(blk_cell BK506.out 0).trans rfl, (blk_cell BK506.out 1).trans rfl, (blk_cell BK506.out 2).trans rfl⟩ (fun hHeld => ?_)
            clear hK K
            refine norm_ (a' := ?_) ?_ ?_
            rotate_left
            ·
             show Act.put _ (some 153) _ = _
             simp only [Act.put, za_, zb_, zc_, i64_w, i32_w]
             rfl
            refine one_ (i := 36) (N := some 156) (mm [(37, true), (2, false)]) rfl rfl (one_of HT_.out (by kernel_rfl)) (by decide) (fun K hK => ?_)
            refine goes_ Try.func21 (by kernel_rfl) rfl #[.slice Ao121 t541.length co121, .slice Ao25 t499.length co25] (by rfl) rfl rfl (by (try simp only [List.map_toArray, List.map_cons, List.map_nil]); first | done | rfl | (simp only [List.length_drop, List.length_take]; rfl)) ?_
            with_reducible refine (bywashref01_Ints.calls k2 _ _ t541 _ _ t499 t544 _ ?side1 ?side2 ?side3 ?side4 A107.out).mono ?_
            (case side1 => repeat (first | exact (Kd.R_reads' HO543.out).2.2 | (with_reducible refine Kd.C_alloc ?_ _) | (with_reducible refine Kd.C_drewN ?_ _) | (with_reducible refine Kd.C_drew ?_)))
            (case side2 => exact (Kd.R_reads' HO543.out).2.1)
            (case side3 => repeat (first | exact (Kd.R_reads' O3.out).2.2 | (with_reducible refine Kd.C_alloc ?_ _) | (with_reducible refine Kd.C_drewN ?_ _) | (with_reducible refine Kd.C_drew ?_)))
            (case side4 => exact (Kd.R_reads' O3.out).2.1)
            rintro e w' ⟨rfl, ⟨nd, rfl⟩⟩
            refine ⟨_, rfl, ?_⟩
            refine hK.out _ _ ⟨(blk_cell BK506.out 0).trans rfl, (blk_cell BK506.out 1).trans rfl, (blk_cell BK506.out 2).trans rfl⟩ (fun hHeld => ?_)
            clear hK K
            refine norm_ (a' := ?_) ?_ ?_
            rotate_left
            ·
             show Act.put _ (some 156) _ = _
             simp only [Act.put, za_, zb_, zc_, i64_w, i32_w]
             rfl
            refine pure_ (i := 37) (N := some 157) (v := ?_) (a' := ?_) (mm [(38, true), (1, false)]) rfl rfl (any_of HT_.out (by kernel_rfl)) (fun _ _ _ h => h) (Or.inl ⟨by rfl, ?_⟩) ?_ ?_
            rotate_left
            ·
             intro w'
             go_simp
             with_reducible rfl
            rotate_left
            ·
             simp only [Act.put, za_, zb_, zc_, i64_w, i32_w]
             rfl
            refine pure_ (i := 38) (N := some 8) (v := ?_) (a' := ?_) (mm [(39, true)]) rfl rfl (any_of HT_.out (by kernel_rfl)) (fun _ _ _ h => h) (Or.inl ⟨by rfl, ?_⟩) ?_ ?_
            rotate_left
            ·
             intro w'
             go_simp
             with_reducible rfl
            rotate_left
            ·
             simp only [Act.put, za_, zb_, zc_, i64_w, i32_w]
             rfl
            refine done_ (done_of HT_.out (by kernel_rfl)) ?_
            try go_wp2
            go_ret
            exact ⟨by first | rfl | (simp [errW_none, errW_some] <;> rfl) | (simp [*, errW_none, errW_some] <;> rfl) | (exfalso; (try simp_all); (try omega); done), by repeat (first | (with_reducible first | exact HB.out | apply below_alloc | apply pw_below_drewN | apply below_drew1 | refine below_set ?_ GE495.out | refine below_set ?_ GE506.out | refine below_set ?_ GE517.out) | exact HB.out)⟩
           ·
            rw [if_neg c105] at H
            exact absurd (Option.some.inj H) (by rw [HRT.out]; decide)
         ·
          rw [if_neg c87] at H
          have c87b0 : ((t528.length : Int) == 0) = false := beq_eq_false_iff_ne.mpr c87
          have c87b1 : ((t528.length : Int) != 0) = true := bne_iff_ne.mpr c87
          have c87b2 : ¬ (t528 = []) := fun h_ => c87 (by rw [h_]; rfl)
          by_cases c134 : (t531.length : Int) ≤ (t528.length : Int)
          ·
           rw [if_pos c134] at H
           have c134b0 : decide ((t531.length : Int) ≤ (t528.length : Int)) = true := decide_eq_true c134
           have c134b1 : decide (t531.length ≤ t528.length) = true := decide_eq_true (Int.ofNat_le.mp c134)
           clear c134
           by_cases c135 : (t531.length : Int) > 0
           ·
            rw [if_pos c135] at H
            have c135b0 : decide (0 < (t531.length : Int)) = true := decide_eq_true c135
            have c135b1 : decide (0 < t531.length) = true := decide_eq_true (by omega)
            clear c135
            by_cases c136 : (t534.length : Int) = 0
            ·
             rw [if_pos c136] at H
             have c136b0 : ((t534.length : Int) == 0) = true := beq_iff_eq.mpr c136
             have c136b1 : ((t534.length : Int) != 0) = false := bne_eq_false_iff_eq.mpr c136
             clear c136
             replace H := Option.bind_eq_some_iff.mp H
             obtain ⟨t545, A1370, H⟩ := H
             replace H : ((bywashref01_Ints.f k2 t545 t499).bind fun t548 => (some t548)) = some r := H
             have A137 := Aside0.mk A1370
             clear A1370
             replace H := Option.bind_eq_some_iff.mp H
             obtain ⟨t548, A1380, H⟩ := H
             replace H : (some t548) = some r := H
             have A138 := Aside0.mk A1380
             clear A1380
             obtain rfl := Option.some.inj H
             have hnb139 := NB495_506.out
             have hnc139 := NB506_495.out
             have hnb140 := NB495_517.out
             have hnc140 := NB517_495.out
             have hcz141_0 : wr.cell? ⟨gb495, 0, none⟩ = some (.slice Ao17 t488.length co17) := (blk_cell BK495.out 0).trans rfl
             have hcz141_1 : wr.cell? ⟨gb495, 1, none⟩ = some (.slice Ao19 t491.length co19) := (blk_cell BK495.out 1).trans rfl
             have hcz141_2 : wr.cell? ⟨gb495, 2, none⟩ = some (.bool t494) := (blk_cell BK495.out 2).trans rfl
             have hfz141_0 := blk_frozen BK495.out 0
             have hfz141_1 := blk_frozen BK495.out 1
             have hfz141_2 := blk_frozen BK495.out 2
             try go_wp2_with (first | ((with_reducible refine gate_callee (f := 25) rfl ?_); refine goesL_ (some 111) rfl rfl Try.func25 (by kernel_rfl) rfl #[.slice Ao19 t491.length co19, .int .i64 a3] rfl (by (try simp only [List.map_toArray, List.map_cons, List.map_nil]); first | done | rfl | (simp only [List.length_drop, List.length_take]; rfl)) ?_; (with_reducible refine (dom_Chain.calls k2 _ _ t491 a3 t528 _ ?side1 ?side2 A83.out).mono ?_); (case side1 => repeat (first | exact (Kd.R_reads' O1.out).2.2 | (with_reducible refine Kd.C_alloc ?_ _) | (with_reducible refine Kd.C_drewN ?_ _) | (with_reducible refine Kd.C_drew ?_))); (case side2 => exact (Kd.R_reads' O1.out).2.1); rintro e w142 ⟨v529, rfl, ho0, hb⟩; refine ⟨_, rfl, ?_⟩; have n0_ := Aside0.mk (Kd.R_below (by (with_reducible repeat (first | apply Kd.R_alloc | apply Kd.R_drewN | apply Kd.R_drew)); exact HO_15.out) hb); have n1_ := Aside0.mk (Kd.R_below (by (with_reducible repeat (first | apply Kd.R_alloc | apply Kd.R_drewN | apply Kd.R_drew)); exact HO_16.out) hb); have n2_ := Aside0.mk (Kd.S_elder' (by (with_reducible repeat (first | apply Kd.S_alloc | apply Kd.S_drewN | apply Kd.S_drew)); exact O0.out) (Kd.R_base ho0) hb); have n3_ := Aside0.mk (Kd.R_elder' (by (with_reducible repeat (first | apply Kd.R_alloc | apply Kd.R_drewN | apply Kd.R_drew)); exact O1.out) (Kd.R_base ho0) hb); have n4_ := Aside0.mk (Kd.S_elder' (by (with_reducible repeat (first | apply Kd.S_alloc | apply Kd.S_drewN | apply Kd.S_drew)); exact O2.out) (Kd.R_base ho0) hb); have n5_ := Aside0.mk (Kd.R_elder' (by (with_reducible repeat (first | apply Kd.R_alloc | apply Kd.R_drewN | apply Kd.R_drew)); exact O3.out) (Kd.R_base ho0) hb); have n6_ := Aside0.mk (Kd.S_elder' (by (with_reducible repeat (first | apply Kd.S_alloc | apply Kd.S_drewN | apply Kd.S_drew)); exact O4.out) (Kd.R_base ho0) hb); have n7_ := Aside0.mk (Kd.R_elder' (by (with_reducible repeat (first | apply Kd.R_alloc | apply Kd.R_drewN | apply Kd.R_drew)); exact O5.out) (Kd.R_base ho0) hb); have n8_ := Aside0.mk (Kd.R_lower (Kd.R_new' (Kd.R_new' (Kd.R_new' ho0 (Kd.R_lt (by (with_reducible repeat (first | apply Kd.R_alloc | apply Kd.R_drewN | apply Kd.R_drew)); exact O1.out))) (Kd.R_lt (by (with_reducible repeat (first | apply Kd.R_alloc | apply Kd.R_drewN | apply Kd.R_drew)); exact O3.out))) (Kd.R_lt (by (with_reducible repeat (first | apply Kd.R_alloc | apply Kd.R_drewN | apply Kd.R_drew)); exact O5.out))) (below_size (by repeat (first | (with_reducible first | exact HB.out | apply below_alloc | apply pw_below_drewN | apply below_drew1 | refine below_set ?_ GE495.out | refine below_set ?_ GE506.out | refine below_set ?_ GE517.out) | exact HB.out)))); have n9_ := Aside0.mk (blk_below (g := gb495) (o := .cells #[.slice Ao17 t488.length co17, .slice Ao19 t491.length co19, .bool t494] 40 (0, 0)) (by (with_reducible repeat (first | refine blk_drewN ?_ _ | refine blk_drew ?_ | refine blk_alloc ?_ _)); exact BK495.out) hb); have n10_ := Aside0.mk (blk_below (g := gb506) (o := .cells #[.slice Ao22 t496.length co22, .slice Ao25 t499.length co25, .bool t502] 40 (0, 0)) (by (with_reducible repeat (first | refine blk_drewN ?_ _ | refine blk_drew ?_ | refine blk_alloc ?_ _)); exact BK506.out) hb); have n11_ := Aside0.mk (blk_below (g := gb517) (o := .cells #[.slice Ao29 t507.length co29, .slice Ao33 t510.length co33, .bool t513] 40 (0, 0)) (by (with_reducible repeat (first | refine blk_drewN ?_ _ | refine blk_drew ?_ | refine blk_alloc ?_ _)); exact BK517.out) hb); have n12_ := Aside0.mk (below_step (by repeat (first | (with_reducible first | exact HB.out | apply below_alloc | apply pw_below_drewN | apply below_drew1 | refine below_set ?_ GE495.out | refine below_set ?_ GE506.out | refine below_set ?_ GE517.out) | exact HB.out)) hb); clear HO_15; clear HO_16; clear O0; clear O1; clear O2; clear O3; clear O4; clear O5; clear BK495; clear BK506; clear BK517; clear HB; have HO_15 := n0_; have HO_16 := n1_; have O0 := n2_; have O1 := n3_; have O2 := n4_; have O3 := n5_; have O4 := n6_; have O5 := n7_; have HO530 := n8_; have BK495 := n9_; have BK506 := n10_; have BK517 := n11_; have HB := n12_; clear n0_ n1_ n2_ n3_ n4_ n5_ n6_ n7_ n8_ n9_ n10_ n11_ n12_; (try clear hb); (try clear hb2); (try clear hk); (try clear hi); (try clear ho0); have hnb143 := NB506_517.out; have hnc143 := NB517_506.out; have hcz144_0 : w142.cell? ⟨gb506, 0, none⟩ = some (.slice Ao22 t496.length co22) := (blk_cell BK506.out 0).trans rfl; have hcz144_1 : w142.cell? ⟨gb506, 1, none⟩ = some (.slice Ao25 t499.length co25) := (blk_cell BK506.out 1).trans rfl; have hcz144_2 : w142.cell? ⟨gb506, 2, none⟩ = some (.bool t502) := (blk_cell BK506.out 2).trans rfl; have hfz144_0 := blk_frozen BK506.out 0; have hfz144_1 := blk_frozen BK506.out 1; have hfz144_2 := blk_frozen BK506.out 2) | ((with_reducible refine gate_callee (f := 25) rfl ?_); refine goesL_ (some 115) rfl rfl Try.func25 (by kernel_rfl) rfl #[.slice Ao25 t499.length co25, .int .i64 a3] rfl (by (try simp only [List.map_toArray, List.map_cons, List.map_nil]); first | done | rfl | (simp only [List.length_drop, List.length_take]; rfl)) ?_; (with_reducible refine (dom_Chain.calls k2 _ _ t499 a3 t531 _ ?side1 ?side2 A84.out).mono ?_); (case side1 => repeat (first | exact (Kd.R_reads' O3.out).2.2 | (with_reducible refine Kd.C_alloc ?_ _) | (with_reducible refine Kd.C_drewN ?_ _) | (with_reducible refine Kd.C_drew ?_))); (case side2 => exact (Kd.R_reads' O3.out).2.1); rintro e w145 ⟨v532, rfl, ho0, hb⟩; refine ⟨_, rfl, ?_⟩; have n0_ := Aside0.mk (Kd.R_below (by (with_reducible repeat (first | apply Kd.R_alloc | apply Kd.R_drewN | apply Kd.R_drew)); exact HO_15.out) hb); have n1_ := Aside0.mk (Kd.R_below (by (with_reducible repeat (first | apply Kd.R_alloc | apply Kd.R_drewN | apply Kd.R_drew)); exact HO_16.out) hb); have n2_ := Aside0.mk (Kd.S_elder' (by (with_reducible repeat (first | apply Kd.S_alloc | apply Kd.S_drewN | apply Kd.S_drew)); exact O0.out) (Kd.R_base ho0) hb); have n3_ := Aside0.mk (Kd.R_elder' (by (with_reducible repeat (first | apply Kd.R_alloc | apply Kd.R_drewN | apply Kd.R_drew)); exact O1.out) (Kd.R_base ho0) hb); have n4_ := Aside0.mk (Kd.S_elder' (by (with_reducible repeat (first | apply Kd.S_alloc | apply Kd.S_drewN | apply Kd.S_drew)); exact O2.out) (Kd.R_base ho0) hb); have n5_ := Aside0.mk (Kd.R_elder' (by (with_reducible repeat (first | apply Kd.R_alloc | apply Kd.R_drewN | apply Kd.R_drew)); exact O3.out) (Kd.R_base ho0) hb); have n6_ := Aside0.mk (Kd.S_elder' (by (with_reducible repeat (first | apply Kd.S_alloc | apply Kd.S_drewN | apply Kd.S_drew)); exact O4.out) (Kd.R_base ho0) hb); have n7_ := Aside0.mk (Kd.R_elder' (by (with_reducible repeat (first | apply Kd.R_alloc | apply Kd.R_drewN | apply Kd.R_drew)); exact O5.out) (Kd.R_base ho0) hb); have n8_ := Aside0.mk (Kd.R_elder' (by (with_reducible repeat (first | apply Kd.R_alloc | apply Kd.R_drewN | apply Kd.R_drew)); exact HO530.out) (Kd.R_base ho0) hb); have n9_ := Aside0.mk (Kd.R_lower (Kd.R_new' (Kd.R_new' (Kd.R_new' (Kd.R_new' ho0 (Kd.R_lt (by (with_reducible repeat (first | apply Kd.R_alloc | apply Kd.R_drewN | apply Kd.R_drew)); exact O1.out))) (Kd.R_lt (by (with_reducible repeat (first | apply Kd.R_alloc | apply Kd.R_drewN | apply Kd.R_drew)); exact O3.out))) (Kd.R_lt (by (with_reducible repeat (first | apply Kd.R_alloc | apply Kd.R_drewN | apply Kd.R_drew)); exact O5.out))) (Kd.R_lt (by (with_reducible repeat (first | apply Kd.R_alloc | apply Kd.R_drewN | apply Kd.R_drew)); exact HO530.out))) (below_size (by repeat (first | (with_reducible first | exact HB.out | apply below_alloc | apply pw_below_drewN | apply below_drew1 | refine below_set ?_ GE495.out | refine below_set ?_ GE506.out | refine below_set ?_ GE517.out) | exact HB.out)))); have n10_ := Aside0.mk (blk_below (g := gb495) (o := .cells #[.slice Ao17 t488.length co17, .slice Ao19 t491.length co19, .bool t494] 40 (0, 0)) (by (with_reducible repeat (first | refine blk_drewN ?_ _ | refine blk_drew ?_ | refine blk_alloc ?_ _)); exact BK495.out) hb); have n11_ := Aside0.mk (blk_below (g := gb506) (o := .cells #[.slice Ao22 t496.length co22, .slice Ao25 t499.length co25, .bool t502] 40 (0, 0)) (by (with_reducible repeat (first | refine blk_drewN ?_ _ | refine blk_drew ?_ | refine blk_alloc ?_ _)); exact BK506.out) hb); have n12_ := Aside0.mk (blk_below (g := gb517) (o := .cells #[.slice Ao29 t507.length co29, .slice Ao33 t510.length co33, .bool t513] 40 (0, 0)) (by (with_reducible repeat (first | refine blk_drewN ?_ _ | refine blk_drew ?_ | refine blk_alloc ?_ _)); exact BK517.out) hb); have n13_ := Aside0.mk (below_step (by repeat (first | (with_reducible first | exact HB.out | apply below_alloc | apply pw_below_drewN | apply below_drew1 | refine below_set ?_ GE495.out | refine below_set ?_ GE506.out | refine below_set ?_ GE517.out) | exact HB.out)) hb); clear HO_15; clear HO_16; clear O0; clear O1; clear O2; clear O3; clear O4; clear O5; clear HO530; clear BK495; clear BK506; clear BK517; clear HB; have HO_15 := n0_; have HO_16 := n1_; have O0 := n2_; have O1 := n3_; have O2 := n4_; have O3 := n5_; have O4 := n6_; have O5 := n7_; have HO530 := n8_; have HO533 := n9_; have BK495 := n10_; have BK506 := n11_; have BK517 := n12_; have HB := n13_; clear n0_ n1_ n2_ n3_ n4_ n5_ n6_ n7_ n8_ n9_ n10_ n11_ n12_ n13_; (try clear hb); (try clear hb2); (try clear hk); (try clear hi); (try clear ho0); have hcz146_0 : w145.cell? ⟨gb517, 0, none⟩ = some (.slice Ao29 t507.length co29) := (blk_cell BK517.out 0).trans rfl; have hcz146_1 : w145.cell? ⟨gb517, 1, none⟩ = some (.slice Ao33 t510.length co33) := (blk_cell BK517.out 1).trans rfl; have hcz146_2 : w145.cell? ⟨gb517, 2, none⟩ = some (.bool t513) := (blk_cell BK517.out 2).trans rfl; have hfz146_0 := blk_frozen BK517.out 0; have hfz146_1 := blk_frozen BK517.out 1; have hfz146_2 := blk_frozen BK517.out 2) | ((with_reducible refine gate_callee (f := 25) rfl ?_); refine goesL_ (some 119) rfl rfl Try.func25 (by kernel_rfl) rfl #[.slice Ao33 t510.length co33, .int .i64 a3] rfl (by (try simp only [List.map_toArray, List.map_cons, List.map_nil]); first | done | rfl | (simp only [List.length_drop, List.length_take]; rfl)) ?_; (with_reducible refine (dom_Chain.calls k2 _ _ t510 a3 t534 _ ?side1 ?side2 A85.out).mono ?_); (case side1 => repeat (first | exact (Kd.R_reads' O5.out).2.2 | (with_reducible refine Kd.C_alloc ?_ _) | (with_reducible refine Kd.C_drewN ?_ _) | (with_reducible refine Kd.C_drew ?_))); (case side2 => exact (Kd.R_reads' O5.out).2.1); rintro e w147 ⟨v535, rfl, ho0, hb⟩; refine ⟨_, rfl, ?_⟩; have n0_ := Aside0.mk (Kd.R_below (by (with_reducible repeat (first | apply Kd.R_alloc | apply Kd.R_drewN | apply Kd.R_drew)); exact HO_15.out) hb); have n1_ := Aside0.mk (Kd.R_below (by (with_reducible repeat (first | apply Kd.R_alloc | apply Kd.R_drewN | apply Kd.R_drew)); exact HO_16.out) hb); have n2_ := Aside0.mk (Kd.S_elder' (by (with_reducible repeat (first | apply Kd.S_alloc | apply Kd.S_drewN | apply Kd.S_drew)); exact O0.out) (Kd.R_base ho0) hb); have n3_ := Aside0.mk (Kd.R_elder' (by (with_reducible repeat (first | apply Kd.R_alloc | apply Kd.R_drewN | apply Kd.R_drew)); exact O1.out) (Kd.R_base ho0) hb); have n4_ := Aside0.mk (Kd.S_elder' (by (with_reducible repeat (first | apply Kd.S_alloc | apply Kd.S_drewN | apply Kd.S_drew)); exact O2.out) (Kd.R_base ho0) hb); have n5_ := Aside0.mk (Kd.R_elder' (by (with_reducible repeat (first | apply Kd.R_alloc | apply Kd.R_drewN | apply Kd.R_drew)); exact O3.out) (Kd.R_base ho0) hb); have n6_ := Aside0.mk (Kd.S_elder' (by (with_reducible repeat (first | apply Kd.S_alloc | apply Kd.S_drewN | apply Kd.S_drew)); exact O4.out) (Kd.R_base ho0) hb); have n7_ := Aside0.mk (Kd.R_elder' (by (with_reducible repeat (first | apply Kd.R_alloc | apply Kd.R_drewN | apply Kd.R_drew)); exact O5.out) (Kd.R_base ho0) hb); have n8_ := Aside0.mk (Kd.R_elder' (by (with_reducible repeat (first | apply Kd.R_alloc | apply Kd.R_drewN | apply Kd.R_drew)); exact HO530.out) (Kd.R_base ho0) hb); have n9_ := Aside0.mk (Kd.R_elder' (by (with_reducible repeat (first | apply Kd.R_alloc | apply Kd.R_drewN | apply Kd.R_drew)); exact HO533.out) (Kd.R_base ho0) hb); have n10_ := Aside0.mk (Kd.R_lower (Kd.R_new' (Kd.R_new' (Kd.R_new' (Kd.R_new' (Kd.R_new' ho0 (Kd.R_lt (by (with_reducible repeat (first | apply Kd.R_alloc | apply Kd.R_drewN | apply Kd.R_drew)); exact O1.out))) (Kd.R_lt (by (with_reducible repeat (first | apply Kd.R_alloc | apply Kd.R_drewN | apply Kd.R_drew)); exact O3.out))) (Kd.R_lt (by (with_reducible repeat (first | apply Kd.R_alloc | apply Kd.R_drewN | apply Kd.R_drew)); exact O5.out))) (Kd.R_lt (by (with_reducible repeat (first | apply Kd.R_alloc | apply Kd.R_drewN | apply Kd.R_drew)); exact HO530.out))) (Kd.R_lt (by (with_reducible repeat (first | apply Kd.R_alloc | apply Kd.R_drewN | apply Kd.R_drew)); exact HO533.out))) (below_size (by repeat (first | (with_reducible first | exact HB.out | apply below_alloc | apply pw_below_drewN | apply below_drew1 | refine below_set ?_ GE495.out | refine below_set ?_ GE506.out | refine below_set ?_ GE517.out) | exact HB.out)))); have n11_ := Aside0.mk (blk_below (g := gb495) (o := .cells #[.slice Ao17 t488.length co17, .slice Ao19 t491.length co19, .bool t494] 40 (0, 0)) (by (with_reducible repeat (first | refine blk_drewN ?_ _ | refine blk_drew ?_ | refine blk_alloc ?_ _)); exact BK495.out) hb); have n12_ := Aside0.mk (blk_below (g := gb506) (o := .cells #[.slice Ao22 t496.length co22, .slice Ao25 t499.length co25, .bool t502] 40 (0, 0)) (by (with_reducible repeat (first | refine blk_drewN ?_ _ | refine blk_drew ?_ | refine blk_alloc ?_ _)); exact BK506.out) hb); have n13_ := Aside0.mk (blk_below (g := gb517) (o := .cells #[.slice Ao29 t507.length co29, .slice Ao33 t510.length co33, .bool t513] 40 (0, 0)) (by (with_reducible repeat (first | refine blk_drewN ?_ _ | refine blk_drew ?_ | refine blk_alloc ?_ _)); exact BK517.out) hb); have n14_ := Aside0.mk (below_step (by repeat (first | (with_reducible first | exact HB.out | apply below_alloc | apply pw_below_drewN | apply below_drew1 | refine below_set ?_ GE495.out | refine below_set ?_ GE506.out | refine below_set ?_ GE517.out) | exact HB.out)) hb); clear HO_15; clear HO_16; clear O0; clear O1; clear O2; clear O3; clear O4; clear O5; clear HO530; clear HO533; clear BK495; clear BK506; clear BK517; clear HB; have HO_15 := n0_; have HO_16 := n1_; have O0 := n2_; have O1 := n3_; have O2 := n4_; have O3 := n5_; have O4 := n6_; have O5 := n7_; have HO530 := n8_; have HO533 := n9_; have HO536 := n10_; have BK495 := n11_; have BK506 := n12_; have BK517 := n13_; have HB := n14_; clear n0_ n1_ n2_ n3_ n4_ n5_ n6_ n7_ n8_ n9_ n10_ n11_ n12_ n13_ n14_; (try clear hb); (try clear hb2); (try clear hk); (try clear hi); (try clear ho0)))
             have n0_ := Aside0.mk (Kd.R_drew HO_15.out)
             have n1_ := Aside0.mk (Kd.R_drew HO_16.out)
             have n2_ := Aside0.mk (Kd.S_drew O0.out)
             have n3_ := Aside0.mk (Kd.R_drew O1.out)
             have n4_ := Aside0.mk (Kd.S_drew O2.out)
             have n5_ := Aside0.mk (Kd.R_drew O3.out)
             have n6_ := Aside0.mk (Kd.S_drew O4.out)
             have n7_ := Aside0.mk (Kd.R_drew O5.out)
             have n8_ := Aside0.mk (Kd.R_drew HO530.out)
             have n9_ := Aside0.mk (Kd.R_drew HO533.out)
             have n10_ := Aside0.mk (Kd.R_drew HO536.out)
             have n11_ := Aside0.mk (blk_drew BK495.out)
             have n12_ := Aside0.mk (blk_drew BK506.out)
             have n13_ := Aside0.mk (blk_drew BK517.out)
             have n14_ := Aside0.mk (below_drew1 HB.out)
             clear HO_15 HO_16 O0 O1 O2 O3 O4 O5 HO530 HO533 HO536 BK495 BK506 BK517 HB
             have HO_15 := n0_
             have HO_16 := n1_
             have O0 := n2_
             have O1 := n3_
             have O2 := n4_
             have O3 := n5_
             have O4 := n6_
             have O5 := n7_
             have HO530 := n8_
             have HO533 := n9_
             have HO536 := n10_
             have BK495 := n11_
             have BK506 := n12_
             have BK517 := n13_
             have HB := n14_
             clear n0_ n1_ n2_ n3_ n4_ n5_ n6_ n7_ n8_ n9_ n10_ n11_ n12_ n13_ n14_
             obtain ⟨Ao149, co149, eo149⟩ := Kd.R_slice HO530.out
             (first | subst eo149 | (injection eo149 with f1_ f2_ f3_; have f4_ := f1_.symm; have f5_ := f3_.symm; clear f1_ f2_ f3_; subst f4_; subst f5_))
             obtain ⟨Ao150, co150, eo150⟩ := Kd.R_slice HO533.out
             (first | subst eo150 | (injection eo150 with f1_ f2_ f3_; have f4_ := f1_.symm; have f5_ := f3_.symm; clear f1_ f2_ f3_; subst f4_; subst f5_))
             obtain ⟨Ao151, co151, eo151⟩ := Kd.R_slice HO536.out
             (first | subst eo151 | (injection eo151 with f1_ f2_ f3_; have f4_ := f1_.symm; have f5_ := f3_.symm; clear f1_ f2_ f3_; subst f4_; subst f5_))
             refine start_ (n := 39) (S := fun w' => w'.cell? ⟨gb506, 0, none⟩ = some (.slice Ao22 t496.length co22) ∧ w'.cell? ⟨gb506, 1, none⟩ = some (.slice Ao25 t499.length co25) ∧ w'.cell? ⟨gb506, 2, none⟩ = some (.bool t502)) (ds := []) (mm [(39, false)]) (by kernel_rfl) rfl rfl ⟨(blk_cell BK506.out 0).trans rfl, (blk_cell BK506.out 1).trans rfl, (blk_cell BK506.out 2).trans rfl⟩ (fun hHeld => ?_); refine with_tabW bywashlaw15_DomupFound.tab19 bywashlaw15_DomupFound.bits19 (fun HT_ HW_ => ?_)
             generalize w147.drew = w148 at HO_15 HO_16 O0 O1 O2 O3 O4 O5 HO530 HO533 HO536 BK495 BK506 BK517 HB hHeld ⊢
             refine pure_ (i := 0) (N := some 120) (v := ?_) (a' := ?_) (mm [(1, true), (38, false)]) rfl rfl (any_of HT_.out (by kernel_rfl)) (fun _ _ _ h => h) (Or.inl ⟨by rfl, ?_⟩) ?_ ?_
             rotate_left
             ·
              intro w'
              go_simp
              with_reducible rfl
             rotate_left
             ·
              simp only [Act.put, za_, zb_, zc_, i64_w, i32_w]
              rfl
             refine pure_ (i := 1) (N := some 121) (v := ?_) (a' := ?_) (mm [(2, true), (37, false)]) rfl rfl (any_of HT_.out (by kernel_rfl)) (fun _ _ _ h => h) (Or.inl ⟨by rfl, ?_⟩) ?_ ?_
             rotate_left
             ·
              intro w'
              go_simp
              with_reducible rfl
             rotate_left
             ·
              simp only [Act.put, za_, zb_, zc_, i64_w, i32_w]
              rfl
             refine pure_ (i := 2) (N := some 122) (v := ?_) (a' := ?_) (mm [(3, true), (36, false)]) rfl rfl (any_of HT_.out (by kernel_rfl)) (fun _ _ _ h => h) (Or.inl ⟨by rfl, ?_⟩) ?_ ?_
             rotate_left
             ·
              intro w'
              go_simp
              with_reducible rfl
             rotate_left
             ·
              simp only [Act.put, za_, zb_, zc_, i64_w, i32_w]
              rfl
             refine pure_ (i := 3) (N := some 123) (v := ?_) (a' := ?_) (mm [(4, true), (35, false)]) rfl rfl (any_of HT_.out (by kernel_rfl)) (fun _ _ _ h => h) (Or.inl ⟨by rfl, ?_⟩) ?_ ?_
             rotate_left
             ·
              intro w'
              go_simp
              with_reducible rfl
             rotate_left
             ·
              simp only [Act.put, za_, zb_, zc_, i64_w, i32_w]
              rfl
             refine pure_ (i := 4) (N := some 124) (v := ?_) (a' := ?_) (mm [(5, true), (34, false)]) rfl rfl (any_of HT_.out (by kernel_rfl)) (fun _ _ _ h => h) (Or.inl ⟨by rfl, ?_⟩) ?_ ?_
             rotate_left
             ·
              intro w'
              go_simp
              with_reducible rfl
             rotate_left
             ·
              simp only [Act.put, za_, zb_, zc_, i64_w, i32_w]
              rfl
             refine pure_ (i := 5) (N := some 125) (v := ?_) (a' := ?_) (mm [(6, true), (33, false)]) rfl rfl (any_of HT_.out (by kernel_rfl)) (fun _ _ _ h => h) (Or.inl ⟨by rfl, ?_⟩) ?_ ?_
             rotate_left
             ·
              intro w'
              go_simp
              with_reducible rfl
             rotate_left
             ·
              simp only [Act.put, za_, zb_, zc_, i64_w, i32_w]
              rfl
             refine pure_ (i := 6) (N := some 126) (v := ?_) (a' := ?_) (mm [(7, true), (32, false)]) rfl rfl (any_of HT_.out (by kernel_rfl)) (fun _ _ _ h => h) (Or.inl ⟨by rfl, ?_⟩) ?_ ?_
             rotate_left
             ·
              intro w'
              go_simp
              with_reducible rfl
             rotate_left
             ·
              simp only [Act.put, za_, zb_, zc_, i64_w, i32_w]
              rfl
             refine pure_ (i := 7) (N := some 127) (v := ?_) (a' := ?_) (mm [(8, true), (31, false)]) rfl rfl (any_of HT_.out (by kernel_rfl)) (fun _ _ _ h => h) (Or.inl ⟨by rfl, ?_⟩) ?_ ?_
             rotate_left
             ·
              intro w'
              go_simp
              with_reducible rfl
             rotate_left
             ·
              simp only [Act.put, za_, zb_, zc_, i64_w, i32_w]
              rfl
             refine pure_ (i := 8) (N := some 128) (v := ?_) (a' := ?_) (mm [(9, true), (30, false)]) rfl rfl (any_of HT_.out (by kernel_rfl)) (fun _ _ _ h => h) (Or.inl ⟨by rfl, ?_⟩) ?_ ?_
             rotate_left
             ·
              intro w'
              go_simp
              with_reducible rfl
             rotate_left
             ·
              simp only [Act.put, za_, zb_, zc_, i64_w, i32_w]
              rfl
             refine pure_ (i := 9) (N := some 129) (v := ?_) (a' := ?_) (mm [(10, true), (29, false)]) rfl rfl (any_of HT_.out (by kernel_rfl)) (fun _ _ _ h => h) (Or.inl ⟨by rfl, ?_⟩) ?_ ?_
             rotate_left
             ·
              intro w'
              go_simp
              with_reducible rfl
             rotate_left
             ·
              simp only [Act.put, za_, zb_, zc_, i64_w, i32_w]
              rfl
             refine pure_ (i := 10) (N := some 130) (v := ?_) (a' := ?_) (mm [(11, true), (28, false)]) rfl rfl (any_of HT_.out (by kernel_rfl)) (fun _ _ _ h => h) (Or.inl ⟨by rfl, ?_⟩) ?_ ?_
             rotate_left
             ·
              intro w'
              go_simp
              with_reducible rfl
             rotate_left
             ·
              simp only [Act.put, za_, zb_, zc_, i64_w, i32_w]
              rfl
             refine pure_ (i := 11) (N := some 131) (v := ?_) (a' := ?_) (mm [(12, true), (27, false)]) rfl rfl (any_of HT_.out (by kernel_rfl)) (fun _ _ _ h => h) (Or.inl ⟨by rfl, ?_⟩) ?_ ?_
             rotate_left
             ·
              intro w'
              go_simp
              with_reducible rfl
             rotate_left
             ·
              simp only [Act.put, za_, zb_, zc_, i64_w, i32_w]
              rfl
             refine pure_ (i := 12) (N := some 132) (v := ?_) (a' := ?_) (mm [(13, true), (26, false)]) rfl rfl (any_of HT_.out (by kernel_rfl)) (fun _ _ _ h => h) (Or.inl ⟨by rfl, ?_⟩) ?_ ?_
             rotate_left
             ·
              intro w'
              go_simp
              with_reducible rfl
             rotate_left
             ·
              simp only [Act.put, za_, zb_, zc_, i64_w, i32_w]
              rfl
             refine pure_ (i := 13) (N := some 133) (v := ?_) (a' := ?_) (mm [(14, true), (25, false)]) rfl rfl (any_of HT_.out (by kernel_rfl)) (fun _ _ _ h => h) (Or.inl ⟨by rfl, ?_⟩) ?_ ?_
             rotate_left
             ·
              intro w'
              go_simp
              with_reducible rfl
             rotate_left
             ·
              simp only [Act.put, za_, zb_, zc_, i64_w, i32_w]
              rfl
             refine pure_ (i := 14) (N := some 134) (v := ?_) (a' := ?_) (mm [(15, true), (24, false)]) rfl rfl (any_of HT_.out (by kernel_rfl)) (fun _ _ _ h => h) (Or.inl ⟨by rfl, ?_⟩) ?_ ?_
             rotate_left
             ·
              intro w'
              go_simp
              with_reducible rfl
             rotate_left
             ·
              simp only [Act.put, za_, zb_, zc_, i64_w, i32_w]
              rfl
             refine pure_ (i := 15) (N := some 135) (v := ?_) (a' := ?_) (mm [(16, true), (23, false)]) rfl rfl (any_of HT_.out (by kernel_rfl)) (fun _ _ _ h => h) (Or.inl ⟨by rfl, ?_⟩) ?_ ?_
             rotate_left
             ·
              intro w'
              go_simp
              with_reducible rfl
             rotate_left
             ·
              simp only [Act.put, za_, zb_, zc_, i64_w, i32_w]
              rfl
             refine pure_ (i := 16) (N := some 136) (v := ?_) (a' := ?_) (mm [(17, true), (22, false)]) rfl rfl (any_of HT_.out (by kernel_rfl)) (fun _ _ _ h => h) (Or.inl ⟨by rfl, ?_⟩) ?_ ?_
             rotate_left
             ·
              intro w'
              go_simp
              with_reducible rfl
             rotate_left
             ·
              simp only [Act.put, za_, zb_, zc_, i64_w, i32_w]
              rfl
             refine pure_ (i := 17) (N := some 137) (v := ?_) (a' := ?_) (mm [(18, true), (21, false)]) rfl rfl (any_of HT_.out (by kernel_rfl)) (fun _ _ _ h => h) (Or.inl ⟨by rfl, ?_⟩) ?_ ?_
             rotate_left
             ·
              intro w'
              go_simp
              with_reducible rfl
             rotate_left
             ·
              simp only [Act.put, za_, zb_, zc_, i64_w, i32_w]
              rfl
             refine pure_ (i := 18) (N := some 138) (v := ?_) (a' := ?_) (mm [(19, true), (20, false)]) rfl rfl (any_of HT_.out (by kernel_rfl)) (fun _ _ _ h => h) (Or.inl ⟨by rfl, ?_⟩) ?_ ?_
             rotate_left
             ·
              intro w'
              go_simp
              with_reducible rfl
             rotate_left
             ·
              simp only [Act.put, za_, zb_, zc_, i64_w, i32_w]
              rfl
             refine pure_ (i := 19) (N := some 139) (v := ?_) (a' := ?_) (mm [(20, true), (19, false)]) rfl rfl (any_of HT_.out (by kernel_rfl)) (fun _ _ _ h => h) (Or.inl ⟨by rfl, ?_⟩) ?_ ?_
             rotate_left
             ·
              intro w'
              go_simp
              with_reducible rfl
             rotate_left
             ·
              simp only [Act.put, za_, zb_, zc_, i64_w, i32_w]
              rfl
             refine pure_ (i := 20) (N := some 140) (v := ?_) (a' := ?_) (mm [(21, true), (18, false)]) rfl rfl (any_of HT_.out (by kernel_rfl)) (fun _ _ _ h => h) (Or.inl ⟨by rfl, ?_⟩) ?_ ?_
             rotate_left
             ·
              intro w'
              go_simp
              with_reducible rfl
             rotate_left
             ·
              simp only [Act.put, za_, zb_, zc_, i64_w, i32_w]
              rfl
             refine pure_ (i := 21) (N := some 141) (v := ?_) (a' := ?_) (mm [(22, true), (17, false)]) rfl rfl (any_of HT_.out (by kernel_rfl)) (fun _ _ _ h => h) (Or.inl ⟨by rfl, ?_⟩) ?_ ?_
             rotate_left
             ·
              intro w'
              go_simp
              with_reducible rfl
             rotate_left
             ·
              simp only [Act.put, za_, zb_, zc_, i64_w, i32_w]
              rfl
             refine pure_ (i := 22) (N := some 142) (v := ?_) (a' := ?_) (mm [(23, true), (16, false)]) rfl rfl (any_of HT_.out (by kernel_rfl)) (fun _ _ _ h => h) (Or.inl ⟨by rfl, ?_⟩) ?_ ?_
             rotate_left
             ·
              intro w'
              go_simp
              with_reducible rfl
             rotate_left
             ·
              simp only [Act.put, za_, zb_, zc_, i64_w, i32_w]
              rfl
             refine pure_ (i := 23) (N := some 143) (v := undef) (a' := ?_) (mm [(24, true), (15, false)]) rfl rfl (any_of HT_.out (by kernel_rfl)) (fun _ _ _ h => h) (Or.inr ⟨by rfl, rfl⟩) ?_ ?_
             rotate_left
             ·
              simp only [Act.put, za_, zb_, zc_, i64_w, i32_w]
              rfl
             refine pure_ (i := 24) (N := some 144) (v := undef) (a' := ?_) (mm [(25, true), (14, false)]) rfl rfl (any_of HT_.out (by kernel_rfl)) (fun _ _ _ h => h) (Or.inr ⟨by rfl, rfl⟩) ?_ ?_
             rotate_left
             ·
              simp only [Act.put, za_, zb_, zc_, i64_w, i32_w]
              rfl
             refine pure_ (i := 25) (N := some 145) (v := undef) (a' := ?_) (mm [(26, true), (13, false)]) rfl rfl (any_of HT_.out (by kernel_rfl)) (fun _ _ _ h => h) (Or.inr ⟨by rfl, rfl⟩) ?_ ?_
             rotate_left
             ·
              simp only [Act.put, za_, zb_, zc_, i64_w, i32_w]
              rfl
             refine pure_ (i := 26) (N := some 146) (v := undef) (a' := ?_) (mm [(27, true), (12, false)]) rfl rfl (any_of HT_.out (by kernel_rfl)) (fun _ _ _ h => h) (Or.inr ⟨by rfl, rfl⟩) ?_ ?_
             rotate_left
             ·
              simp only [Act.put, za_, zb_, zc_, i64_w, i32_w]
              rfl
             refine pure_ (i := 27) (N := some 147) (v := undef) (a' := ?_) (mm [(28, true), (11, false)]) rfl rfl (any_of HT_.out (by kernel_rfl)) (fun _ _ _ h => h) (Or.inr ⟨by rfl, rfl⟩) ?_ ?_
             rotate_left
             ·
              simp only [Act.put, za_, zb_, zc_, i64_w, i32_w]
              rfl
             refine pure_ (i := 28) (N := some 148) (v := ?_) (a' := ?_) (mm [(29, true), (10, false)]) rfl rfl (any_of HT_.out (by kernel_rfl)) (fun _ _ _ h => h) (Or.inl ⟨by rfl, ?_⟩) ?_ ?_
             rotate_left
             ·
              intro w'
              go_simp
              with_reducible rfl
             rotate_left
             ·
              simp only [Act.put, za_, zb_, zc_, i64_w, i32_w]
              rfl
             refine pure_ (i := 29) (N := some 149) (v := ?_) (a' := ?_) (mm [(30, true), (9, false)]) rfl rfl (any_of HT_.out (by kernel_rfl)) (fun _ _ _ h => h) (Or.inl ⟨by rfl, ?_⟩) ?_ ?_
             rotate_left
             ·
              intro w'
              go_simp
              with_reducible rfl
             rotate_left
             ·
              simp only [Act.put, za_, zb_, zc_, i64_w, i32_w]
              rfl
             refine pure_ (i := 30) (N := some 150) (v := ?_) (a' := ?_) (mm [(31, true), (8, false)]) rfl rfl (any_of HT_.out (by kernel_rfl)) (fun _ _ _ h => h) (Or.inl ⟨by rfl, ?_⟩) ?_ ?_
             rotate_left
             ·
              intro w'
              go_simp
              with_reducible rfl
             rotate_left
             ·
              simp only [Act.put, za_, zb_, zc_, i64_w, i32_w]
              rfl
             refine pure_ (i := 31) (N := some 151) (v := ?_) (a' := ?_) (mm [(32, true), (7, false)]) rfl rfl (any_of HT_.out (by kernel_rfl)) (fun _ _ _ h => h) (Or.inl ⟨by rfl, ?_⟩) ?_ ?_
             rotate_left
             ·
              intro w'
              go_simp
              with_reducible rfl
             rotate_left
             ·
              simp only [Act.put, za_, zb_, zc_, i64_w, i32_w]
              rfl
             refine pure_ (i := 34) (N := some 154) (v := ?_) (a' := ?_) (mm [(32, true), (2, false), (1, true), (4, false)]) rfl rfl (any_of HT_.out (by kernel_rfl)) (fun _ _ _ h => h) (Or.inl ⟨by rfl, ?_⟩) ?_ ?_
             rotate_left
             ·
              intro w'
              go_simp
              with_reducible rfl
             rotate_left
             ·
              simp only [Act.put, za_, zb_, zc_, i64_w, i32_w]
              rfl
             refine take_ (i := 32) (N := some 152) (v := ?_) (a' := ?_) (mm [(33, true), (1, false), (1, true), (4, false)]) rfl rfl (take_ofW HT_.out HW_.out (by kernel_rfl)) (fun _ _ _ h => h) (Or.inl ⟨by rfl, ?_⟩) hHeld ?_ ?_
             rotate_left
             ·
              rintro w' ⟨s0, s1, s2⟩
              go_simp
              with_reducible rfl
             rotate_left
             ·
              simp only [Act.put, za_, zb_, zc_, i64_w, i32_w]
              rfl
             refine take_ (i := 35) (N := some 155) (v := ?_) (a' := ?_) (mm [(33, true), (1, false), (2, true), (3, false)]) rfl rfl (take_ofW HT_.out HW_.out (by kernel_rfl)) (fun _ _ _ h => h) (Or.inl ⟨by rfl, ?_⟩) hHeld ?_ ?_
             rotate_left
             ·
              rintro w' ⟨s0, s1, s2⟩
              go_simp
              with_reducible rfl
             rotate_left
             ·
              simp only [Act.put, za_, zb_, zc_, i64_w, i32_w]
              rfl
             refine one_ (i := 33) (N := some 153) (mm [(36, true), (3, false)]) rfl rfl (one_of HT_.out (by kernel_rfl)) (by decide) (fun K hK => ?_)
             refine goes_ Try.func15 (by kernel_rfl) rfl #[.slice Ao22 t496.length co22] (by rfl) rfl rfl (by (try simp only [List.map_toArray, List.map_cons, List.map_nil]); first | done | rfl | (simp only [List.length_drop, List.length_take]; rfl)) ?_
             with_reducible refine (dom_Idoms.calls k2 _ _ t496 t545 _ ?side1 ?side2 A137.out).mono ?_
             (case side1 => repeat (first | exact (Kd.S_reads' O2.out).2.2 | (with_reducible refine Kd.C_alloc ?_ _) | (with_reducible refine Kd.C_drewN ?_ _) | (with_reducible refine Kd.C_drew ?_)))
             (case side2 => exact (Kd.S_reads' O2.out).2.1)
             rintro e w152 ⟨v546, rfl, ho0, hb⟩
             refine ⟨_, rfl, ?_⟩
             have n0_ := Aside0.mk (Kd.R_below (by (with_reducible repeat (first | apply Kd.R_alloc | apply Kd.R_drewN | apply Kd.R_drew)); exact HO_15.out) hb)
             have n1_ := Aside0.mk (Kd.R_below (by (with_reducible repeat (first | apply Kd.R_alloc | apply Kd.R_drewN | apply Kd.R_drew)); exact HO_16.out) hb)
             have n2_ := Aside0.mk (Kd.S_elder' (by (with_reducible repeat (first | apply Kd.S_alloc | apply Kd.S_drewN | apply Kd.S_drew)); exact O0.out) (Kd.R_base ho0) hb)
             have n3_ := Aside0.mk (Kd.R_elder' (by (with_reducible repeat (first | apply Kd.R_alloc | apply Kd.R_drewN | apply Kd.R_drew)); exact O1.out) (Kd.R_base ho0) hb)
             have n4_ := Aside0.mk (Kd.S_elder' (by (with_reducible repeat (first | apply Kd.S_alloc | apply Kd.S_drewN | apply Kd.S_drew)); exact O2.out) (Kd.R_base ho0) hb)
             have n5_ := Aside0.mk (Kd.R_elder' (by (with_reducible repeat (first | apply Kd.R_alloc | apply Kd.R_drewN | apply Kd.R_drew)); exact O3.out) (Kd.R_base ho0) hb)
             have n6_ := Aside0.mk (Kd.S_elder' (by (with_reducible repeat (first | apply Kd.S_alloc | apply Kd.S_drewN | apply Kd.S_drew)); exact O4.out) (Kd.R_base ho0) hb)
             have n7_ := Aside0.mk (Kd.R_elder' (by (with_reducible repeat (first | apply Kd.R_alloc | apply Kd.R_drewN | apply Kd.R_drew)); exact O5.out) (Kd.R_base ho0) hb)
             have n8_ := Aside0.mk (Kd.R_elder' (by (with_reducible repeat (first | apply Kd.R_alloc | apply Kd.R_drewN | apply Kd.R_drew)); exact HO530.out) (Kd.R_base ho0) hb)
             have n9_ := Aside0.mk (Kd.R_elder' (by (with_reducible repeat (first | apply Kd.R_alloc | apply Kd.R_drewN | apply Kd.R_drew)); exact HO533.out) (Kd.R_base ho0) hb)
             have n10_ := Aside0.mk (Kd.R_elder' (by (with_reducible repeat (first | apply Kd.R_alloc | apply Kd.R_drewN | apply Kd.R_drew)); exact HO536.out) (Kd.R_base ho0) hb)
             have n11_ := Aside0.mk (Kd.R_lower (Kd.R_new' (Kd.R_new' (Kd.R_new' (Kd.R_new' (Kd.R_new' (Kd.R_new' ho0 (Kd.R_lt (by (with_reducible repeat (first | apply Kd.R_alloc | apply Kd.R_drewN | apply Kd.R_drew)); exact O1.out))) (Kd.R_lt (by (with_reducible repeat (first | apply Kd.R_alloc | apply Kd.R_drewN | apply Kd.R_drew)); exact O3.out))) (Kd.R_lt (by (with_reducible repeat (first | apply Kd.R_alloc | apply Kd.R_drewN | apply Kd.R_drew)); exact O5.out))) (Kd.R_lt (by (with_reducible repeat (first | apply Kd.R_alloc | apply Kd.R_drewN | apply Kd.R_drew)); exact HO530.out))) (Kd.R_lt (by (with_reducible repeat (first | apply Kd.R_alloc | apply Kd.R_drewN | apply Kd.R_drew)); exact HO533.out))) (Kd.R_lt (by (with_reducible repeat (first | apply Kd.R_alloc | apply Kd.R_drewN | apply Kd.R_drew)); exact HO536.out))) (below_size (by repeat (first | (with_reducible first | exact HB.out | apply below_alloc | apply pw_below_drewN | apply below_drew1 | refine below_set ?_ GE495.out | refine below_set ?_ GE506.out | refine below_set ?_ GE517.out) | exact HB.out))))
             have n12_ := Aside0.mk (blk_below (g := gb495) (o := .cells #[.slice Ao17 t488.length co17, .slice Ao19 t491.length co19, .bool t494] 40 (0, 0)) (by (with_reducible repeat (first | refine blk_drewN ?_ _ | refine blk_drew ?_ | refine blk_alloc ?_ _)); exact BK495.out) hb)
             have n13_ := Aside0.mk (blk_below (g := gb506) (o := .cells #[.slice Ao22 t496.length co22, .slice Ao25 t499.length co25, .bool t502] 40 (0, 0)) (by (with_reducible repeat (first | refine blk_drewN ?_ _ | refine blk_drew ?_ | refine blk_alloc ?_ _)); exact BK506.out) hb)
             have n14_ := Aside0.mk (blk_below (g := gb517) (o := .cells #[.slice Ao29 t507.length co29, .slice Ao33 t510.length co33, .bool t513] 40 (0, 0)) (by (with_reducible repeat (first | refine blk_drewN ?_ _ | refine blk_drew ?_ | refine blk_alloc ?_ _)); exact BK517.out) hb)
             have n15_ := Aside0.mk (below_step (by repeat (first | (with_reducible first | exact HB.out | apply below_alloc | apply pw_below_drewN | apply below_drew1 | refine below_set ?_ GE495.out | refine below_set ?_ GE506.out | refine below_set ?_ GE517.out) | exact HB.out)) hb)
             clear HO_15 HO_16 O0 O1 O2 O3 O4 O5 HO530 HO533 HO536 BK495 BK506 BK517 HB
             have HO_15 := n0_
             have HO_16 := n1_
             have O0 := n2_
             have O1 := n3_
             have O2 := n4_
             have O3 := n5_
             have O4 := n6_
             have O5 := n7_
             have HO530 := n8_
             have HO533 := n9_
             have HO536 := n10_
             have HO547 := n11_
             have BK495 := n12_
             have BK506 := n13_
             have BK517 := n14_
             have HB := n15_
             clear n0_ n1_ n2_ n3_ n4_ n5_ n6_ n7_ n8_ n9_ n10_ n11_ n12_ n13_ n14_ n15_
             (try clear hb)
             (try clear hb2)
             (try clear hk)
             (try clear hi)
             (try clear ho0)
             obtain ⟨Ao153, co153, eo153⟩ := Kd.R_slice HO547.out
             (first | subst eo153 | (injection eo153 with f1_ f2_ f3_; have f4_ := f1_.symm; have f5_ := f3_.symm; clear f1_ f2_ f3_; subst f4_; subst f5_))
             refine hK.out _ _ ⟨(blk_cell BK506.out 0).trans rfl, (blk_cell BK506.out 1).trans rfl, (blk_cell BK506.out 2).trans rfl⟩ (fun hHeld => ?_)
             clear hK K
             refine norm_ (a' := ?_) ?_ ?_
             rotate_left
             ·
              show Act.put _ (some 153) _ = _
              simp only [Act.put, za_, zb_, zc_, i64_w, i32_w]
              rfl
             refine one_ (i := 36) (N := some 156) (mm [(37, true), (2, false)]) rfl rfl (one_of HT_.out (by kernel_rfl)) (by decide) (fun K hK => ?_)
             refine goes_ Try.func21 (by kernel_rfl) rfl #[.slice Ao153 t545.length co153, .slice Ao25 t499.length co25] (by rfl) rfl rfl (by (try simp only [List.map_toArray, List.map_cons, List.map_nil]); first | done | rfl | (simp only [List.length_drop, List.length_take]; rfl)) ?_
             with_reducible refine (bywashref01_Ints.calls k2 _ _ t545 _ _ t499 t548 _ ?side1 ?side2 ?side3 ?side4 A138.out).mono ?_
             (case side1 => repeat (first | exact (Kd.R_reads' HO547.out).2.2 | (with_reducible refine Kd.C_alloc ?_ _) | (with_reducible refine Kd.C_drewN ?_ _) | (with_reducible refine Kd.C_drew ?_)))
             (case side2 => exact (Kd.R_reads' HO547.out).2.1)
             (case side3 => repeat (first | exact (Kd.R_reads' O3.out).2.2 | (with_reducible refine Kd.C_alloc ?_ _) | (with_reducible refine Kd.C_drewN ?_ _) | (with_reducible refine Kd.C_drew ?_)))
             (case side4 => exact (Kd.R_reads' O3.out).2.1)
             rintro e w' ⟨rfl, ⟨nd, rfl⟩⟩
             refine ⟨_, rfl, ?_⟩
             refine hK.out _ _ ⟨(blk_cell BK506.out 0).trans rfl, (blk_cell BK506.out 1).trans rfl, (blk_cell BK506.out 2).trans rfl⟩ (fun hHeld => ?_)
             clear hK K
             refine norm_ (a' := ?_) ?_ ?_
             rotate_left
             ·
              show Act.put _ (some 156) _ = _
              simp only [Act.put, za_, zb_, zc_, i64_w, i32_w]
              rfl
             refine pure_ (i := 37) (N := some 157) (v := ?_) (a' := ?_) (mm [(38, true), (1, false)]) rfl rfl (any_of HT_.out (by kernel_rfl)) (fun _ _ _ h => h) (Or.inl ⟨by rfl, ?_⟩) ?_ ?_
             rotate_left
             ·
              intro w'
              go_simp
              with_reducible rfl
             rotate_left
             ·
              simp only [Act.put, za_, zb_, zc_, i64_w, i32_w]
              rfl
             refine pure_ (i := 38) (N := some 8) (v := ?_) (a' := ?_) (mm [(39, true)]) rfl rfl (any_of HT_.out (by kernel_rfl)) (fun _ _ _ h => h) (Or.inl ⟨by rfl, ?_⟩) ?_ ?_
             rotate_left
             ·
              intro w'
              go_simp
              with_reducible rfl
             rotate_left
             ·
              simp only [Act.put, za_, zb_, zc_, i64_w, i32_w]
              rfl
             refine done_ (done_of HT_.out (by kernel_rfl)) ?_
             try go_wp2
             go_ret
             exact ⟨by first | rfl | (simp [errW_none, errW_some] <;> rfl) | (simp [*, errW_none, errW_some] <;> rfl) | (exfalso; (try simp_all); (try omega); done), by repeat (first | (with_reducible first | exact HB.out | apply below_alloc | apply pw_below_drewN | apply below_drew1 | refine below_set ?_ GE495.out | refine below_set ?_ GE506.out | refine below_set ?_ GE517.out) | exact HB.out)⟩
            ·
             rw [if_neg c136] at H
             have c136b0 : ((t534.length : Int) == 0) = false := beq_eq_false_iff_ne.mpr c136
             have c136b1 : ((t534.length : Int) != 0) = true := bne_iff_ne.mpr c136
             have c136b2 : ¬ (t534 = []) := fun h_ => c136 (by rw [h_]; rfl)
             by_cases c154 : (t534.length : Int) ≥ (t528.length : Int)
             ·
              rw [if_pos c154] at H
              have c154b0 : decide ((t528.length : Int) ≤ (t534.length : Int)) = true := decide_eq_true c154
              have c154b1 : decide (t528.length ≤ t534.length) = true := decide_eq_true (Int.ofNat_le.mp c154)
              clear c154
              replace H := Option.bind_eq_some_iff.mp H
              obtain ⟨t549, A1550, H⟩ := H
              replace H : ((bywashref01_Ints.f k2 t549 t499).bind fun t552 => (some t552)) = some r := H
              have A155 := Aside0.mk A1550
              clear A1550
              replace H := Option.bind_eq_some_iff.mp H
              obtain ⟨t552, A1560, H⟩ := H
              replace H : (some t552) = some r := H
              have A156 := Aside0.mk A1560
              clear A1560
              obtain rfl := Option.some.inj H
              have hnb157 := NB495_506.out
              have hnc157 := NB506_495.out
              have hnb158 := NB495_517.out
              have hnc158 := NB517_495.out
              have hcz159_0 : wr.cell? ⟨gb495, 0, none⟩ = some (.slice Ao17 t488.length co17) := (blk_cell BK495.out 0).trans rfl
              have hcz159_1 : wr.cell? ⟨gb495, 1, none⟩ = some (.slice Ao19 t491.length co19) := (blk_cell BK495.out 1).trans rfl
              have hcz159_2 : wr.cell? ⟨gb495, 2, none⟩ = some (.bool t494) := (blk_cell BK495.out 2).trans rfl
              have hfz159_0 := blk_frozen BK495.out 0
              have hfz159_1 := blk_frozen BK495.out 1
              have hfz159_2 := blk_frozen BK495.out 2
              try go_wp2_with (first | ((with_reducible refine gate_callee (f := 25) rfl ?_); refine goesL_ (some 111) rfl rfl Try.func25 (by kernel_rfl) rfl #[.slice Ao19 t491.length co19, .int .i64 a3] rfl (by (try simp only [List.map_toArray, List.map_cons, List.map_nil]); first | done | rfl | (simp only [List.length_drop, List.length_take]; rfl)) ?_; (with_reducible refine (dom_Chain.calls k2 _ _ t491 a3 t528 _ ?side1 ?side2 A83.out).mono ?_); (case side1 => repeat (first | exact (Kd.R_reads' O1.out).2.2 | (with_reducible refine Kd.C_alloc ?_ _) | (with_reducible refine Kd.C_drewN ?_ _) | (with_reducible refine Kd.C_drew ?_))); (case side2 => exact (Kd.R_reads' O1.out).2.1); rintro e w160 ⟨v529, rfl, ho0, hb⟩; refine ⟨_, rfl, ?_⟩; have n0_ := Aside0.mk (Kd.R_below (by (with_reducible repeat (first | apply Kd.R_alloc | apply Kd.R_drewN | apply Kd.R_drew)); exact HO_15.out) hb); have n1_ := Aside0.mk (Kd.R_below (by (with_reducible repeat (first | apply Kd.R_alloc | apply Kd.R_drewN | apply Kd.R_drew)); exact HO_16.out) hb); have n2_ := Aside0.mk (Kd.S_elder' (by (with_reducible repeat (first | apply Kd.S_alloc | apply Kd.S_drewN | apply Kd.S_drew)); exact O0.out) (Kd.R_base ho0) hb); have n3_ := Aside0.mk (Kd.R_elder' (by (with_reducible repeat (first | apply Kd.R_alloc | apply Kd.R_drewN | apply Kd.R_drew)); exact O1.out) (Kd.R_base ho0) hb); have n4_ := Aside0.mk (Kd.S_elder' (by (with_reducible repeat (first | apply Kd.S_alloc | apply Kd.S_drewN | apply Kd.S_drew)); exact O2.out) (Kd.R_base ho0) hb); have n5_ := Aside0.mk (Kd.R_elder' (by (with_reducible repeat (first | apply Kd.R_alloc | apply Kd.R_drewN | apply Kd.R_drew)); exact O3.out) (Kd.R_base ho0) hb); have n6_ := Aside0.mk (Kd.S_elder' (by (with_reducible repeat (first | apply Kd.S_alloc | apply Kd.S_drewN | apply Kd.S_drew)); exact O4.out) (Kd.R_base ho0) hb); have n7_ := Aside0.mk (Kd.R_elder' (by (with_reducible repeat (first | apply Kd.R_alloc | apply Kd.R_drewN | apply Kd.R_drew)); exact O5.out) (Kd.R_base ho0) hb); have n8_ := Aside0.mk (Kd.R_lower (Kd.R_new' (Kd.R_new' (Kd.R_new' ho0 (Kd.R_lt (by (with_reducible repeat (first | apply Kd.R_alloc | apply Kd.R_drewN | apply Kd.R_drew)); exact O1.out))) (Kd.R_lt (by (with_reducible repeat (first | apply Kd.R_alloc | apply Kd.R_drewN | apply Kd.R_drew)); exact O3.out))) (Kd.R_lt (by (with_reducible repeat (first | apply Kd.R_alloc | apply Kd.R_drewN | apply Kd.R_drew)); exact O5.out))) (below_size (by repeat (first | (with_reducible first | exact HB.out | apply below_alloc | apply pw_below_drewN | apply below_drew1 | refine below_set ?_ GE495.out | refine below_set ?_ GE506.out | refine below_set ?_ GE517.out) | exact HB.out)))); have n9_ := Aside0.mk (blk_below (g := gb495) (o := .cells #[.slice Ao17 t488.length co17, .slice Ao19 t491.length co19, .bool t494] 40 (0, 0)) (by (with_reducible repeat (first | refine blk_drewN ?_ _ | refine blk_drew ?_ | refine blk_alloc ?_ _)); exact BK495.out) hb); have n10_ := Aside0.mk (blk_below (g := gb506) (o := .cells #[.slice Ao22 t496.length co22, .slice Ao25 t499.length co25, .bool t502] 40 (0, 0)) (by (with_reducible repeat (first | refine blk_drewN ?_ _ | refine blk_drew ?_ | refine blk_alloc ?_ _)); exact BK506.out) hb); have n11_ := Aside0.mk (blk_below (g := gb517) (o := .cells #[.slice Ao29 t507.length co29, .slice Ao33 t510.length co33, .bool t513] 40 (0, 0)) (by (with_reducible repeat (first | refine blk_drewN ?_ _ | refine blk_drew ?_ | refine blk_alloc ?_ _)); exact BK517.out) hb); have n12_ := Aside0.mk (below_step (by repeat (first | (with_reducible first | exact HB.out | apply below_alloc | apply pw_below_drewN | apply below_drew1 | refine below_set ?_ GE495.out | refine below_set ?_ GE506.out | refine below_set ?_ GE517.out) | exact HB.out)) hb); clear HO_15; clear HO_16; clear O0; clear O1; clear O2; clear O3; clear O4; clear O5; clear BK495; clear BK506; clear BK517; clear HB; have HO_15 := n0_; have HO_16 := n1_; have O0 := n2_; have O1 := n3_; have O2 := n4_; have O3 := n5_; have O4 := n6_; have O5 := n7_; have HO530 := n8_; have BK495 := n9_; have BK506 := n10_; have BK517 := n11_; have HB := n12_; clear n0_ n1_ n2_ n3_ n4_ n5_ n6_ n7_ n8_ n9_ n10_ n11_ n12_; (try clear hb); (try clear hb2); (try clear hk); (try clear hi); (try clear ho0); have hnb161 := NB506_517.out; have hnc161 := NB517_506.out; have hcz162_0 : w160.cell? ⟨gb506, 0, none⟩ = some (.slice Ao22 t496.length co22) := (blk_cell BK506.out 0).trans rfl; have hcz162_1 : w160.cell? ⟨gb506, 1, none⟩ = some (.slice Ao25 t499.length co25) := (blk_cell BK506.out 1).trans rfl; have hcz162_2 : w160.cell? ⟨gb506, 2, none⟩ = some (.bool t502) := (blk_cell BK506.out 2).trans rfl; have hfz162_0 := blk_frozen BK506.out 0; have hfz162_1 := blk_frozen BK506.out 1; have hfz162_2 := blk_frozen BK506.out 2) | ((with_reducible refine gate_callee (f := 25) rfl ?_); refine goesL_ (some 115) rfl rfl Try.func25 (by kernel_rfl) rfl #[.slice Ao25 t499.length co25, .int .i64 a3] rfl (by (try simp only [List.map_toArray, List.map_cons, List.map_nil]); first | done | rfl | (simp only [List.length_drop, List.length_take]; rfl)) ?_; (with_reducible refine (dom_Chain.calls k2 _ _ t499 a3 t531 _ ?side1 ?side2 A84.out).mono ?_); (case side1 => repeat (first | exact (Kd.R_reads' O3.out).2.2 | (with_reducible refine Kd.C_alloc ?_ _) | (with_reducible refine Kd.C_drewN ?_ _) | (with_reducible refine Kd.C_drew ?_))); (case side2 => exact (Kd.R_reads' O3.out).2.1); rintro e w163 ⟨v532, rfl, ho0, hb⟩; refine ⟨_, rfl, ?_⟩; have n0_ := Aside0.mk (Kd.R_below (by (with_reducible repeat (first | apply Kd.R_alloc | apply Kd.R_drewN | apply Kd.R_drew)); exact HO_15.out) hb); have n1_ := Aside0.mk (Kd.R_below (by (with_reducible repeat (first | apply Kd.R_alloc | apply Kd.R_drewN | apply Kd.R_drew)); exact HO_16.out) hb); have n2_ := Aside0.mk (Kd.S_elder' (by (with_reducible repeat (first | apply Kd.S_alloc | apply Kd.S_drewN | apply Kd.S_drew)); exact O0.out) (Kd.R_base ho0) hb); have n3_ := Aside0.mk (Kd.R_elder' (by (with_reducible repeat (first | apply Kd.R_alloc | apply Kd.R_drewN | apply Kd.R_drew)); exact O1.out) (Kd.R_base ho0) hb); have n4_ := Aside0.mk (Kd.S_elder' (by (with_reducible repeat (first | apply Kd.S_alloc | apply Kd.S_drewN | apply Kd.S_drew)); exact O2.out) (Kd.R_base ho0) hb); have n5_ := Aside0.mk (Kd.R_elder' (by (with_reducible repeat (first | apply Kd.R_alloc | apply Kd.R_drewN | apply Kd.R_drew)); exact O3.out) (Kd.R_base ho0) hb); have n6_ := Aside0.mk (Kd.S_elder' (by (with_reducible repeat (first | apply Kd.S_alloc | apply Kd.S_drewN | apply Kd.S_drew)); exact O4.out) (Kd.R_base ho0) hb); have n7_ := Aside0.mk (Kd.R_elder' (by (with_reducible repeat (first | apply Kd.R_alloc | apply Kd.R_drewN | apply Kd.R_drew)); exact O5.out) (Kd.R_base ho0) hb); have n8_ := Aside0.mk (Kd.R_elder' (by (with_reducible repeat (first | apply Kd.R_alloc | apply Kd.R_drewN | apply Kd.R_drew)); exact HO530.out) (Kd.R_base ho0) hb); have n9_ := Aside0.mk (Kd.R_lower (Kd.R_new' (Kd.R_new' (Kd.R_new' (Kd.R_new' ho0 (Kd.R_lt (by (with_reducible repeat (first | apply Kd.R_alloc | apply Kd.R_drewN | apply Kd.R_drew)); exact O1.out))) (Kd.R_lt (by (with_reducible repeat (first | apply Kd.R_alloc | apply Kd.R_drewN | apply Kd.R_drew)); exact O3.out))) (Kd.R_lt (by (with_reducible repeat (first | apply Kd.R_alloc | apply Kd.R_drewN | apply Kd.R_drew)); exact O5.out))) (Kd.R_lt (by (with_reducible repeat (first | apply Kd.R_alloc | apply Kd.R_drewN | apply Kd.R_drew)); exact HO530.out))) (below_size (by repeat (first | (with_reducible first | exact HB.out | apply below_alloc | apply pw_below_drewN | apply below_drew1 | refine below_set ?_ GE495.out | refine below_set ?_ GE506.out | refine below_set ?_ GE517.out) | exact HB.out)))); have n10_ := Aside0.mk (blk_below (g := gb495) (o := .cells #[.slice Ao17 t488.length co17, .slice Ao19 t491.length co19, .bool t494] 40 (0, 0)) (by (with_reducible repeat (first | refine blk_drewN ?_ _ | refine blk_drew ?_ | refine blk_alloc ?_ _)); exact BK495.out) hb); have n11_ := Aside0.mk (blk_below (g := gb506) (o := .cells #[.slice Ao22 t496.length co22, .slice Ao25 t499.length co25, .bool t502] 40 (0, 0)) (by (with_reducible repeat (first | refine blk_drewN ?_ _ | refine blk_drew ?_ | refine blk_alloc ?_ _)); exact BK506.out) hb); have n12_ := Aside0.mk (blk_below (g := gb517) (o := .cells #[.slice Ao29 t507.length co29, .slice Ao33 t510.length co33, .bool t513] 40 (0, 0)) (by (with_reducible repeat (first | refine blk_drewN ?_ _ | refine blk_drew ?_ | refine blk_alloc ?_ _)); exact BK517.out) hb); have n13_ := Aside0.mk (below_step (by repeat (first | (with_reducible first | exact HB.out | apply below_alloc | apply pw_below_drewN | apply below_drew1 | refine below_set ?_ GE495.out | refine below_set ?_ GE506.out | refine below_set ?_ GE517.out) | exact HB.out)) hb); clear HO_15; clear HO_16; clear O0; clear O1; clear O2; clear O3; clear O4; clear O5; clear HO530; clear BK495; clear BK506; clear BK517; clear HB; have HO_15 := n0_; have HO_16 := n1_; have O0 := n2_; have O1 := n3_; have O2 := n4_; have O3 := n5_; have O4 := n6_; have O5 := n7_; have HO530 := n8_; have HO533 := n9_; have BK495 := n10_; have BK506 := n11_; have BK517 := n12_; have HB := n13_; clear n0_ n1_ n2_ n3_ n4_ n5_ n6_ n7_ n8_ n9_ n10_ n11_ n12_ n13_; (try clear hb); (try clear hb2); (try clear hk); (try clear hi); (try clear ho0); have hcz164_0 : w163.cell? ⟨gb517, 0, none⟩ = some (.slice Ao29 t507.length co29) := (blk_cell BK517.out 0).trans rfl; have hcz164_1 : w163.cell? ⟨gb517, 1, none⟩ = some (.slice Ao33 t510.length co33) := (blk_cell BK517.out 1).trans rfl; have hcz164_2 : w163.cell? ⟨gb517, 2, none⟩ = some (.bool t513) := (blk_cell BK517.out 2).trans rfl; have hfz164_0 := blk_frozen BK517.out 0; have hfz164_1 := blk_frozen BK517.out 1; have hfz164_2 := blk_frozen BK517.out 2) | ((with_reducible refine gate_callee (f := 25) rfl ?_); refine goesL_ (some 119) rfl rfl Try.func25 (by kernel_rfl) rfl #[.slice Ao33 t510.length co33, .int .i64 a3] rfl (by (try simp only [List.map_toArray, List.map_cons, List.map_nil]); first | done | rfl | (simp only [List.length_drop, List.length_take]; rfl)) ?_; (with_reducible refine (dom_Chain.calls k2 _ _ t510 a3 t534 _ ?side1 ?side2 A85.out).mono ?_); (case side1 => repeat (first | exact (Kd.R_reads' O5.out).2.2 | (with_reducible refine Kd.C_alloc ?_ _) | (with_reducible refine Kd.C_drewN ?_ _) | (with_reducible refine Kd.C_drew ?_))); (case side2 => exact (Kd.R_reads' O5.out).2.1); rintro e w165 ⟨v535, rfl, ho0, hb⟩; refine ⟨_, rfl, ?_⟩; have n0_ := Aside0.mk (Kd.R_below (by (with_reducible repeat (first | apply Kd.R_alloc | apply Kd.R_drewN | apply Kd.R_drew)); exact HO_15.out) hb); have n1_ := Aside0.mk (Kd.R_below (by (with_reducible repeat (first | apply Kd.R_alloc | apply Kd.R_drewN | apply Kd.R_drew)); exact HO_16.out) hb); have n2_ := Aside0.mk (Kd.S_elder' (by (with_reducible repeat (first | apply Kd.S_alloc | apply Kd.S_drewN | apply Kd.S_drew)); exact O0.out) (Kd.R_base ho0) hb); have n3_ := Aside0.mk (Kd.R_elder' (by (with_reducible repeat (first | apply Kd.R_alloc | apply Kd.R_drewN | apply Kd.R_drew)); exact O1.out) (Kd.R_base ho0) hb); have n4_ := Aside0.mk (Kd.S_elder' (by (with_reducible repeat (first | apply Kd.S_alloc | apply Kd.S_drewN | apply Kd.S_drew)); exact O2.out) (Kd.R_base ho0) hb); have n5_ := Aside0.mk (Kd.R_elder' (by (with_reducible repeat (first | apply Kd.R_alloc | apply Kd.R_drewN | apply Kd.R_drew)); exact O3.out) (Kd.R_base ho0) hb); have n6_ := Aside0.mk (Kd.S_elder' (by (with_reducible repeat (first | apply Kd.S_alloc | apply Kd.S_drewN | apply Kd.S_drew)); exact O4.out) (Kd.R_base ho0) hb); have n7_ := Aside0.mk (Kd.R_elder' (by (with_reducible repeat (first | apply Kd.R_alloc | apply Kd.R_drewN | apply Kd.R_drew)); exact O5.out) (Kd.R_base ho0) hb); have n8_ := Aside0.mk (Kd.R_elder' (by (with_reducible repeat (first | apply Kd.R_alloc | apply Kd.R_drewN | apply Kd.R_drew)); exact HO530.out) (Kd.R_base ho0) hb); have n9_ := Aside0.mk (Kd.R_elder' (by (with_reducible repeat (first | apply Kd.R_alloc | apply Kd.R_drewN | apply Kd.R_drew)); exact HO533.out) (Kd.R_base ho0) hb); have n10_ := Aside0.mk (Kd.R_lower (Kd.R_new' (Kd.R_new' (Kd.R_new' (Kd.R_new' (Kd.R_new' ho0 (Kd.R_lt (by (with_reducible repeat (first | apply Kd.R_alloc | apply Kd.R_drewN | apply Kd.R_drew)); exact O1.out))) (Kd.R_lt (by (with_reducible repeat (first | apply Kd.R_alloc | apply Kd.R_drewN | apply Kd.R_drew)); exact O3.out))) (Kd.R_lt (by (with_reducible repeat (first | apply Kd.R_alloc | apply Kd.R_drewN | apply Kd.R_drew)); exact O5.out))) (Kd.R_lt (by (with_reducible repeat (first | apply Kd.R_alloc | apply Kd.R_drewN | apply Kd.R_drew)); exact HO530.out))) (Kd.R_lt (by (with_reducible repeat (first | apply Kd.R_alloc | apply Kd.R_drewN | apply Kd.R_drew)); exact HO533.out))) (below_size (by repeat (first | (with_reducible first | exact HB.out | apply below_alloc | apply pw_below_drewN | apply below_drew1 | refine below_set ?_ GE495.out | refine below_set ?_ GE506.out | refine below_set ?_ GE517.out) | exact HB.out)))); have n11_ := Aside0.mk (blk_below (g := gb495) (o := .cells #[.slice Ao17 t488.length co17, .slice Ao19 t491.length co19, .bool t494] 40 (0, 0)) (by (with_reducible repeat (first | refine blk_drewN ?_ _ | refine blk_drew ?_ | refine blk_alloc ?_ _)); exact BK495.out) hb); have n12_ := Aside0.mk (blk_below (g := gb506) (o := .cells #[.slice Ao22 t496.length co22, .slice Ao25 t499.length co25, .bool t502] 40 (0, 0)) (by (with_reducible repeat (first | refine blk_drewN ?_ _ | refine blk_drew ?_ | refine blk_alloc ?_ _)); exact BK506.out) hb); have n13_ := Aside0.mk (blk_below (g := gb517) (o := .cells #[.slice Ao29 t507.length co29, .slice Ao33 t510.length co33, .bool t513] 40 (0, 0)) (by (with_reducible repeat (first | refine blk_drewN ?_ _ | refine blk_drew ?_ | refine blk_alloc ?_ _)); exact BK517.out) hb); have n14_ := Aside0.mk (below_step (by repeat (first | (with_reducible first | exact HB.out | apply below_alloc | apply pw_below_drewN | apply below_drew1 | refine below_set ?_ GE495.out | refine below_set ?_ GE506.out | refine below_set ?_ GE517.out) | exact HB.out)) hb); clear HO_15; clear HO_16; clear O0; clear O1; clear O2; clear O3; clear O4; clear O5; clear HO530; clear HO533; clear BK495; clear BK506; clear BK517; clear HB; have HO_15 := n0_; have HO_16 := n1_; have O0 := n2_; have O1 := n3_; have O2 := n4_; have O3 := n5_; have O4 := n6_; have O5 := n7_; have HO530 := n8_; have HO533 := n9_; have HO536 := n10_; have BK495 := n11_; have BK506 := n12_; have BK517 := n13_; have HB := n14_; clear n0_ n1_ n2_ n3_ n4_ n5_ n6_ n7_ n8_ n9_ n10_ n11_ n12_ n13_ n14_; (try clear hb); (try clear hb2); (try clear hk); (try clear hi); (try clear ho0)))
              have n0_ := Aside0.mk (Kd.R_drew HO_15.out)
              have n1_ := Aside0.mk (Kd.R_drew HO_16.out)
              have n2_ := Aside0.mk (Kd.S_drew O0.out)
              have n3_ := Aside0.mk (Kd.R_drew O1.out)
              have n4_ := Aside0.mk (Kd.S_drew O2.out)
              have n5_ := Aside0.mk (Kd.R_drew O3.out)
              have n6_ := Aside0.mk (Kd.S_drew O4.out)
              have n7_ := Aside0.mk (Kd.R_drew O5.out)
              have n8_ := Aside0.mk (Kd.R_drew HO530.out)
              have n9_ := Aside0.mk (Kd.R_drew HO533.out)
              have n10_ := Aside0.mk (Kd.R_drew HO536.out)
              have n11_ := Aside0.mk (blk_drew BK495.out)
              have n12_ := Aside0.mk (blk_drew BK506.out)
              have n13_ := Aside0.mk (blk_drew BK517.out)
              have n14_ := Aside0.mk (below_drew1 HB.out)
              clear HO_15 HO_16 O0 O1 O2 O3 O4 O5 HO530 HO533 HO536 BK495 BK506 BK517 HB
              have HO_15 := n0_
              have HO_16 := n1_
              have O0 := n2_
              have O1 := n3_
              have O2 := n4_
              have O3 := n5_
              have O4 := n6_
              have O5 := n7_
              have HO530 := n8_
              have HO533 := n9_
              have HO536 := n10_
              have BK495 := n11_
              have BK506 := n12_
              have BK517 := n13_
              have HB := n14_
              clear n0_ n1_ n2_ n3_ n4_ n5_ n6_ n7_ n8_ n9_ n10_ n11_ n12_ n13_ n14_
              obtain ⟨Ao167, co167, eo167⟩ := Kd.R_slice HO530.out
              (first | subst eo167 | (injection eo167 with f1_ f2_ f3_; have f4_ := f1_.symm; have f5_ := f3_.symm; clear f1_ f2_ f3_; subst f4_; subst f5_))
              obtain ⟨Ao168, co168, eo168⟩ := Kd.R_slice HO533.out
              (first | subst eo168 | (injection eo168 with f1_ f2_ f3_; have f4_ := f1_.symm; have f5_ := f3_.symm; clear f1_ f2_ f3_; subst f4_; subst f5_))
              obtain ⟨Ao169, co169, eo169⟩ := Kd.R_slice HO536.out
              (first | subst eo169 | (injection eo169 with f1_ f2_ f3_; have f4_ := f1_.symm; have f5_ := f3_.symm; clear f1_ f2_ f3_; subst f4_; subst f5_))
              refine start_ (n := 39) (S := fun w' => w'.cell? ⟨gb506, 0, none⟩ = some (.slice Ao22 t496.length co22) ∧ w'.cell? ⟨gb506, 1, none⟩ = some (.slice Ao25 t499.length co25) ∧ w'.cell? ⟨gb506, 2, none⟩ = some (.bool t502)) (ds := []) (mm [(39, false)]) (by kernel_rfl) rfl rfl ⟨(blk_cell BK506.out 0).trans rfl, (blk_cell BK506.out 1).trans rfl, (blk_cell BK506.out 2).trans rfl⟩ (fun hHeld => ?_); refine with_tabW bywashlaw15_DomupFound.tab19 bywashlaw15_DomupFound.bits19 (fun HT_ HW_ => ?_)
              generalize w165.drew = w166 at HO_15 HO_16 O0 O1 O2 O3 O4 O5 HO530 HO533 HO536 BK495 BK506 BK517 HB hHeld ⊢
              refine pure_ (i := 0) (N := some 120) (v := ?_) (a' := ?_) (mm [(1, true), (38, false)]) rfl rfl (any_of HT_.out (by kernel_rfl)) (fun _ _ _ h => h) (Or.inl ⟨by rfl, ?_⟩) ?_ ?_
              rotate_left
              ·
               intro w'
               go_simp
               with_reducible rfl
              rotate_left
              ·
               simp only [Act.put, za_, zb_, zc_, i64_w, i32_w]
               rfl
              refine pure_ (i := 1) (N := some 121) (v := ?_) (a' := ?_) (mm [(2, true), (37, false)]) rfl rfl (any_of HT_.out (by kernel_rfl)) (fun _ _ _ h => h) (Or.inl ⟨by rfl, ?_⟩) ?_ ?_
              rotate_left
              ·
               intro w'
               go_simp
               with_reducible rfl
              rotate_left
              ·
               simp only [Act.put, za_, zb_, zc_, i64_w, i32_w]
               rfl
              refine pure_ (i := 2) (N := some 122) (v := ?_) (a' := ?_) (mm [(3, true), (36, false)]) rfl rfl (any_of HT_.out (by kernel_rfl)) (fun _ _ _ h => h) (Or.inl ⟨by rfl, ?_⟩) ?_ ?_
              rotate_left
              ·
               intro w'
               go_simp
               with_reducible rfl
              rotate_left
              ·
               simp only [Act.put, za_, zb_, zc_, i64_w, i32_w]
               rfl
              refine pure_ (i := 3) (N := some 123) (v := ?_) (a' := ?_) (mm [(4, true), (35, false)]) rfl rfl (any_of HT_.out (by kernel_rfl)) (fun _ _ _ h => h) (Or.inl ⟨by rfl, ?_⟩) ?_ ?_
              rotate_left
              ·
               intro w'
               go_simp
               with_reducible rfl
              rotate_left
              ·
               simp only [Act.put, za_, zb_, zc_, i64_w, i32_w]
               rfl
              refine pure_ (i := 4) (N := some 124) (v := ?_) (a' := ?_) (mm [(5, true), (34, false)]) rfl rfl (any_of HT_.out (by kernel_rfl)) (fun _ _ _ h => h) (Or.inl ⟨by rfl, ?_⟩) ?_ ?_
              rotate_left
              ·
               intro w'
               go_simp
               with_reducible rfl
              rotate_left
              ·
               simp only [Act.put, za_, zb_, zc_, i64_w, i32_w]
               rfl
              refine pure_ (i := 5) (N := some 125) (v := ?_) (a' := ?_) (mm [(6, true), (33, false)]) rfl rfl (any_of HT_.out (by kernel_rfl)) (fun _ _ _ h => h) (Or.inl ⟨by rfl, ?_⟩) ?_ ?_
              rotate_left
              ·
               intro w'
               go_simp
               with_reducible rfl
              rotate_left
              ·
               simp only [Act.put, za_, zb_, zc_, i64_w, i32_w]
               rfl
              refine pure_ (i := 6) (N := some 126) (v := ?_) (a' := ?_) (mm [(7, true), (32, false)]) rfl rfl (any_of HT_.out (by kernel_rfl)) (fun _ _ _ h => h) (Or.inl ⟨by rfl, ?_⟩) ?_ ?_
              rotate_left
              ·
               intro w'
               go_simp
               with_reducible rfl
              rotate_left
              ·
               simp only [Act.put, za_, zb_, zc_, i64_w, i32_w]
               rfl
              refine pure_ (i := 7) (N := some 127) (v := ?_) (a' := ?_) (mm [(8, true), (31, false)]) rfl rfl (any_of HT_.out (by kernel_rfl)) (fun _ _ _ h => h) (Or.inl ⟨by rfl, ?_⟩) ?_ ?_
              rotate_left
              ·
               intro w'
               go_simp
               with_reducible rfl
              rotate_left
              ·
               simp only [Act.put, za_, zb_, zc_, i64_w, i32_w]
               rfl
              refine pure_ (i := 8) (N := some 128) (v := ?_) (a' := ?_) (mm [(9, true), (30, false)]) rfl rfl (any_of HT_.out (by kernel_rfl)) (fun _ _ _ h => h) (Or.inl ⟨by rfl, ?_⟩) ?_ ?_
              rotate_left
              ·
               intro w'
               go_simp
               with_reducible rfl
              rotate_left
              ·
               simp only [Act.put, za_, zb_, zc_, i64_w, i32_w]
               rfl
              refine pure_ (i := 9) (N := some 129) (v := ?_) (a' := ?_) (mm [(10, true), (29, false)]) rfl rfl (any_of HT_.out (by kernel_rfl)) (fun _ _ _ h => h) (Or.inl ⟨by rfl, ?_⟩) ?_ ?_
              rotate_left
              ·
               intro w'
               go_simp
               with_reducible rfl
              rotate_left
              ·
               simp only [Act.put, za_, zb_, zc_, i64_w, i32_w]
               rfl
              refine pure_ (i := 10) (N := some 130) (v := ?_) (a' := ?_) (mm [(11, true), (28, false)]) rfl rfl (any_of HT_.out (by kernel_rfl)) (fun _ _ _ h => h) (Or.inl ⟨by rfl, ?_⟩) ?_ ?_
              rotate_left
              ·
               intro w'
               go_simp
               with_reducible rfl
              rotate_left
              ·
               simp only [Act.put, za_, zb_, zc_, i64_w, i32_w]
               rfl
              refine pure_ (i := 11) (N := some 131) (v := ?_) (a' := ?_) (mm [(12, true), (27, false)]) rfl rfl (any_of HT_.out (by kernel_rfl)) (fun _ _ _ h => h) (Or.inl ⟨by rfl, ?_⟩) ?_ ?_
              rotate_left
              ·
               intro w'
               go_simp
               with_reducible rfl
              rotate_left
              ·
               simp only [Act.put, za_, zb_, zc_, i64_w, i32_w]
               rfl
              refine pure_ (i := 12) (N := some 132) (v := ?_) (a' := ?_) (mm [(13, true), (26, false)]) rfl rfl (any_of HT_.out (by kernel_rfl)) (fun _ _ _ h => h) (Or.inl ⟨by rfl, ?_⟩) ?_ ?_
              rotate_left
              ·
               intro w'
               go_simp
               with_reducible rfl
              rotate_left
              ·
               simp only [Act.put, za_, zb_, zc_, i64_w, i32_w]
               rfl
              refine pure_ (i := 13) (N := some 133) (v := ?_) (a' := ?_) (mm [(14, true), (25, false)]) rfl rfl (any_of HT_.out (by kernel_rfl)) (fun _ _ _ h => h) (Or.inl ⟨by rfl, ?_⟩) ?_ ?_
              rotate_left
              ·
               intro w'
               go_simp
               with_reducible rfl
              rotate_left
              ·
               simp only [Act.put, za_, zb_, zc_, i64_w, i32_w]
               rfl
              refine pure_ (i := 14) (N := some 134) (v := ?_) (a' := ?_) (mm [(15, true), (24, false)]) rfl rfl (any_of HT_.out (by kernel_rfl)) (fun _ _ _ h => h) (Or.inl ⟨by rfl, ?_⟩) ?_ ?_
              rotate_left
              ·
               intro w'
               go_simp
               with_reducible rfl
              rotate_left
              ·
               simp only [Act.put, za_, zb_, zc_, i64_w, i32_w]
               rfl
              refine pure_ (i := 15) (N := some 135) (v := ?_) (a' := ?_) (mm [(16, true), (23, false)]) rfl rfl (any_of HT_.out (by kernel_rfl)) (fun _ _ _ h => h) (Or.inl ⟨by rfl, ?_⟩) ?_ ?_
              rotate_left
              ·
               intro w'
               go_simp
               with_reducible rfl
              rotate_left
              ·
               simp only [Act.put, za_, zb_, zc_, i64_w, i32_w]
               rfl
              refine pure_ (i := 16) (N := some 136) (v := ?_) (a' := ?_) (mm [(17, true), (22, false)]) rfl rfl (any_of HT_.out (by kernel_rfl)) (fun _ _ _ h => h) (Or.inl ⟨by rfl, ?_⟩) ?_ ?_
              rotate_left
              ·
               intro w'
               go_simp
               with_reducible rfl
              rotate_left
              ·
               simp only [Act.put, za_, zb_, zc_, i64_w, i32_w]
               rfl
              refine pure_ (i := 17) (N := some 137) (v := ?_) (a' := ?_) (mm [(18, true), (21, false)]) rfl rfl (any_of HT_.out (by kernel_rfl)) (fun _ _ _ h => h) (Or.inl ⟨by rfl, ?_⟩) ?_ ?_
              rotate_left
              ·
               intro w'
               go_simp
               with_reducible rfl
              rotate_left
              ·
               simp only [Act.put, za_, zb_, zc_, i64_w, i32_w]
               rfl
              refine pure_ (i := 18) (N := some 138) (v := ?_) (a' := ?_) (mm [(19, true), (20, false)]) rfl rfl (any_of HT_.out (by kernel_rfl)) (fun _ _ _ h => h) (Or.inl ⟨by rfl, ?_⟩) ?_ ?_
              rotate_left
              ·
               intro w'
               go_simp
               with_reducible rfl
              rotate_left
              ·
               simp only [Act.put, za_, zb_, zc_, i64_w, i32_w]
               rfl
              refine pure_ (i := 19) (N := some 139) (v := ?_) (a' := ?_) (mm [(20, true), (19, false)]) rfl rfl (any_of HT_.out (by kernel_rfl)) (fun _ _ _ h => h) (Or.inl ⟨by rfl, ?_⟩) ?_ ?_
              rotate_left
              ·
               intro w'
               go_simp
               with_reducible rfl
              rotate_left
              ·
               simp only [Act.put, za_, zb_, zc_, i64_w, i32_w]
               rfl
              refine pure_ (i := 20) (N := some 140) (v := ?_) (a' := ?_) (mm [(21, true), (18, false)]) rfl rfl (any_of HT_.out (by kernel_rfl)) (fun _ _ _ h => h) (Or.inl ⟨by rfl, ?_⟩) ?_ ?_
              rotate_left
              ·
               intro w'
               go_simp
               with_reducible rfl
              rotate_left
              ·
               simp only [Act.put, za_, zb_, zc_, i64_w, i32_w]
               rfl
              refine pure_ (i := 21) (N := some 141) (v := ?_) (a' := ?_) (mm [(22, true), (17, false)]) rfl rfl (any_of HT_.out (by kernel_rfl)) (fun _ _ _ h => h) (Or.inl ⟨by rfl, ?_⟩) ?_ ?_
              rotate_left
              ·
               intro w'
               go_simp
               with_reducible rfl
              rotate_left
              ·
               simp only [Act.put, za_, zb_, zc_, i64_w, i32_w]
               rfl
              refine pure_ (i := 22) (N := some 142) (v := ?_) (a' := ?_) (mm [(23, true), (16, false)]) rfl rfl (any_of HT_.out (by kernel_rfl)) (fun _ _ _ h => h) (Or.inl ⟨by rfl, ?_⟩) ?_ ?_
              rotate_left
              ·
               intro w'
               go_simp
               with_reducible rfl
              rotate_left
              ·
               simp only [Act.put, za_, zb_, zc_, i64_w, i32_w]
               rfl
              refine pure_ (i := 23) (N := some 143) (v := ?_) (a' := ?_) (mm [(24, true), (15, false)]) rfl rfl (any_of HT_.out (by kernel_rfl)) (fun _ _ _ h => h) (Or.inl ⟨by rfl, ?_⟩) ?_ ?_
              rotate_left
              ·
               intro w'
               go_simp
               with_reducible rfl
              rotate_left
              ·
               simp only [Act.put, za_, zb_, zc_, i64_w, i32_w]
               rfl
              refine pure_ (i := 24) (N := some 144) (v := ?_) (a' := ?_) (mm [(25, true), (14, false)]) rfl rfl (any_of HT_.out (by kernel_rfl)) (fun _ _ _ h => h) (Or.inl ⟨by rfl, ?_⟩) ?_ ?_
              rotate_left
              ·
               intro w'
               go_simp
               with_reducible rfl
              rotate_left
              ·
               simp only [Act.put, za_, zb_, zc_, i64_w, i32_w]
               rfl
              refine pure_ (i := 25) (N := some 145) (v := ?_) (a' := ?_) (mm [(26, true), (13, false)]) rfl rfl (any_of HT_.out (by kernel_rfl)) (fun _ _ _ h => h) (Or.inl ⟨by rfl, ?_⟩) ?_ ?_
              rotate_left
              ·
               intro w'
               go_simp
               with_reducible rfl
              rotate_left
              ·
               simp only [Act.put, za_, zb_, zc_, i64_w, i32_w]
               rfl
              refine pure_ (i := 26) (N := some 146) (v := ?_) (a' := ?_) (mm [(27, true), (12, false)]) rfl rfl (any_of HT_.out (by kernel_rfl)) (fun _ _ _ h => h) (Or.inl ⟨by rfl, ?_⟩) ?_ ?_
              rotate_left
              ·
               intro w'
               go_simp
               with_reducible rfl
              rotate_left
              ·
               simp only [Act.put, za_, zb_, zc_, i64_w, i32_w]
               rfl
              refine pure_ (i := 27) (N := some 147) (v := ?_) (a' := ?_) (mm [(28, true), (11, false)]) rfl rfl (any_of HT_.out (by kernel_rfl)) (fun _ _ _ h => h) (Or.inl ⟨by rfl, ?_⟩) ?_ ?_
              rotate_left
              ·
               intro w'
               go_simp
               with_reducible rfl
              rotate_left
              ·
               simp only [Act.put, za_, zb_, zc_, i64_w, i32_w]
               rfl
              refine pure_ (i := 28) (N := some 148) (v := ?_) (a' := ?_) (mm [(29, true), (10, false)]) rfl rfl (any_of HT_.out (by kernel_rfl)) (fun _ _ _ h => h) (Or.inl ⟨by rfl, ?_⟩) ?_ ?_
              rotate_left
              ·
               intro w'
               go_simp
               with_reducible rfl
              rotate_left
              ·
               simp only [Act.put, za_, zb_, zc_, i64_w, i32_w]
               rfl
              refine pure_ (i := 29) (N := some 149) (v := ?_) (a' := ?_) (mm [(30, true), (9, false)]) rfl rfl (any_of HT_.out (by kernel_rfl)) (fun _ _ _ h => h) (Or.inl ⟨by rfl, ?_⟩) ?_ ?_
              rotate_left
              ·
               intro w'
               go_simp
               with_reducible rfl
              rotate_left
              ·
               simp only [Act.put, za_, zb_, zc_, i64_w, i32_w]
               rfl
              refine pure_ (i := 30) (N := some 150) (v := ?_) (a' := ?_) (mm [(31, true), (8, false)]) rfl rfl (any_of HT_.out (by kernel_rfl)) (fun _ _ _ h => h) (Or.inl ⟨by rfl, ?_⟩) ?_ ?_
              rotate_left
              ·
               intro w'
               go_simp
               with_reducible rfl
              rotate_left
              ·
               simp only [Act.put, za_, zb_, zc_, i64_w, i32_w]
               rfl
              refine pure_ (i := 31) (N := some 151) (v := ?_) (a' := ?_) (mm [(32, true), (7, false)]) rfl rfl (any_of HT_.out (by kernel_rfl)) (fun _ _ _ h => h) (Or.inl ⟨by rfl, ?_⟩) ?_ ?_
              rotate_left
              ·
               intro w'
               go_simp
               with_reducible rfl
              rotate_left
              ·
               simp only [Act.put, za_, zb_, zc_, i64_w, i32_w]
               rfl
              refine pure_ (i := 34) (N := some 154) (v := ?_) (a' := ?_) (mm [(32, true), (2, false), (1, true), (4, false)]) rfl rfl (any_of HT_.out (by kernel_rfl)) (fun _ _ _ h => h) (Or.inl ⟨by rfl, ?_⟩) ?_ ?_
              rotate_left
              ·
               intro w'
               go_simp
               with_reducible rfl
              rotate_left
              ·
               simp only [Act.put, za_, zb_, zc_, i64_w, i32_w]
               rfl
              refine take_ (i := 32) (N := some 152) (v := ?_) (a' := ?_) (mm [(33, true), (1, false), (1, true), (4, false)]) rfl rfl (take_ofW HT_.out HW_.out (by kernel_rfl)) (fun _ _ _ h => h) (Or.inl ⟨by rfl, ?_⟩) hHeld ?_ ?_
              rotate_left
              ·
               rintro w' ⟨s0, s1, s2⟩
               go_simp
               with_reducible rfl
              rotate_left
              ·
               simp only [Act.put, za_, zb_, zc_, i64_w, i32_w]
               rfl
              refine take_ (i := 35) (N := some 155) (v := ?_) (a' := ?_) (mm [(33, true), (1, false), (2, true), (3, false)]) rfl rfl (take_ofW HT_.out HW_.out (by kernel_rfl)) (fun _ _ _ h => h) (Or.inl ⟨by rfl, ?_⟩) hHeld ?_ ?_
              rotate_left
              ·
               rintro w' ⟨s0, s1, s2⟩
               go_simp
               with_reducible rfl
              rotate_left
              ·
               simp only [Act.put, za_, zb_, zc_, i64_w, i32_w]
               rfl
              refine one_ (i := 33) (N := some 153) (mm [(36, true), (3, false)]) rfl rfl (one_of HT_.out (by kernel_rfl)) (by decide) (fun K hK => ?_)
              refine goes_ Try.func15 (by kernel_rfl) rfl #[.slice Ao22 t496.length co22] (by rfl) rfl rfl (by (try simp only [List.map_toArray, List.map_cons, List.map_nil]); first | done | rfl | (simp only [List.length_drop, List.length_take]; rfl)) ?_
              with_reducible refine (dom_Idoms.calls k2 _ _ t496 t549 _ ?side1 ?side2 A155.out).mono ?_
              (case side1 => repeat (first | exact (Kd.S_reads' O2.out).2.2 | (with_reducible refine Kd.C_alloc ?_ _) | (with_reducible refine Kd.C_drewN ?_ _) | (with_reducible refine Kd.C_drew ?_)))
              (case side2 => exact (Kd.S_reads' O2.out).2.1)
              rintro e w170 ⟨v550, rfl, ho0, hb⟩
              refine ⟨_, rfl, ?_⟩
              have n0_ := Aside0.mk (Kd.R_below (by (with_reducible repeat (first | apply Kd.R_alloc | apply Kd.R_drewN | apply Kd.R_drew)); exact HO_15.out) hb)
              have n1_ := Aside0.mk (Kd.R_below (by (with_reducible repeat (first | apply Kd.R_alloc | apply Kd.R_drewN | apply Kd.R_drew)); exact HO_16.out) hb)
              have n2_ := Aside0.mk (Kd.S_elder' (by (with_reducible repeat (first | apply Kd.S_alloc | apply Kd.S_drewN | apply Kd.S_drew)); exact O0.out) (Kd.R_base ho0) hb)
              have n3_ := Aside0.mk (Kd.R_elder' (by (with_reducible repeat (first | apply Kd.R_alloc | apply Kd.R_drewN | apply Kd.R_drew)); exact O1.out) (Kd.R_base ho0) hb)
              have n4_ := Aside0.mk (Kd.S_elder' (by (with_reducible repeat (first | apply Kd.S_alloc | apply Kd.S_drewN | apply Kd.S_drew)); exact O2.out) (Kd.R_base ho0) hb)
              have n5_ := Aside0.mk (Kd.R_elder' (by (with_reducible repeat (first | apply Kd.R_alloc | apply Kd.R_drewN | apply Kd.R_drew)); exact O3.out) (Kd.R_base ho0) hb)
              have n6_ := Aside0.mk (Kd.S_elder' (by (with_reducible repeat (first | apply Kd.S_alloc | apply Kd.S_drewN | apply Kd.S_drew)); exact O4.out) (Kd.R_base ho0) hb)
              have n7_ := Aside0.mk (Kd.R_elder' (by (with_reducible repeat (first | apply Kd.R_alloc | apply Kd.R_drewN | apply Kd.R_drew)); exact O5.out) (Kd.R_base ho0) hb)
              have n8_ := Aside0.mk (Kd.R_elder' (by (with_reducible repeat (first | apply Kd.R_alloc | apply Kd.R_drewN | apply Kd.R_drew)); exact HO530.out) (Kd.R_base ho0) hb)
              have n9_ := Aside0.mk (Kd.R_elder' (by (with_reducible repeat (first | apply Kd.R_alloc | apply Kd.R_drewN | apply Kd.R_drew)); exact HO533.out) (Kd.R_base ho0) hb)
              have n10_ := Aside0.mk (Kd.R_elder' (by (with_reducible repeat (first | apply Kd.R_alloc | apply Kd.R_drewN | apply Kd.R_drew)); exact HO536.out) (Kd.R_base ho0) hb)
              have n11_ := Aside0.mk (Kd.R_lower (Kd.R_new' (Kd.R_new' (Kd.R_new' (Kd.R_new' (Kd.R_new' (Kd.R_new' ho0 (Kd.R_lt (by (with_reducible repeat (first | apply Kd.R_alloc | apply Kd.R_drewN | apply Kd.R_drew)); exact O1.out))) (Kd.R_lt (by (with_reducible repeat (first | apply Kd.R_alloc | apply Kd.R_drewN | apply Kd.R_drew)); exact O3.out))) (Kd.R_lt (by (with_reducible repeat (first | apply Kd.R_alloc | apply Kd.R_drewN | apply Kd.R_drew)); exact O5.out))) (Kd.R_lt (by (with_reducible repeat (first | apply Kd.R_alloc | apply Kd.R_drewN | apply Kd.R_drew)); exact HO530.out))) (Kd.R_lt (by (with_reducible repeat (first | apply Kd.R_alloc | apply Kd.R_drewN | apply Kd.R_drew)); exact HO533.out))) (Kd.R_lt (by (with_reducible repeat (first | apply Kd.R_alloc | apply Kd.R_drewN | apply Kd.R_drew)); exact HO536.out))) (below_size (by repeat (first | (with_reducible first | exact HB.out | apply below_alloc | apply pw_below_drewN | apply below_drew1 | refine below_set ?_ GE495.out | refine below_set ?_ GE506.out | refine below_set ?_ GE517.out) | exact HB.out))))
              have n12_ := Aside0.mk (blk_below (g := gb495) (o := .cells #[.slice Ao17 t488.length co17, .slice Ao19 t491.length co19, .bool t494] 40 (0, 0)) (by (with_reducible repeat (first | refine blk_drewN ?_ _ | refine blk_drew ?_ | refine blk_alloc ?_ _)); exact BK495.out) hb)
              have n13_ := Aside0.mk (blk_below (g := gb506) (o := .cells #[.slice Ao22 t496.length co22, .slice Ao25 t499.length co25, .bool t502] 40 (0, 0)) (by (with_reducible repeat (first | refine blk_drewN ?_ _ | refine blk_drew ?_ | refine blk_alloc ?_ _)); exact BK506.out) hb)
              have n14_ := Aside0.mk (blk_below (g := gb517) (o := .cells #[.slice Ao29 t507.length co29, .slice Ao33 t510.length co33, .bool t513] 40 (0, 0)) (by (with_reducible repeat (first | refine blk_drewN ?_ _ | refine blk_drew ?_ | refine blk_alloc ?_ _)); exact BK517.out) hb)
              have n15_ := Aside0.mk (below_step (by repeat (first | (with_reducible first | exact HB.out | apply below_alloc | apply pw_below_drewN | apply below_drew1 | refine below_set ?_ GE495.out | refine below_set ?_ GE506.out | refine below_set ?_ GE517.out) | exact HB.out)) hb)
              clear HO_15 HO_16 O0 O1 O2 O3 O4 O5 HO530 HO533 HO536 BK495 BK506 BK517 HB
              have HO_15 := n0_
              have HO_16 := n1_
              have O0 := n2_
              have O1 := n3_
              have O2 := n4_
              have O3 := n5_
              have O4 := n6_
              have O5 := n7_
              have HO530 := n8_
              have HO533 := n9_
              have HO536 := n10_
              have HO551 := n11_
              have BK495 := n12_
              have BK506 := n13_
              have BK517 := n14_
              have HB := n15_
              clear n0_ n1_ n2_ n3_ n4_ n5_ n6_ n7_ n8_ n9_ n10_ n11_ n12_ n13_ n14_ n15_
              (try clear hb)
              (try clear hb2)
              (try clear hk)
              (try clear hi)
              (try clear ho0)
              obtain ⟨Ao171, co171, eo171⟩ := Kd.R_slice HO551.out
              (first | subst eo171 | (injection eo171 with f1_ f2_ f3_; have f4_ := f1_.symm; have f5_ := f3_.symm; clear f1_ f2_ f3_; subst f4_; subst f5_))
              refine hK.out _ _ ⟨(blk_cell BK506.out 0).trans rfl, (blk_cell BK506.out 1).trans rfl, (blk_cell BK506.out 2).trans rfl⟩ (fun hHeld => ?_)
              clear hK K
              refine norm_ (a' := ?_) ?_ ?_
              rotate_left
              ·
               show Act.put _ (some 153) _ = _
               simp only [Act.put, za_, zb_, zc_, i64_w, i32_w]
               rfl
              refine one_ (i := 36) (N := some 156) (mm [(37, true), (2, false)]) rfl rfl (one_of HT_.out (by kernel_rfl)) (by decide) (fun K hK => ?_)
              refine goes_ Try.func21 (by kernel_rfl) rfl #[.slice Ao171 t549.length co171, .slice Ao25 t499.length co25] (by rfl) rfl rfl (by (try simp only [List.map_toArray, List.map_cons, List.map_nil]); first | done | rfl | (simp only [List.length_drop, List.length_take]; rfl)) ?_
              with_reducible refine (bywashref01_Ints.calls k2 _ _ t549 _ _ t499 t552 _ ?side1 ?side2 ?side3 ?side4 A156.out).mono ?_
              (case side1 => repeat (first | exact (Kd.R_reads' HO551.out).2.2 | (with_reducible refine Kd.C_alloc ?_ _) | (with_reducible refine Kd.C_drewN ?_ _) | (with_reducible refine Kd.C_drew ?_)))
              (case side2 => exact (Kd.R_reads' HO551.out).2.1)
              (case side3 => repeat (first | exact (Kd.R_reads' O3.out).2.2 | (with_reducible refine Kd.C_alloc ?_ _) | (with_reducible refine Kd.C_drewN ?_ _) | (with_reducible refine Kd.C_drew ?_)))
              (case side4 => exact (Kd.R_reads' O3.out).2.1)
              rintro e w' ⟨rfl, ⟨nd, rfl⟩⟩
              refine ⟨_, rfl, ?_⟩
              refine hK.out _ _ ⟨(blk_cell BK506.out 0).trans rfl, (blk_cell BK506.out 1).trans rfl, (blk_cell BK506.out 2).trans rfl⟩ (fun hHeld => ?_)
              clear hK K
              refine norm_ (a' := ?_) ?_ ?_
              rotate_left
              ·
               show Act.put _ (some 156) _ = _
               simp only [Act.put, za_, zb_, zc_, i64_w, i32_w]
               rfl
              refine pure_ (i := 37) (N := some 157) (v := ?_) (a' := ?_) (mm [(38, true), (1, false)]) rfl rfl (any_of HT_.out (by kernel_rfl)) (fun _ _ _ h => h) (Or.inl ⟨by rfl, ?_⟩) ?_ ?_
              rotate_left
              ·
               intro w'
               go_simp
               with_reducible rfl
              rotate_left
              ·
               simp only [Act.put, za_, zb_, zc_, i64_w, i32_w]
               rfl
              refine pure_ (i := 38) (N := some 8) (v := ?_) (a' := ?_) (mm [(39, true)]) rfl rfl (any_of HT_.out (by kernel_rfl)) (fun _ _ _ h => h) (Or.inl ⟨by rfl, ?_⟩) ?_ ?_
              rotate_left
              ·
               intro w'
               go_simp
               with_reducible rfl
              rotate_left
              ·
               simp only [Act.put, za_, zb_, zc_, i64_w, i32_w]
               rfl
              refine done_ (done_of HT_.out (by kernel_rfl)) ?_
              try go_wp2
              go_ret
              exact ⟨by first | rfl | (simp [errW_none, errW_some] <;> rfl) | (simp [*, errW_none, errW_some] <;> rfl) | (exfalso; (try simp_all); (try omega); done), by repeat (first | (with_reducible first | exact HB.out | apply below_alloc | apply pw_below_drewN | apply below_drew1 | refine below_set ?_ GE495.out | refine below_set ?_ GE506.out | refine below_set ?_ GE517.out) | exact HB.out)⟩
             ·
              rw [if_neg c154] at H
              exact absurd (Option.some.inj H) (by rw [HRT.out]; decide)
           ·
            rw [if_neg c135] at H
            exact absurd (Option.some.inj H) (by rw [HRT.out]; decide)
          ·
           rw [if_neg c134] at H
           exact absurd (Option.some.inj H) (by rw [HRT.out]; decide)
        ·
         replace c86 := Bool.eq_false_iff.mpr c86
         subst c86
         have H1 : (some false) = some r := by rw [if_neg (show ¬ (false = true) by decide)] at H; exact H
         clear H
         have H := H1
         exact absurd (Option.some.inj H) (by rw [HRT.out]; decide)
 ·
  replace c7 := Bool.eq_false_iff.mpr c7
  subst c7
  have H1 : (some t486) = some r := by rw [if_neg (show ¬ (false = true) by decide)] at H; exact H
  clear H
  have H := H1
  clear H1
  obtain rfl := Option.some.inj H
  go_enter Try.func11, Try.ntmps11
  go_wp2_with (first | ((with_reducible refine gate_callee (f := 31) rfl ?_); refine goesL_ (some 21) rfl rfl Try.func31 (by kernel_rfl) rfl #[] rfl (by (try simp only [List.map_toArray, List.map_cons, List.map_nil]); first | done | rfl | (simp only [List.length_drop, List.length_take]; rfl)) ?_; (with_reducible refine (bywashlaw15_awake.calls k  t486 _ A5.out).mono ?_); rintro e w219 ⟨rfl, hb⟩; refine ⟨_, rfl, ?_⟩; have n0_ := Aside0.mk (below_step (by repeat (first | (with_reducible first | exact HB.out | apply below_alloc | apply pw_below_drewN | apply below_drew1) | exact HB.out)) hb); clear HB; have HB := n0_; clear n0_; (try clear hb); (try clear hb2); (try clear hk); (try clear hi)) | ((with_reducible refine gate_callee (f := 14) rfl ?_); refine goesL_ (some 23) rfl rfl Try.func14 (by kernel_rfl) rfl #[.slice A0 l0.length c0] rfl (by (try simp only [List.map_toArray, List.map_cons, List.map_nil]); first | done | rfl | (simp only [List.length_drop, List.length_take]; rfl)) ?_; (with_reducible refine (bywashref10_Few.calls k _ _ l0 false _ ?side1 ?side2 A6.out).mono ?_); (case side1 => repeat (first | exact (Kd.C_below HR0.out HB.out) | (with_reducible refine Kd.C_alloc ?_ _) | (with_reducible refine Kd.C_drewN ?_ _) | (with_reducible refine Kd.C_drew ?_))); (case side2 => exact HC0.out); rintro e w' ⟨rfl, ⟨nd, rfl⟩⟩; refine ⟨_, rfl, ?_⟩))
  go_ret
  exact ⟨by first | rfl | (simp [errW_none, errW_some] <;> rfl) | (simp [*, errW_none, errW_some] <;> rfl) | (exfalso; (try simp_all); (try omega); done), by repeat (first | (with_reducible first | exact HB.out | apply below_alloc | apply pw_below_drewN | apply below_drew1) | exact HB.out)⟩
end Go.Proofs.Ytemcmcnhpdkdfaa.P
