/- What the claim uses of: PlawRankRisesT PureRankRises Hopen -/
import Derived.Deep.Matrix
import Derived.ChangeOld
import Derived.Test.YtdknhgbjgdmfkaaQH4
namespace Go.Proofs.Ytdknhgbjgdmfkaa.P
open Go.RowKit Go.Proofs.YtdknhgbjgdmfkaaW.PrintWords Go.Proofs.YtdknhgbjgdmfkaaW.PrintLast Go.Proofs.YtdknhgbjgdmfkaaW.PrintMore
attribute [local go_sem] max2_int min2_int max_two min_two max_three min_three max_four min_four
set_option linter.unusedVariables false
set_option linter.unusedSimpArgs false
theorem za_ {α : Type} (l : List α) (i : Nat) (a : α) : l.toArray.setIfInBounds i a = (l.set i a).toArray := List.setIfInBounds_toArray ..
theorem zb_ {α : Type} (l : List α) (a b : α) : (a :: l).set 0 b = b :: l := rfl
theorem zc_ {α : Type} (l : List α) (a b : α) (n : Nat) : (a :: l).set (n + 1) b = a :: l.set n b := rfl
def mm (l : List (Nat × Bool)) : Array Bool := (l.flatMap fun p => List.replicate p.1 p.2).toArray
def bywashlaw12_RankRises.T17 : Bool × List (List Nat × List Nat) := (true, [([], []), ([], []), ([0, 1], [0, 1]), ([2], [2]), ([], []), ([], []), ([4, 5], [4, 5]), ([6], [6]), ([3, 7], [3, 7]), ([], []), ([], []), ([9, 10], [9, 10]), ([11], [11]), ([], []), ([], []), ([13, 14], [13, 14]), ([15], [15]), ([12, 16], [12, 16]), ([8, 17], [8, 17]), ([18], [18]), ([19], [19]), ([19], [19]), ([20, 21, 19], [19, 20, 21]), ([22, 19], [19, 22]), ([19], [19]), ([19], [19]), ([24, 25, 19], [19, 24, 25]), ([26, 19], [19, 26]), ([23, 27, 19], [19, 23, 27]), ([19, 28], [19, 28]), ([29, 19], [29]), ([30], [30]), ([30], [30]), ([31, 32, 30], [30, 31, 32]), ([33, 30], [30, 33]), ([30], [30]), ([30], [30]), ([35, 36, 30], [30, 35, 36]), ([37, 30], [30, 37]), ([34, 38, 30], [30, 34, 38]), ([39, 30, 30], [30, 39]), ([40], [40]), ([40], [40]), ([41, 42, 40], [40, 41, 42]), ([43, 40], [40, 43]), ([40], [40]), ([40], [40]), ([45, 46, 40], [40, 45, 46]), ([47, 40], [40, 47]), ([44, 48, 40], [40, 44, 48]), ([40, 49, 30], [30, 40, 49]), ([30, 50], [30, 50])])
def bywashlaw12_RankRises.B17 : List Nat := [0, 0, 3, 7, 0, 0, 48, 112, 255, 0, 0, 1536, 3584, 0, 0, 24576, 57344, 130560, 262143, 524287, 1048575, 1048575, 4194303, 8388607, 1048575, 1048575, 51380223, 118489087, 268435455, 536870911, 1073741823, 2147483647, 2147483647, 8589934591, 17179869183, 2147483647, 2147483647, 105226698751, 242665652223, 549755813887, 1099511627775, 2199023255551, 2199023255551, 8796093022207, 17592186044415, 2199023255551, 2199023255551, 107752139522047, 248489627877375, 562949953421311, 1125899906842623, 2251799813685247]
theorem bywashlaw12_RankRises.tab17 : rtab .any (opsOf Try.f11 17) = bywashlaw12_RankRises.T17 := by kernel_rfl
theorem bywashlaw12_RankRises.bits17 : waitsOk bywashlaw12_RankRises.T17.2 bywashlaw12_RankRises.B17 = true := by kernel_rfl
def bywashlaw12_RankRises.T19 : Bool × List (List Nat × List Nat) := (true, [([], []), ([], []), ([0, 1], [0, 1]), ([2], [2]), ([], []), ([], []), ([4, 5], [4, 5]), ([6], [6]), ([3, 7], [3, 7])])
def bywashlaw12_RankRises.B19 : List Nat := [0, 0, 3, 7, 0, 0, 48, 112, 255]
theorem bywashlaw12_RankRises.tab19 : rtab .any (opsOf Try.f11 19) = bywashlaw12_RankRises.T19 := by kernel_rfl
theorem bywashlaw12_RankRises.bits19 : waitsOk bywashlaw12_RankRises.T19.2 bywashlaw12_RankRises.B19 = true := by kernel_rfl
def bywashlaw12_RankRises.T20 : Bool × List (List Nat × List Nat) := (true, [([], []), ([], []), ([], []), ([1, 2], [1, 2]), ([3], [3]), ([], []), ([], []), ([], []), ([6, 7], [6, 7]), ([8], [8]), ([5, 9], [5, 9]), ([10], [10]), ([], []), ([], []), ([12, 13], [12, 13]), ([14], [14]), ([15], [15]), ([11, 16], [11, 16]), ([0, 4, 0, 1, 2, 3, 4, 5, 6, 7, 8, 9, 10, 11, 12, 13, 14, 15, 16, 17], [0, 4]), ([18, 17, 0, 1, 2, 3, 4, 5, 6, 7, 8, 9, 10, 11, 12, 13, 14, 15, 16, 17], [17, 18])])
def bywashlaw12_RankRises.B20 : List Nat := [0, 0, 0, 6, 14, 0, 0, 0, 192, 448, 992, 2016, 0, 0, 12288, 28672, 61440, 131040, 262143, 524287]
theorem bywashlaw12_RankRises.tab20 : rtab .any (opsOf Try.f11 20) = bywashlaw12_RankRises.T20 := by kernel_rfl
theorem bywashlaw12_RankRises.bits20 : waitsOk bywashlaw12_RankRises.T20.2 bywashlaw12_RankRises.B20 = true := by kernel_rfl
def bywashlaw12_RankRises.T24 : Bool × List (List Nat × List Nat) := (true, [([], []), ([], []), ([0, 1], [0, 1]), ([2], [2]), ([], []), ([], []), ([], []), ([5, 6], [5, 6]), ([7], [7]), ([4, 8], [4, 8]), ([9], [9]), ([3, 10], [3, 10])])
def bywashlaw12_RankRises.B24 : List Nat := [0, 0, 3, 7, 0, 0, 0, 96, 224, 496, 1008, 2047]
theorem bywashlaw12_RankRises.tab24 : rtab .any (opsOf Try.f11 24) = bywashlaw12_RankRises.T24 := by kernel_rfl
theorem bywashlaw12_RankRises.bits24 : waitsOk bywashlaw12_RankRises.T24.2 bywashlaw12_RankRises.B24 = true := by kernel_rfl
def bywashlaw12_RankRises.T28 : Bool × List (List Nat × List Nat) := (true, [([], []), ([0], [0]), ([1], [1]), ([1], [1]), ([1], [1]), ([2, 3, 4, 1, 1], [1, 2, 3, 4]), ([5, 1], [1, 5]), ([6, 5, 1], [1, 6]), ([7], [7]), ([7], [7]), ([8, 9, 7], [7, 8, 9]), ([10, 7], [7, 10]), ([7], [7]), ([7], [7]), ([12, 13, 7], [7, 12, 13]), ([14, 7], [7, 14]), ([11, 15, 7], [7, 11, 15]), ([7, 16, 1], [1, 7, 16]), ([1, 17], [1, 17]), ([18, 7, 0, 1, 2, 3, 4, 5, 6, 7, 8, 9, 10, 11, 12, 13, 14, 15, 16, 17, 18], [18])])
def bywashlaw12_RankRises.B28 : List Nat := [0, 1, 3, 3, 3, 31, 63, 127, 255, 255, 1023, 2047, 255, 255, 12543, 28927, 65535, 131071, 262143, 524287]
theorem bywashlaw12_RankRises.tab28 : rtab .any (opsOf Try.f11 28) = bywashlaw12_RankRises.T28 := by kernel_rfl
theorem bywashlaw12_RankRises.bits28 : waitsOk bywashlaw12_RankRises.T28.2 bywashlaw12_RankRises.B28 = true := by kernel_rfl
set_option maxHeartbeats 8000000 in
set_option maxRecDepth 100000 in
theorem RankRises_t (k : Nat) (A0 : Option Addr) (c0 : Nat) (l0 : List (List Int)) (a1 : Int) (a2 : Int) (r : Bool) (w : World) (hr0 : Kd.C (Kd.slice 3 (Kd.int .i64)) w A0 l0.length l0) (hc0 : l0.length ≤ c0) (hrt : r = true) (h : bywashlaw12_RankRises.f k l0 a1 a2 = some r) :
  Calls Try.prog 11 #[.slice A0 l0.length c0, .int .i64 a1, .int .i64 a2] w fun e w' => e = .returned (.bool r) ∧ Below w.heap.size w w' := by
 have HRT := Aside0.mk hrt
 clear hrt
 have HR0 := Aside0.mk hr0
 have HC0 := Aside0.mk hc0
 clear hr0 hc0
 have HB := Aside0.mk (Below.refl w.heap.size w)
 have H : ((bywashlaw12_awake.f k).bind fun t511 => ((bywashref10_Few.f k l0).bind fun t512 => (if t512 = true then ((rank_Ranks.f k l0).bind fun t513 => ((scc_Leads.f l0).bind fun t516 => ((graph_Clean.f l0).bind fun t519 => (if (t513.length : Int) = (l0.length : Int) then (if (t516.length : Int) = (l0.length : Int) then (if (t519.length : Int) = (l0.length : Int) then ((rank_Sound.f l0 t513).bind fun t522 => (bywashlaw12_RankRises.j0 k l0 a1 a2 t511 t513 t516 t519 (!t522))) else (bywashlaw12_RankRises.j0 k l0 a1 a2 t511 t513 t516 t519 true)) else (bywashlaw12_RankRises.j0 k l0 a1 a2 t511 t513 t516 t519 true)) else (bywashlaw12_RankRises.j0 k l0 a1 a2 t511 t513 t516 t519 true))))) else (some t511)))) = some r := h
 clear h
 replace H := Option.bind_eq_some_iff.mp H
 obtain ⟨t511, A40, H⟩ := H
 replace H : ((bywashref10_Few.f k l0).bind fun t512 => (if t512 = true then ((rank_Ranks.f k l0).bind fun t513 => ((scc_Leads.f l0).bind fun t516 => ((graph_Clean.f l0).bind fun t519 => (if (t513.length : Int) = (l0.length : Int) then (if (t516.length : Int) = (l0.length : Int) then (if (t519.length : Int) = (l0.length : Int) then ((rank_Sound.f l0 t513).bind fun t522 => (bywashlaw12_RankRises.j0 k l0 a1 a2 t511 t513 t516 t519 (!t522))) else (bywashlaw12_RankRises.j0 k l0 a1 a2 t511 t513 t516 t519 true)) else (bywashlaw12_RankRises.j0 k l0 a1 a2 t511 t513 t516 t519 true)) else (bywashlaw12_RankRises.j0 k l0 a1 a2 t511 t513 t516 t519 true))))) else (some t511))) = some r := H
 have A4 := Aside0.mk A40
 clear A40
 replace H := Option.bind_eq_some_iff.mp H
 obtain ⟨t512, A50, H⟩ := H
 replace H : (if t512 = true then ((rank_Ranks.f k l0).bind fun t513 => ((scc_Leads.f l0).bind fun t516 => ((graph_Clean.f l0).bind fun t519 => (if (t513.length : Int) = (l0.length : Int) then (if (t516.length : Int) = (l0.length : Int) then (if (t519.length : Int) = (l0.length : Int) then ((rank_Sound.f l0 t513).bind fun t522 => (bywashlaw12_RankRises.j0 k l0 a1 a2 t511 t513 t516 t519 (!t522))) else (bywashlaw12_RankRises.j0 k l0 a1 a2 t511 t513 t516 t519 true)) else (bywashlaw12_RankRises.j0 k l0 a1 a2 t511 t513 t516 t519 true)) else (bywashlaw12_RankRises.j0 k l0 a1 a2 t511 t513 t516 t519 true))))) else (some t511)) = some r := H
 have A5 := Aside0.mk A50
 clear A50
 by_cases c6 : t512 = true
 ·
  subst c6
  have H1 : ((rank_Ranks.f k l0).bind fun t513 => ((scc_Leads.f l0).bind fun t516 => ((graph_Clean.f l0).bind fun t519 => (if (t513.length : Int) = (l0.length : Int) then (if (t516.length : Int) = (l0.length : Int) then (if (t519.length : Int) = (l0.length : Int) then ((rank_Sound.f l0 t513).bind fun t522 => (bywashlaw12_RankRises.j0 k l0 a1 a2 t511 t513 t516 t519 (!t522))) else (bywashlaw12_RankRises.j0 k l0 a1 a2 t511 t513 t516 t519 true)) else (bywashlaw12_RankRises.j0 k l0 a1 a2 t511 t513 t516 t519 true)) else (bywashlaw12_RankRises.j0 k l0 a1 a2 t511 t513 t516 t519 true))))) = some r := by rw [if_pos rfl] at H; exact H
  clear H
  have H := H1
  clear H1
  replace H := Option.bind_eq_some_iff.mp H
  obtain ⟨t513, A70, H⟩ := H
  replace H : ((scc_Leads.f l0).bind fun t516 => ((graph_Clean.f l0).bind fun t519 => (if (t513.length : Int) = (l0.length : Int) then (if (t516.length : Int) = (l0.length : Int) then (if (t519.length : Int) = (l0.length : Int) then ((rank_Sound.f l0 t513).bind fun t522 => (bywashlaw12_RankRises.j0 k l0 a1 a2 t511 t513 t516 t519 (!t522))) else (bywashlaw12_RankRises.j0 k l0 a1 a2 t511 t513 t516 t519 true)) else (bywashlaw12_RankRises.j0 k l0 a1 a2 t511 t513 t516 t519 true)) else (bywashlaw12_RankRises.j0 k l0 a1 a2 t511 t513 t516 t519 true)))) = some r := H
  have A7 := Aside0.mk A70
  clear A70
  replace H := Option.bind_eq_some_iff.mp H
  obtain ⟨t516, A80, H⟩ := H
  replace H : ((graph_Clean.f l0).bind fun t519 => (if (t513.length : Int) = (l0.length : Int) then (if (t516.length : Int) = (l0.length : Int) then (if (t519.length : Int) = (l0.length : Int) then ((rank_Sound.f l0 t513).bind fun t522 => (bywashlaw12_RankRises.j0 k l0 a1 a2 t511 t513 t516 t519 (!t522))) else (bywashlaw12_RankRises.j0 k l0 a1 a2 t511 t513 t516 t519 true)) else (bywashlaw12_RankRises.j0 k l0 a1 a2 t511 t513 t516 t519 true)) else (bywashlaw12_RankRises.j0 k l0 a1 a2 t511 t513 t516 t519 true))) = some r := H
  have A8 := Aside0.mk A80
  clear A80
  replace H := Option.bind_eq_some_iff.mp H
  obtain ⟨t519, A90, H⟩ := H
  replace H : (if (t513.length : Int) = (l0.length : Int) then (if (t516.length : Int) = (l0.length : Int) then (if (t519.length : Int) = (l0.length : Int) then ((rank_Sound.f l0 t513).bind fun t522 => (bywashlaw12_RankRises.j0 k l0 a1 a2 t511 t513 t516 t519 (!t522))) else (bywashlaw12_RankRises.j0 k l0 a1 a2 t511 t513 t516 t519 true)) else (bywashlaw12_RankRises.j0 k l0 a1 a2 t511 t513 t516 t519 true)) else (bywashlaw12_RankRises.j0 k l0 a1 a2 t511 t513 t516 t519 true)) = some r := H
  have A9 := Aside0.mk A90
  clear A90
  have HC10 := Aside0.mk H
  clear H
  go_enter Try.func11, Try.ntmps11
  go_upto_region 7 with (first | ((with_reducible refine gate_callee (f := 44) rfl ?_); refine goesL_ (some 16) rfl rfl Try.func44 (by kernel_rfl) rfl #[] rfl (by (try simp only [List.map_toArray, List.map_cons, List.map_nil]); first | done | rfl | (simp only [List.length_drop, List.length_take]; rfl)) ?_; (with_reducible refine (bywashlaw12_awake.calls k  t511 _ A4.out).mono ?_); rintro e w11 ⟨rfl, hb⟩; refine ⟨_, rfl, ?_⟩; have n0_ := Aside0.mk (below_step (by repeat (first | (with_reducible first | exact HB.out | apply below_alloc | apply pw_below_drewN | apply below_drew1) | exact HB.out)) hb); clear HB; have HB := n0_; clear n0_; (try clear hb); (try clear hb2); (try clear hk); (try clear hi)) | ((with_reducible refine gate_callee (f := 14) rfl ?_); refine goesL_ (some 18) rfl rfl Try.func14 (by kernel_rfl) rfl #[.slice A0 l0.length c0] rfl (by (try simp only [List.map_toArray, List.map_cons, List.map_nil]); first | done | rfl | (simp only [List.length_drop, List.length_take]; rfl)) ?_; (with_reducible refine (bywashref10_Few.calls k _ _ l0 true _ ?side1 ?side2 A5.out).mono ?_); (case side1 => repeat (first | exact (Kd.C_below HR0.out HB.out) | (with_reducible refine Kd.C_alloc ?_ _) | (with_reducible refine Kd.C_drewN ?_ _) | (with_reducible refine Kd.C_drew ?_))); (case side2 => exact HC0.out); rintro e w' ⟨rfl, ⟨nd, rfl⟩⟩; refine ⟨_, rfl, ?_⟩) | ((with_reducible refine gate_callee (f := 46) rfl ?_); refine goesL_ (some 22) rfl rfl Try.func46 (by kernel_rfl) rfl #[.slice A0 l0.length c0] rfl (by (try simp only [List.map_toArray, List.map_cons, List.map_nil]); first | done | rfl | (simp only [List.length_drop, List.length_take]; rfl)) ?_; (with_reducible refine (rank_Ranks.calls k _ _ l0 t513 _ ?side1 ?side2 A7.out).mono ?_); (case side1 => repeat (first | exact (Kd.C_below HR0.out (by repeat (first | (with_reducible first | exact HB.out | apply below_alloc | apply pw_below_drewN | apply below_drew1) | exact HB.out))) | (with_reducible refine Kd.C_alloc ?_ _) | (with_reducible refine Kd.C_drewN ?_ _) | (with_reducible refine Kd.C_drew ?_))); (case side2 => exact HC0.out); rintro e w12 ⟨v514, rfl, ho0, hb⟩; refine ⟨_, rfl, ?_⟩; have n0_ := Aside0.mk (Kd.R_lower ho0 (below_size (by repeat (first | (with_reducible first | exact HB.out | apply below_alloc | apply pw_below_drewN | apply below_drew1) | exact HB.out)))); have n1_ := Aside0.mk (below_step (by repeat (first | (with_reducible first | exact HB.out | apply below_alloc | apply pw_below_drewN | apply below_drew1) | exact HB.out)) hb); clear HB; have HO515 := n0_; have HB := n1_; clear n0_ n1_; (try clear hb); (try clear hb2); (try clear hk); (try clear hi); (try clear ho0)) | ((with_reducible refine gate_callee (f := 35) rfl ?_); refine goesL_ (some 24) rfl rfl Try.func35 (by kernel_rfl) rfl #[.slice A0 l0.length c0] rfl (by (try simp only [List.map_toArray, List.map_cons, List.map_nil]); first | done | rfl | (simp only [List.length_drop, List.length_take]; rfl)) ?_; (with_reducible refine (scc_Leads.calls _ _ l0 t516 _ ?side1 ?side2 A8.out).mono ?_); (case side1 => repeat (first | exact (Kd.C_below HR0.out HB.out) | (with_reducible refine Kd.C_alloc ?_ _) | (with_reducible refine Kd.C_drewN ?_ _) | (with_reducible refine Kd.C_drew ?_))); (case side2 => exact HC0.out); rintro e w13 ⟨v517, rfl, ho0, hb⟩; refine ⟨_, rfl, ?_⟩; have n0_ := Aside0.mk (Kd.R_elder' (by (with_reducible repeat (first | apply Kd.R_alloc | apply Kd.R_drewN | apply Kd.R_drew)); exact HO515.out) (Kd.R_base ho0) hb); have n1_ := Aside0.mk (Kd.R_lower (Kd.R_new' ho0 (Kd.R_lt (by (with_reducible repeat (first | apply Kd.R_alloc | apply Kd.R_drewN | apply Kd.R_drew)); exact HO515.out))) (below_size (by repeat (first | (with_reducible first | exact HB.out | apply below_alloc | apply pw_below_drewN | apply below_drew1) | exact HB.out)))); have n2_ := Aside0.mk (below_step (by repeat (first | (with_reducible first | exact HB.out | apply below_alloc | apply pw_below_drewN | apply below_drew1) | exact HB.out)) hb); clear HO515; clear HB; have HO515 := n0_; have HO518 := n1_; have HB := n2_; clear n0_ n1_ n2_; (try clear hb); (try clear hb2); (try clear hk); (try clear hi); (try clear ho0)) | ((with_reducible refine gate_callee (f := 16) rfl ?_); refine goesL_ (some 26) rfl rfl Try.func16 (by kernel_rfl) rfl #[.slice A0 l0.length c0] rfl (by (try simp only [List.map_toArray, List.map_cons, List.map_nil]); first | done | rfl | (simp only [List.length_drop, List.length_take]; rfl)) ?_; (with_reducible refine (graph_Clean.calls _ _ l0 t519 _ ?side1 ?side2 A9.out).mono ?_); (case side1 => repeat (first | exact (Kd.C_below HR0.out HB.out) | (with_reducible refine Kd.C_alloc ?_ _) | (with_reducible refine Kd.C_drewN ?_ _) | (with_reducible refine Kd.C_drew ?_))); (case side2 => exact HC0.out); rintro e w14 ⟨v520, rfl, ho0, hb⟩; refine ⟨_, rfl, ?_⟩; have n0_ := Aside0.mk (Kd.R_below (by (with_reducible repeat (first | apply Kd.R_alloc | apply Kd.R_drewN | apply Kd.R_drew)); exact HO515.out) hb); have n1_ := Aside0.mk (Kd.R_below (by (with_reducible repeat (first | apply Kd.R_alloc | apply Kd.R_drewN | apply Kd.R_drew)); exact HO518.out) hb); have n2_ := Aside0.mk (Kd.S_lower (Kd.S_new' (Kd.S_new' ho0 (Kd.R_lt (by (with_reducible repeat (first | apply Kd.R_alloc | apply Kd.R_drewN | apply Kd.R_drew)); exact HO515.out))) (Kd.R_lt (by (with_reducible repeat (first | apply Kd.R_alloc | apply Kd.R_drewN | apply Kd.R_drew)); exact HO518.out))) (below_size (by repeat (first | (with_reducible first | exact HB.out | apply below_alloc | apply pw_below_drewN | apply below_drew1) | exact HB.out)))); have n3_ := Aside0.mk (below_step (by repeat (first | (with_reducible first | exact HB.out | apply below_alloc | apply pw_below_drewN | apply below_drew1) | exact HB.out)) hb); clear HO515; clear HO518; clear HB; have HO515 := n0_; have HO518 := n1_; have HO521 := n2_; have HB := n3_; clear n0_ n1_ n2_ n3_; (try clear hb); (try clear hb2); (try clear hk); (try clear hi); (try clear ho0)))
  (try simp only [Act.put, za_, zb_, zc_])
  go_cut [51] (fun v51 wc => ∃ (kq : Nat) (x51_9 : Bool), v51 = .bool x51_9 ∧ Aside0 (bywashlaw12_RankRises.j0 kq l0 a1 a2 t511 t513 t516 t519 x51_9 = some r) ∧ Aside0 (kq ≤ k) ∧ Aside0 (Kd.R (Kd.int .i64) 3 wc w.heap.size (fun k_ => some k_ ≠ (v517 : Value).ownBlock) v514 t513) ∧ Aside0 (Kd.R (Kd.int .i64) 3 wc w.heap.size (fun k_ => some k_ ≠ (v514 : Value).ownBlock) v517 t516) ∧ Aside0 (Kd.S (Kd.slice 3 (Kd.int .i64)) 32 wc w.heap.size (fun k_ => some k_ ≠ (v514 : Value).ownBlock ∧ some k_ ≠ (v517 : Value).ownBlock) v520 t519) ∧ Aside0 (Below w.heap.size w wc))
  case first =>
   have H := HC10.out
   clear HC10
   by_cases c15 : (t513.length : Int) = (l0.length : Int)
   ·
    rw [if_pos c15] at H
    have c15b0 : ((t513.length : Int) == (l0.length : Int)) = true := beq_iff_eq.mpr c15
    have c15b1 : ((t513.length : Int) != (l0.length : Int)) = false := bne_eq_false_iff_eq.mpr c15
    have c15b2 : (t513.length == l0.length) = true := by first | simpa using c15 | (simp at c15 ⊢; ((try clear hji72 hji72w); omega))
    clear c15
    (first | rw [c15b0] | (simp only [i64_w, i32_w]; rw [c15b0]) | skip)
    by_cases c16 : (t516.length : Int) = (l0.length : Int)
    ·
     rw [if_pos c16] at H
     have c16b0 : ((t516.length : Int) == (l0.length : Int)) = true := beq_iff_eq.mpr c16
     have c16b1 : ((t516.length : Int) != (l0.length : Int)) = false := bne_eq_false_iff_eq.mpr c16
     have c16b2 : (t516.length == l0.length) = true := by first | simpa using c16 | (simp at c16 ⊢; ((try clear hji72 hji72w); omega))
     clear c16
     by_cases c17 : (t519.length : Int) = (l0.length : Int)
     ·
      rw [if_pos c17] at H
      have c17b0 : ((t519.length : Int) == (l0.length : Int)) = true := beq_iff_eq.mpr c17
      have c17b1 : ((t519.length : Int) != (l0.length : Int)) = false := bne_eq_false_iff_eq.mpr c17
      have c17b2 : (t519.length == l0.length) = true := by first | simpa using c17 | (simp at c17 ⊢; ((try clear hji72 hji72w); omega))
      clear c17
      replace H := Option.bind_eq_some_iff.mp H
      obtain ⟨t522, A180, H⟩ := H
      replace H : (bywashlaw12_RankRises.j0 k l0 a1 a2 t511 t513 t516 t519 (!t522)) = some r := H
      have A18 := Aside0.mk A180
      clear A180
      have H' := Aside0.mk H
      clear H
      obtain ⟨Ao19, co19, eo19⟩ := Kd.R_slice HO515.out
      subst eo19
      obtain ⟨Ao20, co20, eo20⟩ := Kd.R_slice HO518.out
      subst eo20
      obtain ⟨Ao21, co21, eo21⟩ := Kd.S_slice HO521.out
      subst eo21
      go_wp2_with (first | (go_at_call 49; (with_reducible refine (rank_Sound.calls _ _ l0 _ _ t513 t522 _ ?side1 ?side2 ?side3 ?side4 A18.out).mono ?_); (case side1 => repeat (first | exact (Kd.C_below HR0.out HB.out) | (with_reducible refine Kd.C_alloc ?_ _) | (with_reducible refine Kd.C_drewN ?_ _) | (with_reducible refine Kd.C_drew ?_))); (case side2 => exact HC0.out); (case side3 => repeat (first | exact (Kd.R_reads' HO515.out).2.2 | (with_reducible refine Kd.C_alloc ?_ _) | (with_reducible refine Kd.C_drewN ?_ _) | (with_reducible refine Kd.C_drew ?_))); (case side4 => exact (Kd.R_reads' HO515.out).2.1); rintro e w22 ⟨rfl, hb⟩; have n0_ := Aside0.mk (Kd.R_below (by (with_reducible repeat (first | apply Kd.R_alloc | apply Kd.R_drewN | apply Kd.R_drew)); exact HO515.out) hb); have n1_ := Aside0.mk (Kd.R_below (by (with_reducible repeat (first | apply Kd.R_alloc | apply Kd.R_drewN | apply Kd.R_drew)); exact HO518.out) hb); have n2_ := Aside0.mk (Kd.S_below (by (with_reducible repeat (first | apply Kd.S_alloc | apply Kd.S_drewN | apply Kd.S_drew)); exact HO521.out) hb); have n3_ := Aside0.mk (below_step (by repeat (first | (with_reducible first | exact HB.out | apply below_alloc | apply pw_below_drewN | apply below_drew1) | exact HB.out)) hb); clear HO515; clear HO518; clear HO521; clear HB; have HO515 := n0_; have HO518 := n1_; have HO521 := n2_; have HB := n3_; clear n0_ n1_ n2_ n3_; (try clear hb); (try clear hb2); (try clear hk); (try clear hi)))
      go_meet
      case rel => exact ⟨_, (!t522), (by first | rfl | (simp; done) | (simp [*]; done)), H', ⟨by first | ((try clear hji72 hji72w); omega) | exact Nat.le_refl _⟩, ⟨by (with_reducible repeat (first | apply Kd.R_alloc | apply Kd.R_drewN | apply Kd.R_drew)); exact Kd.R_mono HO515.out (fun _ hk => hk.2)⟩, ⟨by (with_reducible repeat (first | apply Kd.R_alloc | apply Kd.R_drewN | apply Kd.R_drew)); exact Kd.R_mono HO518.out (fun _ hk => hk.2)⟩, ⟨by (with_reducible repeat (first | apply Kd.S_alloc | apply Kd.S_drewN | apply Kd.S_drew)); exact Kd.S_mono HO521.out (fun _ hk => ⟨hk.1.2, hk.2⟩)⟩, ⟨by repeat (first | (with_reducible first | exact HB.out | apply below_alloc | apply pw_below_drewN | apply below_drew1) | exact HB.out)⟩⟩
     ·
      rw [if_neg c17] at H
      have c17b0 : ((t519.length : Int) == (l0.length : Int)) = false := beq_eq_false_iff_ne.mpr c17
      have c17b1 : ((t519.length : Int) != (l0.length : Int)) = true := bne_iff_ne.mpr c17
      have c17b2 : (t519.length == l0.length) = false := by first | simpa using c17 | (simp at c17 ⊢; ((try clear hji72 hji72w); omega))
      have H' := Aside0.mk H
      clear H
      obtain ⟨Ao23, co23, eo23⟩ := Kd.R_slice HO515.out
      subst eo23
      obtain ⟨Ao24, co24, eo24⟩ := Kd.R_slice HO518.out
      subst eo24
      obtain ⟨Ao25, co25, eo25⟩ := Kd.S_slice HO521.out
      subst eo25
      go_wp2
      go_meet
      case rel => exact ⟨_, (true), (by first | rfl | (simp; done) | (simp [*]; done)), H', ⟨by first | ((try clear hji72 hji72w); omega) | exact Nat.le_refl _⟩, ⟨by (with_reducible repeat (first | apply Kd.R_alloc | apply Kd.R_drewN | apply Kd.R_drew)); exact Kd.R_mono HO515.out (fun _ hk => hk.2)⟩, ⟨by (with_reducible repeat (first | apply Kd.R_alloc | apply Kd.R_drewN | apply Kd.R_drew)); exact Kd.R_mono HO518.out (fun _ hk => hk.2)⟩, ⟨by (with_reducible repeat (first | apply Kd.S_alloc | apply Kd.S_drewN | apply Kd.S_drew)); exact Kd.S_mono HO521.out (fun _ hk => ⟨hk.1.2, hk.2⟩)⟩, ⟨by repeat (first | (with_reducible first | exact HB.out | apply below_alloc | apply pw_below_drewN | apply below_drew1) | exact HB.out)⟩⟩
    ·
     rw [if_neg c16] at H
     have c16b0 : ((t516.length : Int) == (l0.length : Int)) = false := beq_eq_false_iff_ne.mpr c16
     have c16b1 : ((t516.length : Int) != (l0.length : Int)) = true := bne_iff_ne.mpr c16
     have c16b2 : (t516.length == l0.length) = false := by first | simpa using c16 | (simp at c16 ⊢; ((try clear hji72 hji72w); omega))
     have H' := Aside0.mk H
     clear H
     obtain ⟨Ao26, co26, eo26⟩ := Kd.R_slice HO515.out
     subst eo26
     obtain ⟨Ao27, co27, eo27⟩ := Kd.R_slice HO518.out
     subst eo27
     go_wp2
     go_meet
     case rel => exact ⟨_, (true), (by first | rfl | (simp; done) | (simp [*]; done)), H', ⟨by first | ((try clear hji72 hji72w); omega) | exact Nat.le_refl _⟩, ⟨by (with_reducible repeat (first | apply Kd.R_alloc | apply Kd.R_drewN | apply Kd.R_drew)); exact Kd.R_mono HO515.out (fun _ hk => hk.2)⟩, ⟨by (with_reducible repeat (first | apply Kd.R_alloc | apply Kd.R_drewN | apply Kd.R_drew)); exact Kd.R_mono HO518.out (fun _ hk => hk.2)⟩, ⟨by (with_reducible repeat (first | apply Kd.S_alloc | apply Kd.S_drewN | apply Kd.S_drew)); exact Kd.S_mono HO521.out (fun _ hk => ⟨hk.1.2, hk.2⟩)⟩, ⟨by repeat (first | (with_reducible first | exact HB.out | apply below_alloc | apply pw_below_drewN | apply below_drew1) | exact HB.out)⟩⟩
   ·
    rw [if_neg c15] at H
    have c15b0 : ((t513.length : Int) == (l0.length : Int)) = false := beq_eq_false_iff_ne.mpr c15
    have c15b1 : ((t513.length : Int) != (l0.length : Int)) = true := bne_iff_ne.mpr c15
    have c15b2 : (t513.length == l0.length) = false := by first | simpa using c15 | (simp at c15 ⊢; ((try clear hji72 hji72w); omega))
    (first | rw [c15b0] | (simp only [i64_w, i32_w]; rw [c15b0]) | skip)
    have H' := Aside0.mk H
    clear H
    obtain ⟨Ao28, co28, eo28⟩ := Kd.R_slice HO515.out
    subst eo28
    go_wp2
    go_meet
    case rel => exact ⟨_, (true), (by first | rfl | (simp; done) | (simp [*]; done)), H', ⟨by first | ((try clear hji72 hji72w); omega) | exact Nat.le_refl _⟩, ⟨by (with_reducible repeat (first | apply Kd.R_alloc | apply Kd.R_drewN | apply Kd.R_drew)); exact Kd.R_mono HO515.out (fun _ hk => hk.2)⟩, ⟨by (with_reducible repeat (first | apply Kd.R_alloc | apply Kd.R_drewN | apply Kd.R_drew)); exact Kd.R_mono HO518.out (fun _ hk => hk.2)⟩, ⟨by (with_reducible repeat (first | apply Kd.S_alloc | apply Kd.S_drewN | apply Kd.S_drew)); exact Kd.S_mono HO521.out (fun _ hk => ⟨hk.1.2, hk.2⟩)⟩, ⟨by repeat (first | (with_reducible first | exact HB.out | apply below_alloc | apply pw_below_drewN | apply below_drew1) | exact HB.out)⟩⟩
  case rest =>
   clear HC10
   try clear c1
   try clear p2
   try clear c3
   try clear c4
   try clear c6
   try clear c11
   try clear c14
   try clear c15
   try clear c15b0
   try clear c15b1
   try clear c15b2
   try clear c16
   try clear c16b0
   try clear c16b1
   try clear c16b2
   try clear c17
   try clear c17b0
   try clear c17b1
   try clear c17b2
   obtain ⟨kq, x51_9, rfl, HA, HJ9, HO_8, HO_9, HO_10, HB⟩ := hcut
   cases kq with
   | zero => exact absurd HA.out (by simp [bywashlaw12_RankRises.j0])
   | succ kj9 =>
    have H := HA.out
    clear HA
    simp only [bywashlaw12_RankRises.j0] at H
    by_cases c29 : x51_9 = true
    ·
     subst c29
     have H1 : (some false) = some r := by rw [if_pos rfl] at H; exact H
     clear H
     have H := H1
     exact absurd (Option.some.inj H) (by rw [HRT.out]; decide)
    ·
     replace c29 := Bool.eq_false_iff.mpr c29
     subst c29
     have H1 : (if 0 ≤ (l0.length : Int) then (if ((l0.length : Int) : Int).toNat ≤ 35184372088832 then (bywashlaw12_RankRises.l0 kj9 l0 a1 a2 t511 t513 t516 t519 (List.replicate ((l0.length : Int) : Int).toNat 0) 0) else (none)) else (none)) = some r := by rw [if_neg (show ¬ (false = true) by decide)] at H; exact H
     clear H
     have H := H1
     clear H1
     by_cases c30 : 0 ≤ (l0.length : Int)
     ·
      rw [if_pos c30] at H
      have c30b0 := eq_true c30
      have c30b1 : decide (0 ≤ (l0.length : Int)) = true := decide_eq_true c30
      clear c30
      by_cases c31 : ((l0.length : Int) : Int).toNat ≤ 35184372088832
      ·
       rw [if_pos c31] at H
       have c31b0 := eq_true c31
       have c31b1 : decide (((l0.length : Int) : Int).toNat ≤ 35184372088832) = true := decide_eq_true c31
       clear c31
       obtain ⟨y523, hy523⟩ : ∃ y_ : List Int, y_ = (List.replicate ((l0.length : Int) : Int).toNat 0) := ⟨_, rfl⟩
       replace H : (bywashlaw12_RankRises.l0 kj9 l0 a1 a2 t511 t513 t516 t519 y523 0) = some r := by first | (rw [hy523]; with_reducible exact H) | (have H2_ := (Option.bind_some _ _).symm.trans H; rw [hy523]; with_reducible exact H2_) | (have H2_ := (Option.bind_some _ _).symm.trans H; with_reducible exact H2_) | with_reducible exact H | (rw [hy523]; exact H) | exact H
       have Ny523 := Aside0.mk hy523
       clear hy523
       have H' := Aside0.mk H
       clear H
       go_wp2_with (first | ((with_reducible refine gate_dst (N := 54) rfl ?_); (try (refine gate_guard (by rfl) ?_; dsimp only)); refine Kd.R_make (Kd.int .i64) _ 3 rfl (N := 54) rfl 32 _ _ rfl (l0.length : Int) rfl rfl Try.underlying32 (.int .i64 0) 8 info3 rfl (by decide) (by ((try clear hji72 hji72w); omega)) 0 (ok := fun _ => True) (okp := fun _ => True) rfl (fun _ hk => hk) trivial (of_decide_eq_true (by first | (with_reducible assumption) | assumption)) (Nat.le_trans (Nat.mul_le_mul_right _ (of_decide_eq_true (by first | (with_reducible assumption) | assumption) : (l0.length : Int).toNat ≤ 35184372088832)) (by ((try clear hji72 hji72w); omega))) (Below.refl _ _) (Nat.le_refl _) ?_; intro v524 w32 ho33 hb hg_ hnew_; clear hg_ hnew_; (first | rw [← Ny523.out] at ho33 | (simp only [Int.reduceToNat] at ho33; rw [← Ny523.out] at ho33)); have n0_ := Aside0.mk (Kd.R_elder' (by (with_reducible repeat (first | apply Kd.R_alloc | apply Kd.R_drewN | apply Kd.R_drew)); exact HO_8.out) (Kd.R_base ho33) hb); have n1_ := Aside0.mk (Kd.R_elder' (by (with_reducible repeat (first | apply Kd.R_alloc | apply Kd.R_drewN | apply Kd.R_drew)); exact HO_9.out) (Kd.R_base ho33) hb); have n2_ := Aside0.mk (Kd.S_elder' (by (with_reducible repeat (first | apply Kd.S_alloc | apply Kd.S_drewN | apply Kd.S_drew)); exact HO_10.out) (Kd.R_base ho33) hb); have n3_ := Aside0.mk (Kd.R_lower (Kd.R_new' (Kd.R_new' ho33 (Kd.R_lt (by (with_reducible repeat (first | apply Kd.R_alloc | apply Kd.R_drewN | apply Kd.R_drew)); exact HO_8.out))) (Kd.R_lt (by (with_reducible repeat (first | apply Kd.R_alloc | apply Kd.R_drewN | apply Kd.R_drew)); exact HO_9.out))) (below_size (by repeat (first | (with_reducible first | exact HB.out | apply below_alloc | apply pw_below_drewN | apply below_drew1) | exact HB.out)))); have n4_ := Aside0.mk (below_step (by repeat (first | (with_reducible first | exact HB.out | apply below_alloc | apply pw_below_drewN | apply below_drew1) | exact HB.out)) hb); clear HO_8; clear HO_9; clear HO_10; clear HB; have HO_8 := n0_; have HO_9 := n1_; have HO_10 := n2_; have HO525 := n3_; have HB := n4_; clear n0_ n1_ n2_ n3_ n4_; clear hb ho33))
       go_loopg [12] kj9 (fun kq v12 w' => ∃ (x11_2 : List Int) (x12_2 : Int), v12 = .int .i64 x12_2 ∧ Aside0 (bywashlaw12_RankRises.l0 kq l0 a1 a2 t511 t513 t516 t519 x11_2 x12_2 = some r) ∧ Aside0 (kq ≤ kj9) ∧ Aside0 (Kd.R (Kd.int .i64) 3 w' w.heap.size (fun k_ => some k_ ≠ (v517 : Value).ownBlock ∧ some k_ ≠ (v524 : Value).ownBlock) v514 t513) ∧ Aside0 (Kd.R (Kd.int .i64) 3 w' w.heap.size (fun k_ => some k_ ≠ (v514 : Value).ownBlock ∧ some k_ ≠ (v524 : Value).ownBlock) v517 t516) ∧ Aside0 (Kd.S (Kd.slice 3 (Kd.int .i64)) 32 w' w.heap.size (fun k_ => some k_ ≠ (v514 : Value).ownBlock ∧ some k_ ≠ (v517 : Value).ownBlock ∧ some k_ ≠ (v524 : Value).ownBlock) v520 t519) ∧ Aside0 (Kd.R (Kd.int .i64) 3 w' w.heap.size (fun k_ => some k_ ≠ (v514 : Value).ownBlock ∧ some k_ ≠ (v517 : Value).ownBlock) v524 x11_2) ∧ Aside0 (Below w.heap.size w w'))
       case atStart => exact ⟨(y523), (0), (by first | rfl | (simp; done) | (simp [*]; done)), H', ⟨Nat.le_refl _⟩, ⟨by (with_reducible repeat (first | apply Kd.R_alloc | apply Kd.R_drewN | apply Kd.R_drew)); exact HO_8.out⟩, ⟨by (with_reducible repeat (first | apply Kd.R_alloc | apply Kd.R_drewN | apply Kd.R_drew)); exact HO_9.out⟩, ⟨by (with_reducible repeat (first | apply Kd.S_alloc | apply Kd.S_drewN | apply Kd.S_drew)); exact Kd.S_mono HO_10.out (fun _ hk => ⟨hk.1.1, ⟨hk.1.2, hk.2⟩⟩)⟩, ⟨by (with_reducible repeat (first | apply Kd.R_alloc | apply Kd.R_drewN | apply Kd.R_drew)); exact Kd.R_mono HO525.out (fun _ hk => ⟨hk.1.2, hk.2⟩)⟩, ⟨by repeat (first | (with_reducible first | exact HB.out | apply below_alloc | apply pw_below_drewN | apply below_drew1) | exact HB.out)⟩⟩
       case round => as_aux_lemma =>
        clear H'
        try clear c1
        try clear c2
        try clear p2
        try clear c3
        try clear c4
        try clear c6
        try clear c11
        try clear c14
        try clear c15
        try clear c15b0
        try clear c15b1
        try clear c15b2
        try clear c16
        try clear c16b0
        try clear c16b1
        try clear c16b2
        try clear c17
        try clear c17b0
        try clear c17b1
        try clear c17b2
        try clear c29
        try clear c30
        try clear c30b0
        try clear c30b1
        try clear c31
        try clear c31b0
        try clear c31b1
        try clear p2
        obtain ⟨x11_2, x12_2, rfl, HA, HK2, HO_8, HO_9, HO_10, HO_11, HB⟩ := hrel
        cases gk with
        | zero => exact absurd HA.out (by simp [bywashlaw12_RankRises.l0])
        | succ k2 =>
         have H := HA.out
         clear HA
         simp only [bywashlaw12_RankRises.l0] at H
         by_cases c34 : x12_2 < (l0.length : Int)
         ·
          as_aux_lemma =>
          rw [if_pos c34] at H
          have c34b0 : decide (x12_2 < (l0.length : Int)) = true := decide_eq_true c34
          clear c34
          have H' := Aside0.mk H
          clear H
          go_wp2
          go_loopg [13] k2 (fun kq v13 w' => ∃ (x11_3 : List Int) (x13_3 : Int), v13 = .int .i64 x13_3 ∧ Aside0 (bywashlaw12_RankRises.l1 kq l0 a1 a2 t511 t513 t516 t519 x11_3 x12_2 x13_3 = some r) ∧ Aside0 (kq ≤ k2) ∧ Aside0 (Kd.R (Kd.int .i64) 3 w' w.heap.size (fun k_ => some k_ ≠ (v517 : Value).ownBlock ∧ some k_ ≠ (v524 : Value).ownBlock) v514 t513) ∧ Aside0 (Kd.R (Kd.int .i64) 3 w' w.heap.size (fun k_ => some k_ ≠ (v514 : Value).ownBlock ∧ some k_ ≠ (v524 : Value).ownBlock) v517 t516) ∧ Aside0 (Kd.S (Kd.slice 3 (Kd.int .i64)) 32 w' w.heap.size (fun k_ => some k_ ≠ (v514 : Value).ownBlock ∧ some k_ ≠ (v517 : Value).ownBlock ∧ some k_ ≠ (v524 : Value).ownBlock) v520 t519) ∧ Aside0 (Kd.R (Kd.int .i64) 3 w' w.heap.size (fun k_ => some k_ ≠ (v514 : Value).ownBlock ∧ some k_ ≠ (v517 : Value).ownBlock) v524 x11_3) ∧ Aside0 (Below w.heap.size w w'))
          case atStart => exact ⟨(x11_2), (0), (by first | rfl | (simp; done) | (simp [*]; done)), H', ⟨Nat.le_refl _⟩, ⟨by (with_reducible repeat (first | apply Kd.R_alloc | apply Kd.R_drewN | apply Kd.R_drew)); exact HO_8.out⟩, ⟨by (with_reducible repeat (first | apply Kd.R_alloc | apply Kd.R_drewN | apply Kd.R_drew)); exact HO_9.out⟩, ⟨by (with_reducible repeat (first | apply Kd.S_alloc | apply Kd.S_drewN | apply Kd.S_drew)); exact HO_10.out⟩, ⟨by (with_reducible repeat (first | apply Kd.R_alloc | apply Kd.R_drewN | apply Kd.R_drew)); exact HO_11.out⟩, ⟨by repeat (first | (with_reducible first | exact HB.out | apply below_alloc | apply pw_below_drewN | apply below_drew1) | exact HB.out)⟩⟩
          case round => as_aux_lemma =>
           clear H'
           try clear c1
           try clear c2
           try clear p2
           try clear c3
           try clear c4
           try clear c6
           try clear c11
           try clear c14
           try clear c15
           try clear c15b0
           try clear c15b1
           try clear c15b2
           try clear c16
           try clear c16b0
           try clear c16b1
           try clear c16b2
           try clear c17
           try clear c17b0
           try clear c17b1
           try clear c17b2
           try clear c29
           try clear c30
           try clear c30b0
           try clear c30b1
           try clear c31
           try clear c31b0
           try clear c31b1
           try clear c34
           try clear c34b0
           try clear p2
           obtain ⟨x11_3, x13_3, rfl, HA, HK3, HO_8, HO_9, HO_10, HO_11, HB⟩ := hrel
           cases gk with
           | zero => exact absurd HA.out (by simp [bywashlaw12_RankRises.l1])
           | succ k3 =>
            have H := HA.out
            clear HA
            simp only [bywashlaw12_RankRises.l1] at H
            by_cases c35 : 0 ≤ x12_2
            ·
             rw [if_pos c35] at H
             have c35b0 : decide (0 ≤ x12_2) = true := decide_eq_true c35
             clear c35
             by_cases c36 : x12_2 < (t519.length : Int)
             ·
              rw [if_pos c36] at H
              have c36b0 : decide (x12_2 < (t519.length : Int)) = true := decide_eq_true c36
              clear c36
              by_cases c37 : x13_3 < ((rd_L1 t519 x12_2).length : Int)
              ·
               rw [if_pos c37] at H
               have c37b0 : decide (x13_3 < ((rd_L1 t519 x12_2).length : Int)) = true := decide_eq_true c37
               clear c37
               by_cases c38 : 0 ≤ x13_3
               ·
                rw [if_pos c38] at H
                have c38b0 : decide (0 ≤ x13_3) = true := decide_eq_true c38
                clear c38
                have HC39 := Aside0.mk H
                clear H
                obtain ⟨Ao40, co40, eo40⟩ := Kd.S_slice HO_10.out
                subst eo40
                have p526 : 0 ≤ (x12_2 : Int) := of_decide_eq_true (by first | (with_reducible assumption) | assumption)
                have q526 : x12_2 < (t519.length : Int) := of_decide_eq_true (by first | (with_reducible assumption) | assumption)
                obtain ⟨ad526, A526_0, c526_0, e526, hx526_0, hl526_0, hi526_0⟩ := at_L1 (Kd.S_reads' HO_10.out).2.2 x12_2 p526 q526
                cases e526
                obtain ⟨ce526, hce526, hMe526, hcc526⟩ := Kd.S_get HO_10.out [] x12_2 p526 (by first | exact q526 | exact of_decide_eq_true (by first | (with_reducible assumption) | assumption) | (have e_ := (Kd.S_reads' HO_10.out).1; ((try clear hji72 hji72w); omega)))
                obtain ⟨ve526_0, rfl, ge526_0⟩ := hMe526
                have hv526_0 := hcc526 0 _ rfl
                rw [Nat.add_zero, show ((Kd.slice 3 (Kd.int .i64))).sz = 1 from rfl, Nat.mul_one] at hv526_0
                replace hv526_0 := Option.some.inj (hv526_0.symm.trans hx526_0)
                rw [hv526_0] at ge526_0
                have HL526_0 := Aside0.mk (show Kd.R (Kd.int .i64) 3 _ _ _ _ (rd_L1 t519 x12_2) from ge526_0)
                clear hv526_0 ge526_0
                clear hcc526 hce526
                have HR526_0 := Aside0.mk hi526_0
                have HC526_0 := Aside0.mk hl526_0
                clear hi526_0 hl526_0
                replace p526 := eq_true p526
                replace q526 := eq_true q526
                have p527 : 0 ≤ (x12_2 : Int) := of_decide_eq_true (by first | (with_reducible assumption) | assumption)
                have q527 : x12_2 < (t519.length : Int) := of_decide_eq_true (by first | (with_reducible assumption) | assumption)
                obtain ⟨ad527, A527_0, c527_0, e527, hx527_0, hl527_0, hi527_0⟩ := at_L1 (Kd.S_reads' HO_10.out).2.2 x12_2 p527 q527
                obtain rfl : ad526 = ad527 := (by injection e527)
                obtain ⟨ce527, hce527, hMe527, hcc527⟩ := Kd.S_get HO_10.out [] x12_2 p527 (by first | exact q527 | exact of_decide_eq_true (by first | (with_reducible assumption) | assumption) | (have e_ := (Kd.S_reads' HO_10.out).1; ((try clear hji72 hji72w); omega)))
                obtain ⟨ve527_0, rfl, ge527_0⟩ := hMe527
                have hv527_0 := hcc527 0 _ rfl
                rw [Nat.add_zero, show ((Kd.slice 3 (Kd.int .i64))).sz = 1 from rfl, Nat.mul_one] at hv527_0
                replace hv527_0 := Option.some.inj (hv527_0.symm.trans hx527_0)
                rw [hv527_0] at ge527_0
                have HL527_0 := Aside0.mk (show Kd.R (Kd.int .i64) 3 _ _ _ _ (rd_L1 t519 x12_2) from ge527_0)
                clear hv527_0 ge527_0
                clear hcc527 hce527
                have HR527_0 := Aside0.mk hi527_0
                have HC527_0 := Aside0.mk hl527_0
                clear hi527_0 hl527_0
                replace p527 := eq_true p527
                replace q527 := eq_true q527
                have ea_ := Option.some.inj (hx526_0.symm.trans hx527_0)
                injection ea_ with ea_ en_ ec_
                subst ea_
                subst ec_
                clear en_
                have p528 : 0 ≤ (x13_3 : Int) := of_decide_eq_true (by first | (with_reducible assumption) | assumption)
                have q528 : x13_3 < ((rd_L1 t519 x12_2).length : Int) := of_decide_eq_true (by first | (with_reducible assumption) | assumption)
                obtain ⟨ad528, e528, hx528_0⟩ := Kd.at_int (by repeat (first | (with_reducible exact HR527_0.out) | (with_reducible refine Kd.C_alloc ?_ _) | (with_reducible refine Kd.C_drewN ?_ _) | (with_reducible refine Kd.C_drew ?_) | exact HR527_0.out)) x13_3 p528 q528
                cases e528
                replace p528 := eq_true p528
                replace q528 := eq_true q528
                go_upto_region 17 with (fail)
                go_cut [128] (fun v128 wc => ∃ (kq : Nat) (x128_38 : Bool), v128 = .bool x128_38 ∧ Aside0 (bywashlaw12_RankRises.j3 kq l0 a1 a2 t511 t513 t516 t519 x11_3 x12_2 x13_3 (rd (rd_L1 t519 x12_2) x13_3) x128_38 = some r) ∧ Aside0 (kq ≤ k3) ∧ Aside0 (Kd.R (Kd.int .i64) 3 wc w.heap.size (fun k_ => some k_ ≠ (v517 : Value).ownBlock ∧ some k_ ≠ (v524 : Value).ownBlock) v514 t513) ∧ Aside0 (Kd.R (Kd.int .i64) 3 wc w.heap.size (fun k_ => some k_ ≠ (v514 : Value).ownBlock ∧ some k_ ≠ (v524 : Value).ownBlock) v517 t516) ∧ Aside0 (Kd.S (Kd.slice 3 (Kd.int .i64)) 32 wc w.heap.size (fun k_ => some k_ ≠ (v514 : Value).ownBlock ∧ some k_ ≠ (v517 : Value).ownBlock ∧ some k_ ≠ (v524 : Value).ownBlock) (.slice (some ad526) t519.length co40) t519) ∧ Aside0 (Kd.R (Kd.int .i64) 3 wc w.heap.size (fun k_ => some k_ ≠ (v514 : Value).ownBlock ∧ some k_ ≠ (v517 : Value).ownBlock) v524 x11_3) ∧ Aside0 (Kd.C (Kd.int .i64) wc (some ad528) (rd_L1 t519 x12_2).length (rd_L1 t519 x12_2)) ∧ Aside0 (Kd.C (Kd.int .i64) wc (some ad528) (rd_L1 t519 x12_2).length (rd_L1 t519 x12_2)) ∧ Aside0 (Below w.heap.size w wc))
                case first =>
                 have H := HC39.out
                 clear HC39
                 by_cases c41 : x12_2 < (t516.length : Int)
                 ·
                  rw [if_pos c41] at H
                  have c41b0 : decide (x12_2 < (t516.length : Int)) = true := decide_eq_true c41
                  clear c41
                  (first | rw [c41b0] | (simp only [i64_w, i32_w]; rw [c41b0]) | skip)
                  by_cases c42 : 0 ≤ (rd (rd_L1 t519 x12_2) x13_3)
                  ·
                   rw [if_pos c42] at H
                   have c42b0 : decide (0 ≤ (rd (rd_L1 t519 x12_2) x13_3)) = true := decide_eq_true c42
                   clear c42
                   by_cases c43 : (rd (rd_L1 t519 x12_2) x13_3) < (t516.length : Int)
                   ·
                    rw [if_pos c43] at H
                    have c43b0 : decide ((rd (rd_L1 t519 x12_2) x13_3) < (t516.length : Int)) = true := decide_eq_true c43
                    clear c43
                    by_cases c44 : x12_2 < (t513.length : Int)
                    ·
                     rw [if_pos c44] at H
                     have c44b0 : decide (x12_2 < (t513.length : Int)) = true := decide_eq_true c44
                     clear c44
                     by_cases c45 : (rd (rd_L1 t519 x12_2) x13_3) < (t513.length : Int)
                     ·
                      rw [if_pos c45] at H
                      have c45b0 : decide ((rd (rd_L1 t519 x12_2) x13_3) < (t513.length : Int)) = true := decide_eq_true c45
                      clear c45
                      by_cases c46 : (((rd t516 x12_2) == (rd t516 (rd (rd_L1 t519 x12_2) x13_3))) != ((rd t513 x12_2) == (rd t513 (rd (rd_L1 t519 x12_2) x13_3)))) = true
                      ·
                       as_aux_lemma =>
                       rw [if_pos c46] at H
                       have hkx : ∀ kk b0 b1 b2 b3 b4 b5 b6 b7 b8 b9 b10, bywashlaw12_RankRises.j3 kk b0 b1 b2 b3 b4 b5 b6 b7 b8 b9 b10 true = some r → False := by
                        intro kk b0 b1 b2 b3 b4 b5 b6 b7 b8 b9 b10 hh
                        cases kk with
                        | zero => simp [bywashlaw12_RankRises.j3] at hh
                        | succ kk =>
                         rw [bywashlaw12_RankRises.j3, if_pos rfl, HRT.out] at hh
                         cases hh
                       split at H
                       · exact (hkx _ _ _ _ _ _ _ _ _ _ _ _ H).elim
                       · rename_i hne
                         have e1 : ((rd t516 x12_2) == (rd t516 (rd (rd_L1 t519 x12_2) x13_3))) = false := beq_eq_false_iff_ne.2 hne
                         rw [e1] at c46
                         have e2 : ((rd t513 x12_2) == (rd t513 (rd (rd_L1 t519 x12_2) x13_3))) = true := by simpa using c46
                         have e2' := beq_iff_eq.1 e2
                         rw [decide_eq_true (by ((try clear hji72 hji72w); omega))] at H
                         exact (hkx _ _ _ _ _ _ _ _ _ _ _ _ H).elim
                      ·
                       as_aux_lemma =>
                       rw [if_neg c46] at H
                       have c46b0 : (((rd t516 x12_2) == (rd t516 (rd (rd_L1 t519 x12_2) x13_3))) != ((rd t513 x12_2) == (rd t513 (rd (rd_L1 t519 x12_2) x13_3)))) = false := by simpa using c46
                       (try (have c46b1 : decide (((rd t516 x12_2) == (rd t516 (rd (rd_L1 t519 x12_2) x13_3))) = ((rd t513 x12_2) == (rd t513 (rd (rd_L1 t519 x12_2) x13_3)))) = true := by simpa using c46))
                       (try (have c46b2 : (((rd t516 x12_2) == (rd t516 (rd (rd_L1 t519 x12_2) x13_3))) == ((rd t513 x12_2) == (rd t513 (rd (rd_L1 t519 x12_2) x13_3)))) = true := by simpa using c46))
                       clear c46
                       by_cases c54 : (rd t516 x12_2) = (rd t516 (rd (rd_L1 t519 x12_2) x13_3))
                       ·
                        as_aux_lemma =>
                        rw [if_pos c54] at H
                        have c54b0 : ((rd t516 x12_2) == (rd t516 (rd (rd_L1 t519 x12_2) x13_3))) = true := beq_iff_eq.mpr c54
                        have c54b1 : ((rd t516 x12_2) != (rd t516 (rd (rd_L1 t519 x12_2) x13_3))) = false := bne_eq_false_iff_eq.mpr c54
                        rw [c54b0] at c46b0
                        have c54r : ((rd t513 x12_2) == (rd t513 (rd (rd_L1 t519 x12_2) x13_3))) = true := by simpa using c46b0
                        clear c46b0
                        try clear c46b1
                        try clear c46b2
                        try clear c46b3
                        clear c54
                        have H' := Aside0.mk H
                        clear H
                        try go_wp2
                        have n0_ := Aside0.mk (Kd.R_drew HO_8.out)
                        have n1_ := Aside0.mk (Kd.R_drew HO_9.out)
                        have n2_ := Aside0.mk (Kd.S_drew HO_10.out)
                        have n3_ := Aside0.mk (Kd.R_drew HO_11.out)
                        have n4_ := Aside0.mk (Kd.R_drew HL526_0.out)
                        have n5_ := Aside0.mk (Kd.R_drew HL527_0.out)
                        have n6_ := Aside0.mk (Kd.C_drew HR526_0.out)
                        have n7_ := Aside0.mk (Kd.C_drew HR527_0.out)
                        have n8_ := Aside0.mk (below_drew1 HB.out)
                        clear HO_8 HO_9 HO_10 HO_11 HL526_0 HL527_0 HR526_0 HR527_0 HB
                        have HO_8 := n0_
                        have HO_9 := n1_
                        have HO_10 := n2_
                        have HO_11 := n3_
                        have HL526_0 := n4_
                        have HL527_0 := n5_
                        have HR526_0 := n6_
                        have HR527_0 := n7_
                        have HB := n8_
                        clear n0_ n1_ n2_ n3_ n4_ n5_ n6_ n7_ n8_
                        obtain ⟨Ao56, co56, eo56⟩ := Kd.R_slice HO_9.out
                        (first | subst eo56 | (injection eo56 with f1_ f2_ f3_; have f4_ := f1_.symm; have f5_ := f3_.symm; clear f1_ f2_ f3_; subst f4_; subst f5_))
                        have p529 : 0 ≤ (x12_2 : Int) := of_decide_eq_true (by first | (with_reducible assumption) | assumption)
                        have q529 : x12_2 < (t516.length : Int) := of_decide_eq_true (by first | (with_reducible assumption) | assumption)
                        obtain ⟨ad529, e529, hx529_0⟩ := Kd.at_int (Kd.R_reads' HO_9.out).2.2 x12_2 p529 q529
                        cases e529
                        replace p529 := eq_true p529
                        replace q529 := eq_true q529
                        have p530 : 0 ≤ ((rd (rd_L1 t519 x12_2) x13_3) : Int) := of_decide_eq_true (by first | (with_reducible assumption) | assumption)
                        have q530 : (rd (rd_L1 t519 x12_2) x13_3) < (t516.length : Int) := of_decide_eq_true (by first | (with_reducible assumption) | assumption)
                        obtain ⟨ad530, e530, hx530_0⟩ := Kd.at_int (Kd.R_reads' HO_9.out).2.2 (rd (rd_L1 t519 x12_2) x13_3) p530 q530
                        obtain rfl : ad529 = ad530 := (by injection e530)
                        replace p530 := eq_true p530
                        replace q530 := eq_true q530
                        obtain ⟨Ao57, co57, eo57⟩ := Kd.R_slice HO_8.out
                        (first | subst eo57 | (injection eo57 with f1_ f2_ f3_; have f4_ := f1_.symm; have f5_ := f3_.symm; clear f1_ f2_ f3_; subst f4_; subst f5_))
                        have p531 : 0 ≤ (x12_2 : Int) := of_decide_eq_true (by first | (with_reducible assumption) | assumption)
                        have q531 : x12_2 < (t513.length : Int) := of_decide_eq_true (by first | (with_reducible assumption) | assumption)
                        obtain ⟨ad531, e531, hx531_0⟩ := Kd.at_int (Kd.R_reads' HO_8.out).2.2 x12_2 p531 q531
                        cases e531
                        replace p531 := eq_true p531
                        replace q531 := eq_true q531
                        have p532 : 0 ≤ ((rd (rd_L1 t519 x12_2) x13_3) : Int) := of_decide_eq_true (by first | (with_reducible assumption) | assumption)
                        have q532 : (rd (rd_L1 t519 x12_2) x13_3) < (t513.length : Int) := of_decide_eq_true (by first | (with_reducible assumption) | assumption)
                        obtain ⟨ad532, e532, hx532_0⟩ := Kd.at_int (Kd.R_reads' HO_8.out).2.2 (rd (rd_L1 t519 x12_2) x13_3) p532 q532
                        obtain rfl : ad531 = ad532 := (by injection e532)
                        replace p532 := eq_true p532
                        replace q532 := eq_true q532
                        have p539 : 0 ≤ (x12_2 : Int) := of_decide_eq_true (by first | (with_reducible assumption) | assumption)
                        have q539 : x12_2 < (t516.length : Int) := of_decide_eq_true (by first | (with_reducible assumption) | assumption)
                        obtain ⟨ad539, e539, hx539_0⟩ := Kd.at_int (Kd.R_reads' HO_9.out).2.2 x12_2 p539 q539
                        obtain rfl : ad529 = ad539 := (by injection e539)
                        replace p539 := eq_true p539
                        replace q539 := eq_true q539
                        have p540 : 0 ≤ ((rd (rd_L1 t519 x12_2) x13_3) : Int) := of_decide_eq_true (by first | (with_reducible assumption) | assumption)
                        have q540 : (rd (rd_L1 t519 x12_2) x13_3) < (t516.length : Int) := of_decide_eq_true (by first | (with_reducible assumption) | assumption)
                        obtain ⟨ad540, e540, hx540_0⟩ := Kd.at_int (Kd.R_reads' HO_9.out).2.2 (rd (rd_L1 t519 x12_2) x13_3) p540 q540
                        obtain rfl : ad529 = ad540 := (by injection e540)
                        replace p540 := eq_true p540
                        replace q540 := eq_true q540
                        refine start_ (n := 52) (S := fun w' => w'.cell? (ad529.add (x12_2).toNat) = some (.int .i64 (rd t516 x12_2)) ∧ w'.cell? (ad529.add ((rd (rd_L1 t519 x12_2) x13_3)).toNat) = some (.int .i64 (rd t516 (rd (rd_L1 t519 x12_2) x13_3))) ∧ w'.cell? (ad531.add (x12_2).toNat) = some (.int .i64 (rd t513 x12_2)) ∧ w'.cell? (ad531.add ((rd (rd_L1 t519 x12_2) x13_3)).toNat) = some (.int .i64 (rd t513 (rd (rd_L1 t519 x12_2) x13_3))) ∧ w'.cell? (ad529.add (x12_2).toNat) = some (.int .i64 (rd t516 x12_2)) ∧ w'.cell? (ad529.add ((rd (rd_L1 t519 x12_2) x13_3)).toNat) = some (.int .i64 (rd t516 (rd (rd_L1 t519 x12_2) x13_3)))) (ds := []) (mm [(52, false)]) (by kernel_rfl) rfl rfl ⟨hx529_0, hx530_0, hx531_0, hx532_0, hx539_0, hx540_0⟩ (fun hHeld => ?_); refine with_tabW bywashlaw12_RankRises.tab17 bywashlaw12_RankRises.bits17 (fun HT_ HW_ => ?_)
                        generalize wr.drew = w55 at HO_8 HO_9 HO_10 HO_11 HL526_0 HL527_0 HR526_0 HR527_0 HB hx529_0 hx530_0 hx531_0 hx532_0 hx539_0 hx540_0 hHeld ⊢
                        refine pure_ (i := 0) (N := some 77) (v := ?_) (a' := ?_) (mm [(1, true), (51, false)]) rfl rfl (any_of HT_.out (by kernel_rfl)) (fun _ _ _ h => h) (Or.inl ⟨by rfl, ?_⟩) ?_ ?_
                        rotate_left
                        ·
                         intro w'
                         go_simp
                         with_reducible rfl
                        rotate_left
                        ·
                         simp only [Act.put, za_, zb_, zc_, i64_w, i32_w]
                         rfl
                        refine pure_ (i := 1) (N := some 78) (v := ?_) (a' := ?_) (mm [(2, true), (50, false)]) rfl rfl (any_of HT_.out (by kernel_rfl)) (fun _ _ _ h => h) (Or.inl ⟨by rfl, ?_⟩) ?_ ?_
                        rotate_left
                        ·
                         intro w'
                         go_simp
                         with_reducible rfl
                        rotate_left
                        ·
                         simp only [Act.put, za_, zb_, zc_, i64_w, i32_w]
                         rfl
                        refine pure_ (i := 2) (N := some 79) (v := ?_) (a' := ?_) (mm [(3, true), (49, false)]) rfl rfl (any_of HT_.out (by kernel_rfl)) (fun _ _ _ h => h) (Or.inl ⟨by rfl, ?_⟩) ?_ ?_
                        rotate_left
                        ·
                         intro w'
                         go_simp
                         with_reducible rfl
                        rotate_left
                        ·
                         simp only [Act.put, za_, zb_, zc_, i64_w, i32_w]
                         rfl
                        refine pure_ (i := 4) (N := some 81) (v := ?_) (a' := ?_) (mm [(3, true), (1, false), (1, true), (47, false)]) rfl rfl (any_of HT_.out (by kernel_rfl)) (fun _ _ _ h => h) (Or.inl ⟨by rfl, ?_⟩) ?_ ?_
                        rotate_left
                        ·
                         intro w'
                         go_simp
                         with_reducible rfl
                        rotate_left
                        ·
                         simp only [Act.put, za_, zb_, zc_, i64_w, i32_w]
                         rfl
                        refine pure_ (i := 5) (N := some 82) (v := ?_) (a' := ?_) (mm [(3, true), (1, false), (2, true), (46, false)]) rfl rfl (any_of HT_.out (by kernel_rfl)) (fun _ _ _ h => h) (Or.inl ⟨by rfl, ?_⟩) ?_ ?_
                        rotate_left
                        ·
                         intro w'
                         go_simp
                         with_reducible rfl
                        rotate_left
                        ·
                         simp only [Act.put, za_, zb_, zc_, i64_w, i32_w]
                         rfl
                        refine pure_ (i := 6) (N := some 83) (v := ?_) (a' := ?_) (mm [(3, true), (1, false), (3, true), (45, false)]) rfl rfl (any_of HT_.out (by kernel_rfl)) (fun _ _ _ h => h) (Or.inl ⟨by rfl, ?_⟩) ?_ ?_
                        rotate_left
                        ·
                         intro w'
                         go_simp
                         with_reducible rfl
                        rotate_left
                        ·
                         simp only [Act.put, za_, zb_, zc_, i64_w, i32_w]
                         rfl
                        refine pure_ (i := 9) (N := some 86) (v := ?_) (a' := ?_) (mm [(3, true), (1, false), (3, true), (2, false), (1, true), (42, false)]) rfl rfl (any_of HT_.out (by kernel_rfl)) (fun _ _ _ h => h) (Or.inl ⟨by rfl, ?_⟩) ?_ ?_
                        rotate_left
                        ·
                         intro w'
                         go_simp
                         with_reducible rfl
                        rotate_left
                        ·
                         simp only [Act.put, za_, zb_, zc_, i64_w, i32_w]
                         rfl
                        refine pure_ (i := 10) (N := some 87) (v := ?_) (a' := ?_) (mm [(3, true), (1, false), (3, true), (2, false), (2, true), (41, false)]) rfl rfl (any_of HT_.out (by kernel_rfl)) (fun _ _ _ h => h) (Or.inl ⟨by rfl, ?_⟩) ?_ ?_
                        rotate_left
                        ·
                         intro w'
                         go_simp
                         with_reducible rfl
                        rotate_left
                        ·
                         simp only [Act.put, za_, zb_, zc_, i64_w, i32_w]
                         rfl
                        refine pure_ (i := 11) (N := some 88) (v := ?_) (a' := ?_) (mm [(3, true), (1, false), (3, true), (2, false), (3, true), (40, false)]) rfl rfl (any_of HT_.out (by kernel_rfl)) (fun _ _ _ h => h) (Or.inl ⟨by rfl, ?_⟩) ?_ ?_
                        rotate_left
                        ·
                         intro w'
                         go_simp
                         with_reducible rfl
                        rotate_left
                        ·
                         simp only [Act.put, za_, zb_, zc_, i64_w, i32_w]
                         rfl
                        refine pure_ (i := 13) (N := some 90) (v := ?_) (a' := ?_) (mm [(3, true), (1, false), (3, true), (2, false), (3, true), (1, false), (1, true), (38, false)]) rfl rfl (any_of HT_.out (by kernel_rfl)) (fun _ _ _ h => h) (Or.inl ⟨by rfl, ?_⟩) ?_ ?_
                        rotate_left
                        ·
                         intro w'
                         go_simp
                         with_reducible rfl
                        rotate_left
                        ·
                         simp only [Act.put, za_, zb_, zc_, i64_w, i32_w]
                         rfl
                        refine pure_ (i := 14) (N := some 91) (v := ?_) (a' := ?_) (mm [(3, true), (1, false), (3, true), (2, false), (3, true), (1, false), (2, true), (37, false)]) rfl rfl (any_of HT_.out (by kernel_rfl)) (fun _ _ _ h => h) (Or.inl ⟨by rfl, ?_⟩) ?_ ?_
                        rotate_left
                        ·
                         intro w'
                         go_simp
                         with_reducible rfl
                        rotate_left
                        ·
                         simp only [Act.put, za_, zb_, zc_, i64_w, i32_w]
                         rfl
                        refine pure_ (i := 15) (N := some 92) (v := ?_) (a' := ?_) (mm [(3, true), (1, false), (3, true), (2, false), (3, true), (1, false), (3, true), (36, false)]) rfl rfl (any_of HT_.out (by kernel_rfl)) (fun _ _ _ h => h) (Or.inl ⟨by rfl, ?_⟩) ?_ ?_
                        rotate_left
                        ·
                         intro w'
                         go_simp
                         with_reducible rfl
                        rotate_left
                        ·
                         simp only [Act.put, za_, zb_, zc_, i64_w, i32_w]
                         rfl
                        refine take_ (i := 3) (N := some 80) (v := ?_) (a' := ?_) (mm [(7, true), (2, false), (3, true), (1, false), (3, true), (36, false)]) rfl rfl (take_ofW HT_.out HW_.out (by kernel_rfl)) (fun _ _ _ h => h) (Or.inl ⟨by rfl, ?_⟩) hHeld ?_ ?_
                        rotate_left
                        ·
                         rintro w' ⟨s0, s1, s2, s3, s4, s5⟩
                         go_simp
                         with_reducible rfl
                        rotate_left
                        ·
                         simp only [Act.put, za_, zb_, zc_, i64_w, i32_w]
                         rfl
                        refine take_ (i := 7) (N := some 84) (v := ?_) (a' := ?_) (mm [(8, true), (1, false), (3, true), (1, false), (3, true), (36, false)]) rfl rfl (take_ofW HT_.out HW_.out (by kernel_rfl)) (fun _ _ _ h => h) (Or.inl ⟨by rfl, ?_⟩) hHeld ?_ ?_
                        rotate_left
                        ·
                         rintro w' ⟨s0, s1, s2, s3, s4, s5⟩
                         go_simp
                         with_reducible rfl
                        rotate_left
                        ·
                         simp only [Act.put, za_, zb_, zc_, i64_w, i32_w]
                         rfl
                        refine pure_ (i := 8) (N := some 85) (v := ?_) (a' := ?_) (mm [(12, true), (1, false), (3, true), (36, false)]) rfl rfl (any_of HT_.out (by kernel_rfl)) (fun _ _ _ h => h) (Or.inl ⟨by rfl, ?_⟩) ?_ ?_
                        rotate_left
                        ·
                         intro w'
                         go_simp
                         with_reducible rfl
                        rotate_left
                        ·
                         simp only [Act.put, za_, zb_, zc_, i64_w, i32_w]
                         rfl
                        refine take_ (i := 12) (N := some 89) (v := ?_) (a' := ?_) (mm [(16, true), (36, false)]) rfl rfl (take_ofW HT_.out HW_.out (by kernel_rfl)) (fun _ _ _ h => h) (Or.inl ⟨by rfl, ?_⟩) hHeld ?_ ?_
                        rotate_left
                        ·
                         rintro w' ⟨s0, s1, s2, s3, s4, s5⟩
                         go_simp
                         with_reducible rfl
                        rotate_left
                        ·
                         simp only [Act.put, za_, zb_, zc_, i64_w, i32_w]
                         rfl
                        refine take_ (i := 16) (N := some 93) (v := ?_) (a' := ?_) (mm [(17, true), (35, false)]) rfl rfl (take_ofW HT_.out HW_.out (by kernel_rfl)) (fun _ _ _ h => h) (Or.inl ⟨by rfl, ?_⟩) hHeld ?_ ?_
                        rotate_left
                        ·
                         rintro w' ⟨s0, s1, s2, s3, s4, s5⟩
                         go_simp
                         with_reducible rfl
                        rotate_left
                        ·
                         simp only [Act.put, za_, zb_, zc_, i64_w, i32_w]
                         rfl
                        refine pure_ (i := 17) (N := some 94) (v := ?_) (a' := ?_) (mm [(18, true), (34, false)]) rfl rfl (any_of HT_.out (by kernel_rfl)) (fun _ _ _ h => h) (Or.inl ⟨by rfl, ?_⟩) ?_ ?_
                        rotate_left
                        ·
                         intro w'
                         go_simp
                         with_reducible rfl
                        rotate_left
                        ·
                         simp only [Act.put, za_, zb_, zc_, i64_w, i32_w]
                         rfl
                        refine pure_ (i := 18) (N := some 95) (v := ?_) (a' := ?_) (mm [(19, true), (33, false)]) rfl rfl (any_of HT_.out (by kernel_rfl)) (fun _ _ _ h => h) (Or.inl ⟨by rfl, ?_⟩) ?_ ?_
                        rotate_left
                        ·
                         intro w'
                         go_simp
                         with_reducible rfl
                        rotate_left
                        ·
                         simp only [Act.put, za_, zb_, zc_, i64_w, i32_w]
                         rfl
                        refine pure_ (i := 19) (N := some 96) (v := ?_) (a' := ?_) (mm [(20, true), (32, false)]) rfl rfl (any_of HT_.out (by kernel_rfl)) (fun _ _ _ h => h) (Or.inl ⟨by rfl, ?_⟩) ?_ ?_
                        rotate_left
                        ·
                         intro w'
                         go_simp
                         with_reducible rfl
                        rotate_left
                        ·
                         simp only [Act.put, za_, zb_, zc_, i64_w, i32_w]
                         rfl
                        refine pure_ (i := 20) (N := some 97) (v := undef) (a' := ?_) (mm [(21, true), (31, false)]) rfl rfl (any_of HT_.out (by kernel_rfl)) (fun _ _ _ h => h) (Or.inr ⟨by rfl, rfl⟩) ?_ ?_
                        rotate_left
                        ·
                         simp only [Act.put, za_, zb_, zc_, i64_w, i32_w]
                         rfl
                        refine pure_ (i := 21) (N := some 98) (v := undef) (a' := ?_) (mm [(22, true), (30, false)]) rfl rfl (any_of HT_.out (by kernel_rfl)) (fun _ _ _ h => h) (Or.inr ⟨by rfl, rfl⟩) ?_ ?_
                        rotate_left
                        ·
                         simp only [Act.put, za_, zb_, zc_, i64_w, i32_w]
                         rfl
                        refine pure_ (i := 22) (N := some 99) (v := undef) (a' := ?_) (mm [(23, true), (29, false)]) rfl rfl (any_of HT_.out (by kernel_rfl)) (fun _ _ _ h => h) (Or.inr ⟨by rfl, rfl⟩) ?_ ?_
                        rotate_left
                        ·
                         simp only [Act.put, za_, zb_, zc_, i64_w, i32_w]
                         rfl
                        refine pure_ (i := 23) (N := some 100) (v := undef) (a' := ?_) (mm [(24, true), (28, false)]) rfl rfl (any_of HT_.out (by kernel_rfl)) (fun _ _ _ h => h) (Or.inr ⟨by rfl, rfl⟩) ?_ ?_
                        rotate_left
                        ·
                         simp only [Act.put, za_, zb_, zc_, i64_w, i32_w]
                         rfl
                        refine pure_ (i := 24) (N := some 101) (v := undef) (a' := ?_) (mm [(25, true), (27, false)]) rfl rfl (any_of HT_.out (by kernel_rfl)) (fun _ _ _ h => h) (Or.inr ⟨by rfl, rfl⟩) ?_ ?_
                        rotate_left
                        ·
                         simp only [Act.put, za_, zb_, zc_, i64_w, i32_w]
                         rfl
                        refine pure_ (i := 25) (N := some 102) (v := undef) (a' := ?_) (mm [(26, true), (26, false)]) rfl rfl (any_of HT_.out (by kernel_rfl)) (fun _ _ _ h => h) (Or.inr ⟨by rfl, rfl⟩) ?_ ?_
                        rotate_left
                        ·
                         simp only [Act.put, za_, zb_, zc_, i64_w, i32_w]
                         rfl
                        refine pure_ (i := 26) (N := some 103) (v := undef) (a' := ?_) (mm [(27, true), (25, false)]) rfl rfl (any_of HT_.out (by kernel_rfl)) (fun _ _ _ h => h) (Or.inr ⟨by rfl, rfl⟩) ?_ ?_
                        rotate_left
                        ·
                         simp only [Act.put, za_, zb_, zc_, i64_w, i32_w]
                         rfl
                        refine pure_ (i := 27) (N := some 104) (v := undef) (a' := ?_) (mm [(28, true), (24, false)]) rfl rfl (any_of HT_.out (by kernel_rfl)) (fun _ _ _ h => h) (Or.inr ⟨by rfl, rfl⟩) ?_ ?_
                        rotate_left
                        ·
                         simp only [Act.put, za_, zb_, zc_, i64_w, i32_w]
                         rfl
                        refine pure_ (i := 28) (N := some 105) (v := undef) (a' := ?_) (mm [(29, true), (23, false)]) rfl rfl (any_of HT_.out (by kernel_rfl)) (fun _ _ _ h => h) (Or.inr ⟨by rfl, rfl⟩) ?_ ?_
                        rotate_left
                        ·
                         simp only [Act.put, za_, zb_, zc_, i64_w, i32_w]
                         rfl
                        refine pure_ (i := 29) (N := some 106) (v := ?_) (a' := ?_) (mm [(30, true), (22, false)]) rfl rfl (any_of HT_.out (by kernel_rfl)) (fun _ _ _ h => h) (Or.inl ⟨by rfl, ?_⟩) ?_ ?_
                        rotate_left
                        ·
                         intro w'
                         go_simp
                         with_reducible rfl
                        rotate_left
                        ·
                         simp only [Act.put, za_, zb_, zc_, i64_w, i32_w]
                         rfl
                        refine pure_ (i := 30) (N := some 107) (v := ?_) (a' := ?_) (mm [(31, true), (21, false)]) rfl rfl (any_of HT_.out (by kernel_rfl)) (fun _ _ _ h => h) (Or.inl ⟨by rfl, ?_⟩) ?_ ?_
                        rotate_left
                        ·
                         intro w'
                         go_simp
                         with_reducible rfl
                        rotate_left
                        ·
                         simp only [Act.put, za_, zb_, zc_, i64_w, i32_w]
                         rfl
                        refine pure_ (i := 31) (N := some 108) (v := ?_) (a' := ?_) (mm [(32, true), (20, false)]) rfl rfl (any_of HT_.out (by kernel_rfl)) (fun _ _ _ h => h) (Or.inl ⟨by rfl, ?_⟩) ?_ ?_
                        rotate_left
                        ·
                         intro w'
                         go_simp
                         with_reducible rfl
                        rotate_left
                        ·
                         simp only [Act.put, za_, zb_, zc_, i64_w, i32_w]
                         rfl
                        refine pure_ (i := 32) (N := some 109) (v := ?_) (a' := ?_) (mm [(33, true), (19, false)]) rfl rfl (any_of HT_.out (by kernel_rfl)) (fun _ _ _ h => h) (Or.inl ⟨by rfl, ?_⟩) ?_ ?_
                        rotate_left
                        ·
                         intro w'
                         go_simp
                         with_reducible rfl
                        rotate_left
                        ·
                         simp only [Act.put, za_, zb_, zc_, i64_w, i32_w]
                         rfl
                        refine pure_ (i := 33) (N := some 110) (v := ?_) (a' := ?_) (mm [(34, true), (18, false)]) rfl rfl (any_of HT_.out (by kernel_rfl)) (fun _ _ _ h => h) (Or.inl ⟨by rfl, ?_⟩) ?_ ?_
                        rotate_left
                        ·
                         intro w'
                         go_simp
                         with_reducible rfl
                        rotate_left
                        ·
                         simp only [Act.put, za_, zb_, zc_, i64_w, i32_w]
                         rfl
                        refine pure_ (i := 35) (N := some 112) (v := ?_) (a' := ?_) (mm [(34, true), (1, false), (1, true), (16, false)]) rfl rfl (any_of HT_.out (by kernel_rfl)) (fun _ _ _ h => h) (Or.inl ⟨by rfl, ?_⟩) ?_ ?_
                        rotate_left
                        ·
                         intro w'
                         go_simp
                         with_reducible rfl
                        rotate_left
                        ·
                         simp only [Act.put, za_, zb_, zc_, i64_w, i32_w]
                         rfl
                        refine pure_ (i := 36) (N := some 113) (v := ?_) (a' := ?_) (mm [(34, true), (1, false), (2, true), (15, false)]) rfl rfl (any_of HT_.out (by kernel_rfl)) (fun _ _ _ h => h) (Or.inl ⟨by rfl, ?_⟩) ?_ ?_
                        rotate_left
                        ·
                         intro w'
                         go_simp
                         with_reducible rfl
                        rotate_left
                        ·
                         simp only [Act.put, za_, zb_, zc_, i64_w, i32_w]
                         rfl
                        refine pure_ (i := 37) (N := some 114) (v := ?_) (a' := ?_) (mm [(34, true), (1, false), (3, true), (14, false)]) rfl rfl (any_of HT_.out (by kernel_rfl)) (fun _ _ _ h => h) (Or.inl ⟨by rfl, ?_⟩) ?_ ?_
                        rotate_left
                        ·
                         intro w'
                         go_simp
                         with_reducible rfl
                        rotate_left
                        ·
                         simp only [Act.put, za_, zb_, zc_, i64_w, i32_w]
                         rfl
                        refine take_ (i := 34) (N := some 111) (v := ?_) (a' := ?_) (mm [(38, true), (14, false)]) rfl rfl (take_ofW HT_.out HW_.out (by kernel_rfl)) (fun _ _ _ h => h) (Or.inl ⟨by rfl, ?_⟩) hHeld ?_ ?_
                        rotate_left
                        ·
                         rintro w' ⟨s0, s1, s2, s3, s4, s5⟩
                         go_simp
                         with_reducible rfl
                        rotate_left
                        ·
                         simp only [Act.put, za_, zb_, zc_, i64_w, i32_w]
                         rfl
                        refine take_ (i := 38) (N := some 115) (v := ?_) (a' := ?_) (mm [(39, true), (13, false)]) rfl rfl (take_ofW HT_.out HW_.out (by kernel_rfl)) (fun _ _ _ h => h) (Or.inl ⟨by rfl, ?_⟩) hHeld ?_ ?_
                        rotate_left
                        ·
                         rintro w' ⟨s0, s1, s2, s3, s4, s5⟩
                         go_simp
                         with_reducible rfl
                        rotate_left
                        ·
                         simp only [Act.put, za_, zb_, zc_, i64_w, i32_w]
                         rfl
                        refine pure_ (i := 39) (N := some 116) (v := ?_) (a' := ?_) (mm [(40, true), (12, false)]) rfl rfl (any_of HT_.out (by kernel_rfl)) (fun _ _ _ h => h) (Or.inl ⟨by rfl, ?_⟩) ?_ ?_
                        rotate_left
                        ·
                         intro w'
                         go_simp
                         with_reducible rfl
                        rotate_left
                        ·
                         simp only [Act.put, za_, zb_, zc_, i64_w, i32_w]
                         rfl
                        refine pure_ (i := 40) (N := some 117) (v := ?_) (a' := ?_) (mm [(41, true), (11, false)]) rfl rfl (any_of HT_.out (by kernel_rfl)) (fun _ _ _ h => h) (Or.inl ⟨by rfl, ?_⟩) ?_ ?_
                        rotate_left
                        ·
                         intro w'
                         go_simp
                         with_reducible rfl
                        rotate_left
                        ·
                         simp only [Act.put, za_, zb_, zc_, i64_w, i32_w]
                         rfl
                        refine pure_ (i := 41) (N := some 118) (v := undef) (a' := ?_) (mm [(42, true), (10, false)]) rfl rfl (any_of HT_.out (by kernel_rfl)) (fun _ _ _ h => h) (Or.inr ⟨by rfl, rfl⟩) ?_ ?_
                        rotate_left
                        ·
                         simp only [Act.put, za_, zb_, zc_, i64_w, i32_w]
                         rfl
                        refine pure_ (i := 42) (N := some 119) (v := undef) (a' := ?_) (mm [(43, true), (9, false)]) rfl rfl (any_of HT_.out (by kernel_rfl)) (fun _ _ _ h => h) (Or.inr ⟨by rfl, rfl⟩) ?_ ?_
                        rotate_left
                        ·
                         simp only [Act.put, za_, zb_, zc_, i64_w, i32_w]
                         rfl
                        refine pure_ (i := 43) (N := some 120) (v := undef) (a' := ?_) (mm [(44, true), (8, false)]) rfl rfl (any_of HT_.out (by kernel_rfl)) (fun _ _ _ h => h) (Or.inr ⟨by rfl, rfl⟩) ?_ ?_
                        rotate_left
                        ·
                         simp only [Act.put, za_, zb_, zc_, i64_w, i32_w]
                         rfl
                        refine pure_ (i := 44) (N := some 121) (v := undef) (a' := ?_) (mm [(45, true), (7, false)]) rfl rfl (any_of HT_.out (by kernel_rfl)) (fun _ _ _ h => h) (Or.inr ⟨by rfl, rfl⟩) ?_ ?_
                        rotate_left
                        ·
                         simp only [Act.put, za_, zb_, zc_, i64_w, i32_w]
                         rfl
                        refine pure_ (i := 45) (N := some 122) (v := undef) (a' := ?_) (mm [(46, true), (6, false)]) rfl rfl (any_of HT_.out (by kernel_rfl)) (fun _ _ _ h => h) (Or.inr ⟨by rfl, rfl⟩) ?_ ?_
                        rotate_left
                        ·
                         simp only [Act.put, za_, zb_, zc_, i64_w, i32_w]
                         rfl
                        refine pure_ (i := 46) (N := some 123) (v := undef) (a' := ?_) (mm [(47, true), (5, false)]) rfl rfl (any_of HT_.out (by kernel_rfl)) (fun _ _ _ h => h) (Or.inr ⟨by rfl, rfl⟩) ?_ ?_
                        rotate_left
                        ·
                         simp only [Act.put, za_, zb_, zc_, i64_w, i32_w]
                         rfl
                        refine pure_ (i := 47) (N := some 124) (v := undef) (a' := ?_) (mm [(48, true), (4, false)]) rfl rfl (any_of HT_.out (by kernel_rfl)) (fun _ _ _ h => h) (Or.inr ⟨by rfl, rfl⟩) ?_ ?_
                        rotate_left
                        ·
                         simp only [Act.put, za_, zb_, zc_, i64_w, i32_w]
                         rfl
                        refine pure_ (i := 48) (N := some 125) (v := undef) (a' := ?_) (mm [(49, true), (3, false)]) rfl rfl (any_of HT_.out (by kernel_rfl)) (fun _ _ _ h => h) (Or.inr ⟨by rfl, rfl⟩) ?_ ?_
                        rotate_left
                        ·
                         simp only [Act.put, za_, zb_, zc_, i64_w, i32_w]
                         rfl
                        refine pure_ (i := 49) (N := some 126) (v := undef) (a' := ?_) (mm [(50, true), (2, false)]) rfl rfl (any_of HT_.out (by kernel_rfl)) (fun _ _ _ h => h) (Or.inr ⟨by rfl, rfl⟩) ?_ ?_
                        rotate_left
                        ·
                         simp only [Act.put, za_, zb_, zc_, i64_w, i32_w]
                         rfl
                        refine pure_ (i := 50) (N := some 127) (v := ?_) (a' := ?_) (mm [(51, true), (1, false)]) rfl rfl (any_of HT_.out (by kernel_rfl)) (fun _ _ _ h => h) (Or.inl ⟨by rfl, ?_⟩) ?_ ?_
                        rotate_left
                        ·
                         intro w'
                         go_simp
                         with_reducible rfl
                        rotate_left
                        ·
                         simp only [Act.put, za_, zb_, zc_, i64_w, i32_w]
                         rfl
                        refine pure_ (i := 51) (N := some 128) (v := ?_) (a' := ?_) (mm [(52, true)]) rfl rfl (any_of HT_.out (by kernel_rfl)) (fun _ _ _ h => h) (Or.inl ⟨by rfl, ?_⟩) ?_ ?_
                        rotate_left
                        ·
                         intro w'
                         go_simp
                         with_reducible rfl
                        rotate_left
                        ·
                         simp only [Act.put, za_, zb_, zc_, i64_w, i32_w]
                         rfl
                        refine done_ (done_of HT_.out (by kernel_rfl)) ?_
                        try go_wp2
                        go_meet
                        case rel => exact ⟨_, (false), (by first | rfl | (simp; done) | (simp [*]; done)), H', ⟨by have := HJ9.out; have := HK2.out; have := HK3.out; first | ((try clear hji72 hji72w); omega) | exact Nat.le_refl _⟩, ⟨by (with_reducible repeat (first | apply Kd.R_alloc | apply Kd.R_drewN | apply Kd.R_drew)); exact HO_8.out⟩, ⟨by (with_reducible repeat (first | apply Kd.R_alloc | apply Kd.R_drewN | apply Kd.R_drew)); exact HO_9.out⟩, ⟨by (with_reducible repeat (first | apply Kd.S_alloc | apply Kd.S_drewN | apply Kd.S_drew)); exact HO_10.out⟩, ⟨by (with_reducible repeat (first | apply Kd.R_alloc | apply Kd.R_drewN | apply Kd.R_drew)); exact HO_11.out⟩, ⟨by repeat (first | (with_reducible exact HR526_0.out) | (with_reducible refine Kd.C_alloc ?_ _) | (with_reducible refine Kd.C_drewN ?_ _) | (with_reducible refine Kd.C_drew ?_) | exact HR526_0.out)⟩, ⟨by repeat (first | (with_reducible exact HR527_0.out) | (with_reducible refine Kd.C_alloc ?_ _) | (with_reducible refine Kd.C_drewN ?_ _) | (with_reducible refine Kd.C_drew ?_) | exact HR527_0.out)⟩, ⟨by repeat (first | (with_reducible first | exact HB.out | apply below_alloc | apply pw_below_drewN | apply below_drew1) | exact HB.out)⟩⟩
                       ·
                        as_aux_lemma =>
                        rw [if_neg c54] at H
                        have c54b0 : ((rd t516 x12_2) == (rd t516 (rd (rd_L1 t519 x12_2) x13_3))) = false := beq_eq_false_iff_ne.mpr c54
                        have c54b1 : ((rd t516 x12_2) != (rd t516 (rd (rd_L1 t519 x12_2) x13_3))) = true := bne_iff_ne.mpr c54
                        rw [c54b0] at c46b0
                        have c54r : ((rd t513 x12_2) == (rd t513 (rd (rd_L1 t519 x12_2) x13_3))) = false := by simpa using c46b0
                        clear c46b0
                        try clear c46b1
                        try clear c46b2
                        try clear c46b3
                        have H' := Aside0.mk H
                        clear H
                        try go_wp2
                        have n0_ := Aside0.mk (Kd.R_drew HO_8.out)
                        have n1_ := Aside0.mk (Kd.R_drew HO_9.out)
                        have n2_ := Aside0.mk (Kd.S_drew HO_10.out)
                        have n3_ := Aside0.mk (Kd.R_drew HO_11.out)
                        have n4_ := Aside0.mk (Kd.R_drew HL526_0.out)
                        have n5_ := Aside0.mk (Kd.R_drew HL527_0.out)
                        have n6_ := Aside0.mk (Kd.C_drew HR526_0.out)
                        have n7_ := Aside0.mk (Kd.C_drew HR527_0.out)
                        have n8_ := Aside0.mk (below_drew1 HB.out)
                        clear HO_8 HO_9 HO_10 HO_11 HL526_0 HL527_0 HR526_0 HR527_0 HB
                        have HO_8 := n0_
                        have HO_9 := n1_
                        have HO_10 := n2_
                        have HO_11 := n3_
                        have HL526_0 := n4_
                        have HL527_0 := n5_
                        have HR526_0 := n6_
                        have HR527_0 := n7_
                        have HB := n8_
                        clear n0_ n1_ n2_ n3_ n4_ n5_ n6_ n7_ n8_
                        obtain ⟨Ao59, co59, eo59⟩ := Kd.R_slice HO_9.out
                        (first | subst eo59 | (injection eo59 with f1_ f2_ f3_; have f4_ := f1_.symm; have f5_ := f3_.symm; clear f1_ f2_ f3_; subst f4_; subst f5_))
                        have p529 : 0 ≤ (x12_2 : Int) := of_decide_eq_true (by first | (with_reducible assumption) | assumption)
                        have q529 : x12_2 < (t516.length : Int) := of_decide_eq_true (by first | (with_reducible assumption) | assumption)
                        obtain ⟨ad529, e529, hx529_0⟩ := Kd.at_int (Kd.R_reads' HO_9.out).2.2 x12_2 p529 q529
                        cases e529
                        replace p529 := eq_true p529
                        replace q529 := eq_true q529
                        have p530 : 0 ≤ ((rd (rd_L1 t519 x12_2) x13_3) : Int) := of_decide_eq_true (by first | (with_reducible assumption) | assumption)
                        have q530 : (rd (rd_L1 t519 x12_2) x13_3) < (t516.length : Int) := of_decide_eq_true (by first | (with_reducible assumption) | assumption)
                        obtain ⟨ad530, e530, hx530_0⟩ := Kd.at_int (Kd.R_reads' HO_9.out).2.2 (rd (rd_L1 t519 x12_2) x13_3) p530 q530
                        obtain rfl : ad529 = ad530 := (by injection e530)
                        replace p530 := eq_true p530
                        replace q530 := eq_true q530
                        obtain ⟨Ao60, co60, eo60⟩ := Kd.R_slice HO_8.out
                        (first | subst eo60 | (injection eo60 with f1_ f2_ f3_; have f4_ := f1_.symm; have f5_ := f3_.symm; clear f1_ f2_ f3_; subst f4_; subst f5_))
                        have p531 : 0 ≤ (x12_2 : Int) := of_decide_eq_true (by first | (with_reducible assumption) | assumption)
                        have q531 : x12_2 < (t513.length : Int) := of_decide_eq_true (by first | (with_reducible assumption) | assumption)
                        obtain ⟨ad531, e531, hx531_0⟩ := Kd.at_int (Kd.R_reads' HO_8.out).2.2 x12_2 p531 q531
                        cases e531
                        replace p531 := eq_true p531
                        replace q531 := eq_true q531
                        have p532 : 0 ≤ ((rd (rd_L1 t519 x12_2) x13_3) : Int) := of_decide_eq_true (by first | (with_reducible assumption) | assumption)
                        have q532 : (rd (rd_L1 t519 x12_2) x13_3) < (t513.length : Int) := of_decide_eq_true (by first | (with_reducible assumption) | assumption)
                        obtain ⟨ad532, e532, hx532_0⟩ := Kd.at_int (Kd.R_reads' HO_8.out).2.2 (rd (rd_L1 t519 x12_2) x13_3) p532 q532
                        obtain rfl : ad531 = ad532 := (by injection e532)
                        replace p532 := eq_true p532
                        replace q532 := eq_true q532
                        have p539 : 0 ≤ (x12_2 : Int) := of_decide_eq_true (by first | (with_reducible assumption) | assumption)
                        have q539 : x12_2 < (t516.length : Int) := of_decide_eq_true (by first | (with_reducible assumption) | assumption)
                        obtain ⟨ad539, e539, hx539_0⟩ := Kd.at_int (Kd.R_reads' HO_9.out).2.2 x12_2 p539 q539
                        obtain rfl : ad529 = ad539 := (by injection e539)
                        replace p539 := eq_true p539
                        replace q539 := eq_true q539
                        have p540 : 0 ≤ ((rd (rd_L1 t519 x12_2) x13_3) : Int) := of_decide_eq_true (by first | (with_reducible assumption) | assumption)
                        have q540 : (rd (rd_L1 t519 x12_2) x13_3) < (t516.length : Int) := of_decide_eq_true (by first | (with_reducible assumption) | assumption)
                        obtain ⟨ad540, e540, hx540_0⟩ := Kd.at_int (Kd.R_reads' HO_9.out).2.2 (rd (rd_L1 t519 x12_2) x13_3) p540 q540
                        obtain rfl : ad529 = ad540 := (by injection e540)
                        replace p540 := eq_true p540
                        replace q540 := eq_true q540
                        have p541 : 0 ≤ ((rd (rd_L1 t519 x12_2) x13_3) : Int) := of_decide_eq_true (by first | (with_reducible assumption) | assumption)
                        have q541 : (rd (rd_L1 t519 x12_2) x13_3) < (t513.length : Int) := of_decide_eq_true (by first | (with_reducible assumption) | assumption)
                        obtain ⟨ad541, e541, hx541_0⟩ := Kd.at_int (Kd.R_reads' HO_8.out).2.2 (rd (rd_L1 t519 x12_2) x13_3) p541 q541
                        obtain rfl : ad531 = ad541 := (by injection e541)
                        replace p541 := eq_true p541
                        replace q541 := eq_true q541
                        have p542 : 0 ≤ (x12_2 : Int) := of_decide_eq_true (by first | (with_reducible assumption) | assumption)
                        have q542 : x12_2 < (t513.length : Int) := of_decide_eq_true (by first | (with_reducible assumption) | assumption)
                        obtain ⟨ad542, e542, hx542_0⟩ := Kd.at_int (Kd.R_reads' HO_8.out).2.2 x12_2 p542 q542
                        obtain rfl : ad531 = ad542 := (by injection e542)
                        replace p542 := eq_true p542
                        replace q542 := eq_true q542
                        refine start_ (n := 52) (S := fun w' => w'.cell? (ad529.add (x12_2).toNat) = some (.int .i64 (rd t516 x12_2)) ∧ w'.cell? (ad529.add ((rd (rd_L1 t519 x12_2) x13_3)).toNat) = some (.int .i64 (rd t516 (rd (rd_L1 t519 x12_2) x13_3))) ∧ w'.cell? (ad531.add (x12_2).toNat) = some (.int .i64 (rd t513 x12_2)) ∧ w'.cell? (ad531.add ((rd (rd_L1 t519 x12_2) x13_3)).toNat) = some (.int .i64 (rd t513 (rd (rd_L1 t519 x12_2) x13_3))) ∧ w'.cell? (ad529.add (x12_2).toNat) = some (.int .i64 (rd t516 x12_2)) ∧ w'.cell? (ad529.add ((rd (rd_L1 t519 x12_2) x13_3)).toNat) = some (.int .i64 (rd t516 (rd (rd_L1 t519 x12_2) x13_3))) ∧ w'.cell? (ad531.add ((rd (rd_L1 t519 x12_2) x13_3)).toNat) = some (.int .i64 (rd t513 (rd (rd_L1 t519 x12_2) x13_3))) ∧ w'.cell? (ad531.add (x12_2).toNat) = some (.int .i64 (rd t513 x12_2))) (ds := []) (mm [(52, false)]) (by kernel_rfl) rfl rfl ⟨hx529_0, hx530_0, hx531_0, hx532_0, hx539_0, hx540_0, hx541_0, hx542_0⟩ (fun hHeld => ?_); refine with_tabW bywashlaw12_RankRises.tab17 bywashlaw12_RankRises.bits17 (fun HT_ HW_ => ?_)
                        generalize wr.drew = w58 at HO_8 HO_9 HO_10 HO_11 HL526_0 HL527_0 HR526_0 HR527_0 HB hx529_0 hx530_0 hx531_0 hx532_0 hx539_0 hx540_0 hx541_0 hx542_0 hHeld ⊢
                        refine pure_ (i := 0) (N := some 77) (v := ?_) (a' := ?_) (mm [(1, true), (51, false)]) rfl rfl (any_of HT_.out (by kernel_rfl)) (fun _ _ _ h => h) (Or.inl ⟨by rfl, ?_⟩) ?_ ?_
                        rotate_left
                        ·
                         intro w'
                         go_simp
                         with_reducible rfl
                        rotate_left
                        ·
                         simp only [Act.put, za_, zb_, zc_, i64_w, i32_w]
                         rfl
                        refine pure_ (i := 1) (N := some 78) (v := ?_) (a' := ?_) (mm [(2, true), (50, false)]) rfl rfl (any_of HT_.out (by kernel_rfl)) (fun _ _ _ h => h) (Or.inl ⟨by rfl, ?_⟩) ?_ ?_
                        rotate_left
                        ·
                         intro w'
                         go_simp
                         with_reducible rfl
                        rotate_left
                        ·
                         simp only [Act.put, za_, zb_, zc_, i64_w, i32_w]
                         rfl
                        refine pure_ (i := 2) (N := some 79) (v := ?_) (a' := ?_) (mm [(3, true), (49, false)]) rfl rfl (any_of HT_.out (by kernel_rfl)) (fun _ _ _ h => h) (Or.inl ⟨by rfl, ?_⟩) ?_ ?_
                        rotate_left
                        ·
                         intro w'
                         go_simp
                         with_reducible rfl
                        rotate_left
                        ·
                         simp only [Act.put, za_, zb_, zc_, i64_w, i32_w]
                         rfl
                        refine pure_ (i := 4) (N := some 81) (v := ?_) (a' := ?_) (mm [(3, true), (1, false), (1, true), (47, false)]) rfl rfl (any_of HT_.out (by kernel_rfl)) (fun _ _ _ h => h) (Or.inl ⟨by rfl, ?_⟩) ?_ ?_
                        rotate_left
                        ·
                         intro w'
                         go_simp
                         with_reducible rfl
                        rotate_left
                        ·
                         simp only [Act.put, za_, zb_, zc_, i64_w, i32_w]
                         rfl
                        refine pure_ (i := 5) (N := some 82) (v := ?_) (a' := ?_) (mm [(3, true), (1, false), (2, true), (46, false)]) rfl rfl (any_of HT_.out (by kernel_rfl)) (fun _ _ _ h => h) (Or.inl ⟨by rfl, ?_⟩) ?_ ?_
                        rotate_left
                        ·
                         intro w'
                         go_simp
                         with_reducible rfl
                        rotate_left
                        ·
                         simp only [Act.put, za_, zb_, zc_, i64_w, i32_w]
                         rfl
                        refine pure_ (i := 6) (N := some 83) (v := ?_) (a' := ?_) (mm [(3, true), (1, false), (3, true), (45, false)]) rfl rfl (any_of HT_.out (by kernel_rfl)) (fun _ _ _ h => h) (Or.inl ⟨by rfl, ?_⟩) ?_ ?_
                        rotate_left
                        ·
                         intro w'
                         go_simp
                         with_reducible rfl
                        rotate_left
                        ·
                         simp only [Act.put, za_, zb_, zc_, i64_w, i32_w]
                         rfl
                        refine pure_ (i := 9) (N := some 86) (v := ?_) (a' := ?_) (mm [(3, true), (1, false), (3, true), (2, false), (1, true), (42, false)]) rfl rfl (any_of HT_.out (by kernel_rfl)) (fun _ _ _ h => h) (Or.inl ⟨by rfl, ?_⟩) ?_ ?_
                        rotate_left
                        ·
                         intro w'
                         go_simp
                         with_reducible rfl
                        rotate_left
                        ·
                         simp only [Act.put, za_, zb_, zc_, i64_w, i32_w]
                         rfl
                        refine pure_ (i := 10) (N := some 87) (v := ?_) (a' := ?_) (mm [(3, true), (1, false), (3, true), (2, false), (2, true), (41, false)]) rfl rfl (any_of HT_.out (by kernel_rfl)) (fun _ _ _ h => h) (Or.inl ⟨by rfl, ?_⟩) ?_ ?_
                        rotate_left
                        ·
                         intro w'
                         go_simp
                         with_reducible rfl
                        rotate_left
                        ·
                         simp only [Act.put, za_, zb_, zc_, i64_w, i32_w]
                         rfl
                        refine pure_ (i := 11) (N := some 88) (v := ?_) (a' := ?_) (mm [(3, true), (1, false), (3, true), (2, false), (3, true), (40, false)]) rfl rfl (any_of HT_.out (by kernel_rfl)) (fun _ _ _ h => h) (Or.inl ⟨by rfl, ?_⟩) ?_ ?_
                        rotate_left
                        ·
                         intro w'
                         go_simp
                         with_reducible rfl
                        rotate_left
                        ·
                         simp only [Act.put, za_, zb_, zc_, i64_w, i32_w]
                         rfl
                        refine pure_ (i := 13) (N := some 90) (v := ?_) (a' := ?_) (mm [(3, true), (1, false), (3, true), (2, false), (3, true), (1, false), (1, true), (38, false)]) rfl rfl (any_of HT_.out (by kernel_rfl)) (fun _ _ _ h => h) (Or.inl ⟨by rfl, ?_⟩) ?_ ?_
                        rotate_left
                        ·
                         intro w'
                         go_simp
                         with_reducible rfl
                        rotate_left
                        ·
                         simp only [Act.put, za_, zb_, zc_, i64_w, i32_w]
                         rfl
                        refine pure_ (i := 14) (N := some 91) (v := ?_) (a' := ?_) (mm [(3, true), (1, false), (3, true), (2, false), (3, true), (1, false), (2, true), (37, false)]) rfl rfl (any_of HT_.out (by kernel_rfl)) (fun _ _ _ h => h) (Or.inl ⟨by rfl, ?_⟩) ?_ ?_
                        rotate_left
                        ·
                         intro w'
                         go_simp
                         with_reducible rfl
                        rotate_left
                        ·
                         simp only [Act.put, za_, zb_, zc_, i64_w, i32_w]
                         rfl
                        refine pure_ (i := 15) (N := some 92) (v := ?_) (a' := ?_) (mm [(3, true), (1, false), (3, true), (2, false), (3, true), (1, false), (3, true), (36, false)]) rfl rfl (any_of HT_.out (by kernel_rfl)) (fun _ _ _ h => h) (Or.inl ⟨by rfl, ?_⟩) ?_ ?_
                        rotate_left
                        ·
                         intro w'
                         go_simp
                         with_reducible rfl
                        rotate_left
                        ·
                         simp only [Act.put, za_, zb_, zc_, i64_w, i32_w]
                         rfl
                        refine take_ (i := 3) (N := some 80) (v := ?_) (a' := ?_) (mm [(7, true), (2, false), (3, true), (1, false), (3, true), (36, false)]) rfl rfl (take_ofW HT_.out HW_.out (by kernel_rfl)) (fun _ _ _ h => h) (Or.inl ⟨by rfl, ?_⟩) hHeld ?_ ?_
                        rotate_left
                        ·
                         rintro w' ⟨s0, s1, s2, s3, s4, s5, s6, s7⟩
                         go_simp
                         with_reducible rfl
                        rotate_left
                        ·
                         simp only [Act.put, za_, zb_, zc_, i64_w, i32_w]
                         rfl
                        refine take_ (i := 7) (N := some 84) (v := ?_) (a' := ?_) (mm [(8, true), (1, false), (3, true), (1, false), (3, true), (36, false)]) rfl rfl (take_ofW HT_.out HW_.out (by kernel_rfl)) (fun _ _ _ h => h) (Or.inl ⟨by rfl, ?_⟩) hHeld ?_ ?_
                        rotate_left
                        ·
                         rintro w' ⟨s0, s1, s2, s3, s4, s5, s6, s7⟩
                         go_simp
                         with_reducible rfl
                        rotate_left
                        ·
                         simp only [Act.put, za_, zb_, zc_, i64_w, i32_w]
                         rfl
                        refine pure_ (i := 8) (N := some 85) (v := ?_) (a' := ?_) (mm [(12, true), (1, false), (3, true), (36, false)]) rfl rfl (any_of HT_.out (by kernel_rfl)) (fun _ _ _ h => h) (Or.inl ⟨by rfl, ?_⟩) ?_ ?_
                        rotate_left
                        ·
                         intro w'
                         go_simp
                         with_reducible rfl
                        rotate_left
                        ·
                         simp only [Act.put, za_, zb_, zc_, i64_w, i32_w]
                         rfl
                        refine take_ (i := 12) (N := some 89) (v := ?_) (a' := ?_) (mm [(16, true), (36, false)]) rfl rfl (take_ofW HT_.out HW_.out (by kernel_rfl)) (fun _ _ _ h => h) (Or.inl ⟨by rfl, ?_⟩) hHeld ?_ ?_
                        rotate_left
                        ·
                         rintro w' ⟨s0, s1, s2, s3, s4, s5, s6, s7⟩
                         go_simp
                         with_reducible rfl
                        rotate_left
                        ·
                         simp only [Act.put, za_, zb_, zc_, i64_w, i32_w]
                         rfl
                        refine take_ (i := 16) (N := some 93) (v := ?_) (a' := ?_) (mm [(17, true), (35, false)]) rfl rfl (take_ofW HT_.out HW_.out (by kernel_rfl)) (fun _ _ _ h => h) (Or.inl ⟨by rfl, ?_⟩) hHeld ?_ ?_
                        rotate_left
                        ·
                         rintro w' ⟨s0, s1, s2, s3, s4, s5, s6, s7⟩
                         go_simp
                         with_reducible rfl
                        rotate_left
                        ·
                         simp only [Act.put, za_, zb_, zc_, i64_w, i32_w]
                         rfl
                        refine pure_ (i := 17) (N := some 94) (v := ?_) (a' := ?_) (mm [(18, true), (34, false)]) rfl rfl (any_of HT_.out (by kernel_rfl)) (fun _ _ _ h => h) (Or.inl ⟨by rfl, ?_⟩) ?_ ?_
                        rotate_left
                        ·
                         intro w'
                         go_simp
                         with_reducible rfl
                        rotate_left
                        ·
                         simp only [Act.put, za_, zb_, zc_, i64_w, i32_w]
                         rfl
                        refine pure_ (i := 18) (N := some 95) (v := ?_) (a' := ?_) (mm [(19, true), (33, false)]) rfl rfl (any_of HT_.out (by kernel_rfl)) (fun _ _ _ h => h) (Or.inl ⟨by rfl, ?_⟩) ?_ ?_
                        rotate_left
                        ·
                         intro w'
                         go_simp
                         with_reducible rfl
                        rotate_left
                        ·
                         simp only [Act.put, za_, zb_, zc_, i64_w, i32_w]
                         rfl
                        refine pure_ (i := 19) (N := some 96) (v := ?_) (a' := ?_) (mm [(20, true), (32, false)]) rfl rfl (any_of HT_.out (by kernel_rfl)) (fun _ _ _ h => h) (Or.inl ⟨by rfl, ?_⟩) ?_ ?_
                        rotate_left
                        ·
                         intro w'
                         go_simp
                         with_reducible rfl
                        rotate_left
                        ·
                         simp only [Act.put, za_, zb_, zc_, i64_w, i32_w]
                         rfl
                        refine pure_ (i := 20) (N := some 97) (v := undef) (a' := ?_) (mm [(21, true), (31, false)]) rfl rfl (any_of HT_.out (by kernel_rfl)) (fun _ _ _ h => h) (Or.inr ⟨by rfl, rfl⟩) ?_ ?_
                        rotate_left
                        ·
                         simp only [Act.put, za_, zb_, zc_, i64_w, i32_w]
                         rfl
                        refine pure_ (i := 21) (N := some 98) (v := undef) (a' := ?_) (mm [(22, true), (30, false)]) rfl rfl (any_of HT_.out (by kernel_rfl)) (fun _ _ _ h => h) (Or.inr ⟨by rfl, rfl⟩) ?_ ?_
                        rotate_left
                        ·
                         simp only [Act.put, za_, zb_, zc_, i64_w, i32_w]
                         rfl
                        refine pure_ (i := 22) (N := some 99) (v := undef) (a' := ?_) (mm [(23, true), (29, false)]) rfl rfl (any_of HT_.out (by kernel_rfl)) (fun _ _ _ h => h) (Or.inr ⟨by rfl, rfl⟩) ?_ ?_
                        rotate_left
                        ·
                         simp only [Act.put, za_, zb_, zc_, i64_w, i32_w]
                         rfl
                        refine pure_ (i := 23) (N := some 100) (v := undef) (a' := ?_) (mm [(24, true), (28, false)]) rfl rfl (any_of HT_.out (by kernel_rfl)) (fun _ _ _ h => h) (Or.inr ⟨by rfl, rfl⟩) ?_ ?_
                        rotate_left
                        ·
                         simp only [Act.put, za_, zb_, zc_, i64_w, i32_w]
                         rfl
                        refine pure_ (i := 24) (N := some 101) (v := undef) (a' := ?_) (mm [(25, true), (27, false)]) rfl rfl (any_of HT_.out (by kernel_rfl)) (fun _ _ _ h => h) (Or.inr ⟨by rfl, rfl⟩) ?_ ?_
                        rotate_left
                        ·
                         simp only [Act.put, za_, zb_, zc_, i64_w, i32_w]
                         rfl
                        refine pure_ (i := 25) (N := some 102) (v := undef) (a' := ?_) (mm [(26, true), (26, false)]) rfl rfl (any_of HT_.out (by kernel_rfl)) (fun _ _ _ h => h) (Or.inr ⟨by rfl, rfl⟩) ?_ ?_
                        rotate_left
                        ·
                         simp only [Act.put, za_, zb_, zc_, i64_w, i32_w]
                         rfl
                        refine pure_ (i := 26) (N := some 103) (v := undef) (a' := ?_) (mm [(27, true), (25, false)]) rfl rfl (any_of HT_.out (by kernel_rfl)) (fun _ _ _ h => h) (Or.inr ⟨by rfl, rfl⟩) ?_ ?_
                        rotate_left
                        ·
                         simp only [Act.put, za_, zb_, zc_, i64_w, i32_w]
                         rfl
                        refine pure_ (i := 27) (N := some 104) (v := undef) (a' := ?_) (mm [(28, true), (24, false)]) rfl rfl (any_of HT_.out (by kernel_rfl)) (fun _ _ _ h => h) (Or.inr ⟨by rfl, rfl⟩) ?_ ?_
                        rotate_left
                        ·
                         simp only [Act.put, za_, zb_, zc_, i64_w, i32_w]
                         rfl
                        refine pure_ (i := 28) (N := some 105) (v := undef) (a' := ?_) (mm [(29, true), (23, false)]) rfl rfl (any_of HT_.out (by kernel_rfl)) (fun _ _ _ h => h) (Or.inr ⟨by rfl, rfl⟩) ?_ ?_
                        rotate_left
                        ·
                         simp only [Act.put, za_, zb_, zc_, i64_w, i32_w]
                         rfl
                        refine pure_ (i := 29) (N := some 106) (v := ?_) (a' := ?_) (mm [(30, true), (22, false)]) rfl rfl (any_of HT_.out (by kernel_rfl)) (fun _ _ _ h => h) (Or.inl ⟨by rfl, ?_⟩) ?_ ?_
                        rotate_left
                        ·
                         intro w'
                         go_simp
                         with_reducible rfl
                        rotate_left
                        ·
                         simp only [Act.put, za_, zb_, zc_, i64_w, i32_w]
                         rfl
                        refine pure_ (i := 30) (N := some 107) (v := ?_) (a' := ?_) (mm [(31, true), (21, false)]) rfl rfl (any_of HT_.out (by kernel_rfl)) (fun _ _ _ h => h) (Or.inl ⟨by rfl, ?_⟩) ?_ ?_
                        rotate_left
                        ·
                         intro w'
                         go_simp
                         with_reducible rfl
                        rotate_left
                        ·
                         simp only [Act.put, za_, zb_, zc_, i64_w, i32_w]
                         rfl
                        refine pure_ (i := 31) (N := some 108) (v := ?_) (a' := ?_) (mm [(32, true), (20, false)]) rfl rfl (any_of HT_.out (by kernel_rfl)) (fun _ _ _ h => h) (Or.inl ⟨by rfl, ?_⟩) ?_ ?_
                        rotate_left
                        ·
                         intro w'
                         go_simp
                         with_reducible rfl
                        rotate_left
                        ·
                         simp only [Act.put, za_, zb_, zc_, i64_w, i32_w]
                         rfl
                        refine pure_ (i := 32) (N := some 109) (v := ?_) (a' := ?_) (mm [(33, true), (19, false)]) rfl rfl (any_of HT_.out (by kernel_rfl)) (fun _ _ _ h => h) (Or.inl ⟨by rfl, ?_⟩) ?_ ?_
                        rotate_left
                        ·
                         intro w'
                         go_simp
                         with_reducible rfl
                        rotate_left
                        ·
                         simp only [Act.put, za_, zb_, zc_, i64_w, i32_w]
                         rfl
                        refine pure_ (i := 33) (N := some 110) (v := ?_) (a' := ?_) (mm [(34, true), (18, false)]) rfl rfl (any_of HT_.out (by kernel_rfl)) (fun _ _ _ h => h) (Or.inl ⟨by rfl, ?_⟩) ?_ ?_
                        rotate_left
                        ·
                         intro w'
                         go_simp
                         with_reducible rfl
                        rotate_left
                        ·
                         simp only [Act.put, za_, zb_, zc_, i64_w, i32_w]
                         rfl
                        refine pure_ (i := 35) (N := some 112) (v := ?_) (a' := ?_) (mm [(34, true), (1, false), (1, true), (16, false)]) rfl rfl (any_of HT_.out (by kernel_rfl)) (fun _ _ _ h => h) (Or.inl ⟨by rfl, ?_⟩) ?_ ?_
                        rotate_left
                        ·
                         intro w'
                         go_simp
                         with_reducible rfl
                        rotate_left
                        ·
                         simp only [Act.put, za_, zb_, zc_, i64_w, i32_w]
                         rfl
                        refine pure_ (i := 36) (N := some 113) (v := ?_) (a' := ?_) (mm [(34, true), (1, false), (2, true), (15, false)]) rfl rfl (any_of HT_.out (by kernel_rfl)) (fun _ _ _ h => h) (Or.inl ⟨by rfl, ?_⟩) ?_ ?_
                        rotate_left
                        ·
                         intro w'
                         go_simp
                         with_reducible rfl
                        rotate_left
                        ·
                         simp only [Act.put, za_, zb_, zc_, i64_w, i32_w]
                         rfl
                        refine pure_ (i := 37) (N := some 114) (v := ?_) (a' := ?_) (mm [(34, true), (1, false), (3, true), (14, false)]) rfl rfl (any_of HT_.out (by kernel_rfl)) (fun _ _ _ h => h) (Or.inl ⟨by rfl, ?_⟩) ?_ ?_
                        rotate_left
                        ·
                         intro w'
                         go_simp
                         with_reducible rfl
                        rotate_left
                        ·
                         simp only [Act.put, za_, zb_, zc_, i64_w, i32_w]
                         rfl
                        refine take_ (i := 34) (N := some 111) (v := ?_) (a' := ?_) (mm [(38, true), (14, false)]) rfl rfl (take_ofW HT_.out HW_.out (by kernel_rfl)) (fun _ _ _ h => h) (Or.inl ⟨by rfl, ?_⟩) hHeld ?_ ?_
                        rotate_left
                        ·
                         rintro w' ⟨s0, s1, s2, s3, s4, s5, s6, s7⟩
                         go_simp
                         with_reducible rfl
                        rotate_left
                        ·
                         simp only [Act.put, za_, zb_, zc_, i64_w, i32_w]
                         rfl
                        refine take_ (i := 38) (N := some 115) (v := ?_) (a' := ?_) (mm [(39, true), (13, false)]) rfl rfl (take_ofW HT_.out HW_.out (by kernel_rfl)) (fun _ _ _ h => h) (Or.inl ⟨by rfl, ?_⟩) hHeld ?_ ?_
                        rotate_left
                        ·
                         rintro w' ⟨s0, s1, s2, s3, s4, s5, s6, s7⟩
                         go_simp
                         with_reducible rfl
                        rotate_left
                        ·
                         simp only [Act.put, za_, zb_, zc_, i64_w, i32_w]
                         rfl
                        refine pure_ (i := 39) (N := some 116) (v := ?_) (a' := ?_) (mm [(40, true), (12, false)]) rfl rfl (any_of HT_.out (by kernel_rfl)) (fun _ _ _ h => h) (Or.inl ⟨by rfl, ?_⟩) ?_ ?_
                        rotate_left
                        ·
                         intro w'
                         go_simp
                         with_reducible rfl
                        rotate_left
                        ·
                         simp only [Act.put, za_, zb_, zc_, i64_w, i32_w]
                         rfl
                        refine pure_ (i := 40) (N := some 117) (v := ?_) (a' := ?_) (mm [(41, true), (11, false)]) rfl rfl (any_of HT_.out (by kernel_rfl)) (fun _ _ _ h => h) (Or.inl ⟨by rfl, ?_⟩) ?_ ?_
                        rotate_left
                        ·
                         intro w'
                         go_simp
                         with_reducible rfl
                        rotate_left
                        ·
                         simp only [Act.put, za_, zb_, zc_, i64_w, i32_w]
                         rfl
                        refine pure_ (i := 41) (N := some 118) (v := ?_) (a' := ?_) (mm [(42, true), (10, false)]) rfl rfl (any_of HT_.out (by kernel_rfl)) (fun _ _ _ h => h) (Or.inl ⟨by rfl, ?_⟩) ?_ ?_
                        rotate_left
                        ·
                         intro w'
                         go_simp
                         with_reducible rfl
                        rotate_left
                        ·
                         simp only [Act.put, za_, zb_, zc_, i64_w, i32_w]
                         rfl
                        refine pure_ (i := 42) (N := some 119) (v := ?_) (a' := ?_) (mm [(43, true), (9, false)]) rfl rfl (any_of HT_.out (by kernel_rfl)) (fun _ _ _ h => h) (Or.inl ⟨by rfl, ?_⟩) ?_ ?_
                        rotate_left
                        ·
                         intro w'
                         go_simp
                         with_reducible rfl
                        rotate_left
                        ·
                         simp only [Act.put, za_, zb_, zc_, i64_w, i32_w]
                         rfl
                        refine pure_ (i := 43) (N := some 120) (v := ?_) (a' := ?_) (mm [(44, true), (8, false)]) rfl rfl (any_of HT_.out (by kernel_rfl)) (fun _ _ _ h => h) (Or.inl ⟨by rfl, ?_⟩) ?_ ?_
                        rotate_left
                        ·
                         intro w'
                         go_simp
                         with_reducible rfl
                        rotate_left
                        ·
                         simp only [Act.put, za_, zb_, zc_, i64_w, i32_w]
                         rfl
                        refine pure_ (i := 45) (N := some 122) (v := ?_) (a' := ?_) (mm [(44, true), (1, false), (1, true), (6, false)]) rfl rfl (any_of HT_.out (by kernel_rfl)) (fun _ _ _ h => h) (Or.inl ⟨by rfl, ?_⟩) ?_ ?_
                        rotate_left
                        ·
                         intro w'
                         go_simp
                         with_reducible rfl
                        rotate_left
                        ·
                         simp only [Act.put, za_, zb_, zc_, i64_w, i32_w]
                         rfl
                        refine pure_ (i := 46) (N := some 123) (v := ?_) (a' := ?_) (mm [(44, true), (1, false), (2, true), (5, false)]) rfl rfl (any_of HT_.out (by kernel_rfl)) (fun _ _ _ h => h) (Or.inl ⟨by rfl, ?_⟩) ?_ ?_
                        rotate_left
                        ·
                         intro w'
                         go_simp
                         with_reducible rfl
                        rotate_left
                        ·
                         simp only [Act.put, za_, zb_, zc_, i64_w, i32_w]
                         rfl
                        refine pure_ (i := 47) (N := some 124) (v := ?_) (a' := ?_) (mm [(44, true), (1, false), (3, true), (4, false)]) rfl rfl (any_of HT_.out (by kernel_rfl)) (fun _ _ _ h => h) (Or.inl ⟨by rfl, ?_⟩) ?_ ?_
                        rotate_left
                        ·
                         intro w'
                         go_simp
                         with_reducible rfl
                        rotate_left
                        ·
                         simp only [Act.put, za_, zb_, zc_, i64_w, i32_w]
                         rfl
                        refine take_ (i := 44) (N := some 121) (v := ?_) (a' := ?_) (mm [(48, true), (4, false)]) rfl rfl (take_ofW HT_.out HW_.out (by kernel_rfl)) (fun _ _ _ h => h) (Or.inl ⟨by rfl, ?_⟩) hHeld ?_ ?_
                        rotate_left
                        ·
                         rintro w' ⟨s0, s1, s2, s3, s4, s5, s6, s7⟩
                         go_simp
                         with_reducible rfl
                        rotate_left
                        ·
                         simp only [Act.put, za_, zb_, zc_, i64_w, i32_w]
                         rfl
                        refine take_ (i := 48) (N := some 125) (v := ?_) (a' := ?_) (mm [(49, true), (3, false)]) rfl rfl (take_ofW HT_.out HW_.out (by kernel_rfl)) (fun _ _ _ h => h) (Or.inl ⟨by rfl, ?_⟩) hHeld ?_ ?_
                        rotate_left
                        ·
                         rintro w' ⟨s0, s1, s2, s3, s4, s5, s6, s7⟩
                         go_simp
                         with_reducible rfl
                        rotate_left
                        ·
                         simp only [Act.put, za_, zb_, zc_, i64_w, i32_w]
                         rfl
                        refine pure_ (i := 49) (N := some 126) (v := ?_) (a' := ?_) (mm [(50, true), (2, false)]) rfl rfl (any_of HT_.out (by kernel_rfl)) (fun _ _ _ h => h) (Or.inl ⟨by rfl, ?_⟩) ?_ ?_
                        rotate_left
                        ·
                         intro w'
                         go_simp
                         with_reducible rfl
                        rotate_left
                        ·
                         simp only [Act.put, za_, zb_, zc_, i64_w, i32_w]
                         rfl
                        refine pure_ (i := 50) (N := some 127) (v := ?_) (a' := ?_) (mm [(51, true), (1, false)]) rfl rfl (any_of HT_.out (by kernel_rfl)) (fun _ _ _ h => h) (Or.inl ⟨by rfl, ?_⟩) ?_ ?_
                        rotate_left
                        ·
                         intro w'
                         go_simp
                         with_reducible rfl
                        rotate_left
                        ·
                         simp only [Act.put, za_, zb_, zc_, i64_w, i32_w]
                         rfl
                        refine pure_ (i := 51) (N := some 128) (v := ?_) (a' := ?_) (mm [(52, true)]) rfl rfl (any_of HT_.out (by kernel_rfl)) (fun _ _ _ h => h) (Or.inl ⟨by rfl, ?_⟩) ?_ ?_
                        rotate_left
                        ·
                         intro w'
                         go_simp
                         with_reducible rfl
                        rotate_left
                        ·
                         simp only [Act.put, za_, zb_, zc_, i64_w, i32_w]
                         rfl
                        refine done_ (done_of HT_.out (by kernel_rfl)) ?_
                        try go_wp2
                        go_meet
                        case rel => exact ⟨_, (decide ((rd t513 (rd (rd_L1 t519 x12_2) x13_3)) ≤ (rd t513 x12_2))), (by first | rfl | (simp; done) | (simp [*]; done)), H', ⟨by have := HJ9.out; have := HK2.out; have := HK3.out; first | ((try clear hji72 hji72w); omega) | exact Nat.le_refl _⟩, ⟨by (with_reducible repeat (first | apply Kd.R_alloc | apply Kd.R_drewN | apply Kd.R_drew)); exact HO_8.out⟩, ⟨by (with_reducible repeat (first | apply Kd.R_alloc | apply Kd.R_drewN | apply Kd.R_drew)); exact HO_9.out⟩, ⟨by (with_reducible repeat (first | apply Kd.S_alloc | apply Kd.S_drewN | apply Kd.S_drew)); exact HO_10.out⟩, ⟨by (with_reducible repeat (first | apply Kd.R_alloc | apply Kd.R_drewN | apply Kd.R_drew)); exact HO_11.out⟩, ⟨by repeat (first | (with_reducible exact HR526_0.out) | (with_reducible refine Kd.C_alloc ?_ _) | (with_reducible refine Kd.C_drewN ?_ _) | (with_reducible refine Kd.C_drew ?_) | exact HR526_0.out)⟩, ⟨by repeat (first | (with_reducible exact HR527_0.out) | (with_reducible refine Kd.C_alloc ?_ _) | (with_reducible refine Kd.C_drewN ?_ _) | (with_reducible refine Kd.C_drew ?_) | exact HR527_0.out)⟩, ⟨by repeat (first | (with_reducible first | exact HB.out | apply below_alloc | apply pw_below_drewN | apply below_drew1) | exact HB.out)⟩⟩
                     ·
                      rw [if_neg c45] at H
                      exact absurd H (by simp)
                    ·
                     rw [if_neg c44] at H
                     exact absurd H (by simp)
                   ·
                    rw [if_neg c43] at H
                    exact absurd H (by simp)
                  ·
                   rw [if_neg c42] at H
                   exact absurd H (by simp)
                 ·
                  rw [if_neg c41] at H
                  exact absurd H (by simp)
                case rest =>
                 clear HC39
                 try clear p2
                 try clear c4
                 try clear c5
                 try clear p5
                 try clear q5
                 try clear hx5
                 try clear c41
                 try clear c42
                 try clear c43
                 try clear c44
                 try clear c45
                 try clear p52
                 try clear q52
                 try clear hx52
                 try clear p53
                 try clear q53
                 try clear hx53
                 try clear c54
                 try clear c54b0
                 try clear c54b1
                 try clear p54
                 try clear q54
                 try clear hx54
                 try clear hx529_0
                 try clear hx530_0
                 try clear hx531_0
                 try clear hx532_0
                 try clear hx539_0
                 try clear hx540_0
                 try clear hx541_0
                 try clear hx542_0
                 try clear p529
                 try clear p530
                 try clear p531
                 try clear p532
                 try clear p539
                 try clear p540
                 try clear p541
                 try clear p542
                 try clear q529
                 try clear q530
                 try clear q531
                 try clear q532
                 try clear q539
                 try clear q540
                 try clear q541
                 try clear q542
                 obtain ⟨kq, x128_38, rfl, HA, HJ38, HO_8, HO_9, HO_10, HO_11, HR526_0, HR527_0, HB⟩ := hcut
                 cases kq with
                 | zero => exact absurd HA.out (by simp [bywashlaw12_RankRises.j3])
                 | succ kj38 =>
                  have H := HA.out
                  clear HA
                  simp only [bywashlaw12_RankRises.j3] at H
                  by_cases c61 : x128_38 = true
                  ·
                   subst c61
                   have H1 : (some false) = some r := by rw [if_pos rfl] at H; exact H
                   clear H
                   have H := H1
                   exact absurd (Option.some.inj H) (by rw [HRT.out]; decide)
                  ·
                   replace c61 := Bool.eq_false_iff.mpr c61
                   subst c61
                   have H1 : (if 0 ≤ x12_2 then (if x12_2 < (t516.length : Int) then (if 0 ≤ (rd (rd_L1 t519 x12_2) x13_3) then (if (rd (rd_L1 t519 x12_2) x13_3) < (t516.length : Int) then (if (rd t516 x12_2) = (rd t516 (rd (rd_L1 t519 x12_2) x13_3)) then (bywashlaw12_RankRises.l1 kj38 l0 a1 a2 t511 t513 t516 t519 x11_3 x12_2 (wrap64 (x13_3 + 1))) else (if 0 ≤ (rd t516 (rd (rd_L1 t519 x12_2) x13_3)) then (if (rd t516 (rd (rd_L1 t519 x12_2) x13_3)) < (x11_3.length : Int) then (if x12_2 < (t513.length : Int) then (bywashlaw12_RankRises.l1 kj38 l0 a1 a2 t511 t513 t516 t519 (x11_3.set ((rd t516 (rd (rd_L1 t519 x12_2) x13_3)) : Int).toNat (mx (rd x11_3 (rd t516 (rd (rd_L1 t519 x12_2) x13_3))) (wrap64 ((rd t513 x12_2) + 1)))) x12_2 (wrap64 (x13_3 + 1))) else (none)) else (none)) else (none))) else (none)) else (none)) else (none)) else (none)) = some r := by rw [if_neg (show ¬ (false = true) by decide)] at H; exact H
                   clear H
                   have H := H1
                   clear H1
                   by_cases c62 : 0 ≤ x12_2
                   ·
                    rw [if_pos c62] at H
                    have c62b0 : decide (0 ≤ x12_2) = true := decide_eq_true c62
                    clear c62
                    by_cases c63 : x12_2 < (t516.length : Int)
                    ·
                     rw [if_pos c63] at H
                     have c63b0 : decide (x12_2 < (t516.length : Int)) = true := decide_eq_true c63
                     clear c63
                     by_cases c64 : 0 ≤ (rd (rd_L1 t519 x12_2) x13_3)
                     ·
                      rw [if_pos c64] at H
                      have c64b0 : decide (0 ≤ (rd (rd_L1 t519 x12_2) x13_3)) = true := decide_eq_true c64
                      clear c64
                      by_cases c65 : (rd (rd_L1 t519 x12_2) x13_3) < (t516.length : Int)
                      ·
                       rw [if_pos c65] at H
                       have c65b0 : decide ((rd (rd_L1 t519 x12_2) x13_3) < (t516.length : Int)) = true := decide_eq_true c65
                       clear c65
                       by_cases c66 : (rd t516 x12_2) = (rd t516 (rd (rd_L1 t519 x12_2) x13_3))
                       ·
                        as_aux_lemma =>
                        rw [if_pos c66] at H
                        have c66b0 : ((rd t516 x12_2) == (rd t516 (rd (rd_L1 t519 x12_2) x13_3))) = true := beq_iff_eq.mpr c66
                        have c66b1 : ((rd t516 x12_2) != (rd t516 (rd (rd_L1 t519 x12_2) x13_3))) = false := bne_eq_false_iff_eq.mpr c66
                        clear c66
                        have H' := Aside0.mk H
                        clear H
                        try go_wp2
                        have n0_ := Aside0.mk (Kd.R_drew HO_8.out)
                        have n1_ := Aside0.mk (Kd.R_drew HO_9.out)
                        have n2_ := Aside0.mk (Kd.S_drew HO_10.out)
                        have n3_ := Aside0.mk (Kd.R_drew HO_11.out)
                        have n4_ := Aside0.mk (Kd.C_drew HR526_0.out)
                        have n5_ := Aside0.mk (Kd.C_drew HR527_0.out)
                        have n6_ := Aside0.mk (below_drew1 HB.out)
                        clear HO_8 HO_9 HO_10 HO_11 HR526_0 HR527_0 HB
                        have HO_8 := n0_
                        have HO_9 := n1_
                        have HO_10 := n2_
                        have HO_11 := n3_
                        have HR526_0 := n4_
                        have HR527_0 := n5_
                        have HB := n6_
                        clear n0_ n1_ n2_ n3_ n4_ n5_ n6_
                        obtain ⟨Ao68, co68, eo68⟩ := Kd.R_slice HO_9.out
                        (first | subst eo68 | (injection eo68 with f1_ f2_ f3_; have f4_ := f1_.symm; have f5_ := f3_.symm; clear f1_ f2_ f3_; subst f4_; subst f5_))
                        have p543 : 0 ≤ (x12_2 : Int) := of_decide_eq_true (by first | (with_reducible assumption) | assumption)
                        have q543 : x12_2 < (t516.length : Int) := of_decide_eq_true (by first | (with_reducible assumption) | assumption)
                        obtain ⟨ad543, e543, hx543_0⟩ := Kd.at_int (Kd.R_reads' HO_9.out).2.2 x12_2 p543 q543
                        cases e543
                        replace p543 := eq_true p543
                        replace q543 := eq_true q543
                        have p544 : 0 ≤ ((rd (rd_L1 t519 x12_2) x13_3) : Int) := of_decide_eq_true (by first | (with_reducible assumption) | assumption)
                        have q544 : (rd (rd_L1 t519 x12_2) x13_3) < (t516.length : Int) := of_decide_eq_true (by first | (with_reducible assumption) | assumption)
                        obtain ⟨ad544, e544, hx544_0⟩ := Kd.at_int (Kd.R_reads' HO_9.out).2.2 (rd (rd_L1 t519 x12_2) x13_3) p544 q544
                        obtain rfl : ad543 = ad544 := (by injection e544)
                        replace p544 := eq_true p544
                        replace q544 := eq_true q544
                        refine start_ (n := 9) (S := fun w' => w'.cell? (ad543.add (x12_2).toNat) = some (.int .i64 (rd t516 x12_2)) ∧ w'.cell? (ad543.add ((rd (rd_L1 t519 x12_2) x13_3)).toNat) = some (.int .i64 (rd t516 (rd (rd_L1 t519 x12_2) x13_3)))) (ds := []) (mm [(9, false)]) (by kernel_rfl) rfl rfl ⟨hx543_0, hx544_0⟩ (fun hHeld => ?_); refine with_tabW bywashlaw12_RankRises.tab19 bywashlaw12_RankRises.bits19 (fun HT_ HW_ => ?_)
                        generalize wc.drew = w67 at HO_8 HO_9 HO_10 HO_11 HR526_0 HR527_0 HB hx543_0 hx544_0 hHeld ⊢
                        refine pure_ (i := 0) (N := some 129) (v := ?_) (a' := ?_) (mm [(1, true), (8, false)]) rfl rfl (any_of HT_.out (by kernel_rfl)) (fun _ _ _ h => h) (Or.inl ⟨by rfl, ?_⟩) ?_ ?_
                        rotate_left
                        ·
                         intro w'
                         go_simp
                         with_reducible rfl
                        rotate_left
                        ·
                         simp only [Act.put, za_, zb_, zc_, i64_w, i32_w]
                         rfl
                        refine pure_ (i := 1) (N := some 130) (v := ?_) (a' := ?_) (mm [(2, true), (7, false)]) rfl rfl (any_of HT_.out (by kernel_rfl)) (fun _ _ _ h => h) (Or.inl ⟨by rfl, ?_⟩) ?_ ?_
                        rotate_left
                        ·
                         intro w'
                         go_simp
                         with_reducible rfl
                        rotate_left
                        ·
                         simp only [Act.put, za_, zb_, zc_, i64_w, i32_w]
                         rfl
                        refine pure_ (i := 2) (N := some 131) (v := ?_) (a' := ?_) (mm [(3, true), (6, false)]) rfl rfl (any_of HT_.out (by kernel_rfl)) (fun _ _ _ h => h) (Or.inl ⟨by rfl, ?_⟩) ?_ ?_
                        rotate_left
                        ·
                         intro w'
                         go_simp
                         with_reducible rfl
                        rotate_left
                        ·
                         simp only [Act.put, za_, zb_, zc_, i64_w, i32_w]
                         rfl
                        refine pure_ (i := 4) (N := some 133) (v := ?_) (a' := ?_) (mm [(3, true), (1, false), (1, true), (4, false)]) rfl rfl (any_of HT_.out (by kernel_rfl)) (fun _ _ _ h => h) (Or.inl ⟨by rfl, ?_⟩) ?_ ?_
                        rotate_left
                        ·
                         intro w'
                         go_simp
                         with_reducible rfl
                        rotate_left
                        ·
                         simp only [Act.put, za_, zb_, zc_, i64_w, i32_w]
                         rfl
                        refine pure_ (i := 5) (N := some 134) (v := ?_) (a' := ?_) (mm [(3, true), (1, false), (2, true), (3, false)]) rfl rfl (any_of HT_.out (by kernel_rfl)) (fun _ _ _ h => h) (Or.inl ⟨by rfl, ?_⟩) ?_ ?_
                        rotate_left
                        ·
                         intro w'
                         go_simp
                         with_reducible rfl
                        rotate_left
                        ·
                         simp only [Act.put, za_, zb_, zc_, i64_w, i32_w]
                         rfl
                        refine pure_ (i := 6) (N := some 135) (v := ?_) (a' := ?_) (mm [(3, true), (1, false), (3, true), (2, false)]) rfl rfl (any_of HT_.out (by kernel_rfl)) (fun _ _ _ h => h) (Or.inl ⟨by rfl, ?_⟩) ?_ ?_
                        rotate_left
                        ·
                         intro w'
                         go_simp
                         with_reducible rfl
                        rotate_left
                        ·
                         simp only [Act.put, za_, zb_, zc_, i64_w, i32_w]
                         rfl
                        refine take_ (i := 3) (N := some 132) (v := ?_) (a' := ?_) (mm [(7, true), (2, false)]) rfl rfl (take_ofW HT_.out HW_.out (by kernel_rfl)) (fun _ _ _ h => h) (Or.inl ⟨by rfl, ?_⟩) hHeld ?_ ?_
                        rotate_left
                        ·
                         rintro w' ⟨s0, s1⟩
                         go_simp
                         with_reducible rfl
                        rotate_left
                        ·
                         simp only [Act.put, za_, zb_, zc_, i64_w, i32_w]
                         rfl
                        refine take_ (i := 7) (N := some 136) (v := ?_) (a' := ?_) (mm [(8, true), (1, false)]) rfl rfl (take_ofW HT_.out HW_.out (by kernel_rfl)) (fun _ _ _ h => h) (Or.inl ⟨by rfl, ?_⟩) hHeld ?_ ?_
                        rotate_left
                        ·
                         rintro w' ⟨s0, s1⟩
                         go_simp
                         with_reducible rfl
                        rotate_left
                        ·
                         simp only [Act.put, za_, zb_, zc_, i64_w, i32_w]
                         rfl
                        refine pure_ (i := 8) (N := some 137) (v := ?_) (a' := ?_) (mm [(9, true)]) rfl rfl (any_of HT_.out (by kernel_rfl)) (fun _ _ _ h => h) (Or.inl ⟨by rfl, ?_⟩) ?_ ?_
                        rotate_left
                        ·
                         intro w'
                         go_simp
                         with_reducible rfl
                        rotate_left
                        ·
                         simp only [Act.put, za_, zb_, zc_, i64_w, i32_w]
                         rfl
                        refine done_ (done_of HT_.out (by kernel_rfl)) ?_
                        try go_wp2
                        go_roundg kj38
                        case measure => have := HJ9.out; have := HK2.out; have := HK3.out; have := HJ38.out; ((try clear hji72 hji72w); omega)
                        case rel => exact ⟨(x11_3), (wrap64 (x13_3 + 1)), (by first | rfl | (simp; done) | (simp [*]; done)), H', ⟨by have := HJ9.out; have := HK2.out; have := HK3.out; have := HJ38.out; ((try clear hji72 hji72w); omega)⟩, ⟨by (with_reducible repeat (first | apply Kd.R_alloc | apply Kd.R_drewN | apply Kd.R_drew)); exact HO_8.out⟩, ⟨by (with_reducible repeat (first | apply Kd.R_alloc | apply Kd.R_drewN | apply Kd.R_drew)); exact HO_9.out⟩, ⟨by (with_reducible repeat (first | apply Kd.S_alloc | apply Kd.S_drewN | apply Kd.S_drew)); exact HO_10.out⟩, ⟨by (with_reducible repeat (first | apply Kd.R_alloc | apply Kd.R_drewN | apply Kd.R_drew)); exact HO_11.out⟩, ⟨by repeat (first | (with_reducible first | exact HB.out | apply below_alloc | apply pw_below_drewN | apply below_drew1) | exact HB.out)⟩⟩
                       ·
                        as_aux_lemma =>
                        rw [if_neg c66] at H
                        have c66b0 : ((rd t516 x12_2) == (rd t516 (rd (rd_L1 t519 x12_2) x13_3))) = false := beq_eq_false_iff_ne.mpr c66
                        have c66b1 : ((rd t516 x12_2) != (rd t516 (rd (rd_L1 t519 x12_2) x13_3))) = true := bne_iff_ne.mpr c66
                        by_cases c69 : 0 ≤ (rd t516 (rd (rd_L1 t519 x12_2) x13_3))
                        ·
                         rw [if_pos c69] at H
                         have c69b0 : decide (0 ≤ (rd t516 (rd (rd_L1 t519 x12_2) x13_3))) = true := decide_eq_true c69
                         clear c69
                         by_cases c70 : (rd t516 (rd (rd_L1 t519 x12_2) x13_3)) < (x11_3.length : Int)
                         ·
                          rw [if_pos c70] at H
                          have c70b0 : decide ((rd t516 (rd (rd_L1 t519 x12_2) x13_3)) < (x11_3.length : Int)) = true := decide_eq_true c70
                          clear c70
                          by_cases c71 : x12_2 < (t513.length : Int)
                          ·
                           rw [if_pos c71] at H
                           have c71b0 : decide (x12_2 < (t513.length : Int)) = true := decide_eq_true c71
                           clear c71
                           obtain ⟨ji72, hji72⟩ : ∃ j_ : Int, (mx (rd x11_3 (rd t516 (rd (rd_L1 t519 x12_2) x13_3))) (wrap64 ((rd t513 x12_2) + 1))) = j_ := ⟨_, rfl⟩
                           replace H : (bywashlaw12_RankRises.l1 kj38 l0 a1 a2 t511 t513 t516 t519 (x11_3.set ((rd t516 (rd (rd_L1 t519 x12_2) x13_3)) : Int).toNat (ji72)) x12_2 (wrap64 (x13_3 + 1))) = some r := by first | (rw [hji72] at H; exact H) | (simp only [hji72] at H ⊢; exact H)
                           have hji72_ : (if (rd x11_3 (rd t516 (rd (rd_L1 t519 x12_2) x13_3))) < (wrap64 ((rd t513 x12_2) + 1)) then (wrap64 ((rd t513 x12_2) + 1)) else (rd x11_3 (rd t516 (rd (rd_L1 t519 x12_2) x13_3)))) = ji72 := hji72
                           obtain ⟨y549, hy549⟩ : ∃ y_ : List Int, y_ = (x11_3.set ((rd t516 (rd (rd_L1 t519 x12_2) x13_3)) : Int).toNat (ji72)) := ⟨_, rfl⟩
                           replace H : (bywashlaw12_RankRises.l1 kj38 l0 a1 a2 t511 t513 t516 t519 y549 x12_2 (wrap64 (x13_3 + 1))) = some r := by first | (rw [hy549]; with_reducible exact H) | (have H2_ := (Option.bind_some _ _).symm.trans H; rw [hy549]; with_reducible exact H2_) | (have H2_ := (Option.bind_some _ _).symm.trans H; with_reducible exact H2_) | with_reducible exact H | (rw [hy549]; exact H) | exact H
                           have Ny549 := Aside0.mk hy549
                           clear hy549
                           have H' := Aside0.mk H
                           clear H
                           try go_wp2
                           have n0_ := Aside0.mk (Kd.R_drew HO_8.out)
                           have n1_ := Aside0.mk (Kd.R_drew HO_9.out)
                           have n2_ := Aside0.mk (Kd.S_drew HO_10.out)
                           have n3_ := Aside0.mk (Kd.R_drew HO_11.out)
                           have n4_ := Aside0.mk (Kd.C_drew HR526_0.out)
                           have n5_ := Aside0.mk (Kd.C_drew HR527_0.out)
                           have n6_ := Aside0.mk (below_drew1 HB.out)
                           clear HO_8 HO_9 HO_10 HO_11 HR526_0 HR527_0 HB
                           have HO_8 := n0_
                           have HO_9 := n1_
                           have HO_10 := n2_
                           have HO_11 := n3_
                           have HR526_0 := n4_
                           have HR527_0 := n5_
                           have HB := n6_
                           clear n0_ n1_ n2_ n3_ n4_ n5_ n6_
                           obtain ⟨Ao75, co75, eo75⟩ := Kd.R_slice HO_9.out
                           (first | subst eo75 | (injection eo75 with f1_ f2_ f3_; have f4_ := f1_.symm; have f5_ := f3_.symm; clear f1_ f2_ f3_; subst f4_; subst f5_))
                           have p543 : 0 ≤ (x12_2 : Int) := of_decide_eq_true (by first | (with_reducible assumption) | assumption)
                           have q543 : x12_2 < (t516.length : Int) := of_decide_eq_true (by first | (with_reducible assumption) | assumption)
                           obtain ⟨ad543, e543, hx543_0⟩ := Kd.at_int (Kd.R_reads' HO_9.out).2.2 x12_2 p543 q543
                           cases e543
                           replace p543 := eq_true p543
                           replace q543 := eq_true q543
                           have p544 : 0 ≤ ((rd (rd_L1 t519 x12_2) x13_3) : Int) := of_decide_eq_true (by first | (with_reducible assumption) | assumption)
                           have q544 : (rd (rd_L1 t519 x12_2) x13_3) < (t516.length : Int) := of_decide_eq_true (by first | (with_reducible assumption) | assumption)
                           obtain ⟨ad544, e544, hx544_0⟩ := Kd.at_int (Kd.R_reads' HO_9.out).2.2 (rd (rd_L1 t519 x12_2) x13_3) p544 q544
                           obtain rfl : ad543 = ad544 := (by injection e544)
                           replace p544 := eq_true p544
                           replace q544 := eq_true q544
                           refine start_ (n := 9) (S := fun w' => w'.cell? (ad543.add (x12_2).toNat) = some (.int .i64 (rd t516 x12_2)) ∧ w'.cell? (ad543.add ((rd (rd_L1 t519 x12_2) x13_3)).toNat) = some (.int .i64 (rd t516 (rd (rd_L1 t519 x12_2) x13_3)))) (ds := []) (mm [(9, false)]) (by kernel_rfl) rfl rfl ⟨hx543_0, hx544_0⟩ (fun hHeld => ?_); refine with_tabW bywashlaw12_RankRises.tab19 bywashlaw12_RankRises.bits19 (fun HT_ HW_ => ?_)
                           generalize wc.drew = w74 at HO_8 HO_9 HO_10 HO_11 HR526_0 HR527_0 HB hx543_0 hx544_0 hHeld ⊢
                           refine pure_ (i := 0) (N := some 129) (v := ?_) (a' := ?_) (mm [(1, true), (8, false)]) rfl rfl (any_of HT_.out (by kernel_rfl)) (fun _ _ _ h => h) (Or.inl ⟨by rfl, ?_⟩) ?_ ?_
                           rotate_left
                           ·
                            intro w'
                            go_simp
                            with_reducible rfl
                           rotate_left
                           ·
                            simp only [Act.put, za_, zb_, zc_, i64_w, i32_w]
                            rfl
                           refine pure_ (i := 1) (N := some 130) (v := ?_) (a' := ?_) (mm [(2, true), (7, false)]) rfl rfl (any_of HT_.out (by kernel_rfl)) (fun _ _ _ h => h) (Or.inl ⟨by rfl, ?_⟩) ?_ ?_
                           rotate_left
                           ·
                            intro w'
                            go_simp
                            with_reducible rfl
                           rotate_left
                           ·
                            simp only [Act.put, za_, zb_, zc_, i64_w, i32_w]
                            rfl
                           refine pure_ (i := 2) (N := some 131) (v := ?_) (a' := ?_) (mm [(3, true), (6, false)]) rfl rfl (any_of HT_.out (by kernel_rfl)) (fun _ _ _ h => h) (Or.inl ⟨by rfl, ?_⟩) ?_ ?_
                           rotate_left
                           ·
                            intro w'
                            go_simp
                            with_reducible rfl
                           rotate_left
                           ·
                            simp only [Act.put, za_, zb_, zc_, i64_w, i32_w]
                            rfl
                           refine pure_ (i := 4) (N := some 133) (v := ?_) (a' := ?_) (mm [(3, true), (1, false), (1, true), (4, false)]) rfl rfl (any_of HT_.out (by kernel_rfl)) (fun _ _ _ h => h) (Or.inl ⟨by rfl, ?_⟩) ?_ ?_
                           rotate_left
                           ·
                            intro w'
                            go_simp
                            with_reducible rfl
                           rotate_left
                           ·
                            simp only [Act.put, za_, zb_, zc_, i64_w, i32_w]
                            rfl
                           refine pure_ (i := 5) (N := some 134) (v := ?_) (a' := ?_) (mm [(3, true), (1, false), (2, true), (3, false)]) rfl rfl (any_of HT_.out (by kernel_rfl)) (fun _ _ _ h => h) (Or.inl ⟨by rfl, ?_⟩) ?_ ?_
                           rotate_left
                           ·
                            intro w'
                            go_simp
                            with_reducible rfl
                           rotate_left
                           ·
                            simp only [Act.put, za_, zb_, zc_, i64_w, i32_w]
                            rfl
                           refine pure_ (i := 6) (N := some 135) (v := ?_) (a' := ?_) (mm [(3, true), (1, false), (3, true), (2, false)]) rfl rfl (any_of HT_.out (by kernel_rfl)) (fun _ _ _ h => h) (Or.inl ⟨by rfl, ?_⟩) ?_ ?_
                           rotate_left
                           ·
                            intro w'
                            go_simp
                            with_reducible rfl
                           rotate_left
                           ·
                            simp only [Act.put, za_, zb_, zc_, i64_w, i32_w]
                            rfl
                           refine take_ (i := 3) (N := some 132) (v := ?_) (a' := ?_) (mm [(7, true), (2, false)]) rfl rfl (take_ofW HT_.out HW_.out (by kernel_rfl)) (fun _ _ _ h => h) (Or.inl ⟨by rfl, ?_⟩) hHeld ?_ ?_
                           rotate_left
                           ·
                            rintro w' ⟨s0, s1⟩
                            go_simp
                            with_reducible rfl
                           rotate_left
                           ·
                            simp only [Act.put, za_, zb_, zc_, i64_w, i32_w]
                            rfl
                           refine take_ (i := 7) (N := some 136) (v := ?_) (a' := ?_) (mm [(8, true), (1, false)]) rfl rfl (take_ofW HT_.out HW_.out (by kernel_rfl)) (fun _ _ _ h => h) (Or.inl ⟨by rfl, ?_⟩) hHeld ?_ ?_
                           rotate_left
                           ·
                            rintro w' ⟨s0, s1⟩
                            go_simp
                            with_reducible rfl
                           rotate_left
                           ·
                            simp only [Act.put, za_, zb_, zc_, i64_w, i32_w]
                            rfl
                           refine pure_ (i := 8) (N := some 137) (v := ?_) (a' := ?_) (mm [(9, true)]) rfl rfl (any_of HT_.out (by kernel_rfl)) (fun _ _ _ h => h) (Or.inl ⟨by rfl, ?_⟩) ?_ ?_
                           rotate_left
                           ·
                            intro w'
                            go_simp
                            with_reducible rfl
                           rotate_left
                           ·
                            simp only [Act.put, za_, zb_, zc_, i64_w, i32_w]
                            rfl
                           refine done_ (done_of HT_.out (by kernel_rfl)) ?_
                           try go_wp2
                           have n0_ := Aside0.mk (Kd.R_drew HO_8.out)
                           have n1_ := Aside0.mk (Kd.R_drew HO_9.out)
                           have n2_ := Aside0.mk (Kd.S_drew HO_10.out)
                           have n3_ := Aside0.mk (Kd.R_drew HO_11.out)
                           have n4_ := Aside0.mk (Kd.C_drew HR526_0.out)
                           have n5_ := Aside0.mk (Kd.C_drew HR527_0.out)
                           have n6_ := Aside0.mk (below_drew1 HB.out)
                           clear HO_8 HO_9 HO_10 HO_11 HR526_0 HR527_0 HB
                           have HO_8 := n0_
                           have HO_9 := n1_
                           have HO_10 := n2_
                           have HO_11 := n3_
                           have HR526_0 := n4_
                           have HR527_0 := n5_
                           have HB := n6_
                           clear n0_ n1_ n2_ n3_ n4_ n5_ n6_
                           have p545 : 0 ≤ ((rd (rd_L1 t519 x12_2) x13_3) : Int) := of_decide_eq_true (by first | (with_reducible assumption) | assumption)
                           have q545 : (rd (rd_L1 t519 x12_2) x13_3) < (t516.length : Int) := of_decide_eq_true (by first | (with_reducible assumption) | assumption)
                           obtain ⟨ad545, e545, hx545_0⟩ := Kd.at_int (Kd.R_reads' HO_9.out).2.2 (rd (rd_L1 t519 x12_2) x13_3) p545 q545
                           obtain rfl : ad543 = ad545 := (by injection e545)
                           replace p545 := eq_true p545
                           replace q545 := eq_true q545
                           have p546 : 0 ≤ ((rd (rd_L1 t519 x12_2) x13_3) : Int) := of_decide_eq_true (by first | (with_reducible assumption) | assumption)
                           have q546 : (rd (rd_L1 t519 x12_2) x13_3) < (t516.length : Int) := of_decide_eq_true (by first | (with_reducible assumption) | assumption)
                           obtain ⟨ad546, e546, hx546_0⟩ := Kd.at_int (Kd.R_reads' HO_9.out).2.2 (rd (rd_L1 t519 x12_2) x13_3) p546 q546
                           obtain rfl : ad543 = ad546 := (by injection e546)
                           replace p546 := eq_true p546
                           replace q546 := eq_true q546
                           obtain ⟨Ao77, co77, eo77⟩ := Kd.R_slice HO_11.out
                           (first | subst eo77 | (injection eo77 with f1_ f2_ f3_; have f4_ := f1_.symm; have f5_ := f3_.symm; clear f1_ f2_ f3_; subst f4_; subst f5_))
                           have p547 : 0 ≤ ((rd t516 (rd (rd_L1 t519 x12_2) x13_3)) : Int) := of_decide_eq_true (by first | (with_reducible assumption) | assumption)
                           have q547 : (rd t516 (rd (rd_L1 t519 x12_2) x13_3)) < (x11_3.length : Int) := of_decide_eq_true (by first | (with_reducible assumption) | assumption)
                           obtain ⟨ad547, e547, hx547_0⟩ := Kd.at_int (Kd.R_reads' HO_11.out).2.2 (rd t516 (rd (rd_L1 t519 x12_2) x13_3)) p547 q547
                           cases e547
                           replace p547 := eq_true p547
                           replace q547 := eq_true q547
                           obtain ⟨Ao78, co78, eo78⟩ := Kd.R_slice HO_8.out
                           (first | subst eo78 | (injection eo78 with f1_ f2_ f3_; have f4_ := f1_.symm; have f5_ := f3_.symm; clear f1_ f2_ f3_; subst f4_; subst f5_))
                           have p548 : 0 ≤ (x12_2 : Int) := of_decide_eq_true (by first | (with_reducible assumption) | assumption)
                           have q548 : x12_2 < (t513.length : Int) := of_decide_eq_true (by first | (with_reducible assumption) | assumption)
                           obtain ⟨ad548, e548, hx548_0⟩ := Kd.at_int (Kd.R_reads' HO_8.out).2.2 x12_2 p548 q548
                           cases e548
                           replace p548 := eq_true p548
                           replace q548 := eq_true q548
                           have p73 : 0 ≤ ((rd t516 (rd (rd_L1 t519 x12_2) x13_3)) : Int) := of_decide_eq_true (by first | (with_reducible assumption) | assumption)
                           have q73 : ((rd t516 (rd (rd_L1 t519 x12_2) x13_3)) : Int) < ((x11_3.length : Int) : Int) := of_decide_eq_true (by first | (with_reducible assumption) | assumption)
                           obtain ⟨go73, co73, eo73, gb73, gl73, cl73, HG73⟩ := Kd.R_form HO_11.out (by ((try clear hji72 hji72w); omega))
                           (first | cases eo73 | (injection eo73 with ea_ en_ ec_; (first | subst ea_ | (injection ea_ with ea_; subst ea_)); subst ec_; clear en_))
                           have GB73 := Aside0.mk gb73
                           have GG73 := Aside0.mk HG73
                           clear gb73 gl73 HG73
                           (first | simp only [add_plain] at hx547_0 | skip)
                           obtain ⟨hx73_0, hf73_0⟩ := Kd.R_celln 0 HO_11.out ((rd t516 (rd (rd_L1 t519 x12_2) x13_3)) : Int) p73 q73
                           replace p73 := eq_true p73
                           replace q73 := eq_true q73
                           have HP79 := Kd.R_putn HO_11.out ((rd t516 (rd (rd_L1 t519 x12_2) x13_3)) : Int) ji72
                           rw [← Ny549.out] at HP79
                           have HQ79 := Aside0.mk HP79
                           clear HP79
                           refine start_ (n := 20) (S := fun w' => w'.cell? (ad543.add ((rd (rd_L1 t519 x12_2) x13_3)).toNat) = some (.int .i64 (rd t516 (rd (rd_L1 t519 x12_2) x13_3))) ∧ w'.cell? (ad543.add ((rd (rd_L1 t519 x12_2) x13_3)).toNat) = some (.int .i64 (rd t516 (rd (rd_L1 t519 x12_2) x13_3))) ∧ w'.cell? ⟨go73, ((rd t516 (rd (rd_L1 t519 x12_2) x13_3))).toNat, none⟩ = some (.int .i64 (rd x11_3 (rd t516 (rd (rd_L1 t519 x12_2) x13_3)))) ∧ w'.cell? (ad548.add (x12_2).toNat) = some (.int .i64 (rd t513 x12_2))) (ds := [19]) (mm [(20, false)]) (by kernel_rfl) rfl rfl ⟨hx545_0, hx546_0, hx547_0, hx548_0⟩ (fun hHeld => ?_); refine with_tabW bywashlaw12_RankRises.tab20 bywashlaw12_RankRises.bits20 (fun HT_ HW_ => ?_)
                           generalize w74.drew = w76 at HO_8 HO_9 HO_10 HO_11 HR526_0 HR527_0 HB GG73 HQ79 hf73_0 hx545_0 hx546_0 hx547_0 hx548_0 hx73_0 hHeld ⊢
                           refine pure_ (i := 0) (N := some 138) (v := ?_) (a' := ?_) (mm [(1, true), (19, false)]) rfl rfl (any_of HT_.out (by kernel_rfl)) (fun _ _ _ h => h) (Or.inl ⟨by rfl, ?_⟩) ?_ ?_
                           rotate_left
                           ·
                            intro w'
                            go_simp
                            with_reducible rfl
                           rotate_left
                           ·
                            simp only [Act.put, za_, zb_, zc_, i64_w, i32_w]
                            rfl
                           refine pure_ (i := 1) (N := some 139) (v := ?_) (a' := ?_) (mm [(2, true), (18, false)]) rfl rfl (any_of HT_.out (by kernel_rfl)) (fun _ _ _ h => h) (Or.inl ⟨by rfl, ?_⟩) ?_ ?_
                           rotate_left
                           ·
                            intro w'
                            go_simp
                            with_reducible rfl
                           rotate_left
                           ·
                            simp only [Act.put, za_, zb_, zc_, i64_w, i32_w]
                            rfl
                           refine pure_ (i := 2) (N := some 140) (v := ?_) (a' := ?_) (mm [(3, true), (17, false)]) rfl rfl (any_of HT_.out (by kernel_rfl)) (fun _ _ _ h => h) (Or.inl ⟨by rfl, ?_⟩) ?_ ?_
                           rotate_left
                           ·
                            intro w'
                            go_simp
                            with_reducible rfl
                           rotate_left
                           ·
                            simp only [Act.put, za_, zb_, zc_, i64_w, i32_w]
                            rfl
                           refine pure_ (i := 3) (N := some 141) (v := ?_) (a' := ?_) (mm [(4, true), (16, false)]) rfl rfl (any_of HT_.out (by kernel_rfl)) (fun _ _ _ h => h) (Or.inl ⟨by rfl, ?_⟩) ?_ ?_
                           rotate_left
                           ·
                            intro w'
                            go_simp
                            with_reducible rfl
                           rotate_left
                           ·
                            simp only [Act.put, za_, zb_, zc_, i64_w, i32_w]
                            rfl
                           refine pure_ (i := 5) (N := some 143) (v := ?_) (a' := ?_) (mm [(4, true), (1, false), (1, true), (14, false)]) rfl rfl (any_of HT_.out (by kernel_rfl)) (fun _ _ _ h => h) (Or.inl ⟨by rfl, ?_⟩) ?_ ?_
                           rotate_left
                           ·
                            intro w'
                            go_simp
                            with_reducible rfl
                           rotate_left
                           ·
                            simp only [Act.put, za_, zb_, zc_, i64_w, i32_w]
                            rfl
                           refine pure_ (i := 6) (N := some 144) (v := ?_) (a' := ?_) (mm [(4, true), (1, false), (2, true), (13, false)]) rfl rfl (any_of HT_.out (by kernel_rfl)) (fun _ _ _ h => h) (Or.inl ⟨by rfl, ?_⟩) ?_ ?_
                           rotate_left
                           ·
                            intro w'
                            go_simp
                            with_reducible rfl
                           rotate_left
                           ·
                            simp only [Act.put, za_, zb_, zc_, i64_w, i32_w]
                            rfl
                           refine pure_ (i := 7) (N := some 145) (v := ?_) (a' := ?_) (mm [(4, true), (1, false), (3, true), (12, false)]) rfl rfl (any_of HT_.out (by kernel_rfl)) (fun _ _ _ h => h) (Or.inl ⟨by rfl, ?_⟩) ?_ ?_
                           rotate_left
                           ·
                            intro w'
                            go_simp
                            with_reducible rfl
                           rotate_left
                           ·
                            simp only [Act.put, za_, zb_, zc_, i64_w, i32_w]
                            rfl
                           refine pure_ (i := 8) (N := some 146) (v := ?_) (a' := ?_) (mm [(4, true), (1, false), (4, true), (11, false)]) rfl rfl (any_of HT_.out (by kernel_rfl)) (fun _ _ _ h => h) (Or.inl ⟨by rfl, ?_⟩) ?_ ?_
                           rotate_left
                           ·
                            intro w'
                            go_simp
                            with_reducible rfl
                           rotate_left
                           ·
                            simp only [Act.put, za_, zb_, zc_, i64_w, i32_w]
                            rfl
                           refine pure_ (i := 12) (N := some 150) (v := ?_) (a' := ?_) (mm [(4, true), (1, false), (4, true), (3, false), (1, true), (7, false)]) rfl rfl (any_of HT_.out (by kernel_rfl)) (fun _ _ _ h => h) (Or.inl ⟨by rfl, ?_⟩) ?_ ?_
                           rotate_left
                           ·
                            intro w'
                            go_simp
                            with_reducible rfl
                           rotate_left
                           ·
                            simp only [Act.put, za_, zb_, zc_, i64_w, i32_w]
                            rfl
                           refine pure_ (i := 13) (N := some 151) (v := ?_) (a' := ?_) (mm [(4, true), (1, false), (4, true), (3, false), (2, true), (6, false)]) rfl rfl (any_of HT_.out (by kernel_rfl)) (fun _ _ _ h => h) (Or.inl ⟨by rfl, ?_⟩) ?_ ?_
                           rotate_left
                           ·
                            intro w'
                            go_simp
                            with_reducible rfl
                           rotate_left
                           ·
                            simp only [Act.put, za_, zb_, zc_, i64_w, i32_w]
                            rfl
                           refine pure_ (i := 14) (N := some 152) (v := ?_) (a' := ?_) (mm [(4, true), (1, false), (4, true), (3, false), (3, true), (5, false)]) rfl rfl (any_of HT_.out (by kernel_rfl)) (fun _ _ _ h => h) (Or.inl ⟨by rfl, ?_⟩) ?_ ?_
                           rotate_left
                           ·
                            intro w'
                            go_simp
                            with_reducible rfl
                           rotate_left
                           ·
                            simp only [Act.put, za_, zb_, zc_, i64_w, i32_w]
                            rfl
                           refine take_ (i := 4) (N := some 142) (v := ?_) (a' := ?_) (mm [(9, true), (3, false), (3, true), (5, false)]) rfl rfl (take_ofW HT_.out HW_.out (by kernel_rfl)) (fun _ _ _ h => h) (Or.inl ⟨by rfl, ?_⟩) hHeld ?_ ?_
                           rotate_left
                           ·
                            rintro w' ⟨s0, s1, s2, s3⟩
                            go_simp
                            with_reducible rfl
                           rotate_left
                           ·
                            simp only [Act.put, za_, zb_, zc_, i64_w, i32_w]
                            rfl
                           refine take_ (i := 9) (N := some 147) (v := ?_) (a' := ?_) (mm [(10, true), (2, false), (3, true), (5, false)]) rfl rfl (take_ofW HT_.out HW_.out (by kernel_rfl)) (fun _ _ _ h => h) (Or.inl ⟨by rfl, ?_⟩) hHeld ?_ ?_
                           rotate_left
                           ·
                            rintro w' ⟨s0, s1, s2, s3⟩
                            go_simp
                            with_reducible rfl
                           rotate_left
                           ·
                            simp only [Act.put, za_, zb_, zc_, i64_w, i32_w]
                            rfl
                           refine pure_ (i := 10) (N := some 148) (v := ?_) (a' := ?_) (mm [(11, true), (1, false), (3, true), (5, false)]) rfl rfl (any_of HT_.out (by kernel_rfl)) (fun _ _ _ h => h) (Or.inl ⟨by rfl, ?_⟩) ?_ ?_
                           rotate_left
                           ·
                            intro w'
                            go_simp
                            with_reducible rfl
                           rotate_left
                           ·
                            simp only [Act.put, za_, zb_, zc_, i64_w, i32_w]
                            rfl
                           refine take_ (i := 11) (N := some 149) (v := ?_) (a' := ?_) (mm [(15, true), (5, false)]) rfl rfl (take_ofW HT_.out HW_.out (by kernel_rfl)) (fun _ _ _ h => h) (Or.inl ⟨by rfl, ?_⟩) hHeld ?_ ?_
                           rotate_left
                           ·
                            rintro w' ⟨s0, s1, s2, s3⟩
                            go_simp
                            with_reducible rfl
                           rotate_left
                           ·
                            simp only [Act.put, za_, zb_, zc_, i64_w, i32_w]
                            rfl
                           refine take_ (i := 15) (N := some 153) (v := ?_) (a' := ?_) (mm [(16, true), (4, false)]) rfl rfl (take_ofW HT_.out HW_.out (by kernel_rfl)) (fun _ _ _ h => h) (Or.inl ⟨by rfl, ?_⟩) hHeld ?_ ?_
                           rotate_left
                           ·
                            rintro w' ⟨s0, s1, s2, s3⟩
                            go_simp
                            with_reducible rfl
                           rotate_left
                           ·
                            simp only [Act.put, za_, zb_, zc_, i64_w, i32_w]
                            rfl
                           refine pure_ (i := 16) (N := some 154) (v := ?_) (a' := ?_) (mm [(17, true), (3, false)]) rfl rfl (any_of HT_.out (by kernel_rfl)) (fun _ _ _ h => h) (Or.inl ⟨by rfl, ?_⟩) ?_ ?_
                           rotate_left
                           ·
                            intro w'
                            go_simp
                            with_reducible rfl
                           rotate_left
                           ·
                            simp only [Act.put, za_, zb_, zc_, i64_w, i32_w]
                            rfl
                           refine pure_ (i := 17) (N := some 155) (v := ?_) (a' := ?_) (mm [(18, true), (2, false)]) rfl rfl (any_of HT_.out (by kernel_rfl)) (fun _ _ _ h => h) (Or.inl ⟨by rfl, ?_⟩) ?_ ?_
                           rotate_left
                           ·
                            intro w'
                            go_simp
                            with_reducible rfl
                           rotate_left
                           ·
                            simp only [Act.put, za_, zb_, zc_, i64_w, i32_w]
                            rfl
                           refine pure_ (i := 18) (N := some 156) (v := ?_) (a' := ?_) (mm [(19, true), (1, false)]) rfl rfl (any_of HT_.out (by kernel_rfl)) (fun _ _ _ h => h) (Or.inl ⟨by rfl, ?_⟩) ?_ ?_
                           rotate_left
                           ·
                            intro w'
                            go_simp
                            with_reducible rfl
                           rotate_left
                           ·
                            simp only [Act.put, za_, zb_, zc_, i64_w, i32_w]
                            rfl
                           refine last_ (i := 19) (N := none) (mm [(20, true)]) rfl rfl (one_of HT_.out (by kernel_rfl)) (by decide) (fun K hK => ?_)
                           refine skip_ (w1 := ?_) (by rfl) rfl ?_ ?_
                           rotate_left
                           ·
                            go_simp
                            rfl
                           refine hK.out _ _ ?_
                           clear hK K
                           refine done_ (done_of HT_.out (by kernel_rfl)) ?_
                           try go_wp2
                           go_roundg kj38
                           case measure => have := HJ9.out; have := HK2.out; have := HK3.out; have := HJ38.out; ((try clear hji72 hji72w); omega)
                           case rel => exact ⟨(y549), (wrap64 (x13_3 + 1)), (by first | rfl | (simp; done) | (simp [*]; done)), H', ⟨by have := HJ9.out; have := HK2.out; have := HK3.out; have := HJ38.out; ((try clear hji72 hji72w); omega)⟩, ⟨by (with_reducible repeat (first | apply Kd.R_alloc | apply Kd.R_drewN | apply Kd.R_drew)); exact Kd.R_mono (Kd.R_far (p := ⟨go73, ((rd t516 (rd (rd_L1 t519 x12_2) x13_3)) : Int).toNat, none⟩) (Kd.R_mono HO_8.out (fun k_ hk => (⟨hk, fun e_ => hk.2 (by rw [e_]; rfl)⟩ : _ ∧ k_ ≠ go73))) (fun _ hk => hk.2) (.int .i64 ji72)) (fun _ hk => ⟨hk.1.1, hk.1.2⟩)⟩, ⟨by (with_reducible repeat (first | apply Kd.R_alloc | apply Kd.R_drewN | apply Kd.R_drew)); exact Kd.R_mono (Kd.R_far (p := ⟨go73, ((rd t516 (rd (rd_L1 t519 x12_2) x13_3)) : Int).toNat, none⟩) (Kd.R_mono HO_9.out (fun k_ hk => (⟨hk, fun e_ => hk.2 (by rw [e_]; rfl)⟩ : _ ∧ k_ ≠ go73))) (fun _ hk => hk.2) (.int .i64 ji72)) (fun _ hk => ⟨hk.1.1, hk.1.2⟩)⟩, ⟨by (with_reducible repeat (first | apply Kd.S_alloc | apply Kd.S_drewN | apply Kd.S_drew)); exact Kd.S_mono (Kd.S_far (p := ⟨go73, ((rd t516 (rd (rd_L1 t519 x12_2) x13_3)) : Int).toNat, none⟩) (Kd.S_mono HO_10.out (fun k_ hk => (⟨hk, fun e_ => hk.2.2 (by rw [e_]; rfl)⟩ : _ ∧ k_ ≠ go73))) (fun _ hk => hk.2) (.int .i64 ji72)) (fun _ hk => ⟨hk.1.1, ⟨hk.1.2.1, hk.1.2.2⟩⟩)⟩, ⟨by (with_reducible repeat (first | apply Kd.R_alloc | apply Kd.R_drewN | apply Kd.R_drew)); exact HQ79.out⟩, ⟨by repeat (first | (with_reducible first | exact HB.out | apply below_alloc | apply pw_below_drewN | apply below_drew1 | refine below_set ?_ GB73.out) | exact HB.out)⟩⟩
                          ·
                           rw [if_neg c71] at H
                           exact absurd H (by simp)
                         ·
                          rw [if_neg c70] at H
                          exact absurd H (by simp)
                        ·
                         rw [if_neg c69] at H
                         exact absurd H (by simp)
                      ·
                       rw [if_neg c65] at H
                       exact absurd H (by simp)
                     ·
                      rw [if_neg c64] at H
                      exact absurd H (by simp)
                    ·
                     rw [if_neg c63] at H
                     exact absurd H (by simp)
                   ·
                    rw [if_neg c62] at H
                    exact absurd H (by simp)
               ·
                rw [if_neg c38] at H
                exact absurd H (by simp)
              ·
               rw [if_neg c37] at H
               have c37b0 : decide (x13_3 < ((rd_L1 t519 x12_2).length : Int)) = false := decide_eq_false c37
               clear c37
               have H' := Aside0.mk H
               clear H
               obtain ⟨Ao80, co80, eo80⟩ := Kd.S_slice HO_10.out
               subst eo80
               have p526 : 0 ≤ (x12_2 : Int) := of_decide_eq_true (by first | (with_reducible assumption) | assumption)
               have q526 : x12_2 < (t519.length : Int) := of_decide_eq_true (by first | (with_reducible assumption) | assumption)
               obtain ⟨ad526, A526_0, c526_0, e526, hx526_0, hl526_0, hi526_0⟩ := at_L1 (Kd.S_reads' HO_10.out).2.2 x12_2 p526 q526
               cases e526
               obtain ⟨ce526, hce526, hMe526, hcc526⟩ := Kd.S_get HO_10.out [] x12_2 p526 (by first | exact q526 | exact of_decide_eq_true (by first | (with_reducible assumption) | assumption) | (have e_ := (Kd.S_reads' HO_10.out).1; ((try clear hji72 hji72w); omega)))
               obtain ⟨ve526_0, rfl, ge526_0⟩ := hMe526
               have hv526_0 := hcc526 0 _ rfl
               rw [Nat.add_zero, show ((Kd.slice 3 (Kd.int .i64))).sz = 1 from rfl, Nat.mul_one] at hv526_0
               replace hv526_0 := Option.some.inj (hv526_0.symm.trans hx526_0)
               rw [hv526_0] at ge526_0
               have HL526_0 := Aside0.mk (show Kd.R (Kd.int .i64) 3 _ _ _ _ (rd_L1 t519 x12_2) from ge526_0)
               clear hv526_0 ge526_0
               clear hcc526 hce526
               have HR526_0 := Aside0.mk hi526_0
               have HC526_0 := Aside0.mk hl526_0
               clear hi526_0 hl526_0
               replace p526 := eq_true p526
               replace q526 := eq_true q526
               go_wp2
               go_roundg k3
               case measure => have := HJ9.out; have := HK2.out; have := HK3.out; ((try clear hji72 hji72w); omega)
               case rel => exact ⟨(x11_3), (wrap64 (x12_2 + 1)), (by first | rfl | (simp; done) | (simp [*]; done)), H', ⟨by have := HJ9.out; have := HK2.out; have := HK3.out; ((try clear hji72 hji72w); omega)⟩, ⟨by (with_reducible repeat (first | apply Kd.R_alloc | apply Kd.R_drewN | apply Kd.R_drew)); exact HO_8.out⟩, ⟨by (with_reducible repeat (first | apply Kd.R_alloc | apply Kd.R_drewN | apply Kd.R_drew)); exact HO_9.out⟩, ⟨by (with_reducible repeat (first | apply Kd.S_alloc | apply Kd.S_drewN | apply Kd.S_drew)); exact HO_10.out⟩, ⟨by (with_reducible repeat (first | apply Kd.R_alloc | apply Kd.R_drewN | apply Kd.R_drew)); exact HO_11.out⟩, ⟨by repeat (first | (with_reducible first | exact HB.out | apply below_alloc | apply pw_below_drewN | apply below_drew1) | exact HB.out)⟩⟩
             ·
              rw [if_neg c36] at H
              exact absurd H (by simp)
            ·
             rw [if_neg c35] at H
             exact absurd H (by simp)
         ·
          as_aux_lemma =>
          rw [if_neg c34] at H
          have c34b0 : decide (x12_2 < (l0.length : Int)) = false := decide_eq_false c34
          clear c34
          have H' := Aside0.mk H
          clear H
          go_wp2
          go_loopg [15] k2 (fun kq v15 w' => ∃ (x15_3 : Int), v15 = .int .i64 x15_3 ∧ Aside0 (bywashlaw12_RankRises.l2 kq l0 a1 a2 t511 t513 t516 x11_2 x15_3 = some r) ∧ Aside0 (kq ≤ k2) ∧ Aside0 (Kd.R (Kd.int .i64) 3 w' w.heap.size (fun k_ => some k_ ≠ (v517 : Value).ownBlock ∧ some k_ ≠ (v524 : Value).ownBlock) v514 t513) ∧ Aside0 (Kd.R (Kd.int .i64) 3 w' w.heap.size (fun k_ => some k_ ≠ (v514 : Value).ownBlock ∧ some k_ ≠ (v524 : Value).ownBlock) v517 t516) ∧ Aside0 (Kd.R (Kd.int .i64) 3 w' w.heap.size (fun k_ => some k_ ≠ (v514 : Value).ownBlock ∧ some k_ ≠ (v517 : Value).ownBlock) v524 x11_2) ∧ Aside0 (Below w.heap.size w w'))
          case atStart => exact ⟨(0), (by first | rfl | (simp; done) | (simp [*]; done)), H', ⟨Nat.le_refl _⟩, ⟨by (with_reducible repeat (first | apply Kd.R_alloc | apply Kd.R_drewN | apply Kd.R_drew)); exact HO_8.out⟩, ⟨by (with_reducible repeat (first | apply Kd.R_alloc | apply Kd.R_drewN | apply Kd.R_drew)); exact HO_9.out⟩, ⟨by (with_reducible repeat (first | apply Kd.R_alloc | apply Kd.R_drewN | apply Kd.R_drew)); exact HO_11.out⟩, ⟨by repeat (first | (with_reducible first | exact HB.out | apply below_alloc | apply pw_below_drewN | apply below_drew1) | exact HB.out)⟩⟩
          case round => as_aux_lemma =>
           clear H'
           try clear p2
           try clear c3
           try clear c5
           try clear p5
           try clear q5
           try clear hx5
           try clear c6
           try clear p6
           try clear c7
           try clear p7
           try clear q7
           try clear hx7
           try clear hf7
           try clear c34
           try clear c34b0
           try clear c35
           try clear c36
           try clear c37
           try clear c37b0
           try clear c38
           try clear c52
           try clear p52
           try clear q52
           try clear hx52
           try clear q53
           try clear p54
           try clear q54
           try clear hx54
           try clear c61
           try clear c62
           try clear c62b0
           try clear c63
           try clear c63b0
           try clear c64
           try clear c64b0
           try clear p64
           try clear c65
           try clear c65b0
           try clear c66
           try clear c66b0
           try clear c66b1
           try clear c69
           try clear c69b0
           try clear c70
           try clear c70b0
           try clear c71
           try clear c71b0
           try clear p73
           try clear q73
           try clear hx73
           try clear hf73
           try clear hx526_0
           try clear hx543_0
           try clear hx544_0
           try clear hx545_0
           try clear hx546_0
           try clear hx547_0
           try clear hx548_0
           try clear hx73_0
           try clear p526
           try clear p540
           try clear p541
           try clear p542
           try clear p543
           try clear p544
           try clear p545
           try clear p546
           try clear p547
           try clear p548
           try clear p73
           try clear q526
           try clear q529
           try clear q530
           try clear q531
           try clear q532
           try clear q539
           try clear q540
           try clear q541
           try clear q542
           try clear q543
           try clear q544
           try clear q545
           try clear q546
           try clear q547
           try clear q548
           try clear q73
           obtain ⟨x15_3, rfl, HA, HK3, HO_8, HO_9, HO_11, HB⟩ := hrel
           cases gk with
           | zero => exact absurd HA.out (by simp [bywashlaw12_RankRises.l2])
           | succ k3 =>
            have H := HA.out
            clear HA
            simp only [bywashlaw12_RankRises.l2] at H
            by_cases c81 : x15_3 < (l0.length : Int)
            ·
             as_aux_lemma =>
             rw [if_pos c81] at H
             have c81b0 : decide (x15_3 < (l0.length : Int)) = true := decide_eq_true c81
             clear c81
             by_cases c82 : 0 ≤ x15_3
             ·
              rw [if_pos c82] at H
              have c82b0 : decide (0 ≤ x15_3) = true := decide_eq_true c82
              clear c82
              by_cases c83 : x15_3 < (t513.length : Int)
              ·
               rw [if_pos c83] at H
               have c83b0 : decide (x15_3 < (t513.length : Int)) = true := decide_eq_true c83
               clear c83
               by_cases c84 : x15_3 < (t516.length : Int)
               ·
                rw [if_pos c84] at H
                have c84b0 : decide (x15_3 < (t516.length : Int)) = true := decide_eq_true c84
                clear c84
                by_cases c85 : 0 ≤ (rd t516 x15_3)
                ·
                 rw [if_pos c85] at H
                 have c85b0 : decide (0 ≤ (rd t516 x15_3)) = true := decide_eq_true c85
                 clear c85
                 by_cases c86 : (rd t516 x15_3) < (x11_2.length : Int)
                 ·
                  rw [if_pos c86] at H
                  have c86b0 : decide ((rd t516 x15_3) < (x11_2.length : Int)) = true := decide_eq_true c86
                  clear c86
                  by_cases c87 : (rd t513 x15_3) = (rd x11_2 (rd t516 x15_3))
                  ·
                   rw [if_pos c87] at H
                   have c87b0 : ((rd t513 x15_3) == (rd x11_2 (rd t516 x15_3))) = true := beq_iff_eq.mpr c87
                   have c87b1 : ((rd t513 x15_3) != (rd x11_2 (rd t516 x15_3))) = false := bne_eq_false_iff_eq.mpr c87
                   clear c87
                   have H' := Aside0.mk H
                   clear H
                   try go_wp2
                   have n0_ := Aside0.mk (Kd.R_drew HO_8.out)
                   have n1_ := Aside0.mk (Kd.R_drew HO_9.out)
                   have n2_ := Aside0.mk (Kd.R_drew HO_11.out)
                   have n3_ := Aside0.mk (below_drew1 HB.out)
                   clear HO_8 HO_9 HO_11 HB
                   have HO_8 := n0_
                   have HO_9 := n1_
                   have HO_11 := n2_
                   have HB := n3_
                   clear n0_ n1_ n2_ n3_
                   obtain ⟨Ao89, co89, eo89⟩ := Kd.R_slice HO_8.out
                   (first | subst eo89 | (injection eo89 with f1_ f2_ f3_; have f4_ := f1_.symm; have f5_ := f3_.symm; clear f1_ f2_ f3_; subst f4_; subst f5_))
                   (try (obtain ⟨Az550, cz550, ez550⟩ := Kd.R_slice HO_8.out; subst ez550))
                   have p550 : 0 ≤ (x15_3 : Int) := of_decide_eq_true (by first | (with_reducible assumption) | assumption)
                   have q550 : x15_3 < (t513.length : Int) := of_decide_eq_true (by first | (with_reducible assumption) | assumption)
                   obtain ⟨ad550, e550, hx550_0⟩ := Kd.at_int (Kd.R_reads' HO_8.out).2.2 x15_3 p550 q550
                   cases e550
                   replace p550 := eq_true p550
                   replace q550 := eq_true q550
                   obtain ⟨Ao90, co90, eo90⟩ := Kd.R_slice HO_9.out
                   (first | subst eo90 | (injection eo90 with f1_ f2_ f3_; have f4_ := f1_.symm; have f5_ := f3_.symm; clear f1_ f2_ f3_; subst f4_; subst f5_))
                   (try (obtain ⟨Az551, cz551, ez551⟩ := Kd.R_slice HO_9.out; subst ez551))
                   have p551 : 0 ≤ (x15_3 : Int) := of_decide_eq_true (by first | (with_reducible assumption) | assumption)
                   have q551 : x15_3 < (t516.length : Int) := of_decide_eq_true (by first | (with_reducible assumption) | assumption)
                   obtain ⟨ad551, e551, hx551_0⟩ := Kd.at_int (Kd.R_reads' HO_9.out).2.2 x15_3 p551 q551
                   cases e551
                   replace p551 := eq_true p551
                   replace q551 := eq_true q551
                   obtain ⟨Ao91, co91, eo91⟩ := Kd.R_slice HO_11.out
                   (first | subst eo91 | (injection eo91 with f1_ f2_ f3_; have f4_ := f1_.symm; have f5_ := f3_.symm; clear f1_ f2_ f3_; subst f4_; subst f5_))
                   (try (obtain ⟨Az552, cz552, ez552⟩ := Kd.R_slice HO_11.out; subst ez552))
                   have p552 : 0 ≤ ((rd t516 x15_3) : Int) := of_decide_eq_true (by first | (with_reducible assumption) | assumption)
                   have q552 : (rd t516 x15_3) < (x11_2.length : Int) := of_decide_eq_true (by first | (with_reducible assumption) | assumption)
                   obtain ⟨ad552, e552, hx552_0⟩ := Kd.at_int (Kd.R_reads' HO_11.out).2.2 (rd t516 x15_3) p552 q552
                   cases e552
                   replace p552 := eq_true p552
                   replace q552 := eq_true q552
                   refine start_ (n := 12) (S := fun w' => w'.cell? (ad550.add (x15_3).toNat) = some (.int .i64 (rd t513 x15_3)) ∧ w'.cell? (ad551.add (x15_3).toNat) = some (.int .i64 (rd t516 x15_3)) ∧ w'.cell? (ad552.add ((rd t516 x15_3)).toNat) = some (.int .i64 (rd x11_2 (rd t516 x15_3)))) (ds := []) (mm [(12, false)]) (by kernel_rfl) rfl rfl ⟨hx550_0, hx551_0, hx552_0⟩ (fun hHeld => ?_); refine with_tabW bywashlaw12_RankRises.tab24 bywashlaw12_RankRises.bits24 (fun HT_ HW_ => ?_)
                   generalize wr.drew = w88 at HO_8 HO_9 HO_11 HB hx550_0 hx551_0 hx552_0 hHeld ⊢
                   refine pure_ (i := 0) (N := some 163) (v := ?_) (a' := ?_) (mm [(1, true), (11, false)]) rfl rfl (any_of HT_.out (by kernel_rfl)) (fun _ _ _ h => h) (Or.inl ⟨by rfl, ?_⟩) ?_ ?_
                   rotate_left
                   ·
                    intro w'
                    go_simp
                    with_reducible rfl
                   rotate_left
                   ·
                    simp only [Act.put, za_, zb_, zc_, i64_w, i32_w]
                    rfl
                   refine pure_ (i := 1) (N := some 164) (v := ?_) (a' := ?_) (mm [(2, true), (10, false)]) rfl rfl (any_of HT_.out (by kernel_rfl)) (fun _ _ _ h => h) (Or.inl ⟨by rfl, ?_⟩) ?_ ?_
                   rotate_left
                   ·
                    intro w'
                    go_simp
                    with_reducible rfl
                   rotate_left
                   ·
                    simp only [Act.put, za_, zb_, zc_, i64_w, i32_w]
                    rfl
                   refine pure_ (i := 2) (N := some 165) (v := ?_) (a' := ?_) (mm [(3, true), (9, false)]) rfl rfl (any_of HT_.out (by kernel_rfl)) (fun _ _ _ h => h) (Or.inl ⟨by rfl, ?_⟩) ?_ ?_
                   rotate_left
                   ·
                    intro w'
                    go_simp
                    with_reducible rfl
                   rotate_left
                   ·
                    simp only [Act.put, za_, zb_, zc_, i64_w, i32_w]
                    rfl
                   refine pure_ (i := 4) (N := some 167) (v := ?_) (a' := ?_) (mm [(3, true), (1, false), (1, true), (7, false)]) rfl rfl (any_of HT_.out (by kernel_rfl)) (fun _ _ _ h => h) (Or.inl ⟨by rfl, ?_⟩) ?_ ?_
                   rotate_left
                   ·
                    intro w'
                    go_simp
                    with_reducible rfl
                   rotate_left
                   ·
                    simp only [Act.put, za_, zb_, zc_, i64_w, i32_w]
                    rfl
                   refine pure_ (i := 5) (N := some 168) (v := ?_) (a' := ?_) (mm [(3, true), (1, false), (2, true), (6, false)]) rfl rfl (any_of HT_.out (by kernel_rfl)) (fun _ _ _ h => h) (Or.inl ⟨by rfl, ?_⟩) ?_ ?_
                   rotate_left
                   ·
                    intro w'
                    go_simp
                    with_reducible rfl
                   rotate_left
                   ·
                    simp only [Act.put, za_, zb_, zc_, i64_w, i32_w]
                    rfl
                   refine pure_ (i := 6) (N := some 169) (v := ?_) (a' := ?_) (mm [(3, true), (1, false), (3, true), (5, false)]) rfl rfl (any_of HT_.out (by kernel_rfl)) (fun _ _ _ h => h) (Or.inl ⟨by rfl, ?_⟩) ?_ ?_
                   rotate_left
                   ·
                    intro w'
                    go_simp
                    with_reducible rfl
                   rotate_left
                   ·
                    simp only [Act.put, za_, zb_, zc_, i64_w, i32_w]
                    rfl
                   refine pure_ (i := 7) (N := some 170) (v := ?_) (a' := ?_) (mm [(3, true), (1, false), (4, true), (4, false)]) rfl rfl (any_of HT_.out (by kernel_rfl)) (fun _ _ _ h => h) (Or.inl ⟨by rfl, ?_⟩) ?_ ?_
                   rotate_left
                   ·
                    intro w'
                    go_simp
                    with_reducible rfl
                   rotate_left
                   ·
                    simp only [Act.put, za_, zb_, zc_, i64_w, i32_w]
                    rfl
                   refine take_ (i := 3) (N := some 166) (v := ?_) (a' := ?_) (mm [(8, true), (4, false)]) rfl rfl (take_ofW HT_.out HW_.out (by kernel_rfl)) (fun _ _ _ h => h) (Or.inl ⟨by rfl, ?_⟩) hHeld ?_ ?_
                   rotate_left
                   ·
                    rintro w' ⟨s0, s1, s2⟩
                    go_simp
                    with_reducible rfl
                   rotate_left
                   ·
                    simp only [Act.put, za_, zb_, zc_, i64_w, i32_w]
                    rfl
                   refine take_ (i := 8) (N := some 171) (v := ?_) (a' := ?_) (mm [(9, true), (3, false)]) rfl rfl (take_ofW HT_.out HW_.out (by kernel_rfl)) (fun _ _ _ h => h) (Or.inl ⟨by rfl, ?_⟩) hHeld ?_ ?_
                   rotate_left
                   ·
                    rintro w' ⟨s0, s1, s2⟩
                    go_simp
                    with_reducible rfl
                   rotate_left
                   ·
                    simp only [Act.put, za_, zb_, zc_, i64_w, i32_w]
                    rfl
                   refine pure_ (i := 9) (N := some 172) (v := ?_) (a' := ?_) (mm [(10, true), (2, false)]) rfl rfl (any_of HT_.out (by kernel_rfl)) (fun _ _ _ h => h) (Or.inl ⟨by rfl, ?_⟩) ?_ ?_
                   rotate_left
                   ·
                    intro w'
                    go_simp
                    with_reducible rfl
                   rotate_left
                   ·
                    simp only [Act.put, za_, zb_, zc_, i64_w, i32_w]
                    rfl
                   refine take_ (i := 10) (N := some 173) (v := ?_) (a' := ?_) (mm [(11, true), (1, false)]) rfl rfl (take_ofW HT_.out HW_.out (by kernel_rfl)) (fun _ _ _ h => h) (Or.inl ⟨by rfl, ?_⟩) hHeld ?_ ?_
                   rotate_left
                   ·
                    rintro w' ⟨s0, s1, s2⟩
                    go_simp
                    with_reducible rfl
                   rotate_left
                   ·
                    simp only [Act.put, za_, zb_, zc_, i64_w, i32_w]
                    rfl
                   refine pure_ (i := 11) (N := some 174) (v := ?_) (a' := ?_) (mm [(12, true)]) rfl rfl (any_of HT_.out (by kernel_rfl)) (fun _ _ _ h => h) (Or.inl ⟨by rfl, ?_⟩) ?_ ?_
                   rotate_left
                   ·
                    intro w'
                    go_simp
                    with_reducible rfl
                   rotate_left
                   ·
                    simp only [Act.put, za_, zb_, zc_, i64_w, i32_w]
                    rfl
                   refine done_ (done_of HT_.out (by kernel_rfl)) ?_
                   try go_wp2
                   go_roundg k3
                   case measure => have := HJ9.out; have := HK2.out; have := HK3.out; ((try clear hji72 hji72w); omega)
                   case rel => exact ⟨(wrap64 (x15_3 + 1)), (by first | rfl | (simp; done) | (simp [*]; done)), H', ⟨by have := HJ9.out; have := HK2.out; have := HK3.out; ((try clear hji72 hji72w); omega)⟩, ⟨by (with_reducible repeat (first | apply Kd.R_alloc | apply Kd.R_drewN | apply Kd.R_drew)); exact HO_8.out⟩, ⟨by (with_reducible repeat (first | apply Kd.R_alloc | apply Kd.R_drewN | apply Kd.R_drew)); exact HO_9.out⟩, ⟨by (with_reducible repeat (first | apply Kd.R_alloc | apply Kd.R_drewN | apply Kd.R_drew)); exact HO_11.out⟩, ⟨by repeat (first | (with_reducible first | exact HB.out | apply below_alloc | apply pw_below_drewN | apply below_drew1) | exact HB.out)⟩⟩
                  ·
                   rw [if_neg c87] at H
                   exact absurd (Option.some.inj H) (by rw [HRT.out]; decide)
                 ·
                  rw [if_neg c86] at H
                  exact absurd H (by simp)
                ·
                 rw [if_neg c85] at H
                 exact absurd H (by simp)
               ·
                rw [if_neg c84] at H
                exact absurd H (by simp)
              ·
               rw [if_neg c83] at H
               exact absurd H (by simp)
             ·
              rw [if_neg c82] at H
              exact absurd H (by simp)
            ·
             as_aux_lemma =>
             rw [if_neg c81] at H
             have c81b0 : decide (x15_3 < (l0.length : Int)) = false := decide_eq_false c81
             clear c81
             by_cases c96 : a1 < 0
             ·
              rw [if_pos c96] at H
              have c96b0 : decide (a1 < 0) = true := decide_eq_true c96
              clear c96
              obtain rfl := Option.some.inj H
              go_wp2
              go_ret
              exact ⟨by first | rfl | (simp [errW_none, errW_some] <;> rfl) | (simp [*, errW_none, errW_some] <;> rfl) | (exfalso; (try simp_all); (try ((try clear hji72 hji72w); omega)); done), by repeat (first | (with_reducible first | exact HB.out | apply below_alloc | apply pw_below_drewN | apply below_drew1) | exact HB.out)⟩
             ·
              rw [if_neg c96] at H
              have c96b0 : decide (a1 < 0) = false := decide_eq_false c96
              clear c96
              by_cases c97 : a1 ≥ (l0.length : Int)
              ·
               rw [if_pos c97] at H
               have c97b0 : decide ((l0.length : Int) ≤ a1) = true := decide_eq_true c97
               clear c97
               obtain rfl := Option.some.inj H
               go_wp2
               go_ret
               exact ⟨by first | rfl | (simp [errW_none, errW_some] <;> rfl) | (simp [*, errW_none, errW_some] <;> rfl) | (exfalso; (try simp_all); (try ((try clear hji72 hji72w); omega)); done), by repeat (first | (with_reducible first | exact HB.out | apply below_alloc | apply pw_below_drewN | apply below_drew1) | exact HB.out)⟩
              ·
               rw [if_neg c97] at H
               have c97b0 : decide ((l0.length : Int) ≤ a1) = false := decide_eq_false c97
               clear c97
               by_cases c98 : a2 < 0
               ·
                rw [if_pos c98] at H
                have c98b0 : decide (a2 < 0) = true := decide_eq_true c98
                clear c98
                obtain rfl := Option.some.inj H
                go_wp2
                go_ret
                exact ⟨by first | rfl | (simp [errW_none, errW_some] <;> rfl) | (simp [*, errW_none, errW_some] <;> rfl) | (exfalso; (try simp_all); (try ((try clear hji72 hji72w); omega)); done), by repeat (first | (with_reducible first | exact HB.out | apply below_alloc | apply pw_below_drewN | apply below_drew1) | exact HB.out)⟩
               ·
                rw [if_neg c98] at H
                have c98b0 : decide (a2 < 0) = false := decide_eq_false c98
                clear c98
                by_cases c99 : a2 ≥ (l0.length : Int)
                ·
                 rw [if_pos c99] at H
                 have c99b0 : decide ((l0.length : Int) ≤ a2) = true := decide_eq_true c99
                 clear c99
                 obtain rfl := Option.some.inj H
                 go_wp2
                 go_ret
                 exact ⟨by first | rfl | (simp [errW_none, errW_some] <;> rfl) | (simp [*, errW_none, errW_some] <;> rfl) | (exfalso; (try simp_all); (try ((try clear hji72 hji72w); omega)); done), by repeat (first | (with_reducible first | exact HB.out | apply below_alloc | apply pw_below_drewN | apply below_drew1) | exact HB.out)⟩
                ·
                 rw [if_neg c99] at H
                 have c99b0 : decide ((l0.length : Int) ≤ a2) = false := decide_eq_false c99
                 clear c99
                 by_cases c100 : t511 = true
                 ·
                  subst c100
                  have H1 : ((graph_Path.f l0 a1 a2).bind fun t553 => (if t553 = true then (if 0 ≤ a1 then (if a1 < (t513.length : Int) then (if 0 ≤ a2 then (if a2 < (t513.length : Int) then (some (decide ((rd t513 a1) ≤ (rd t513 a2)))) else (none)) else (none)) else (none)) else (none)) else (some true))) = some r := by rw [if_pos rfl] at H; exact H
                  clear H
                  have H := H1
                  clear H1
                  replace H := Option.bind_eq_some_iff.mp H
                  obtain ⟨t553, A1010, H⟩ := H
                  replace H : (if t553 = true then (if 0 ≤ a1 then (if a1 < (t513.length : Int) then (if 0 ≤ a2 then (if a2 < (t513.length : Int) then (some (decide ((rd t513 a1) ≤ (rd t513 a2)))) else (none)) else (none)) else (none)) else (none)) else (some true)) = some r := H
                  have A101 := Aside0.mk A1010
                  clear A1010
                  by_cases c102 : t553 = true
                  ·
                   as_aux_lemma =>
                   subst c102
                   have H1 : (if 0 ≤ a1 then (if a1 < (t513.length : Int) then (if 0 ≤ a2 then (if a2 < (t513.length : Int) then (some (decide ((rd t513 a1) ≤ (rd t513 a2)))) else (none)) else (none)) else (none)) else (none)) = some r := by rw [if_pos rfl] at H; exact H
                   clear H
                   have H := H1
                   clear H1
                   by_cases c103 : 0 ≤ a1
                   ·
                    rw [if_pos c103] at H
                    have c103b0 : decide (0 ≤ a1) = true := decide_eq_true c103
                    clear c103
                    by_cases c104 : a1 < (t513.length : Int)
                    ·
                     rw [if_pos c104] at H
                     have c104b0 : decide (a1 < (t513.length : Int)) = true := decide_eq_true c104
                     clear c104
                     by_cases c105 : 0 ≤ a2
                     ·
                      rw [if_pos c105] at H
                      have c105b0 : decide (0 ≤ a2) = true := decide_eq_true c105
                      clear c105
                      by_cases c106 : a2 < (t513.length : Int)
                      ·
                       rw [if_pos c106] at H
                       have c106b0 : decide (a2 < (t513.length : Int)) = true := decide_eq_true c106
                       clear c106
                       obtain rfl := Option.some.inj H
                       try go_wp2
                       have n0_ := Aside0.mk (Kd.R_drew HO_8.out)
                       have n1_ := Aside0.mk (Kd.R_drew HO_9.out)
                       have n2_ := Aside0.mk (Kd.R_drew HO_11.out)
                       have n3_ := Aside0.mk (below_drew1 HB.out)
                       clear HO_8 HO_9 HO_11 HB
                       have HO_8 := n0_
                       have HO_9 := n1_
                       have HO_11 := n2_
                       have HB := n3_
                       clear n0_ n1_ n2_ n3_
                       (try (obtain ⟨Az554, cz554, ez554⟩ := Kd.R_slice HO_8.out; subst ez554))
                       have p554 : 0 ≤ (a1 : Int) := of_decide_eq_true (by first | (with_reducible assumption) | assumption)
                       have q554 : a1 < (t513.length : Int) := of_decide_eq_true (by first | (with_reducible assumption) | assumption)
                       obtain ⟨ad554, e554, hx554_0⟩ := Kd.at_int (Kd.R_reads' HO_8.out).2.2 a1 p554 q554
                       cases e554
                       replace p554 := eq_true p554
                       replace q554 := eq_true q554
                       (try (obtain ⟨Az555, cz555, ez555⟩ := Kd.R_slice HO_8.out; subst ez555))
                       have p555 : 0 ≤ (a2 : Int) := of_decide_eq_true (by first | (with_reducible assumption) | assumption)
                       have q555 : a2 < (t513.length : Int) := of_decide_eq_true (by first | (with_reducible assumption) | assumption)
                       obtain ⟨ad555, e555, hx555_0⟩ := Kd.at_int (Kd.R_reads' HO_8.out).2.2 a2 p555 q555
                       obtain rfl : ad554 = ad555 := (by injection e555)
                       replace p555 := eq_true p555
                       replace q555 := eq_true q555
                       refine start_ (n := 20) (S := fun w' => w'.cell? (ad554.add (a1).toNat) = some (.int .i64 (rd t513 a1)) ∧ w'.cell? (ad554.add (a2).toNat) = some (.int .i64 (rd t513 a2))) (ds := []) (mm [(20, false)]) (by kernel_rfl) rfl rfl ⟨hx554_0, hx555_0⟩ (fun hHeld => ?_); refine with_tabW bywashlaw12_RankRises.tab28 bywashlaw12_RankRises.bits28 (fun HT_ HW_ => ?_)
                       generalize wr.drew = w107 at HO_8 HO_9 HO_11 HB hx554_0 hx555_0 hHeld ⊢
                       refine pure_ (i := 0) (N := some 194) (v := ?_) (a' := ?_) (mm [(1, true), (19, false)]) rfl rfl (any_of HT_.out (by kernel_rfl)) (fun _ _ _ h => h) (Or.inl ⟨by rfl, ?_⟩) ?_ ?_
                       rotate_left
                       ·
                        intro w'
                        go_simp
                        with_reducible rfl
                       rotate_left
                       ·
                        simp only [Act.put, za_, zb_, zc_, i64_w, i32_w]
                        rfl
                       refine pure_ (i := 1) (N := some 195) (v := ?_) (a' := ?_) (mm [(2, true), (18, false)]) rfl rfl (any_of HT_.out (by kernel_rfl)) (fun _ _ _ h => h) (Or.inl ⟨by rfl, ?_⟩) ?_ ?_
                       rotate_left
                       ·
                        intro w'
                        go_simp
                        with_reducible rfl
                       rotate_left
                       ·
                        simp only [Act.put, za_, zb_, zc_, i64_w, i32_w]
                        rfl
                       refine pure_ (i := 2) (N := some 196) (v := ?_) (a' := ?_) (mm [(3, true), (17, false)]) rfl rfl (any_of HT_.out (by kernel_rfl)) (fun _ _ _ h => h) (Or.inl ⟨by rfl, ?_⟩) ?_ ?_
                       rotate_left
                       ·
                        intro w'
                        go_simp
                        with_reducible rfl
                       rotate_left
                       ·
                        simp only [Act.put, za_, zb_, zc_, i64_w, i32_w]
                        rfl
                       refine pure_ (i := 3) (N := some 197) (v := ?_) (a' := ?_) (mm [(4, true), (16, false)]) rfl rfl (any_of HT_.out (by kernel_rfl)) (fun _ _ _ h => h) (Or.inl ⟨by rfl, ?_⟩) ?_ ?_
                       rotate_left
                       ·
                        intro w'
                        go_simp
                        with_reducible rfl
                       rotate_left
                       ·
                        simp only [Act.put, za_, zb_, zc_, i64_w, i32_w]
                        rfl
                       refine pure_ (i := 4) (N := some 198) (v := ?_) (a' := ?_) (mm [(5, true), (15, false)]) rfl rfl (any_of HT_.out (by kernel_rfl)) (fun _ _ _ h => h) (Or.inl ⟨by rfl, ?_⟩) ?_ ?_
                       rotate_left
                       ·
                        intro w'
                        go_simp
                        with_reducible rfl
                       rotate_left
                       ·
                        simp only [Act.put, za_, zb_, zc_, i64_w, i32_w]
                        rfl
                       refine one_ (i := 5) (N := some 199) (mm [(6, true), (14, false)]) rfl rfl (one_of HT_.out (by kernel_rfl)) (by decide) (fun K hK => ?_)
                       refine goes_ Try.func30 (by kernel_rfl) rfl #[.slice A0 l0.length c0, .int .i64 a1, .int .i64 a2] (by rfl) rfl rfl (by (try simp only [List.map_toArray, List.map_cons, List.map_nil]); first | done | rfl | (simp only [List.length_drop, List.length_take]; rfl)) ?_
                       with_reducible refine (graph_Path.calls _ _ l0 a1 a2 true _ ?side1 ?side2 A101.out).mono ?_
                       (case side1 => repeat (first | exact (Kd.C_below HR0.out HB.out) | (with_reducible refine Kd.C_alloc ?_ _) | (with_reducible refine Kd.C_drewN ?_ _) | (with_reducible refine Kd.C_drew ?_)))
                       (case side2 => exact HC0.out)
                       rintro e w108 ⟨rfl, hb⟩
                       have HS0_ := (hb.cell (World.block_lt_of_cell? _ _ (hHeld.1))).trans (hHeld.1)
                       have HS1_ := (hb.cell (World.block_lt_of_cell? _ _ (hHeld.2))).trans (hHeld.2)
                       refine ⟨_, rfl, ?_⟩
                       have n0_ := Aside0.mk (Kd.R_below (by (with_reducible repeat (first | apply Kd.R_alloc | apply Kd.R_drewN | apply Kd.R_drew)); exact HO_8.out) hb)
                       have n1_ := Aside0.mk (Kd.R_below (by (with_reducible repeat (first | apply Kd.R_alloc | apply Kd.R_drewN | apply Kd.R_drew)); exact HO_9.out) hb)
                       have n2_ := Aside0.mk (Kd.R_below (by (with_reducible repeat (first | apply Kd.R_alloc | apply Kd.R_drewN | apply Kd.R_drew)); exact HO_11.out) hb)
                       have n3_ := Aside0.mk (below_step (by repeat (first | (with_reducible first | exact HB.out | apply below_alloc | apply pw_below_drewN | apply below_drew1) | exact HB.out)) hb)
                       clear HO_8 HO_9 HO_11 HB
                       have HO_8 := n0_
                       have HO_9 := n1_
                       have HO_11 := n2_
                       have HB := n3_
                       clear n0_ n1_ n2_ n3_
                       (try clear hb)
                       (try clear hb2)
                       (try clear hk)
                       (try clear hi)
                       obtain ⟨Ao109, co109, eo109⟩ := Kd.R_slice HO_8.out
                       (first | subst eo109 | (injection eo109 with f1_ f2_ f3_; have f4_ := f1_.symm; have f5_ := f3_.symm; clear f1_ f2_ f3_; subst f4_; subst f5_))
                       refine hK.out _ _ ⟨HS0_, HS1_⟩ (fun hHeld => ?_)
                       clear hK K
                       refine norm_ (a' := ?_) ?_ ?_
                       rotate_left
                       ·
                        show Act.put _ (some 199) _ = _
                        simp only [Act.put, za_, zb_, zc_, i64_w, i32_w]
                        rfl
                       refine pure_ (i := 6) (N := some 200) (v := ?_) (a' := ?_) (mm [(7, true), (13, false)]) rfl rfl (any_of HT_.out (by kernel_rfl)) (fun _ _ _ h => h) (Or.inl ⟨by rfl, ?_⟩) ?_ ?_
                       rotate_left
                       ·
                        intro w'
                        go_simp
                        with_reducible rfl
                       rotate_left
                       ·
                        simp only [Act.put, za_, zb_, zc_, i64_w, i32_w]
                        rfl
                       refine pure_ (i := 7) (N := some 201) (v := ?_) (a' := ?_) (mm [(8, true), (12, false)]) rfl rfl (any_of HT_.out (by kernel_rfl)) (fun _ _ _ h => h) (Or.inl ⟨by rfl, ?_⟩) ?_ ?_
                       rotate_left
                       ·
                        intro w'
                        go_simp
                        with_reducible rfl
                       rotate_left
                       ·
                        simp only [Act.put, za_, zb_, zc_, i64_w, i32_w]
                        rfl
                       refine pure_ (i := 8) (N := some 202) (v := ?_) (a' := ?_) (mm [(9, true), (11, false)]) rfl rfl (any_of HT_.out (by kernel_rfl)) (fun _ _ _ h => h) (Or.inl ⟨by rfl, ?_⟩) ?_ ?_
                       rotate_left
                       ·
                        intro w'
                        go_simp
                        with_reducible rfl
                       rotate_left
                       ·
                        simp only [Act.put, za_, zb_, zc_, i64_w, i32_w]
                        rfl
                       refine pure_ (i := 9) (N := some 203) (v := ?_) (a' := ?_) (mm [(10, true), (10, false)]) rfl rfl (any_of HT_.out (by kernel_rfl)) (fun _ _ _ h => h) (Or.inl ⟨by rfl, ?_⟩) ?_ ?_
                       rotate_left
                       ·
                        intro w'
                        go_simp
                        with_reducible rfl
                       rotate_left
                       ·
                        simp only [Act.put, za_, zb_, zc_, i64_w, i32_w]
                        rfl
                       refine pure_ (i := 10) (N := some 204) (v := ?_) (a' := ?_) (mm [(11, true), (9, false)]) rfl rfl (any_of HT_.out (by kernel_rfl)) (fun _ _ _ h => h) (Or.inl ⟨by rfl, ?_⟩) ?_ ?_
                       rotate_left
                       ·
                        intro w'
                        go_simp
                        with_reducible rfl
                       rotate_left
                       ·
                        simp only [Act.put, za_, zb_, zc_, i64_w, i32_w]
                        rfl
                       refine pure_ (i := 12) (N := some 206) (v := ?_) (a' := ?_) (mm [(11, true), (1, false), (1, true), (7, false)]) rfl rfl (any_of HT_.out (by kernel_rfl)) (fun _ _ _ h => h) (Or.inl ⟨by rfl, ?_⟩) ?_ ?_
                       rotate_left
                       ·
                        intro w'
                        go_simp
                        with_reducible rfl
                       rotate_left
                       ·
                        simp only [Act.put, za_, zb_, zc_, i64_w, i32_w]
                        rfl
                       refine pure_ (i := 13) (N := some 207) (v := ?_) (a' := ?_) (mm [(11, true), (1, false), (2, true), (6, false)]) rfl rfl (any_of HT_.out (by kernel_rfl)) (fun _ _ _ h => h) (Or.inl ⟨by rfl, ?_⟩) ?_ ?_
                       rotate_left
                       ·
                        intro w'
                        go_simp
                        with_reducible rfl
                       rotate_left
                       ·
                        simp only [Act.put, za_, zb_, zc_, i64_w, i32_w]
                        rfl
                       refine pure_ (i := 14) (N := some 208) (v := ?_) (a' := ?_) (mm [(11, true), (1, false), (3, true), (5, false)]) rfl rfl (any_of HT_.out (by kernel_rfl)) (fun _ _ _ h => h) (Or.inl ⟨by rfl, ?_⟩) ?_ ?_
                       rotate_left
                       ·
                        intro w'
                        go_simp
                        with_reducible rfl
                       rotate_left
                       ·
                        simp only [Act.put, za_, zb_, zc_, i64_w, i32_w]
                        rfl
                       refine take_ (i := 11) (N := some 205) (v := ?_) (a' := ?_) (mm [(15, true), (5, false)]) rfl rfl (take_ofW HT_.out HW_.out (by kernel_rfl)) (fun _ _ _ h => h) (Or.inl ⟨by rfl, ?_⟩) hHeld ?_ ?_
                       rotate_left
                       ·
                        rintro w' ⟨s0, s1⟩
                        go_simp
                        with_reducible rfl
                       rotate_left
                       ·
                        simp only [Act.put, za_, zb_, zc_, i64_w, i32_w]
                        rfl
                       refine take_ (i := 15) (N := some 209) (v := ?_) (a' := ?_) (mm [(16, true), (4, false)]) rfl rfl (take_ofW HT_.out HW_.out (by kernel_rfl)) (fun _ _ _ h => h) (Or.inl ⟨by rfl, ?_⟩) hHeld ?_ ?_
                       rotate_left
                       ·
                        rintro w' ⟨s0, s1⟩
                        go_simp
                        with_reducible rfl
                       rotate_left
                       ·
                        simp only [Act.put, za_, zb_, zc_, i64_w, i32_w]
                        rfl
                       refine pure_ (i := 16) (N := some 210) (v := ?_) (a' := ?_) (mm [(17, true), (3, false)]) rfl rfl (any_of HT_.out (by kernel_rfl)) (fun _ _ _ h => h) (Or.inl ⟨by rfl, ?_⟩) ?_ ?_
                       rotate_left
                       ·
                        intro w'
                        go_simp
                        with_reducible rfl
                       rotate_left
                       ·
                        simp only [Act.put, za_, zb_, zc_, i64_w, i32_w]
                        rfl
                       refine pure_ (i := 17) (N := some 211) (v := ?_) (a' := ?_) (mm [(18, true), (2, false)]) rfl rfl (any_of HT_.out (by kernel_rfl)) (fun _ _ _ h => h) (Or.inl ⟨by rfl, ?_⟩) ?_ ?_
                       rotate_left
                       ·
                        intro w'
                        go_simp
                        with_reducible rfl
                       rotate_left
                       ·
                        simp only [Act.put, za_, zb_, zc_, i64_w, i32_w]
                        rfl
                       refine pure_ (i := 18) (N := some 212) (v := ?_) (a' := ?_) (mm [(19, true), (1, false)]) rfl rfl (any_of HT_.out (by kernel_rfl)) (fun _ _ _ h => h) (Or.inl ⟨by rfl, ?_⟩) ?_ ?_
                       rotate_left
                       ·
                        intro w'
                        go_simp
                        with_reducible rfl
                       rotate_left
                       ·
                        simp only [Act.put, za_, zb_, zc_, i64_w, i32_w]
                        rfl
                       refine pure_ (i := 19) (N := some 6) (v := ?_) (a' := ?_) (mm [(20, true)]) rfl rfl (any_of HT_.out (by kernel_rfl)) (fun _ _ _ h => h) (Or.inl ⟨by rfl, ?_⟩) ?_ ?_
                       rotate_left
                       ·
                        intro w'
                        go_simp
                        with_reducible rfl
                       rotate_left
                       ·
                        simp only [Act.put, za_, zb_, zc_, i64_w, i32_w]
                        rfl
                       refine done_ (done_of HT_.out (by kernel_rfl)) ?_
                       try go_wp2
                       go_ret
                       exact ⟨by first | rfl | (simp [errW_none, errW_some] <;> rfl) | (simp [*, errW_none, errW_some] <;> rfl) | (exfalso; (try simp_all); (try ((try clear hji72 hji72w); omega)); done), by repeat (first | (with_reducible first | exact HB.out | apply below_alloc | apply pw_below_drewN | apply below_drew1) | exact HB.out)⟩
                      ·
                       rw [if_neg c106] at H
                       exact absurd H (by simp)
                     ·
                      rw [if_neg c105] at H
                      exact absurd H (by simp)
                    ·
                     rw [if_neg c104] at H
                     exact absurd H (by simp)
                   ·
                    rw [if_neg c103] at H
                    exact absurd H (by simp)
                  ·
                   as_aux_lemma =>
                   replace c102 := Bool.eq_false_iff.mpr c102
                   subst c102
                   have H1 : (some true) = some r := by rw [if_neg (show ¬ (false = true) by decide)] at H; exact H
                   clear H
                   have H := H1
                   clear H1
                   obtain rfl := Option.some.inj H
                   try go_wp2
                   have n0_ := Aside0.mk (Kd.R_drew HO_8.out)
                   have n1_ := Aside0.mk (Kd.R_drew HO_9.out)
                   have n2_ := Aside0.mk (Kd.R_drew HO_11.out)
                   have n3_ := Aside0.mk (below_drew1 HB.out)
                   clear HO_8 HO_9 HO_11 HB
                   have HO_8 := n0_
                   have HO_9 := n1_
                   have HO_11 := n2_
                   have HB := n3_
                   clear n0_ n1_ n2_ n3_
                   refine start_ (n := 20) (S := fun w' => True) (ds := []) (mm [(20, false)]) (by kernel_rfl) rfl rfl trivial (fun hHeld => ?_); refine with_tabW bywashlaw12_RankRises.tab28 bywashlaw12_RankRises.bits28 (fun HT_ HW_ => ?_)
                   generalize wr.drew = w110 at HO_8 HO_9 HO_11 HB hHeld ⊢
                   refine pure_ (i := 0) (N := some 194) (v := ?_) (a' := ?_) (mm [(1, true), (19, false)]) rfl rfl (any_of HT_.out (by kernel_rfl)) (fun _ _ _ h => h) (Or.inl ⟨by rfl, ?_⟩) ?_ ?_
                   rotate_left
                   ·
                    intro w'
                    go_simp
                    with_reducible rfl
                   rotate_left
                   ·
                    simp only [Act.put, za_, zb_, zc_, i64_w, i32_w]
                    rfl
                   refine pure_ (i := 1) (N := some 195) (v := ?_) (a' := ?_) (mm [(2, true), (18, false)]) rfl rfl (any_of HT_.out (by kernel_rfl)) (fun _ _ _ h => h) (Or.inl ⟨by rfl, ?_⟩) ?_ ?_
                   rotate_left
                   ·
                    intro w'
                    go_simp
                    with_reducible rfl
                   rotate_left
                   ·
                    simp only [Act.put, za_, zb_, zc_, i64_w, i32_w]
                    rfl
                   refine pure_ (i := 2) (N := some 196) (v := ?_) (a' := ?_) (mm [(3, true), (17, false)]) rfl rfl (any_of HT_.out (by kernel_rfl)) (fun _ _ _ h => h) (Or.inl ⟨by rfl, ?_⟩) ?_ ?_
                   rotate_left
                   ·
                    intro w'
                    go_simp
                    with_reducible rfl
                   rotate_left
                   ·
                    simp only [Act.put, za_, zb_, zc_, i64_w, i32_w]
                    rfl
                   refine pure_ (i := 3) (N := some 197) (v := ?_) (a' := ?_) (mm [(4, true), (16, false)]) rfl rfl (any_of HT_.out (by kernel_rfl)) (fun _ _ _ h => h) (Or.inl ⟨by rfl, ?_⟩) ?_ ?_
                   rotate_left
                   ·
                    intro w'
                    go_simp
                    with_reducible rfl
                   rotate_left
                   ·
                    simp only [Act.put, za_, zb_, zc_, i64_w, i32_w]
                    rfl
                   refine pure_ (i := 4) (N := some 198) (v := ?_) (a' := ?_) (mm [(5, true), (15, false)]) rfl rfl (any_of HT_.out (by kernel_rfl)) (fun _ _ _ h => h) (Or.inl ⟨by rfl, ?_⟩) ?_ ?_
                   rotate_left
                   ·
                    intro w'
                    go_simp
                    with_reducible rfl
                   rotate_left
                   ·
                    simp only [Act.put, za_, zb_, zc_, i64_w, i32_w]
                    rfl
                   refine one_ (i := 5) (N := some 199) (mm [(6, true), (14, false)]) rfl rfl (one_of HT_.out (by kernel_rfl)) (by decide) (fun K hK => ?_)
                   refine goes_ Try.func30 (by kernel_rfl) rfl #[.slice A0 l0.length c0, .int .i64 a1, .int .i64 a2] (by rfl) rfl rfl (by (try simp only [List.map_toArray, List.map_cons, List.map_nil]); first | done | rfl | (simp only [List.length_drop, List.length_take]; rfl)) ?_
                   with_reducible refine (graph_Path.calls _ _ l0 a1 a2 false _ ?side1 ?side2 A101.out).mono ?_
                   (case side1 => repeat (first | exact (Kd.C_below HR0.out HB.out) | (with_reducible refine Kd.C_alloc ?_ _) | (with_reducible refine Kd.C_drewN ?_ _) | (with_reducible refine Kd.C_drew ?_)))
                   (case side2 => exact HC0.out)
                   rintro e w111 ⟨rfl, hb⟩
                   refine ⟨_, rfl, ?_⟩
                   have n0_ := Aside0.mk (Kd.R_below (by (with_reducible repeat (first | apply Kd.R_alloc | apply Kd.R_drewN | apply Kd.R_drew)); exact HO_8.out) hb)
                   have n1_ := Aside0.mk (Kd.R_below (by (with_reducible repeat (first | apply Kd.R_alloc | apply Kd.R_drewN | apply Kd.R_drew)); exact HO_9.out) hb)
                   have n2_ := Aside0.mk (Kd.R_below (by (with_reducible repeat (first | apply Kd.R_alloc | apply Kd.R_drewN | apply Kd.R_drew)); exact HO_11.out) hb)
                   have n3_ := Aside0.mk (below_step (by repeat (first | (with_reducible first | exact HB.out | apply below_alloc | apply pw_below_drewN | apply below_drew1) | exact HB.out)) hb)
                   clear HO_8 HO_9 HO_11 HB
                   have HO_8 := n0_
                   have HO_9 := n1_
                   have HO_11 := n2_
                   have HB := n3_
                   clear n0_ n1_ n2_ n3_
                   (try clear hb)
                   (try clear hb2)
                   (try clear hk)
                   (try clear hi)
                   refine hK.out _ _ trivial (fun hHeld => ?_)
                   clear hK K
                   refine norm_ (a' := ?_) ?_ ?_
                   rotate_left
                   ·
                    show Act.put _ (some 199) _ = _
                    simp only [Act.put, za_, zb_, zc_, i64_w, i32_w]
                    rfl
                   refine pure_ (i := 6) (N := some 200) (v := ?_) (a' := ?_) (mm [(7, true), (13, false)]) rfl rfl (any_of HT_.out (by kernel_rfl)) (fun _ _ _ h => h) (Or.inl ⟨by rfl, ?_⟩) ?_ ?_
                   rotate_left
                   ·
                    intro w'
                    go_simp
                    with_reducible rfl
                   rotate_left
                   ·
                    simp only [Act.put, za_, zb_, zc_, i64_w, i32_w]
                    rfl
                   refine pure_ (i := 7) (N := some 201) (v := ?_) (a' := ?_) (mm [(8, true), (12, false)]) rfl rfl (any_of HT_.out (by kernel_rfl)) (fun _ _ _ h => h) (Or.inl ⟨by rfl, ?_⟩) ?_ ?_
                   rotate_left
                   ·
                    intro w'
                    go_simp
                    with_reducible rfl
                   rotate_left
                   ·
                    simp only [Act.put, za_, zb_, zc_, i64_w, i32_w]
                    rfl
                   refine pure_ (i := 8) (N := some 202) (v := undef) (a' := ?_) (mm [(9, true), (11, false)]) rfl rfl (any_of HT_.out (by kernel_rfl)) (fun _ _ _ h => h) (Or.inr ⟨by rfl, rfl⟩) ?_ ?_
                   rotate_left
                   ·
                    simp only [Act.put, za_, zb_, zc_, i64_w, i32_w]
                    rfl
                   refine pure_ (i := 9) (N := some 203) (v := undef) (a' := ?_) (mm [(10, true), (10, false)]) rfl rfl (any_of HT_.out (by kernel_rfl)) (fun _ _ _ h => h) (Or.inr ⟨by rfl, rfl⟩) ?_ ?_
                   rotate_left
                   ·
                    simp only [Act.put, za_, zb_, zc_, i64_w, i32_w]
                    rfl
                   refine pure_ (i := 10) (N := some 204) (v := undef) (a' := ?_) (mm [(11, true), (9, false)]) rfl rfl (any_of HT_.out (by kernel_rfl)) (fun _ _ _ h => h) (Or.inr ⟨by rfl, rfl⟩) ?_ ?_
                   rotate_left
                   ·
                    simp only [Act.put, za_, zb_, zc_, i64_w, i32_w]
                    rfl
                   refine pure_ (i := 11) (N := some 205) (v := undef) (a' := ?_) (mm [(12, true), (8, false)]) rfl rfl (any_of HT_.out (by kernel_rfl)) (fun _ _ _ h => h) (Or.inr ⟨by rfl, rfl⟩) ?_ ?_
                   rotate_left
                   ·
                    simp only [Act.put, za_, zb_, zc_, i64_w, i32_w]
                    rfl
                   refine pure_ (i := 12) (N := some 206) (v := undef) (a' := ?_) (mm [(13, true), (7, false)]) rfl rfl (any_of HT_.out (by kernel_rfl)) (fun _ _ _ h => h) (Or.inr ⟨by rfl, rfl⟩) ?_ ?_
                   rotate_left
                   ·
                    simp only [Act.put, za_, zb_, zc_, i64_w, i32_w]
                    rfl
                   refine pure_ (i := 13) (N := some 207) (v := undef) (a' := ?_) (mm [(14, true), (6, false)]) rfl rfl (any_of HT_.out (by kernel_rfl)) (fun _ _ _ h => h) (Or.inr ⟨by rfl, rfl⟩) ?_ ?_
                   rotate_left
                   ·
                    simp only [Act.put, za_, zb_, zc_, i64_w, i32_w]
                    rfl
                   refine pure_ (i := 14) (N := some 208) (v := undef) (a' := ?_) (mm [(15, true), (5, false)]) rfl rfl (any_of HT_.out (by kernel_rfl)) (fun _ _ _ h => h) (Or.inr ⟨by rfl, rfl⟩) ?_ ?_
                   rotate_left
                   ·
                    simp only [Act.put, za_, zb_, zc_, i64_w, i32_w]
                    rfl
                   refine pure_ (i := 15) (N := some 209) (v := undef) (a' := ?_) (mm [(16, true), (4, false)]) rfl rfl (any_of HT_.out (by kernel_rfl)) (fun _ _ _ h => h) (Or.inr ⟨by rfl, rfl⟩) ?_ ?_
                   rotate_left
                   ·
                    simp only [Act.put, za_, zb_, zc_, i64_w, i32_w]
                    rfl
                   refine pure_ (i := 16) (N := some 210) (v := undef) (a' := ?_) (mm [(17, true), (3, false)]) rfl rfl (any_of HT_.out (by kernel_rfl)) (fun _ _ _ h => h) (Or.inr ⟨by rfl, rfl⟩) ?_ ?_
                   rotate_left
                   ·
                    simp only [Act.put, za_, zb_, zc_, i64_w, i32_w]
                    rfl
                   refine pure_ (i := 17) (N := some 211) (v := ?_) (a' := ?_) (mm [(18, true), (2, false)]) rfl rfl (any_of HT_.out (by kernel_rfl)) (fun _ _ _ h => h) (Or.inl ⟨by rfl, ?_⟩) ?_ ?_
                   rotate_left
                   ·
                    intro w'
                    go_simp
                    with_reducible rfl
                   rotate_left
                   ·
                    simp only [Act.put, za_, zb_, zc_, i64_w, i32_w]
                    rfl
                   refine pure_ (i := 18) (N := some 212) (v := ?_) (a' := ?_) (mm [(19, true), (1, false)]) rfl rfl (any_of HT_.out (by kernel_rfl)) (fun _ _ _ h => h) (Or.inl ⟨by rfl, ?_⟩) ?_ ?_
                   rotate_left
                   ·
                    intro w'
                    go_simp
                    with_reducible rfl
                   rotate_left
                   ·
                    simp only [Act.put, za_, zb_, zc_, i64_w, i32_w]
                    rfl
                   refine pure_ (i := 19) (N := some 6) (v := ?_) (a' := ?_) (mm [(20, true)]) rfl rfl (any_of HT_.out (by kernel_rfl)) (fun _ _ _ h => h) (Or.inl ⟨by rfl, ?_⟩) ?_ ?_
                   rotate_left
                   ·
                    intro w'
                    go_simp
                    with_reducible rfl
                   rotate_left
                   ·
                    simp only [Act.put, za_, zb_, zc_, i64_w, i32_w]
                    rfl
                   refine done_ (done_of HT_.out (by kernel_rfl)) ?_
                   try go_wp2
                   go_ret
                   exact ⟨by first | rfl | (simp [errW_none, errW_some] <;> rfl) | (simp [*, errW_none, errW_some] <;> rfl) | (exfalso; (try simp_all); (try ((try clear hji72 hji72w); omega)); done), by repeat (first | (with_reducible first | exact HB.out | apply below_alloc | apply pw_below_drewN | apply below_drew1) | exact HB.out)⟩
                 ·
                  replace c100 := Bool.eq_false_iff.mpr c100
                  subst c100
                  have H1 : (some false) = some r := by rw [if_neg (show ¬ (false = true) by decide)] at H; exact H
                  clear H
                  have H := H1
                  exact absurd (Option.some.inj H) (by rw [HRT.out]; decide)
      ·
       rw [if_neg c31] at H
       exact absurd H (by simp)
     ·
      rw [if_neg c30] at H
      exact absurd H (by simp)
 ·
  replace c6 := Bool.eq_false_iff.mpr c6
  subst c6
  have H1 : (some t511) = some r := by rw [if_neg (show ¬ (false = true) by decide)] at H; exact H
  clear H
  have H := H1
  clear H1
  obtain rfl := Option.some.inj H
  go_enter Try.func11, Try.ntmps11
  go_wp2_with (first | ((with_reducible refine gate_callee (f := 44) rfl ?_); refine goesL_ (some 16) rfl rfl Try.func44 (by kernel_rfl) rfl #[] rfl (by (try simp only [List.map_toArray, List.map_cons, List.map_nil]); first | done | rfl | (simp only [List.length_drop, List.length_take]; rfl)) ?_; (with_reducible refine (bywashlaw12_awake.calls k  t511 _ A4.out).mono ?_); rintro e w113 ⟨rfl, hb⟩; refine ⟨_, rfl, ?_⟩; have n0_ := Aside0.mk (below_step (by repeat (first | (with_reducible first | exact HB.out | apply below_alloc | apply pw_below_drewN | apply below_drew1) | exact HB.out)) hb); clear HB; have HB := n0_; clear n0_; (try clear hb); (try clear hb2); (try clear hk); (try clear hi)) | ((with_reducible refine gate_callee (f := 14) rfl ?_); refine goesL_ (some 18) rfl rfl Try.func14 (by kernel_rfl) rfl #[.slice A0 l0.length c0] rfl (by (try simp only [List.map_toArray, List.map_cons, List.map_nil]); first | done | rfl | (simp only [List.length_drop, List.length_take]; rfl)) ?_; (with_reducible refine (bywashref10_Few.calls k _ _ l0 false _ ?side1 ?side2 A5.out).mono ?_); (case side1 => repeat (first | exact (Kd.C_below HR0.out HB.out) | (with_reducible refine Kd.C_alloc ?_ _) | (with_reducible refine Kd.C_drewN ?_ _) | (with_reducible refine Kd.C_drew ?_))); (case side2 => exact HC0.out); rintro e w' ⟨rfl, ⟨nd, rfl⟩⟩; refine ⟨_, rfl, ?_⟩))
  go_ret
  exact ⟨by first | rfl | (simp [errW_none, errW_some] <;> rfl) | (simp [*, errW_none, errW_some] <;> rfl) | (exfalso; (try simp_all); (try ((try clear hji72 hji72w); omega)); done), by repeat (first | (with_reducible first | exact HB.out | apply below_alloc | apply pw_below_drewN | apply below_drew1) | exact HB.out)⟩
end Go.Proofs.Ytdknhgbjgdmfkaa.P
namespace Go.Proofs.Ytdknhgbjgdmfkaa.P
open Go.RowKit Go.Lib Go.Proofs.YtdknhgbjgdmfkaaW.PrintWords Go.Proofs.YtdknhgbjgdmfkaaW.PrintMore
section
variable {c : List (List Int)} {r : List Int}
def Gone (c : List (List Int)) (i : Nat) (p : List Int) (u v : Int) : Prop := (0 ≤ u ∧ u < (i : Int) ∧ v ∈ row c u) ∨ (u = (i : Int) ∧ v ∈ p)
structure BS (c : List (List Int)) (r : List Int) (i : Nat) (p best : List Int) : Prop where
  len : best.length = c.length
  from_ : ∀ x, Node c x → rd best x = 0 ∨ ∃ u v, Node c u ∧ v ∈ row c u ∧ leadOf c u ≠ leadOf c v ∧ leadOf c v = x ∧ rd best x = rd r u + 1
  nn : ∀ x, Node c x → 0 ≤ rd best x
  up : ∀ u v, Gone c i p u v → leadOf c u ≠ leadOf c v → rd r u + 1 ≤ rd best (leadOf c v)
theorem BS.start : BS c r 0 [] (List.replicate c.length 0) := by
  have hz : ∀ b, rd (List.replicate c.length 0) b = 0 := fun b => by
    unfold rd
    rw [List.getD_eq_getElem?_getD, List.getElem?_replicate]
    split <;> rfl
  refine ⟨by simp, fun x _ => .inl (hz x), fun x _ => by rw [hz x]; exact Int.le_refl _, fun u v h _ => ?_⟩
  rcases h with ⟨h0, h1, _⟩ | ⟨_, h⟩
  · omega
  · simp at h
theorem BS.next {i : Nat} {best : List Int} (h : BS c r i (row c (i : Int)) best) : BS c r (i + 1) [] best := by
  refine ⟨h.len, h.from_, h.nn, fun u v hg hn => ?_⟩
  rcases hg with ⟨h0, h1, h2⟩ | ⟨_, h2⟩
  · by_cases e : u = (i : Int)
    · exact h.up u v (.inr ⟨e, e ▸ h2⟩) hn
    · exact h.up u v (.inl ⟨h0, by omega, h2⟩) hn
  · simp at h2
theorem BS.skip {i : Nat} {p best : List Int} {y : Int} (h : BS c r i p best) (e : leadOf c (i : Int) = leadOf c y) : BS c r i (p ++ [y]) best := by
  refine ⟨h.len, h.from_, h.nn, fun u v hg hn => ?_⟩
  rcases hg with hg | ⟨h1, h2⟩
  · exact h.up u v (.inl hg) hn
  · rcases List.mem_append.1 h2 with h2 | h2
    · exact h.up u v (.inr ⟨h1, h2⟩) hn
    · simp only [List.mem_singleton] at h2
      rw [h1, h2] at hn
      exact absurd e hn
theorem BS.put (hv : Valid c) {i : Nat} {p best : List Int} {y : Int} (h : BS c r i p best) (hi : Node c (i : Int)) (hy : y ∈ row c (i : Int)) (hne : leadOf c (i : Int) ≠ leadOf c y) : BS c r i (p ++ [y]) (best.set (leadOf c y).toNat (max (rd best (leadOf c y)) (rd r (i : Int) + 1))) := by
  have hyN := row_node hv hy
  have hl := lead_node hv hyN
  have hl' : 0 ≤ leadOf c y ∧ leadOf c y < (best.length : Int) := by rw [h.len]; exact hl
  refine ⟨by rw [List.length_set]; exact h.len, fun x hx => ?_, fun x hx => ?_, fun u v hg hn => ?_⟩
  · rw [rd_set _ hl' hx.1]
    by_cases e : x = leadOf c y
    · rw [if_pos e]
      by_cases hm : rd best (leadOf c y) ≤ rd r (i : Int) + 1
      · exact .inr ⟨(i : Int), y, hi, hy, hne, e.symm, by omega⟩
      · have : max (rd best (leadOf c y)) (rd r (i : Int) + 1) = rd best x := by rw [e]; omega
        rw [this]
        exact h.from_ x hx
    · rw [if_neg e]
      exact h.from_ x hx
  · rw [rd_set _ hl' hx.1]
    have := h.nn x hx
    have := h.nn _ hl
    split <;> omega
  · have hvx : 0 ≤ leadOf c v := by
      rcases hg with ⟨h0, h1, h2⟩ | ⟨h1, h2⟩
      · exact (lead_node hv (row_node hv h2)).1
      · rcases List.mem_append.1 h2 with h2 | h2
        · unfold leadOf
          have hp : ∀ (l : List Int), (∀ z ∈ l, 0 ≤ z) → 0 ≤ l.headD 0 := fun l hl => by
            cases l with
            | nil => exact Int.le_refl _
            | cons z l => exact hl z List.mem_cons_self
          refine hp _ (fun z hz => ?_)
          unfold partOf at hz
          exact (mem_nodes.1 (List.mem_filter.1 hz).1).1
        · simp only [List.mem_singleton] at h2
          rw [h2]
          exact hl.1
    rw [rd_set _ hl' hvx]
    have hold : Gone c i p u v → rd r u + 1 ≤ rd best (leadOf c v) := fun h2 => h.up u v h2 hn
    rcases hg with hg | ⟨h1, h2⟩
    · have := hold (.inl hg)
      split
      · rename_i e
        rw [e] at this
        omega
      · exact this
    · rcases List.mem_append.1 h2 with h2 | h2
      · have := hold (.inr ⟨h1, h2⟩)
        split
        · rename_i e
          rw [e] at this
          omega
        · exact this
      · simp only [List.mem_singleton] at h2
        rw [h2, if_pos rfl, h1]
        omega
theorem BS.done (hv : Valid c) (hr : Rk c r) {best : List Int} (h : BS c r c.length [] best) {b : Int} (hb : Node c b) : rd best (leadOf c b) = rd r b := by
  have hl := lead_node hv hb
  refine Int.le_antisymm ?_ ?_
  · rcases h.from_ _ hl with e | ⟨u, v, hu, hvr, hne, e1, e2⟩
    · rw [e]
      exact (hr.bound hv hb).1
    · have hvN := row_node hv hvr
      obtain ⟨w1, w2⟩ := (lead_eq hv hvN hb).1 e1
      have hs := hr.same hv hvN hb w1 w2
      have := hr.rise hv hu hvr (fun hw => hne ((lead_eq hv hu hvN).2 ⟨.edge hvr, hw⟩))
      omega
  · rcases hr.from_ hv hb with e | ⟨a, d, ha, hd, w1, w2, hn, e⟩
    · rw [e]
      exact h.nn _ hl
    · have hdN := row_node hv hd
      have e1 : leadOf c d = leadOf c b := (lead_eq hv hdN hb).2 ⟨w2, w1⟩
      have := h.up a d (.inl ⟨ha.1, ha.2, hd⟩) (fun e2 => hn ((lead_eq hv ha hdN).1 e2).2)
      rw [e1] at this
      omega
end
section
variable {g : List (List Int)} {r : List Int} {a1 a2 : Int}
theorem rankrises_l1 (hv : Valid (clean g)) (hn : g.length ≤ 900) (hr : Rk (clean g) r) (hrl : r.length = g.length) {i : Nat} (hi : i < g.length) (hend : ∀ best, BS (clean g) r (i + 1) [] best → Ev (fun k => bywashlaw12_RankRises.l0 k g a1 a2 true r (leadB (clean g)) (clean g) best ((i + 1 : Nat) : Int)) true) :
    ∀ d j : Nat, j + d = (row (clean g) (i : Int)).length → ∀ best, BS (clean g) r i ((row (clean g) (i : Int)).take j) best → Ev (fun k => bywashlaw12_RankRises.l1 k g a1 a2 true r (leadB (clean g)) (clean g) best (i : Int) (j : Int)) true
  | 0, j, hd, best, h => by
    have hg : rd_L1 (clean g) (i : Int) = row (clean g) (i : Int) := rfl
    have hcl := clean_len g
    rw [List.take_of_length_le (by omega)] at h
    refine Ev.step (fun k => ?_) (hend best h.next)
    rw [bywashlaw12_RankRises.l1, if_pos (by omega), if_pos (by omega), hg, if_neg (by omega), wrap_succ (by omega)]
  | d + 1, j, hd, best, h => by
    have hg : rd_L1 (clean g) (i : Int) = row (clean g) (i : Int) := rfl
    have hcl := clean_len g
    have hll := leadB_len (c := clean g)
    have hjl : j < (row (clean g) (i : Int)).length := by omega
    have hrow : (row (clean g) (i : Int)).length ≤ g.length := by
      unfold row
      rw [Int.toNat_natCast, List.getD_eq_getElem?_getD, List.getElem?_eq_getElem (by omega)]
      exact clean_row_le _ (List.getElem_mem _)
    obtain ⟨y, ey⟩ : ∃ y, y = (row (clean g) (i : Int))[j] := ⟨_, rfl⟩
    have hy : y ∈ row (clean g) (i : Int) := ey ▸ List.getElem_mem hjl
    have hyN := row_node hv hy
    have hiN : Node (clean g) (i : Int) := ⟨by omega, by omega⟩
    have hry : rd (row (clean g) (i : Int)) (j : Int) = y := by rw [rd_nat' hjl, ey]
    have htk : (row (clean g) (i : Int)).take (j + 1) = (row (clean g) (i : Int)).take j ++ [y] := by rw [ey, List.take_succ_eq_append_getElem hjl]
    have hy0 := hyN.1
    have hy1 := hyN.2
    have hlN := lead_node hv hyN
    have hl0 := hlN.1
    have hl1 := hlN.2
    have hb := hr.bound hv hiN
    have hbl := h.len
    by_cases e : leadOf (clean g) (i : Int) = leadOf (clean g) y
    · have ih := rankrises_l1 hv hn hr hrl hi hend d (j + 1) (by omega) best (by rw [htk]; exact h.skip e)
      obtain ⟨w1, w2⟩ := (lead_eq hv hiN hyN).1 e
      have hs := hr.same hv hiN hyN w1 w2
      refine Ev.step (f := fun k => bywashlaw12_RankRises.j3 k g a1 a2 true r (leadB (clean g)) (clean g) best (i : Int) (j : Int) y false) (fun k => ?_) (Ev.step (fun k => ?_) ih)
      · rw [bywashlaw12_RankRises.l1, if_pos (by omega), if_pos (by omega), hg, if_pos (by omega), if_pos (by omega), if_pos (by omega), hry, if_pos hy0, if_pos (by omega), if_pos (by omega), if_pos (by omega), leadB_get hiN, leadB_get hyN, e, hs, if_neg (by simp), if_pos rfl]
      · rw [bywashlaw12_RankRises.j3, if_neg (by simp), if_pos (by omega), if_pos (by omega), if_pos hy0, if_pos (by omega), leadB_get hiN, leadB_get hyN, if_pos e, wrap_succ (by omega)]
    · have ih := rankrises_l1 hv hn hr hrl hi hend d (j + 1) (by omega) _ (by rw [htk]; exact h.put hv hiN hy e)
      have hup := hr.rise hv hiN hy (fun hw => e ((lead_eq hv hiN hyN).2 ⟨.edge hy, hw⟩))
      have hle : ¬ rd r y ≤ rd r (i : Int) := by omega
      refine Ev.step (f := fun k => bywashlaw12_RankRises.j3 k g a1 a2 true r (leadB (clean g)) (clean g) best (i : Int) (j : Int) y false) (fun k => ?_) (Ev.step (fun k => ?_) ih)
      · rw [bywashlaw12_RankRises.l1, if_pos (by omega), if_pos (by omega), hg, if_pos (by omega), if_pos (by omega), if_pos (by omega), hry, if_pos hy0, if_pos (by omega), if_pos (by omega), if_pos (by omega), leadB_get hiN, leadB_get hyN, if_neg e, if_neg e, decide_eq_false hle, ite_self]
      · rw [bywashlaw12_RankRises.j3, if_neg (by simp), if_pos (by omega), if_pos (by omega), if_pos hy0, if_pos (by omega), leadB_get hiN, leadB_get hyN, if_neg e, if_pos hl0, if_pos (by omega), if_pos (by omega), wrap_small (by omega), mx_max, wrap_succ (by omega)]
theorem rankrises_l0 (hv : Valid (clean g)) (hn : g.length ≤ 900) (hr : Rk (clean g) r) (hrl : r.length = g.length) (hend : ∀ best, BS (clean g) r g.length [] best → Ev (fun k => bywashlaw12_RankRises.l2 k g a1 a2 true r (leadB (clean g)) best 0) true) :
    ∀ d i : Nat, i + d = g.length → ∀ best, BS (clean g) r i [] best → Ev (fun k => bywashlaw12_RankRises.l0 k g a1 a2 true r (leadB (clean g)) (clean g) best (i : Int)) true
  | 0, i, hd, best, h => by
    obtain rfl : i = g.length := by omega
    refine Ev.step (fun k => ?_) (hend best h)
    rw [bywashlaw12_RankRises.l0, if_neg (by omega)]
  | d + 1, i, hd, best, h => by
    have := rankrises_l1 (a1 := a1) (a2 := a2) hv hn hr hrl (i := i) (by omega) (fun b hb => rankrises_l0 hv hn hr hrl hend d (i + 1) (by omega) b hb) (row (clean g) (i : Int)).length 0 (by omega) best (by rw [List.take_zero]; exact h)
    refine Ev.step (fun k => ?_) this
    rw [bywashlaw12_RankRises.l0, if_pos (by omega)]
    rfl
theorem rankrises_l2 (hv : Valid (clean g)) (hn : g.length ≤ 900) (hr : Rk (clean g) r) (hrl : r.length = g.length) {best : List Int} (hbl : best.length = g.length) (hbest : ∀ b, Node (clean g) b → rd best (leadOf (clean g) b) = rd r b) {p : Bool} (hp : graph_Path.f g a1 a2 = some p) (hpr : p = true → rd r a1 ≤ rd r a2) :
    ∀ d i : Nat, i + d = g.length → Ev (fun k => bywashlaw12_RankRises.l2 k g a1 a2 true r (leadB (clean g)) best (i : Int)) true
  | 0, i, hd => by
    refine Ev.step (f := fun _ => some true) (fun k => ?_) (Ev.now _)
    rw [bywashlaw12_RankRises.l2, if_neg (by omega)]
    by_cases p1 : a1 < 0
    · rw [if_pos p1]
    by_cases p2 : a1 ≥ (g.length : Int)
    · rw [if_neg p1, if_pos p2]
    by_cases p3 : a2 < 0
    · rw [if_neg p1, if_neg p2, if_pos p3]
    by_cases p4 : a2 ≥ (g.length : Int)
    · rw [if_neg p1, if_neg p2, if_neg p3, if_pos p4]
    rw [if_neg p1, if_neg p2, if_neg p3, if_neg p4, if_pos rfl, hp, Option.bind_some]
    by_cases hpt : p = true
    · have := hpr hpt
      rw [if_pos hpt, if_pos (by omega), if_pos (by omega), if_pos (by omega), if_pos (by omega), decide_eq_true this]
    · rw [if_neg hpt]
  | d + 1, i, hd => by
    have ih := rankrises_l2 hv hn hr hrl hbl hbest hp hpr d (i + 1) (by omega)
    have hcl := clean_len g
    have hll := leadB_len (c := clean g)
    have hiN : Node (clean g) (i : Int) := ⟨by omega, by omega⟩
    have hlN := lead_node hv hiN
    have hl0 := hlN.1
    have hl1 := hlN.2
    refine Ev.step (fun k => ?_) ih
    rw [bywashlaw12_RankRises.l2, if_pos (by omega), if_pos (by omega), if_pos (by omega), if_pos (by omega), leadB_get hiN, if_pos hl0, if_pos (by omega), hbest _ hiN, if_pos rfl, wrap_succ (by omega)]
end
theorem RankRises_pure (l0 : List (List Int)) (a1 a2 : Int) (hb : l0.length ≤ 9223372036854775807) (_hw : ∀ r ∈ l0, r.length ≤ 9223372036854775807 ∧ ∀ y ∈ r, (Lit.int .i64 y).wf = true) (_h1 : (Lit.int .i64 a1).wf = true) (_h2 : (Lit.int .i64 a2).wf = true) :
    ∃ k, bywashlaw12_RankRises.f k l0 a1 a2 = some true := by
  refine Ev.rounds (g := fun k => bywashlaw12_RankRises.f k l0 a1 a2) ?_
  unfold bywashlaw12_RankRises.f
  refine Ev.bind awake12_ev ?_
  refine Ev.bind (few_ev l0 hb) ?_
  by_cases hf : few l0 = true
  · simp only [hf, if_true]
    have hn := (few_iff.1 hf).2
    have hfit := few_fits hf
    have hv := clean_Valid l0
    obtain ⟨r, r1, r2, r3⟩ := ranks_ev hf
    obtain ⟨p, hp1, hp2⟩ := path_now (few_small hf) a1 a2
    refine Ev.bind r1 ?_
    rw [leads_now hfit]
    simp only [Option.bind_some]
    rw [clean_now hfit]
    simp only [Option.bind_some]
    have c1 : (r.length : Int) = (l0.length : Int) := by omega
    have c2 : ((leadB (clean l0)).length : Int) = (l0.length : Int) := by rw [leadB_len, clean_len]
    have c3 : ((clean l0).length : Int) = (l0.length : Int) := by rw [clean_len]
    simp only [c1, c2, c3, if_true]
    rw [sound_now hfit r3, sound_ranks hv r2]
    simp only [Option.bind_some, Bool.not_true]
    have hend : ∀ best, BS (clean l0) r l0.length [] best → Ev (fun k => bywashlaw12_RankRises.l2 k l0 a1 a2 true r (leadB (clean l0)) best 0) true := fun best h =>
      rankrises_l2 hv (by omega) r2 r3 (by rw [h.len, clean_len]) (fun b hb => BS.done hv r2 (by rw [clean_len]; exact h) hb) hp1 (fun e => by
        obtain ⟨ha, hb, d, hd, hw⟩ := hp2.1 e
        exact r2.way hv (.step hd hw) ⟨ha.1, by rw [clean_len]; exact ha.2⟩) l0.length 0 (by omega)
    have h0 := rankrises_l0 (a1 := a1) (a2 := a2) hv (by omega) r2 r3 hend l0.length 0 (by omega) (List.replicate (clean l0).length 0) BS.start
    refine Ev.step (fun k => ?_) h0
    rw [bywashlaw12_RankRises.j0, if_neg (by simp), if_pos (by omega), if_pos (by omega), Int.toNat_natCast, clean_len]
    rfl
  · simp only [hf]
    exact Ev.now _
theorem RankRises_c (A0 : Option Addr) (c0 : Nat) (l0 : List (List Int)) (a1 a2 : Int) (w : World) (hr0 : (Kd.slice 3 (Kd.int .i64)).C w A0 l0.length l0) (hc0 : l0.length ≤ c0)
    (hm0 : l0.length ≤ 9223372036854775807) (hw : ∀ r ∈ l0, r.length ≤ 9223372036854775807 ∧ ∀ y ∈ r, (Lit.int .i64 y).wf = true) (h1 : (Lit.int .i64 a1).wf = true) (h2 : (Lit.int .i64 a2).wf = true) :
    Calls Try.prog 11 #[.slice A0 l0.length c0, .int .i64 a1, .int .i64 a2] w fun e w' => e = .returned (.bool true) ∧ Below w.heap.size w w' := by
  obtain ⟨k, h⟩ := RankRises_pure l0 a1 a2 hm0 hw h1 h2
  exact RankRises_t k A0 c0 l0 a1 a2 true w hr0 hc0 rfl h
end Go.Proofs.Ytdknhgbjgdmfkaa.P
namespace Go.Proofs.Ytdknhgbjgdmfkaa.P
open Go.RowKit Go.Lib Go.Sort Go.Deep Go.Proofs.YtdknhgbjgdmfkaaW.PrintWords Go.Proofs.YtdknhgbjgdmfkaaW.PrintLast Go.Proofs.YtdknhgbjgdmfkaaW.PrintMore
theorem C_of_cells {w : World} {A : Option Addr} {n : Nat} {zs : List Int} (hn : n ≤ 9223372036854775807) (hl : n ≤ zs.length) (hA : A = none → zs.length = 0) (hc : ∀ a, A = some a → ∀ c, c < zs.length → w.cell? (a.add c) = some (.int .i64 (zs.getD c 0))) : dI.C w A (zs.take n).length (zs.take n) := by
  have e : (zs.take n).length = n := by rw [List.length_take]; omega
  refine ⟨rfl, by rw [e]; exact hn, fun hp => ?_⟩
  cases A with
  | none => have := hA rfl; omega
  | some a =>
    refine ⟨a, rfl, fun j p hj => ⟨[.int .i64 p], rfl, rfl, fun i u hu => ?_⟩⟩
    have hjl : j < (zs.take n).length := (List.getElem?_eq_some_iff.1 hj).1
    match i, hu with
    | 0, hu =>
      injection hu with hu
      subst hu
      have hjz : j < zs.length := by omega
      have h1 := hc a rfl j hjz
      rw [List.getElem?_take, if_pos (by omega), List.getElem?_eq_getElem hjz] at hj
      injection hj with hj
      rw [List.getD_eq_getElem?_getD, List.getElem?_eq_getElem hjz, Option.getD_some, hj] at h1
      rw [show j * dI.sz + 0 = j from by show j * 1 + 0 = j; omega]
      exact h1
    | i + 1, hu => simp at hu
theorem open_rows {H : Type} {enc : TypeId × Value → H} {P : Program} {w : World} {base : Nat} {held : Bool} {t e q : TypeId} {fuel : Nat} {a0 : Option Addr} {len cap : Nat} {x : DataW H × List MemPlace} (ht : P.underlying t = some (.slice e)) (he : P.underlying e = some (.slice q)) (hq : P.underlying q = some (.int .i64))
    (ce : P.cellsOf e = 1) (cq : P.cellsOf q = 1) (h : DataW.trod enc P w base (fun _ => true) held fuel t [.slice a0 len cap] = some x) :
    ∃ l : List (List Int), l.length = len ∧ (Kd.slice 3 (Kd.int .i64)).C w a0 l.length l ∧ l.length ≤ cap ∧ l.length ≤ 9223372036854775807 ∧ (∀ r ∈ l, r.length ≤ 9223372036854775807 ∧ ∀ y ∈ r, (Lit.int .i64 y).wf = true) := by
  rcases open_int_rows ht he hq ce cq h with ⟨hcs, _⟩ | ⟨a, len', cap', A, L, C, Z, hcs, _, hl, hm, _, hr⟩
  · simp at hcs
    obtain ⟨rfl, rfl, rfl⟩ := hcs
    exact ⟨[], rfl, ⟨rfl, by simp, fun hp => absurd hp (by simp)⟩, Nat.le_refl _, by simp, fun r hr => by simp at hr⟩
  · simp at hcs
    obtain ⟨rfl, rfl, rfl⟩ := hcs
    have hm' : cap ≤ 9223372036854775807 := hm
    have hrow : ∀ r, r < cap → dI.C w (A r) ((Z r).take (L r)).length ((Z r).take (L r)) ∧ ((Z r).take (L r)).length = L r := by
      intro r hrc
      obtain ⟨_, h2, h3, h4, _, h6, h7⟩ := hr r hrc
      have h3' : C r ≤ 9223372036854775807 := h3
      exact ⟨C_of_cells (by omega) (by omega) (fun e => by rw [h4]; exact h6 e) (fun a' ha c hc => (h7 a' ha).2 c (by omega)), by rw [List.length_take]; omega⟩
    refine ⟨(List.range len).map fun r => (Z r).take (L r), by simp, ?_, by simpa using hl, by simp; omega, ?_⟩
    · refine ⟨rfl, by simp; omega, fun hp => ⟨a, rfl, fun j p hj => ?_⟩⟩
      rw [List.getElem?_map] at hj
      have hjl : j < len := by
        rcases Nat.lt_or_ge j len with h1 | h1
        · exact h1
        · rw [List.getElem?_eq_none (by simpa using h1)] at hj
          cases hj
      rw [List.getElem?_eq_getElem (by simpa using hjl)] at hj
      simp only [List.getElem_range, Option.map_some, Option.some.injEq] at hj
      subst hj
      obtain ⟨h1, h2, _⟩ := hr j (by omega)
      obtain ⟨hc, hcl⟩ := hrow j (by omega)
      refine ⟨[.slice (A j) (L j) (C j)], rfl, ⟨A j, C j, by rw [hcl], by rw [hcl]; exact h2, hc⟩, fun i u hu => ?_⟩
      match i, hu with
      | 0, hu =>
        injection hu with hu
        subst hu
        rw [show j * (Kd.slice 3 (Kd.int .i64)).sz + 0 = j from by show j * 1 + 0 = j; omega]
        exact h1
      | i + 1, hu => simp at hu
    · intro r hrm
      rw [List.mem_map] at hrm
      obtain ⟨j, hj, rfl⟩ := hrm
      rw [List.mem_range] at hj
      obtain ⟨_, h2, h3, h4, h5, _⟩ := hr j (by omega)
      have h3' : C j ≤ 9223372036854775807 := h3
      exact ⟨by rw [(hrow j (by omega)).2]; omega, fun y hy => h5 y (List.mem_of_mem_take hy)⟩
end Go.Proofs.Ytdknhgbjgdmfkaa.P
namespace Go.Proofs.Ytdknhgbjgdmfkaa.P
open Go.RowKit Go.Lib Go.Sort Go.Deep Go.ChangeShapes Go.WideShapes Go.Proofs.YtdknhgbjgdmfkaaW.PrintWords Go.Proofs.YtdknhgbjgdmfkaaW.PrintLast Go.Proofs.YtdknhgbjgdmfkaaW.PrintMore
end Go.Proofs.Ytdknhgbjgdmfkaa.P
