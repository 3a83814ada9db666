-- Written by prn.py (a program of this work) over the seat's translation. Not trusted: Lean checks it.
import Derived.Test.YtemcmcnhpdkdfaaP0
import Derived.Test.YtemcmcnhpdkdfaaHgr
import Derived.Test.YtemcmcnhpdkdfaaHheld
import Derived.Test.YtemcmcnhpdkdfaaHidoms
import Derived.Test.YtemcmcnhpdkdfaaPbywashref01
import Derived.Test.YtemcmcnhpdkdfaaPbywashref10
import Derived.Test.YtemcmcnhpdkdfaaPdom
import Derived.Test.YtemcmcnhpdkdfaaPdomSane
namespace Go.Proofs.Ytemcmcnhpdkdfaa.P
open Go.RowKit Go.Proofs.YtemcmcnhpdkdfaaW.PrintWords Go.Proofs.YtemcmcnhpdkdfaaW.PrintLast Go.Proofs.YtemcmcnhpdkdfaaW.PrintMore
attribute [local go_sem] max2_int min2_int max_two min_two max_three min_three max_four min_four   -- for this text's walks alone
set_option linter.unusedVariables false
set_option linter.unusedSimpArgs false

/-! ### bywashlaw14_awake: function 13 -/
def bywashlaw14_awake.f (k : Nat)  : Option (Bool) := (dom_Idoms.f k (([(([1, 2] : List Int)), (([3] : List Int)), (([3] : List Int)), [], []] : List (List Int)))).bind fun t129 => ((bywashref01_Ints.f k t129 (([(-1), 0, 0, 0, (-2)] : List Int))).bind fun t135 => (if t135 = true then ((dom_Common.f k t129 1 3).bind fun t136 => (if t136 = 0 then ((dom_Sane.f k t129).bind fun t137 => (some t137)) else (some false))) else (some false)))
theorem bywashlaw14_awake.mono : ∀ k, LeO (bywashlaw14_awake.f k ) (bywashlaw14_awake.f (k + 1) ) := by
  intro  k
  unfold bywashlaw14_awake.f
  repeat' first
      | (with_reducible exact bywashref01_Ints.mono _ _ _)
      | (with_reducible exact dom_Common.mono _ _ _ _)
      | (with_reducible exact dom_Idoms.mono _ _)
      | (with_reducible exact dom_Sane.mono _ _)
      | (with_reducible exact LeO.refl _)
      | (with_reducible exact LeO.none _)
      | (with_reducible refine LeO.ite ?_ ?_)
      | (with_reducible refine LeO.bind ?_ (fun _ => ?_))
      | exact bywashref01_Ints.mono _ _ _
      | exact dom_Common.mono _ _ _ _
      | exact dom_Idoms.mono _ _
      | exact dom_Sane.mono _ _
      | exact LeO.none _
      | refine LeO.ite ?_ ?_
      | refine LeO.bind ?_ (fun _ => ?_)
set_option maxHeartbeats 8000000 in
set_option maxRecDepth 100000 in
theorem bywashlaw14_awake.calls (k : Nat)  (r : Bool) (w : World) (h : bywashlaw14_awake.f k  = some r) :
    Calls Try.prog 13 #[] w fun e w' => e = .returned (.bool r) ∧ Below w.heap.size w w' := by
  have HB := Aside0.mk (Below.refl w.heap.size w)
  have H : ((dom_Idoms.f k (([(([1, 2] : List Int)), (([3] : List Int)), (([3] : List Int)), [], []] : List (List Int)))).bind fun t129 => ((bywashref01_Ints.f k t129 (([(-1), 0, 0, 0, (-2)] : List Int))).bind fun t135 => (if t135 = true then ((dom_Common.f k t129 1 3).bind fun t136 => (if t136 = 0 then ((dom_Sane.f k t129).bind fun t137 => (some t137)) else (some false))) else (some false)))) = some r := h
  clear h
  obtain ⟨y117, hy117⟩ : ∃ y_ : List Int, y_ = (([1, 2] : List Int)) := ⟨_, rfl⟩
  replace H : ((dom_Idoms.f k (([y117, (([3] : List Int)), (([3] : List Int)), [], []] : List (List Int)))).bind fun t129 => ((bywashref01_Ints.f k t129 (([(-1), 0, 0, 0, (-2)] : List Int))).bind fun t135 => (if t135 = true then ((dom_Common.f k t129 1 3).bind fun t136 => (if t136 = 0 then ((dom_Sane.f k t129).bind fun t137 => (some t137)) else (some false))) else (some false)))) = some r := by first | (rw [hy117]; with_reducible exact H) | (have H2_ := (Option.bind_some _ _).symm.trans H; rw [hy117]; with_reducible exact H2_) | (have H2_ := (Option.bind_some _ _).symm.trans H; with_reducible exact H2_) | with_reducible exact H | (rw [hy117]; exact H) | exact H
  have Ny117 := Aside0.mk hy117
  clear hy117
  obtain ⟨y120, hy120⟩ : ∃ y_ : List Int, y_ = (([3] : List Int)) := ⟨_, rfl⟩
  replace H : ((dom_Idoms.f k (([y117, y120, (([3] : List Int)), [], []] : List (List Int)))).bind fun t129 => ((bywashref01_Ints.f k t129 (([(-1), 0, 0, 0, (-2)] : List Int))).bind fun t135 => (if t135 = true then ((dom_Common.f k t129 1 3).bind fun t136 => (if t136 = 0 then ((dom_Sane.f k t129).bind fun t137 => (some t137)) else (some false))) else (some false)))) = some r := by first | (rw [hy120]; with_reducible exact H) | (have H2_ := (Option.bind_some _ _).symm.trans H; rw [hy120]; with_reducible exact H2_) | (have H2_ := (Option.bind_some _ _).symm.trans H; with_reducible exact H2_) | with_reducible exact H | (rw [hy120]; exact H) | exact H
  have Ny120 := Aside0.mk hy120
  clear hy120
  obtain ⟨y123, hy123⟩ : ∃ y_ : List Int, y_ = (([3] : List Int)) := ⟨_, rfl⟩
  replace H : ((dom_Idoms.f k (([y117, y120, y123, [], []] : List (List Int)))).bind fun t129 => ((bywashref01_Ints.f k t129 (([(-1), 0, 0, 0, (-2)] : List Int))).bind fun t135 => (if t135 = true then ((dom_Common.f k t129 1 3).bind fun t136 => (if t136 = 0 then ((dom_Sane.f k t129).bind fun t137 => (some t137)) else (some false))) else (some false)))) = some r := by first | (rw [hy123]; with_reducible exact H) | (have H2_ := (Option.bind_some _ _).symm.trans H; rw [hy123]; with_reducible exact H2_) | (have H2_ := (Option.bind_some _ _).symm.trans H; with_reducible exact H2_) | with_reducible exact H | (rw [hy123]; exact H) | exact H
  have Ny123 := Aside0.mk hy123
  clear hy123
  obtain ⟨y126, hy126⟩ : ∃ y_ : List (List Int), y_ = (([y117, y120, y123, [], []] : List (List Int))) := ⟨_, rfl⟩
  replace H : ((dom_Idoms.f k y126).bind fun t129 => ((bywashref01_Ints.f k t129 (([(-1), 0, 0, 0, (-2)] : List Int))).bind fun t135 => (if t135 = true then ((dom_Common.f k t129 1 3).bind fun t136 => (if t136 = 0 then ((dom_Sane.f k t129).bind fun t137 => (some t137)) else (some false))) else (some false)))) = some r := by first | (rw [hy126]; with_reducible exact H) | (have H2_ := (Option.bind_some _ _).symm.trans H; rw [hy126]; with_reducible exact H2_) | (have H2_ := (Option.bind_some _ _).symm.trans H; with_reducible exact H2_) | with_reducible exact H | (rw [hy126]; exact H) | exact H
  have Ny126 := Aside0.mk hy126
  clear hy126
  replace H := Option.bind_eq_some_iff.mp H
  obtain ⟨t129, A10, H⟩ := H
  replace H : ((bywashref01_Ints.f k t129 (([(-1), 0, 0, 0, (-2)] : List Int))).bind fun t135 => (if t135 = true then ((dom_Common.f k t129 1 3).bind fun t136 => (if t136 = 0 then ((dom_Sane.f k t129).bind fun t137 => (some t137)) else (some false))) else (some false))) = some r := H
  have A1 := Aside0.mk A10
  clear A10
  obtain ⟨y132, hy132⟩ : ∃ y_ : List Int, y_ = (([(-1), 0, 0, 0, (-2)] : List Int)) := ⟨_, rfl⟩
  replace H : ((bywashref01_Ints.f k t129 y132).bind fun t135 => (if t135 = true then ((dom_Common.f k t129 1 3).bind fun t136 => (if t136 = 0 then ((dom_Sane.f k t129).bind fun t137 => (some t137)) else (some false))) else (some false))) = some r := by first | (rw [hy132]; with_reducible exact H) | (have H2_ := (Option.bind_some _ _).symm.trans H; rw [hy132]; with_reducible exact H2_) | (have H2_ := (Option.bind_some _ _).symm.trans H; with_reducible exact H2_) | with_reducible exact H | (rw [hy132]; exact H) | exact H
  have Ny132 := Aside0.mk hy132
  clear hy132
  replace H := Option.bind_eq_some_iff.mp H
  obtain ⟨t135, A20, H⟩ := H
  replace H : (if t135 = true then ((dom_Common.f k t129 1 3).bind fun t136 => (if t136 = 0 then ((dom_Sane.f k t129).bind fun t137 => (some t137)) else (some false))) else (some false)) = some r := H
  have A2 := Aside0.mk A20
  clear A20
  by_cases c3 : t135 = true
  · subst c3
    have H1 : ((dom_Common.f k t129 1 3).bind fun t136 => (if t136 = 0 then ((dom_Sane.f k t129).bind fun t137 => (some t137)) else (some false))) = some r := by rw [if_pos rfl] at H; exact H
    clear H
    have H := H1
    clear H1
    replace H := Option.bind_eq_some_iff.mp H
    obtain ⟨t136, A40, H⟩ := H
    replace H : (if t136 = 0 then ((dom_Sane.f k t129).bind fun t137 => (some t137)) else (some false)) = some r := H
    have A4 := Aside0.mk A40
    clear A40
    by_cases c5 : t136 = 0
    · rw [if_pos c5] at H
      have c5b0 : (t136 == 0) = true := beq_iff_eq.mpr c5
      have c5b1 : (t136 != 0) = false := bne_eq_false_iff_eq.mpr c5
      clear c5
      replace H := Option.bind_eq_some_iff.mp H
      obtain ⟨t137, A60, H⟩ := H
      replace H : (some t137) = some r := H
      have A6 := Aside0.mk A60
      clear A60
      obtain rfl := Option.some.inj H
      go_enter Try.func13, Try.ntmps13
      go_wp2_with (first | ((with_reducible refine gate_dst (N := 2) rfl ?_); refine Kd.R_lit (Kd.int .i64) _ 3 ?hg (N := 2) ?hd (xs := ([1, 2] : List Int)) (inner := [.int .i64 1, .int .i64 2]) (ok := fun _ => True) (okp := fun _ => True) ?hr ?hp (fun _ hk => hk) trivial (Below.refl _ _) (Nat.le_refl _) (by simp) ?_; (case hd => rfl); (case hg => rfl); (case hr => first | (go_simp; done) | (go_simp; rfl)); (case hp => exact (Reps.one (show Kd.M (Kd.int .i64) _ _ _ 1 [.int .i64 1] from rfl) (Reps.one (show Kd.M (Kd.int .i64) _ _ _ 2 [.int .i64 2] from rfl) (Reps.none _ _)))); intro v118 w7 ho8 hb hg_ hnew_; clear hg_ hnew_; (first | rw [← Ny117.out] at ho8 | (simp only [Int.reduceToNat] at ho8; rw [← Ny117.out] at ho8)); have n0_ := Aside0.mk (Kd.R_lower ho8 (below_size (by repeat (first | (with_reducible first | exact HB.out | apply below_alloc | apply pw_below_drewN | apply below_drew1) | exact HB.out)))); have n1_ := Aside0.mk (below_step (by repeat (first | (with_reducible first | exact HB.out | apply below_alloc | apply pw_below_drewN | apply below_drew1) | exact HB.out)) hb); clear HB; have HO119 := n0_; have HB := n1_; clear n0_ n1_; clear hb ho8) | ((with_reducible refine gate_dst (N := 3) rfl ?_); refine Kd.R_lit (Kd.int .i64) _ 3 ?hg (N := 3) ?hd (xs := ([3] : List Int)) (inner := [.int .i64 3]) (ok := fun _ => True) (okp := fun _ => True) ?hr ?hp (fun _ hk => hk) trivial (Below.refl _ _) (Nat.le_refl _) (by simp) ?_; (case hd => rfl); (case hg => rfl); (case hr => first | (go_simp; done) | (go_simp; rfl)); (case hp => exact (Reps.one (show Kd.M (Kd.int .i64) _ _ _ 3 [.int .i64 3] from rfl) (Reps.none _ _))); intro v121 w9 ho10 hb hg_ hnew_; clear hg_ hnew_; (first | rw [← Ny120.out] at ho10 | (simp only [Int.reduceToNat] at ho10; rw [← Ny120.out] at ho10)); have n0_ := Aside0.mk (Kd.R_elder' (by (with_reducible repeat (first | apply Kd.R_alloc | apply Kd.R_drewN | apply Kd.R_drew)); exact HO119.out) (Kd.R_base ho10) hb); have n1_ := Aside0.mk (Kd.R_lower (Kd.R_new' ho10 (Kd.R_lt (by (with_reducible repeat (first | apply Kd.R_alloc | apply Kd.R_drewN | apply Kd.R_drew)); exact HO119.out))) (below_size (by repeat (first | (with_reducible first | exact HB.out | apply below_alloc | apply pw_below_drewN | apply below_drew1) | exact HB.out)))); have n2_ := Aside0.mk (below_step (by repeat (first | (with_reducible first | exact HB.out | apply below_alloc | apply pw_below_drewN | apply below_drew1) | exact HB.out)) hb); clear HO119; clear HB; have HO119 := n0_; have HO122 := n1_; have HB := n2_; clear n0_ n1_ n2_; clear hb ho10) | ((with_reducible refine gate_dst (N := 4) rfl ?_); refine Kd.R_lit (Kd.int .i64) _ 3 ?hg (N := 4) ?hd (xs := ([3] : List Int)) (inner := [.int .i64 3]) (ok := fun _ => True) (okp := fun _ => True) ?hr ?hp (fun _ hk => hk) trivial (Below.refl _ _) (Nat.le_refl _) (by simp) ?_; (case hd => rfl); (case hg => rfl); (case hr => first | (go_simp; done) | (go_simp; rfl)); (case hp => exact (Reps.one (show Kd.M (Kd.int .i64) _ _ _ 3 [.int .i64 3] from rfl) (Reps.none _ _))); intro v124 w11 ho12 hb hg_ hnew_; clear hg_ hnew_; (first | rw [← Ny123.out] at ho12 | (simp only [Int.reduceToNat] at ho12; rw [← Ny123.out] at ho12)); have n0_ := Aside0.mk (Kd.R_elder' (by (with_reducible repeat (first | apply Kd.R_alloc | apply Kd.R_drewN | apply Kd.R_drew)); exact HO119.out) (Kd.R_base ho12) hb); have n1_ := Aside0.mk (Kd.R_elder' (by (with_reducible repeat (first | apply Kd.R_alloc | apply Kd.R_drewN | apply Kd.R_drew)); exact HO122.out) (Kd.R_base ho12) hb); have n2_ := Aside0.mk (Kd.R_lower (Kd.R_new' (Kd.R_new' ho12 (Kd.R_lt (by (with_reducible repeat (first | apply Kd.R_alloc | apply Kd.R_drewN | apply Kd.R_drew)); exact HO119.out))) (Kd.R_lt (by (with_reducible repeat (first | apply Kd.R_alloc | apply Kd.R_drewN | apply Kd.R_drew)); exact HO122.out))) (below_size (by repeat (first | (with_reducible first | exact HB.out | apply below_alloc | apply pw_below_drewN | apply below_drew1) | exact HB.out)))); have n3_ := Aside0.mk (below_step (by repeat (first | (with_reducible first | exact HB.out | apply below_alloc | apply pw_below_drewN | apply below_drew1) | exact HB.out)) hb); clear HO119; clear HO122; clear HB; have HO119 := n0_; have HO122 := n1_; have HO125 := n2_; have HB := n3_; clear n0_ n1_ n2_ n3_; clear hb ho12; obtain ⟨Ao13, co13, eo13⟩ := Kd.R_slice HO119.out; subst eo13; obtain ⟨Ao14, co14, eo14⟩ := Kd.R_slice HO122.out; subst eo14; obtain ⟨Ao15, co15, eo15⟩ := Kd.R_slice HO125.out; subst eo15) | ((with_reducible refine gate_dst (N := 5) rfl ?_); refine Kd.N_lit (Kd.slice 3 (Kd.int .i64)) _ 25 ?hg (N' := 5) ?hd (xs := ([y117, y120, y123, [], []] : List (List Int))) (inner := [.slice Ao13 y117.length co13, .slice Ao14 y120.length co14, .slice Ao15 y123.length co15, .slice none 0 0, .slice none 0 0]) (ok := (fun _ => True)) (okp := (fun _ => True)) ?hr ?hp (fun _ hk => hk) ((show ∀ k_, w11.heap.size ≤ k_ → (fun _ => True) k_ from fun k_ hk => trivial) _ (Nat.le_refl _)) (Below.refl _ _) (Nat.le_refl _) (by simp) ?_; (case hd => rfl); (case hg => rfl); (case hr => first | (go_simp; done) | (go_simp; rfl)); (case hp => exact (Reps.one (show Kd.FK (Kd.slice 3 (Kd.int .i64)) _ _ y117 [.slice Ao13 y117.length co13] from (Kd.FK_slice_mk (Kd.R_reads' (Kd.R_mono (ok' := (fun _ => True)) (HO119.out) (fun k_ hk => trivial))).2.1 (Kd.R_F (Kd.R_mono (ok' := (fun _ => True)) (HO119.out) (fun k_ hk => trivial))))) (Reps.one (show Kd.FK (Kd.slice 3 (Kd.int .i64)) _ _ y120 [.slice Ao14 y120.length co14] from (Kd.FK_slice_mk (Kd.R_reads' (Kd.R_mono (ok' := (fun _ => True)) (HO122.out) (fun k_ hk => trivial))).2.1 (Kd.R_F (Kd.R_mono (ok' := (fun _ => True)) (HO122.out) (fun k_ hk => trivial))))) (Reps.one (show Kd.FK (Kd.slice 3 (Kd.int .i64)) _ _ y123 [.slice Ao15 y123.length co15] from (Kd.FK_slice_mk (Kd.R_reads' (Kd.R_mono (ok' := (fun _ => True)) (HO125.out) (fun k_ hk => trivial))).2.1 (Kd.R_F (Kd.R_mono (ok' := (fun _ => True)) (HO125.out) (fun k_ hk => trivial))))) (Reps.one (show Kd.FK (Kd.slice 3 (Kd.int .i64)) _ _ [] [.slice none 0 0] from (Kd.FK_slice_mk (Nat.le_refl _) (Kd.F_nil _ _ _))) (Reps.one (show Kd.FK (Kd.slice 3 (Kd.int .i64)) _ _ [] [.slice none 0 0] from (Kd.FK_slice_mk (Nat.le_refl _) (Kd.F_nil _ _ _))) (Reps.none _ _))))))); intro v127 w16 ho17 hb hg_ hnew_; clear hg_ hnew_; (first | rw [← Ny126.out] at ho17 | (simp only [Int.reduceToNat] at ho17; rw [← Ny126.out] at ho17)); have n0_ := Aside0.mk (Kd.N_lower ho17 (below_size (by repeat (first | (with_reducible first | exact HB.out | apply below_alloc | apply pw_below_drewN | apply below_drew1) | exact HB.out)))); have n1_ := Aside0.mk (below_step (by repeat (first | (with_reducible first | exact HB.out | apply below_alloc | apply pw_below_drewN | apply below_drew1) | exact HB.out)) hb); clear HB; clear HO119; clear HO122; clear HO125; have HO128 := n0_; have HB := n1_; clear n0_ n1_; clear hb ho17; obtain ⟨Ao18, co18, eo18⟩ := Kd.N_slice HO128.out; subst eo18) | ((with_reducible refine gate_callee (f := 15) rfl ?_); refine goesL_ (some 6) rfl rfl Try.func15 (by kernel_rfl) rfl #[.slice Ao18 y126.length co18] rfl (by (try simp only [List.map_toArray, List.map_cons, List.map_nil]); first | done | rfl | (simp only [List.length_drop, List.length_take]; rfl)) ?_; (with_reducible refine (dom_Idoms.calls k _ _ y126 t129 _ ?side1 ?side2 A1.out).mono ?_); (case side1 => repeat (first | exact (Kd.N_reads' HO128.out).2.2 | (with_reducible refine Kd.C_alloc ?_ _) | (with_reducible refine Kd.C_drewN ?_ _) | (with_reducible refine Kd.C_drew ?_))); (case side2 => exact (Kd.N_reads' HO128.out).2.1); rintro e w19 ⟨v130, rfl, ho0, hb⟩; refine ⟨_, rfl, ?_⟩; have n0_ := Aside0.mk (Kd.N_elder' (by (with_reducible repeat (first | apply Kd.N_alloc | apply Kd.N_drewN | apply Kd.N_drew)); exact HO128.out) (Kd.R_base ho0) hb); have n1_ := Aside0.mk (Kd.R_lower ho0 (below_size (by repeat (first | (with_reducible first | exact HB.out | apply below_alloc | apply pw_below_drewN | apply below_drew1) | exact HB.out)))); have n2_ := Aside0.mk (below_step (by repeat (first | (with_reducible first | exact HB.out | apply below_alloc | apply pw_below_drewN | apply below_drew1) | exact HB.out)) hb); clear HO128; clear HB; have HO128 := n0_; have HO131 := n1_; have HB := n2_; clear n0_ n1_ n2_; (try clear hb); (try clear hb2); (try clear hk); (try clear hi); (try clear ho0)) | ((with_reducible refine gate_dst (N := 8) rfl ?_); refine Kd.R_lit (Kd.int .i64) _ 3 ?hg (N := 8) ?hd (xs := ([(-1), 0, 0, 0, (-2)] : List Int)) (inner := [.int .i64 (-1), .int .i64 0, .int .i64 0, .int .i64 0, .int .i64 (-2)]) (ok := fun _ => True) (okp := fun _ => True) ?hr ?hp (fun _ hk => hk) trivial (Below.refl _ _) (Nat.le_refl _) (by simp) ?_; (case hd => rfl); (case hg => rfl); (case hr => first | (go_simp; done) | (go_simp; rfl)); (case hp => exact (Reps.one (show Kd.M (Kd.int .i64) _ _ _ (-1) [.int .i64 (-1)] from rfl) (Reps.one (show Kd.M (Kd.int .i64) _ _ _ 0 [.int .i64 0] from rfl) (Reps.one (show Kd.M (Kd.int .i64) _ _ _ 0 [.int .i64 0] from rfl) (Reps.one (show Kd.M (Kd.int .i64) _ _ _ 0 [.int .i64 0] from rfl) (Reps.one (show Kd.M (Kd.int .i64) _ _ _ (-2) [.int .i64 (-2)] from rfl) (Reps.none _ _))))))); intro v133 w20 ho21 hb hg_ hnew_; clear hg_ hnew_; (first | rw [← Ny132.out] at ho21 | (simp only [Int.reduceToNat] at ho21; rw [← Ny132.out] at ho21)); have n0_ := Aside0.mk (Kd.N_elder' (by (with_reducible repeat (first | apply Kd.N_alloc | apply Kd.N_drewN | apply Kd.N_drew)); exact HO128.out) (Kd.R_base ho21) hb); have n1_ := Aside0.mk (Kd.R_elder' (by (with_reducible repeat (first | apply Kd.R_alloc | apply Kd.R_drewN | apply Kd.R_drew)); exact HO131.out) (Kd.R_base ho21) hb); have n2_ := Aside0.mk (Kd.R_lower (Kd.R_new' ho21 (Kd.R_lt (by (with_reducible repeat (first | apply Kd.R_alloc | apply Kd.R_drewN | apply Kd.R_drew)); exact HO131.out))) (below_size (by repeat (first | (with_reducible first | exact HB.out | apply below_alloc | apply pw_below_drewN | apply below_drew1) | exact HB.out)))); have n3_ := Aside0.mk (below_step (by repeat (first | (with_reducible first | exact HB.out | apply below_alloc | apply pw_below_drewN | apply below_drew1) | exact HB.out)) hb); clear HO128; clear HO131; clear HB; have HO128 := n0_; have HO131 := n1_; have HO134 := n2_; have HB := n3_; clear n0_ n1_ n2_ n3_; clear hb ho21; obtain ⟨Ao22, co22, eo22⟩ := Kd.R_slice HO131.out; subst eo22; obtain ⟨Ao23, co23, eo23⟩ := Kd.R_slice HO134.out; subst eo23) | ((with_reducible refine gate_callee (f := 21) rfl ?_); refine goesL_ (some 9) rfl rfl Try.func21 (by kernel_rfl) rfl #[.slice Ao22 t129.length co22, .slice Ao23 y132.length co23] rfl (by (try simp only [List.map_toArray, List.map_cons, List.map_nil]); first | done | rfl | (simp only [List.length_drop, List.length_take]; rfl)) ?_; (with_reducible refine (bywashref01_Ints.calls k _ _ t129 _ _ y132 true _ ?side1 ?side2 ?side3 ?side4 A2.out).mono ?_); (case side1 => repeat (first | exact (Kd.R_reads' HO131.out).2.2 | (with_reducible refine Kd.C_alloc ?_ _) | (with_reducible refine Kd.C_drewN ?_ _) | (with_reducible refine Kd.C_drew ?_))); (case side2 => exact (Kd.R_reads' HO131.out).2.1); (case side3 => repeat (first | exact (Kd.R_reads' HO134.out).2.2 | (with_reducible refine Kd.C_alloc ?_ _) | (with_reducible refine Kd.C_drewN ?_ _) | (with_reducible refine Kd.C_drew ?_))); (case side4 => exact (Kd.R_reads' HO134.out).2.1); rintro e w' ⟨rfl, ⟨nd, rfl⟩⟩; refine ⟨_, rfl, ?_⟩) | (go_at_call 16; (with_reducible refine (dom_Common.calls k _ _ t129 1 3 t136 _ ?side1 ?side2 A4.out).mono ?_); (case side1 => repeat (first | exact (Kd.R_reads' HO131.out).2.2 | (with_reducible refine Kd.C_alloc ?_ _) | (with_reducible refine Kd.C_drewN ?_ _) | (with_reducible refine Kd.C_drew ?_))); (case side2 => exact (Kd.R_reads' HO131.out).2.1); rintro e w24 ⟨rfl, hb⟩; have n0_ := Aside0.mk (Kd.N_below (by (with_reducible repeat (first | apply Kd.N_alloc | apply Kd.N_drewN | apply Kd.N_drew)); exact HO128.out) hb); have n1_ := Aside0.mk (Kd.R_below (by (with_reducible repeat (first | apply Kd.R_alloc | apply Kd.R_drewN | apply Kd.R_drew)); exact HO131.out) hb); have n2_ := Aside0.mk (Kd.R_below (by (with_reducible repeat (first | apply Kd.R_alloc | apply Kd.R_drewN | apply Kd.R_drew)); exact HO134.out) hb); have n3_ := Aside0.mk (below_step (by repeat (first | (with_reducible first | exact HB.out | apply below_alloc | apply pw_below_drewN | apply below_drew1) | exact HB.out)) hb); clear HO128; clear HO131; clear HO134; clear HB; have HO128 := n0_; have HO131 := n1_; have HO134 := n2_; have HB := n3_; clear n0_ n1_ n2_ n3_; (try clear hb); (try clear hb2); (try clear hk); (try clear hi)) | (go_at_call 23; (with_reducible refine (dom_Sane.calls k _ _ t129 t137 _ ?side1 ?side2 A6.out).mono ?_); (case side1 => repeat (first | exact (Kd.R_reads' HO131.out).2.2 | (with_reducible refine Kd.C_alloc ?_ _) | (with_reducible refine Kd.C_drewN ?_ _) | (with_reducible refine Kd.C_drew ?_))); (case side2 => exact (Kd.R_reads' HO131.out).2.1); rintro e w25 ⟨rfl, hb⟩; have n0_ := Aside0.mk (Kd.N_below (by (with_reducible repeat (first | apply Kd.N_alloc | apply Kd.N_drewN | apply Kd.N_drew)); exact HO128.out) hb); have n1_ := Aside0.mk (Kd.R_below (by (with_reducible repeat (first | apply Kd.R_alloc | apply Kd.R_drewN | apply Kd.R_drew)); exact HO131.out) hb); have n2_ := Aside0.mk (Kd.R_below (by (with_reducible repeat (first | apply Kd.R_alloc | apply Kd.R_drewN | apply Kd.R_drew)); exact HO134.out) hb); have n3_ := Aside0.mk (below_step (by repeat (first | (with_reducible first | exact HB.out | apply below_alloc | apply pw_below_drewN | apply below_drew1) | exact HB.out)) hb); clear HO128; clear HO131; clear HO134; clear HB; have HO128 := n0_; have HO131 := n1_; have HO134 := n2_; have HB := n3_; clear n0_ n1_ n2_ n3_; (try clear hb); (try clear hb2); (try clear hk); (try clear hi)))
      go_ret
      exact ⟨by first | rfl | (simp [errW_none, errW_some] <;> rfl) | (simp [*, errW_none, errW_some] <;> rfl) | (exfalso; (try simp_all); (try omega); done), by repeat (first | (with_reducible first | exact HB.out | apply below_alloc | apply pw_below_drewN | apply below_drew1) | exact HB.out)⟩
    · rw [if_neg c5] at H
      have c5b0 : (t136 == 0) = false := beq_eq_false_iff_ne.mpr c5
      have c5b1 : (t136 != 0) = true := bne_iff_ne.mpr c5
      obtain rfl := Option.some.inj H
      go_enter Try.func13, Try.ntmps13
      go_wp2_with (first | ((with_reducible refine gate_dst (N := 2) rfl ?_); refine Kd.R_lit (Kd.int .i64) _ 3 ?hg (N := 2) ?hd (xs := ([1, 2] : List Int)) (inner := [.int .i64 1, .int .i64 2]) (ok := fun _ => True) (okp := fun _ => True) ?hr ?hp (fun _ hk => hk) trivial (Below.refl _ _) (Nat.le_refl _) (by simp) ?_; (case hd => rfl); (case hg => rfl); (case hr => first | (go_simp; done) | (go_simp; rfl)); (case hp => exact (Reps.one (show Kd.M (Kd.int .i64) _ _ _ 1 [.int .i64 1] from rfl) (Reps.one (show Kd.M (Kd.int .i64) _ _ _ 2 [.int .i64 2] from rfl) (Reps.none _ _)))); intro v118 w26 ho27 hb hg_ hnew_; clear hg_ hnew_; (first | rw [← Ny117.out] at ho27 | (simp only [Int.reduceToNat] at ho27; rw [← Ny117.out] at ho27)); have n0_ := Aside0.mk (Kd.R_lower ho27 (below_size (by repeat (first | (with_reducible first | exact HB.out | apply below_alloc | apply pw_below_drewN | apply below_drew1) | exact HB.out)))); have n1_ := Aside0.mk (below_step (by repeat (first | (with_reducible first | exact HB.out | apply below_alloc | apply pw_below_drewN | apply below_drew1) | exact HB.out)) hb); clear HB; have HO119 := n0_; have HB := n1_; clear n0_ n1_; clear hb ho27) | ((with_reducible refine gate_dst (N := 3) rfl ?_); refine Kd.R_lit (Kd.int .i64) _ 3 ?hg (N := 3) ?hd (xs := ([3] : List Int)) (inner := [.int .i64 3]) (ok := fun _ => True) (okp := fun _ => True) ?hr ?hp (fun _ hk => hk) trivial (Below.refl _ _) (Nat.le_refl _) (by simp) ?_; (case hd => rfl); (case hg => rfl); (case hr => first | (go_simp; done) | (go_simp; rfl)); (case hp => exact (Reps.one (show Kd.M (Kd.int .i64) _ _ _ 3 [.int .i64 3] from rfl) (Reps.none _ _))); intro v121 w28 ho29 hb hg_ hnew_; clear hg_ hnew_; (first | rw [← Ny120.out] at ho29 | (simp only [Int.reduceToNat] at ho29; rw [← Ny120.out] at ho29)); have n0_ := Aside0.mk (Kd.R_elder' (by (with_reducible repeat (first | apply Kd.R_alloc | apply Kd.R_drewN | apply Kd.R_drew)); exact HO119.out) (Kd.R_base ho29) hb); have n1_ := Aside0.mk (Kd.R_lower (Kd.R_new' ho29 (Kd.R_lt (by (with_reducible repeat (first | apply Kd.R_alloc | apply Kd.R_drewN | apply Kd.R_drew)); exact HO119.out))) (below_size (by repeat (first | (with_reducible first | exact HB.out | apply below_alloc | apply pw_below_drewN | apply below_drew1) | exact HB.out)))); have n2_ := Aside0.mk (below_step (by repeat (first | (with_reducible first | exact HB.out | apply below_alloc | apply pw_below_drewN | apply below_drew1) | exact HB.out)) hb); clear HO119; clear HB; have HO119 := n0_; have HO122 := n1_; have HB := n2_; clear n0_ n1_ n2_; clear hb ho29) | ((with_reducible refine gate_dst (N := 4) rfl ?_); refine Kd.R_lit (Kd.int .i64) _ 3 ?hg (N := 4) ?hd (xs := ([3] : List Int)) (inner := [.int .i64 3]) (ok := fun _ => True) (okp := fun _ => True) ?hr ?hp (fun _ hk => hk) trivial (Below.refl _ _) (Nat.le_refl _) (by simp) ?_; (case hd => rfl); (case hg => rfl); (case hr => first | (go_simp; done) | (go_simp; rfl)); (case hp => exact (Reps.one (show Kd.M (Kd.int .i64) _ _ _ 3 [.int .i64 3] from rfl) (Reps.none _ _))); intro v124 w30 ho31 hb hg_ hnew_; clear hg_ hnew_; (first | rw [← Ny123.out] at ho31 | (simp only [Int.reduceToNat] at ho31; rw [← Ny123.out] at ho31)); have n0_ := Aside0.mk (Kd.R_elder' (by (with_reducible repeat (first | apply Kd.R_alloc | apply Kd.R_drewN | apply Kd.R_drew)); exact HO119.out) (Kd.R_base ho31) hb); have n1_ := Aside0.mk (Kd.R_elder' (by (with_reducible repeat (first | apply Kd.R_alloc | apply Kd.R_drewN | apply Kd.R_drew)); exact HO122.out) (Kd.R_base ho31) hb); have n2_ := Aside0.mk (Kd.R_lower (Kd.R_new' (Kd.R_new' ho31 (Kd.R_lt (by (with_reducible repeat (first | apply Kd.R_alloc | apply Kd.R_drewN | apply Kd.R_drew)); exact HO119.out))) (Kd.R_lt (by (with_reducible repeat (first | apply Kd.R_alloc | apply Kd.R_drewN | apply Kd.R_drew)); exact HO122.out))) (below_size (by repeat (first | (with_reducible first | exact HB.out | apply below_alloc | apply pw_below_drewN | apply below_drew1) | exact HB.out)))); have n3_ := Aside0.mk (below_step (by repeat (first | (with_reducible first | exact HB.out | apply below_alloc | apply pw_below_drewN | apply below_drew1) | exact HB.out)) hb); clear HO119; clear HO122; clear HB; have HO119 := n0_; have HO122 := n1_; have HO125 := n2_; have HB := n3_; clear n0_ n1_ n2_ n3_; clear hb ho31; obtain ⟨Ao32, co32, eo32⟩ := Kd.R_slice HO119.out; subst eo32; obtain ⟨Ao33, co33, eo33⟩ := Kd.R_slice HO122.out; subst eo33; obtain ⟨Ao34, co34, eo34⟩ := Kd.R_slice HO125.out; subst eo34) | ((with_reducible refine gate_dst (N := 5) rfl ?_); refine Kd.N_lit (Kd.slice 3 (Kd.int .i64)) _ 25 ?hg (N' := 5) ?hd (xs := ([y117, y120, y123, [], []] : List (List Int))) (inner := [.slice Ao32 y117.length co32, .slice Ao33 y120.length co33, .slice Ao34 y123.length co34, .slice none 0 0, .slice none 0 0]) (ok := (fun _ => True)) (okp := (fun _ => True)) ?hr ?hp (fun _ hk => hk) ((show ∀ k_, w30.heap.size ≤ k_ → (fun _ => True) k_ from fun k_ hk => trivial) _ (Nat.le_refl _)) (Below.refl _ _) (Nat.le_refl _) (by simp) ?_; (case hd => rfl); (case hg => rfl); (case hr => first | (go_simp; done) | (go_simp; rfl)); (case hp => exact (Reps.one (show Kd.FK (Kd.slice 3 (Kd.int .i64)) _ _ y117 [.slice Ao32 y117.length co32] from (Kd.FK_slice_mk (Kd.R_reads' (Kd.R_mono (ok' := (fun _ => True)) (HO119.out) (fun k_ hk => trivial))).2.1 (Kd.R_F (Kd.R_mono (ok' := (fun _ => True)) (HO119.out) (fun k_ hk => trivial))))) (Reps.one (show Kd.FK (Kd.slice 3 (Kd.int .i64)) _ _ y120 [.slice Ao33 y120.length co33] from (Kd.FK_slice_mk (Kd.R_reads' (Kd.R_mono (ok' := (fun _ => True)) (HO122.out) (fun k_ hk => trivial))).2.1 (Kd.R_F (Kd.R_mono (ok' := (fun _ => True)) (HO122.out) (fun k_ hk => trivial))))) (Reps.one (show Kd.FK (Kd.slice 3 (Kd.int .i64)) _ _ y123 [.slice Ao34 y123.length co34] from (Kd.FK_slice_mk (Kd.R_reads' (Kd.R_mono (ok' := (fun _ => True)) (HO125.out) (fun k_ hk => trivial))).2.1 (Kd.R_F (Kd.R_mono (ok' := (fun _ => True)) (HO125.out) (fun k_ hk => trivial))))) (Reps.one (show Kd.FK (Kd.slice 3 (Kd.int .i64)) _ _ [] [.slice none 0 0] from (Kd.FK_slice_mk (Nat.le_refl _) (Kd.F_nil _ _ _))) (Reps.one (show Kd.FK (Kd.slice 3 (Kd.int .i64)) _ _ [] [.slice none 0 0] from (Kd.FK_slice_mk (Nat.le_refl _) (Kd.F_nil _ _ _))) (Reps.none _ _))))))); intro v127 w35 ho36 hb hg_ hnew_; clear hg_ hnew_; (first | rw [← Ny126.out] at ho36 | (simp only [Int.reduceToNat] at ho36; rw [← Ny126.out] at ho36)); have n0_ := Aside0.mk (Kd.N_lower ho36 (below_size (by repeat (first | (with_reducible first | exact HB.out | apply below_alloc | apply pw_below_drewN | apply below_drew1) | exact HB.out)))); have n1_ := Aside0.mk (below_step (by repeat (first | (with_reducible first | exact HB.out | apply below_alloc | apply pw_below_drewN | apply below_drew1) | exact HB.out)) hb); clear HB; clear HO119; clear HO122; clear HO125; have HO128 := n0_; have HB := n1_; clear n0_ n1_; clear hb ho36; obtain ⟨Ao37, co37, eo37⟩ := Kd.N_slice HO128.out; subst eo37) | ((with_reducible refine gate_callee (f := 15) rfl ?_); refine goesL_ (some 6) rfl rfl Try.func15 (by kernel_rfl) rfl #[.slice Ao37 y126.length co37] rfl (by (try simp only [List.map_toArray, List.map_cons, List.map_nil]); first | done | rfl | (simp only [List.length_drop, List.length_take]; rfl)) ?_; (with_reducible refine (dom_Idoms.calls k _ _ y126 t129 _ ?side1 ?side2 A1.out).mono ?_); (case side1 => repeat (first | exact (Kd.N_reads' HO128.out).2.2 | (with_reducible refine Kd.C_alloc ?_ _) | (with_reducible refine Kd.C_drewN ?_ _) | (with_reducible refine Kd.C_drew ?_))); (case side2 => exact (Kd.N_reads' HO128.out).2.1); rintro e w38 ⟨v130, rfl, ho0, hb⟩; refine ⟨_, rfl, ?_⟩; have n0_ := Aside0.mk (Kd.N_elder' (by (with_reducible repeat (first | apply Kd.N_alloc | apply Kd.N_drewN | apply Kd.N_drew)); exact HO128.out) (Kd.R_base ho0) hb); have n1_ := Aside0.mk (Kd.R_lower ho0 (below_size (by repeat (first | (with_reducible first | exact HB.out | apply below_alloc | apply pw_below_drewN | apply below_drew1) | exact HB.out)))); have n2_ := Aside0.mk (below_step (by repeat (first | (with_reducible first | exact HB.out | apply below_alloc | apply pw_below_drewN | apply below_drew1) | exact HB.out)) hb); clear HO128; clear HB; have HO128 := n0_; have HO131 := n1_; have HB := n2_; clear n0_ n1_ n2_; (try clear hb); (try clear hb2); (try clear hk); (try clear hi); (try clear ho0)) | ((with_reducible refine gate_dst (N := 8) rfl ?_); refine Kd.R_lit (Kd.int .i64) _ 3 ?hg (N := 8) ?hd (xs := ([(-1), 0, 0, 0, (-2)] : List Int)) (inner := [.int .i64 (-1), .int .i64 0, .int .i64 0, .int .i64 0, .int .i64 (-2)]) (ok := fun _ => True) (okp := fun _ => True) ?hr ?hp (fun _ hk => hk) trivial (Below.refl _ _) (Nat.le_refl _) (by simp) ?_; (case hd => rfl); (case hg => rfl); (case hr => first | (go_simp; done) | (go_simp; rfl)); (case hp => exact (Reps.one (show Kd.M (Kd.int .i64) _ _ _ (-1) [.int .i64 (-1)] from rfl) (Reps.one (show Kd.M (Kd.int .i64) _ _ _ 0 [.int .i64 0] from rfl) (Reps.one (show Kd.M (Kd.int .i64) _ _ _ 0 [.int .i64 0] from rfl) (Reps.one (show Kd.M (Kd.int .i64) _ _ _ 0 [.int .i64 0] from rfl) (Reps.one (show Kd.M (Kd.int .i64) _ _ _ (-2) [.int .i64 (-2)] from rfl) (Reps.none _ _))))))); intro v133 w39 ho40 hb hg_ hnew_; clear hg_ hnew_; (first | rw [← Ny132.out] at ho40 | (simp only [Int.reduceToNat] at ho40; rw [← Ny132.out] at ho40)); have n0_ := Aside0.mk (Kd.N_elder' (by (with_reducible repeat (first | apply Kd.N_alloc | apply Kd.N_drewN | apply Kd.N_drew)); exact HO128.out) (Kd.R_base ho40) hb); have n1_ := Aside0.mk (Kd.R_elder' (by (with_reducible repeat (first | apply Kd.R_alloc | apply Kd.R_drewN | apply Kd.R_drew)); exact HO131.out) (Kd.R_base ho40) hb); have n2_ := Aside0.mk (Kd.R_lower (Kd.R_new' ho40 (Kd.R_lt (by (with_reducible repeat (first | apply Kd.R_alloc | apply Kd.R_drewN | apply Kd.R_drew)); exact HO131.out))) (below_size (by repeat (first | (with_reducible first | exact HB.out | apply below_alloc | apply pw_below_drewN | apply below_drew1) | exact HB.out)))); have n3_ := Aside0.mk (below_step (by repeat (first | (with_reducible first | exact HB.out | apply below_alloc | apply pw_below_drewN | apply below_drew1) | exact HB.out)) hb); clear HO128; clear HO131; clear HB; have HO128 := n0_; have HO131 := n1_; have HO134 := n2_; have HB := n3_; clear n0_ n1_ n2_ n3_; clear hb ho40; obtain ⟨Ao41, co41, eo41⟩ := Kd.R_slice HO131.out; subst eo41; obtain ⟨Ao42, co42, eo42⟩ := Kd.R_slice HO134.out; subst eo42) | ((with_reducible refine gate_callee (f := 21) rfl ?_); refine goesL_ (some 9) rfl rfl Try.func21 (by kernel_rfl) rfl #[.slice Ao41 t129.length co41, .slice Ao42 y132.length co42] rfl (by (try simp only [List.map_toArray, List.map_cons, List.map_nil]); first | done | rfl | (simp only [List.length_drop, List.length_take]; rfl)) ?_; (with_reducible refine (bywashref01_Ints.calls k _ _ t129 _ _ y132 true _ ?side1 ?side2 ?side3 ?side4 A2.out).mono ?_); (case side1 => repeat (first | exact (Kd.R_reads' HO131.out).2.2 | (with_reducible refine Kd.C_alloc ?_ _) | (with_reducible refine Kd.C_drewN ?_ _) | (with_reducible refine Kd.C_drew ?_))); (case side2 => exact (Kd.R_reads' HO131.out).2.1); (case side3 => repeat (first | exact (Kd.R_reads' HO134.out).2.2 | (with_reducible refine Kd.C_alloc ?_ _) | (with_reducible refine Kd.C_drewN ?_ _) | (with_reducible refine Kd.C_drew ?_))); (case side4 => exact (Kd.R_reads' HO134.out).2.1); rintro e w' ⟨rfl, ⟨nd, rfl⟩⟩; refine ⟨_, rfl, ?_⟩) | (go_at_call 16; (with_reducible refine (dom_Common.calls k _ _ t129 1 3 t136 _ ?side1 ?side2 A4.out).mono ?_); (case side1 => repeat (first | exact (Kd.R_reads' HO131.out).2.2 | (with_reducible refine Kd.C_alloc ?_ _) | (with_reducible refine Kd.C_drewN ?_ _) | (with_reducible refine Kd.C_drew ?_))); (case side2 => exact (Kd.R_reads' HO131.out).2.1); rintro e w43 ⟨rfl, hb⟩; have n0_ := Aside0.mk (Kd.N_below (by (with_reducible repeat (first | apply Kd.N_alloc | apply Kd.N_drewN | apply Kd.N_drew)); exact HO128.out) hb); have n1_ := Aside0.mk (Kd.R_below (by (with_reducible repeat (first | apply Kd.R_alloc | apply Kd.R_drewN | apply Kd.R_drew)); exact HO131.out) hb); have n2_ := Aside0.mk (Kd.R_below (by (with_reducible repeat (first | apply Kd.R_alloc | apply Kd.R_drewN | apply Kd.R_drew)); exact HO134.out) hb); have n3_ := Aside0.mk (below_step (by repeat (first | (with_reducible first | exact HB.out | apply below_alloc | apply pw_below_drewN | apply below_drew1) | exact HB.out)) hb); clear HO128; clear HO131; clear HO134; clear HB; have HO128 := n0_; have HO131 := n1_; have HO134 := n2_; have HB := n3_; clear n0_ n1_ n2_ n3_; (try clear hb); (try clear hb2); (try clear hk); (try clear hi)))
      go_ret
      exact ⟨by first | rfl | (simp [errW_none, errW_some] <;> rfl) | (simp [*, errW_none, errW_some] <;> rfl) | (exfalso; (try simp_all); (try omega); done), by repeat (first | (with_reducible first | exact HB.out | apply below_alloc | apply pw_below_drewN | apply below_drew1) | exact HB.out)⟩
  · replace c3 := Bool.eq_false_iff.mpr c3
    subst c3
    have H1 : (some false) = some r := by rw [if_neg (show ¬ (false = true) by decide)] at H; exact H
    clear H
    have H := H1
    clear H1
    obtain rfl := Option.some.inj H
    go_enter Try.func13, Try.ntmps13
    go_wp2_with (first | ((with_reducible refine gate_dst (N := 2) rfl ?_); refine Kd.R_lit (Kd.int .i64) _ 3 ?hg (N := 2) ?hd (xs := ([1, 2] : List Int)) (inner := [.int .i64 1, .int .i64 2]) (ok := fun _ => True) (okp := fun _ => True) ?hr ?hp (fun _ hk => hk) trivial (Below.refl _ _) (Nat.le_refl _) (by simp) ?_; (case hd => rfl); (case hg => rfl); (case hr => first | (go_simp; done) | (go_simp; rfl)); (case hp => exact (Reps.one (show Kd.M (Kd.int .i64) _ _ _ 1 [.int .i64 1] from rfl) (Reps.one (show Kd.M (Kd.int .i64) _ _ _ 2 [.int .i64 2] from rfl) (Reps.none _ _)))); intro v118 w44 ho45 hb hg_ hnew_; clear hg_ hnew_; (first | rw [← Ny117.out] at ho45 | (simp only [Int.reduceToNat] at ho45; rw [← Ny117.out] at ho45)); have n0_ := Aside0.mk (Kd.R_lower ho45 (below_size (by repeat (first | (with_reducible first | exact HB.out | apply below_alloc | apply pw_below_drewN | apply below_drew1) | exact HB.out)))); have n1_ := Aside0.mk (below_step (by repeat (first | (with_reducible first | exact HB.out | apply below_alloc | apply pw_below_drewN | apply below_drew1) | exact HB.out)) hb); clear HB; have HO119 := n0_; have HB := n1_; clear n0_ n1_; clear hb ho45) | ((with_reducible refine gate_dst (N := 3) rfl ?_); refine Kd.R_lit (Kd.int .i64) _ 3 ?hg (N := 3) ?hd (xs := ([3] : List Int)) (inner := [.int .i64 3]) (ok := fun _ => True) (okp := fun _ => True) ?hr ?hp (fun _ hk => hk) trivial (Below.refl _ _) (Nat.le_refl _) (by simp) ?_; (case hd => rfl); (case hg => rfl); (case hr => first | (go_simp; done) | (go_simp; rfl)); (case hp => exact (Reps.one (show Kd.M (Kd.int .i64) _ _ _ 3 [.int .i64 3] from rfl) (Reps.none _ _))); intro v121 w46 ho47 hb hg_ hnew_; clear hg_ hnew_; (first | rw [← Ny120.out] at ho47 | (simp only [Int.reduceToNat] at ho47; rw [← Ny120.out] at ho47)); have n0_ := Aside0.mk (Kd.R_elder' (by (with_reducible repeat (first | apply Kd.R_alloc | apply Kd.R_drewN | apply Kd.R_drew)); exact HO119.out) (Kd.R_base ho47) hb); have n1_ := Aside0.mk (Kd.R_lower (Kd.R_new' ho47 (Kd.R_lt (by (with_reducible repeat (first | apply Kd.R_alloc | apply Kd.R_drewN | apply Kd.R_drew)); exact HO119.out))) (below_size (by repeat (first | (with_reducible first | exact HB.out | apply below_alloc | apply pw_below_drewN | apply below_drew1) | exact HB.out)))); have n2_ := Aside0.mk (below_step (by repeat (first | (with_reducible first | exact HB.out | apply below_alloc | apply pw_below_drewN | apply below_drew1) | exact HB.out)) hb); clear HO119; clear HB; have HO119 := n0_; have HO122 := n1_; have HB := n2_; clear n0_ n1_ n2_; clear hb ho47) | ((with_reducible refine gate_dst (N := 4) rfl ?_); refine Kd.R_lit (Kd.int .i64) _ 3 ?hg (N := 4) ?hd (xs := ([3] : List Int)) (inner := [.int .i64 3]) (ok := fun _ => True) (okp := fun _ => True) ?hr ?hp (fun _ hk => hk) trivial (Below.refl _ _) (Nat.le_refl _) (by simp) ?_; (case hd => rfl); (case hg => rfl); (case hr => first | (go_simp; done) | (go_simp; rfl)); (case hp => exact (Reps.one (show Kd.M (Kd.int .i64) _ _ _ 3 [.int .i64 3] from rfl) (Reps.none _ _))); intro v124 w48 ho49 hb hg_ hnew_; clear hg_ hnew_; (first | rw [← Ny123.out] at ho49 | (simp only [Int.reduceToNat] at ho49; rw [← Ny123.out] at ho49)); have n0_ := Aside0.mk (Kd.R_elder' (by (with_reducible repeat (first | apply Kd.R_alloc | apply Kd.R_drewN | apply Kd.R_drew)); exact HO119.out) (Kd.R_base ho49) hb); have n1_ := Aside0.mk (Kd.R_elder' (by (with_reducible repeat (first | apply Kd.R_alloc | apply Kd.R_drewN | apply Kd.R_drew)); exact HO122.out) (Kd.R_base ho49) hb); have n2_ := Aside0.mk (Kd.R_lower (Kd.R_new' (Kd.R_new' ho49 (Kd.R_lt (by (with_reducible repeat (first | apply Kd.R_alloc | apply Kd.R_drewN | apply Kd.R_drew)); exact HO119.out))) (Kd.R_lt (by (with_reducible repeat (first | apply Kd.R_alloc | apply Kd.R_drewN | apply Kd.R_drew)); exact HO122.out))) (below_size (by repeat (first | (with_reducible first | exact HB.out | apply below_alloc | apply pw_below_drewN | apply below_drew1) | exact HB.out)))); have n3_ := Aside0.mk (below_step (by repeat (first | (with_reducible first | exact HB.out | apply below_alloc | apply pw_below_drewN | apply below_drew1) | exact HB.out)) hb); clear HO119; clear HO122; clear HB; have HO119 := n0_; have HO122 := n1_; have HO125 := n2_; have HB := n3_; clear n0_ n1_ n2_ n3_; clear hb ho49; obtain ⟨Ao50, co50, eo50⟩ := Kd.R_slice HO119.out; subst eo50; obtain ⟨Ao51, co51, eo51⟩ := Kd.R_slice HO122.out; subst eo51; obtain ⟨Ao52, co52, eo52⟩ := Kd.R_slice HO125.out; subst eo52) | ((with_reducible refine gate_dst (N := 5) rfl ?_); refine Kd.N_lit (Kd.slice 3 (Kd.int .i64)) _ 25 ?hg (N' := 5) ?hd (xs := ([y117, y120, y123, [], []] : List (List Int))) (inner := [.slice Ao50 y117.length co50, .slice Ao51 y120.length co51, .slice Ao52 y123.length co52, .slice none 0 0, .slice none 0 0]) (ok := (fun _ => True)) (okp := (fun _ => True)) ?hr ?hp (fun _ hk => hk) ((show ∀ k_, w48.heap.size ≤ k_ → (fun _ => True) k_ from fun k_ hk => trivial) _ (Nat.le_refl _)) (Below.refl _ _) (Nat.le_refl _) (by simp) ?_; (case hd => rfl); (case hg => rfl); (case hr => first | (go_simp; done) | (go_simp; rfl)); (case hp => exact (Reps.one (show Kd.FK (Kd.slice 3 (Kd.int .i64)) _ _ y117 [.slice Ao50 y117.length co50] from (Kd.FK_slice_mk (Kd.R_reads' (Kd.R_mono (ok' := (fun _ => True)) (HO119.out) (fun k_ hk => trivial))).2.1 (Kd.R_F (Kd.R_mono (ok' := (fun _ => True)) (HO119.out) (fun k_ hk => trivial))))) (Reps.one (show Kd.FK (Kd.slice 3 (Kd.int .i64)) _ _ y120 [.slice Ao51 y120.length co51] from (Kd.FK_slice_mk (Kd.R_reads' (Kd.R_mono (ok' := (fun _ => True)) (HO122.out) (fun k_ hk => trivial))).2.1 (Kd.R_F (Kd.R_mono (ok' := (fun _ => True)) (HO122.out) (fun k_ hk => trivial))))) (Reps.one (show Kd.FK (Kd.slice 3 (Kd.int .i64)) _ _ y123 [.slice Ao52 y123.length co52] from (Kd.FK_slice_mk (Kd.R_reads' (Kd.R_mono (ok' := (fun _ => True)) (HO125.out) (fun k_ hk => trivial))).2.1 (Kd.R_F (Kd.R_mono (ok' := (fun _ => True)) (HO125.out) (fun k_ hk => trivial))))) (Reps.one (show Kd.FK (Kd.slice 3 (Kd.int .i64)) _ _ [] [.slice none 0 0] from (Kd.FK_slice_mk (Nat.le_refl _) (Kd.F_nil _ _ _))) (Reps.one (show Kd.FK (Kd.slice 3 (Kd.int .i64)) _ _ [] [.slice none 0 0] from (Kd.FK_slice_mk (Nat.le_refl _) (Kd.F_nil _ _ _))) (Reps.none _ _))))))); intro v127 w53 ho54 hb hg_ hnew_; clear hg_ hnew_; (first | rw [← Ny126.out] at ho54 | (simp only [Int.reduceToNat] at ho54; rw [← Ny126.out] at ho54)); have n0_ := Aside0.mk (Kd.N_lower ho54 (below_size (by repeat (first | (with_reducible first | exact HB.out | apply below_alloc | apply pw_below_drewN | apply below_drew1) | exact HB.out)))); have n1_ := Aside0.mk (below_step (by repeat (first | (with_reducible first | exact HB.out | apply below_alloc | apply pw_below_drewN | apply below_drew1) | exact HB.out)) hb); clear HB; clear HO119; clear HO122; clear HO125; have HO128 := n0_; have HB := n1_; clear n0_ n1_; clear hb ho54; obtain ⟨Ao55, co55, eo55⟩ := Kd.N_slice HO128.out; subst eo55) | ((with_reducible refine gate_callee (f := 15) rfl ?_); refine goesL_ (some 6) rfl rfl Try.func15 (by kernel_rfl) rfl #[.slice Ao55 y126.length co55] rfl (by (try simp only [List.map_toArray, List.map_cons, List.map_nil]); first | done | rfl | (simp only [List.length_drop, List.length_take]; rfl)) ?_; (with_reducible refine (dom_Idoms.calls k _ _ y126 t129 _ ?side1 ?side2 A1.out).mono ?_); (case side1 => repeat (first | exact (Kd.N_reads' HO128.out).2.2 | (with_reducible refine Kd.C_alloc ?_ _) | (with_reducible refine Kd.C_drewN ?_ _) | (with_reducible refine Kd.C_drew ?_))); (case side2 => exact (Kd.N_reads' HO128.out).2.1); rintro e w56 ⟨v130, rfl, ho0, hb⟩; refine ⟨_, rfl, ?_⟩; have n0_ := Aside0.mk (Kd.N_elder' (by (with_reducible repeat (first | apply Kd.N_alloc | apply Kd.N_drewN | apply Kd.N_drew)); exact HO128.out) (Kd.R_base ho0) hb); have n1_ := Aside0.mk (Kd.R_lower ho0 (below_size (by repeat (first | (with_reducible first | exact HB.out | apply below_alloc | apply pw_below_drewN | apply below_drew1) | exact HB.out)))); have n2_ := Aside0.mk (below_step (by repeat (first | (with_reducible first | exact HB.out | apply below_alloc | apply pw_below_drewN | apply below_drew1) | exact HB.out)) hb); clear HO128; clear HB; have HO128 := n0_; have HO131 := n1_; have HB := n2_; clear n0_ n1_ n2_; (try clear hb); (try clear hb2); (try clear hk); (try clear hi); (try clear ho0)) | ((with_reducible refine gate_dst (N := 8) rfl ?_); refine Kd.R_lit (Kd.int .i64) _ 3 ?hg (N := 8) ?hd (xs := ([(-1), 0, 0, 0, (-2)] : List Int)) (inner := [.int .i64 (-1), .int .i64 0, .int .i64 0, .int .i64 0, .int .i64 (-2)]) (ok := fun _ => True) (okp := fun _ => True) ?hr ?hp (fun _ hk => hk) trivial (Below.refl _ _) (Nat.le_refl _) (by simp) ?_; (case hd => rfl); (case hg => rfl); (case hr => first | (go_simp; done) | (go_simp; rfl)); (case hp => exact (Reps.one (show Kd.M (Kd.int .i64) _ _ _ (-1) [.int .i64 (-1)] from rfl) (Reps.one (show Kd.M (Kd.int .i64) _ _ _ 0 [.int .i64 0] from rfl) (Reps.one (show Kd.M (Kd.int .i64) _ _ _ 0 [.int .i64 0] from rfl) (Reps.one (show Kd.M (Kd.int .i64) _ _ _ 0 [.int .i64 0] from rfl) (Reps.one (show Kd.M (Kd.int .i64) _ _ _ (-2) [.int .i64 (-2)] from rfl) (Reps.none _ _))))))); intro v133 w57 ho58 hb hg_ hnew_; clear hg_ hnew_; (first | rw [← Ny132.out] at ho58 | (simp only [Int.reduceToNat] at ho58; rw [← Ny132.out] at ho58)); have n0_ := Aside0.mk (Kd.N_elder' (by (with_reducible repeat (first | apply Kd.N_alloc | apply Kd.N_drewN | apply Kd.N_drew)); exact HO128.out) (Kd.R_base ho58) hb); have n1_ := Aside0.mk (Kd.R_elder' (by (with_reducible repeat (first | apply Kd.R_alloc | apply Kd.R_drewN | apply Kd.R_drew)); exact HO131.out) (Kd.R_base ho58) hb); have n2_ := Aside0.mk (Kd.R_lower (Kd.R_new' ho58 (Kd.R_lt (by (with_reducible repeat (first | apply Kd.R_alloc | apply Kd.R_drewN | apply Kd.R_drew)); exact HO131.out))) (below_size (by repeat (first | (with_reducible first | exact HB.out | apply below_alloc | apply pw_below_drewN | apply below_drew1) | exact HB.out)))); have n3_ := Aside0.mk (below_step (by repeat (first | (with_reducible first | exact HB.out | apply below_alloc | apply pw_below_drewN | apply below_drew1) | exact HB.out)) hb); clear HO128; clear HO131; clear HB; have HO128 := n0_; have HO131 := n1_; have HO134 := n2_; have HB := n3_; clear n0_ n1_ n2_ n3_; clear hb ho58; obtain ⟨Ao59, co59, eo59⟩ := Kd.R_slice HO131.out; subst eo59; obtain ⟨Ao60, co60, eo60⟩ := Kd.R_slice HO134.out; subst eo60) | ((with_reducible refine gate_callee (f := 21) rfl ?_); refine goesL_ (some 9) rfl rfl Try.func21 (by kernel_rfl) rfl #[.slice Ao59 t129.length co59, .slice Ao60 y132.length co60] rfl (by (try simp only [List.map_toArray, List.map_cons, List.map_nil]); first | done | rfl | (simp only [List.length_drop, List.length_take]; rfl)) ?_; (with_reducible refine (bywashref01_Ints.calls k _ _ t129 _ _ y132 false _ ?side1 ?side2 ?side3 ?side4 A2.out).mono ?_); (case side1 => repeat (first | exact (Kd.R_reads' HO131.out).2.2 | (with_reducible refine Kd.C_alloc ?_ _) | (with_reducible refine Kd.C_drewN ?_ _) | (with_reducible refine Kd.C_drew ?_))); (case side2 => exact (Kd.R_reads' HO131.out).2.1); (case side3 => repeat (first | exact (Kd.R_reads' HO134.out).2.2 | (with_reducible refine Kd.C_alloc ?_ _) | (with_reducible refine Kd.C_drewN ?_ _) | (with_reducible refine Kd.C_drew ?_))); (case side4 => exact (Kd.R_reads' HO134.out).2.1); rintro e w' ⟨rfl, ⟨nd, rfl⟩⟩; refine ⟨_, rfl, ?_⟩))
    go_ret
    exact ⟨by first | rfl | (simp [errW_none, errW_some] <;> rfl) | (simp [*, errW_none, errW_some] <;> rfl) | (exfalso; (try simp_all); (try omega); done), by repeat (first | (with_reducible first | exact HB.out | apply below_alloc | apply pw_below_drewN | apply below_drew1) | exact HB.out)⟩

/-! ### bywashlaw14_DomCommon: function 3 -/
mutual
def bywashlaw14_DomCommon.j0 : Nat → Int → Int → Int → Bool → List Int → Int → Bool → Option (Bool)
  | 0, _, _, _, _, _, _, _ => none
  | k + 1, x1, x2, x3, x9, x10, x11, x12 => (dom_Common.f k x10 x2 x1).bind fun t151 => (if x11 = t151 then (if x12 = true then ((dom_Dominates.f k x10 x3 x11).bind fun t152 => (if t152 = true then (if x11 ≥ 0 then ((dom_Dominates.f k x10 x11 x1).bind fun t153 => (if t153 = true then ((dom_Dominates.f k x10 x11 x2).bind fun t154 => (bywashlaw14_DomCommon.j1 k x1 x2 x9 x10 x11 (!t154))) else (bywashlaw14_DomCommon.j1 k x1 x2 x9 x10 x11 true))) else (bywashlaw14_DomCommon.j1 k x1 x2 x9 x10 x11 false)) else (bywashlaw14_DomCommon.j1 k x1 x2 x9 x10 x11 true))) else (if x11 ≥ 0 then ((dom_Dominates.f k x10 x11 x1).bind fun t155 => (if t155 = true then ((dom_Dominates.f k x10 x11 x2).bind fun t156 => (bywashlaw14_DomCommon.j1 k x1 x2 x9 x10 x11 (!t156))) else (bywashlaw14_DomCommon.j1 k x1 x2 x9 x10 x11 true))) else (bywashlaw14_DomCommon.j1 k x1 x2 x9 x10 x11 false))) else (bywashlaw14_DomCommon.j1 k x1 x2 x9 x10 x11 true))
def bywashlaw14_DomCommon.j1 : Nat → Int → Int → Bool → List Int → Int → Bool → Option (Bool)
  | 0, _, _, _, _, _, _ => none
  | k + 1, x1, x2, x9, x10, x11, x67 => if x67 = true then (some false) else (if x9 = true then ((dom_Dominates.f k x10 0 x1).bind fun t157 => (if t157 = true then ((dom_Dominates.f k x10 0 x2).bind fun t158 => (if ((decide (x11 ≥ 0)) == t158) = true then ((dom_Dominates.f k x10 x1 x2).bind fun t159 => (if x11 = x1 then (if x11 ≥ 0 then ((dom_Dominates.f k x10 x1 x1).bind fun t160 => (if (t159 == t160) = true then (some true) else (some (decide (x11 < 0))))) else (if (t159 == false) = true then (some true) else (some (decide (x11 < 0))))) else (if (t159 == false) = true then (some true) else (some (decide (x11 < 0)))))) else (some false))) else (if ((decide (x11 ≥ 0)) == false) = true then ((dom_Dominates.f k x10 x1 x2).bind fun t161 => (if x11 = x1 then (if x11 ≥ 0 then ((dom_Dominates.f k x10 x1 x1).bind fun t162 => (if (t161 == t162) = true then (some true) else (some (decide (x11 < 0))))) else (if (t161 == false) = true then (some true) else (some (decide (x11 < 0))))) else (if (t161 == false) = true then (some true) else (some (decide (x11 < 0)))))) else (some false)))) else (some false))
end
def bywashlaw14_DomCommon.f (k : Nat) (l0 : List (List Int)) (a1 : Int) (a2 : Int) (a3 : Int) : Option (Bool) := (bywashlaw14_awake.f k).bind fun t143 => ((bywashref10_Few.f k l0).bind fun t144 => (if t144 = true then ((dom_Idoms.f k l0).bind fun t145 => ((dom_Common.f k t145 a1 a2).bind fun t148 => ((dom_Dominates.f k t145 a3 a1).bind fun t149 => (if t149 = true then ((dom_Dominates.f k t145 a3 a2).bind fun t150 => (bywashlaw14_DomCommon.j0 k a1 a2 a3 t143 t145 t148 t150)) else (bywashlaw14_DomCommon.j0 k a1 a2 a3 t143 t145 t148 false))))) else (some t143)))
theorem bywashlaw14_DomCommon.mono_l : ∀ k, (∀ y0 y1 y2 y3 y4 y5 y6, LeO (bywashlaw14_DomCommon.j0 k y0 y1 y2 y3 y4 y5 y6) (bywashlaw14_DomCommon.j0 (k + 1) y0 y1 y2 y3 y4 y5 y6)) ∧ (∀ y0 y1 y2 y3 y4 y5, LeO (bywashlaw14_DomCommon.j1 k y0 y1 y2 y3 y4 y5) (bywashlaw14_DomCommon.j1 (k + 1) y0 y1 y2 y3 y4 y5))
  | 0 => ⟨fun _ _ _ _ _ _ _ r h => by simp [bywashlaw14_DomCommon.j0] at h, fun _ _ _ _ _ _ r h => by simp [bywashlaw14_DomCommon.j1] at h⟩
  | k + 1 => by
    obtain ⟨ih0, ih1⟩ := bywashlaw14_DomCommon.mono_l k
    refine ⟨?_, ?_⟩
    · intro y0 y1 y2 y3 y4 y5 y6
      unfold bywashlaw14_DomCommon.j0
      repeat' first
      | (with_reducible exact ih0 _ _ _ _ _ _ _)
      | (with_reducible exact ih1 _ _ _ _ _ _)
      | (with_reducible exact bywashlaw14_awake.mono _)
      | (with_reducible exact bywashref10_Few.mono _ _)
      | (with_reducible exact dom_Common.mono _ _ _ _)
      | (with_reducible exact dom_Dominates.mono _ _ _ _)
      | (with_reducible exact dom_Idoms.mono _ _)
      | (with_reducible exact LeO.refl _)
      | (with_reducible exact LeO.none _)
      | (with_reducible refine LeO.ite ?_ ?_)
      | (with_reducible refine LeO.bind ?_ (fun _ => ?_))
      | exact ih0 _ _ _ _ _ _ _
      | exact ih1 _ _ _ _ _ _
      | exact bywashlaw14_awake.mono _
      | exact bywashref10_Few.mono _ _
      | exact dom_Common.mono _ _ _ _
      | exact dom_Dominates.mono _ _ _ _
      | exact dom_Idoms.mono _ _
      | exact LeO.none _
      | refine LeO.ite ?_ ?_
      | refine LeO.bind ?_ (fun _ => ?_)
    · intro y0 y1 y2 y3 y4 y5
      unfold bywashlaw14_DomCommon.j1
      repeat' first
      | (with_reducible exact ih0 _ _ _ _ _ _ _)
      | (with_reducible exact ih1 _ _ _ _ _ _)
      | (with_reducible exact bywashlaw14_awake.mono _)
      | (with_reducible exact bywashref10_Few.mono _ _)
      | (with_reducible exact dom_Common.mono _ _ _ _)
      | (with_reducible exact dom_Dominates.mono _ _ _ _)
      | (with_reducible exact dom_Idoms.mono _ _)
      | (with_reducible exact LeO.refl _)
      | (with_reducible exact LeO.none _)
      | (with_reducible refine LeO.ite ?_ ?_)
      | (with_reducible refine LeO.bind ?_ (fun _ => ?_))
      | exact ih0 _ _ _ _ _ _ _
      | exact ih1 _ _ _ _ _ _
      | exact bywashlaw14_awake.mono _
      | exact bywashref10_Few.mono _ _
      | exact dom_Common.mono _ _ _ _
      | exact dom_Dominates.mono _ _ _ _
      | exact dom_Idoms.mono _ _
      | exact LeO.none _
      | refine LeO.ite ?_ ?_
      | refine LeO.bind ?_ (fun _ => ?_)
theorem bywashlaw14_DomCommon.mono : ∀ a0 a1 a2 a3 k, LeO (bywashlaw14_DomCommon.f k a0 a1 a2 a3) (bywashlaw14_DomCommon.f (k + 1) a0 a1 a2 a3) := by
  intro a0 a1 a2 a3 k
  obtain ⟨ih0, ih1⟩ := bywashlaw14_DomCommon.mono_l k
  unfold bywashlaw14_DomCommon.f
  repeat' first
      | (with_reducible exact ih0 _ _ _ _ _ _ _)
      | (with_reducible exact ih1 _ _ _ _ _ _)
      | (with_reducible exact bywashlaw14_awake.mono _)
      | (with_reducible exact bywashref10_Few.mono _ _)
      | (with_reducible exact dom_Common.mono _ _ _ _)
      | (with_reducible exact dom_Dominates.mono _ _ _ _)
      | (with_reducible exact dom_Idoms.mono _ _)
      | (with_reducible exact LeO.refl _)
      | (with_reducible exact LeO.none _)
      | (with_reducible refine LeO.ite ?_ ?_)
      | (with_reducible refine LeO.bind ?_ (fun _ => ?_))
      | exact ih0 _ _ _ _ _ _ _
      | exact ih1 _ _ _ _ _ _
      | exact bywashlaw14_awake.mono _
      | exact bywashref10_Few.mono _ _
      | exact dom_Common.mono _ _ _ _
      | exact dom_Dominates.mono _ _ _ _
      | exact dom_Idoms.mono _ _
      | exact LeO.none _
      | refine LeO.ite ?_ ?_
      | refine LeO.bind ?_ (fun _ => ?_)
set_option maxHeartbeats 8000000 in
set_option maxRecDepth 100000 in
theorem bywashlaw14_DomCommon.calls (k : Nat) (A0 : Option Addr) (c0 : Nat) (l0 : List (List Int)) (a1 : Int) (a2 : Int) (a3 : Int) (r : Bool) (w : World) (hr0 : Kd.C (Kd.slice 3 (Kd.int .i64)) w A0 l0.length l0) (hc0 : l0.length ≤ c0) (h : bywashlaw14_DomCommon.f k l0 a1 a2 a3 = some r) :
    Calls Try.prog 3 #[.slice A0 l0.length c0, .int .i64 a1, .int .i64 a2, .int .i64 a3] w fun e w' => e = .returned (.bool r) ∧ Below w.heap.size w w' := by
  have HR0 := Aside0.mk hr0
  have HC0 := Aside0.mk hc0
  clear hr0 hc0
  have HB := Aside0.mk (Below.refl w.heap.size w)
  have H : ((bywashlaw14_awake.f k).bind fun t143 => ((bywashref10_Few.f k l0).bind fun t144 => (if t144 = true then ((dom_Idoms.f k l0).bind fun t145 => ((dom_Common.f k t145 a1 a2).bind fun t148 => ((dom_Dominates.f k t145 a3 a1).bind fun t149 => (if t149 = true then ((dom_Dominates.f k t145 a3 a2).bind fun t150 => (bywashlaw14_DomCommon.j0 k a1 a2 a3 t143 t145 t148 t150)) else (bywashlaw14_DomCommon.j0 k a1 a2 a3 t143 t145 t148 false))))) else (some t143)))) = some r := h
  clear h
  replace H := Option.bind_eq_some_iff.mp H
  obtain ⟨t143, A50, H⟩ := H
  replace H : ((bywashref10_Few.f k l0).bind fun t144 => (if t144 = true then ((dom_Idoms.f k l0).bind fun t145 => ((dom_Common.f k t145 a1 a2).bind fun t148 => ((dom_Dominates.f k t145 a3 a1).bind fun t149 => (if t149 = true then ((dom_Dominates.f k t145 a3 a2).bind fun t150 => (bywashlaw14_DomCommon.j0 k a1 a2 a3 t143 t145 t148 t150)) else (bywashlaw14_DomCommon.j0 k a1 a2 a3 t143 t145 t148 false))))) else (some t143))) = some r := H
  have A5 := Aside0.mk A50
  clear A50
  replace H := Option.bind_eq_some_iff.mp H
  obtain ⟨t144, A60, H⟩ := H
  replace H : (if t144 = true then ((dom_Idoms.f k l0).bind fun t145 => ((dom_Common.f k t145 a1 a2).bind fun t148 => ((dom_Dominates.f k t145 a3 a1).bind fun t149 => (if t149 = true then ((dom_Dominates.f k t145 a3 a2).bind fun t150 => (bywashlaw14_DomCommon.j0 k a1 a2 a3 t143 t145 t148 t150)) else (bywashlaw14_DomCommon.j0 k a1 a2 a3 t143 t145 t148 false))))) else (some t143)) = some r := H
  have A6 := Aside0.mk A60
  clear A60
  by_cases c7 : t144 = true
  · subst c7
    have H1 : ((dom_Idoms.f k l0).bind fun t145 => ((dom_Common.f k t145 a1 a2).bind fun t148 => ((dom_Dominates.f k t145 a3 a1).bind fun t149 => (if t149 = true then ((dom_Dominates.f k t145 a3 a2).bind fun t150 => (bywashlaw14_DomCommon.j0 k a1 a2 a3 t143 t145 t148 t150)) else (bywashlaw14_DomCommon.j0 k a1 a2 a3 t143 t145 t148 false))))) = some r := by rw [if_pos rfl] at H; exact H
    clear H
    have H := H1
    clear H1
    replace H := Option.bind_eq_some_iff.mp H
    obtain ⟨t145, A80, H⟩ := H
    replace H : ((dom_Common.f k t145 a1 a2).bind fun t148 => ((dom_Dominates.f k t145 a3 a1).bind fun t149 => (if t149 = true then ((dom_Dominates.f k t145 a3 a2).bind fun t150 => (bywashlaw14_DomCommon.j0 k a1 a2 a3 t143 t145 t148 t150)) else (bywashlaw14_DomCommon.j0 k a1 a2 a3 t143 t145 t148 false)))) = some r := H
    have A8 := Aside0.mk A80
    clear A80
    replace H := Option.bind_eq_some_iff.mp H
    obtain ⟨t148, A90, H⟩ := H
    replace H : ((dom_Dominates.f k t145 a3 a1).bind fun t149 => (if t149 = true then ((dom_Dominates.f k t145 a3 a2).bind fun t150 => (bywashlaw14_DomCommon.j0 k a1 a2 a3 t143 t145 t148 t150)) else (bywashlaw14_DomCommon.j0 k a1 a2 a3 t143 t145 t148 false))) = some r := H
    have A9 := Aside0.mk A90
    clear A90
    have HC10 := Aside0.mk H
    clear H
    go_enter Try.func3, Try.ntmps3
    go_upto_region 6 with (first | ((with_reducible refine gate_callee (f := 13) rfl ?_); refine goesL_ (some 13) rfl rfl Try.func13 (by kernel_rfl) rfl #[] rfl (by (try simp only [List.map_toArray, List.map_cons, List.map_nil]); first | done | rfl | (simp only [List.length_drop, List.length_take]; rfl)) ?_; (with_reducible refine (bywashlaw14_awake.calls k  t143 _ A5.out).mono ?_); rintro e w11 ⟨rfl, hb⟩; refine ⟨_, rfl, ?_⟩; have n0_ := Aside0.mk (below_step (by repeat (first | (with_reducible first | exact HB.out | apply below_alloc | apply pw_below_drewN | apply below_drew1) | exact HB.out)) hb); clear HB; have HB := n0_; clear n0_; (try clear hb); (try clear hb2); (try clear hk); (try clear hi)) | ((with_reducible refine gate_callee (f := 14) rfl ?_); refine goesL_ (some 15) rfl rfl Try.func14 (by kernel_rfl) rfl #[.slice A0 l0.length c0] rfl (by (try simp only [List.map_toArray, List.map_cons, List.map_nil]); first | done | rfl | (simp only [List.length_drop, List.length_take]; rfl)) ?_; (with_reducible refine (bywashref10_Few.calls k _ _ l0 true _ ?side1 ?side2 A6.out).mono ?_); (case side1 => repeat (first | exact (Kd.C_below HR0.out HB.out) | (with_reducible refine Kd.C_alloc ?_ _) | (with_reducible refine Kd.C_drewN ?_ _) | (with_reducible refine Kd.C_drew ?_))); (case side2 => exact HC0.out); rintro e w' ⟨rfl, ⟨nd, rfl⟩⟩; refine ⟨_, rfl, ?_⟩) | ((with_reducible refine gate_callee (f := 15) rfl ?_); refine goesL_ (some 19) rfl rfl Try.func15 (by kernel_rfl) rfl #[.slice A0 l0.length c0] rfl (by (try simp only [List.map_toArray, List.map_cons, List.map_nil]); first | done | rfl | (simp only [List.length_drop, List.length_take]; rfl)) ?_; (with_reducible refine (dom_Idoms.calls k _ _ l0 t145 _ ?side1 ?side2 A8.out).mono ?_); (case side1 => repeat (first | exact (Kd.C_below HR0.out (by repeat (first | (with_reducible first | exact HB.out | apply below_alloc | apply pw_below_drewN | apply below_drew1) | exact HB.out))) | (with_reducible refine Kd.C_alloc ?_ _) | (with_reducible refine Kd.C_drewN ?_ _) | (with_reducible refine Kd.C_drew ?_))); (case side2 => exact HC0.out); rintro e w12 ⟨v146, rfl, ho0, hb⟩; refine ⟨_, rfl, ?_⟩; have n0_ := Aside0.mk (Kd.R_lower ho0 (below_size (by repeat (first | (with_reducible first | exact HB.out | apply below_alloc | apply pw_below_drewN | apply below_drew1) | exact HB.out)))); have n1_ := Aside0.mk (below_step (by repeat (first | (with_reducible first | exact HB.out | apply below_alloc | apply pw_below_drewN | apply below_drew1) | exact HB.out)) hb); clear HB; have HO147 := n0_; have HB := n1_; clear n0_ n1_; (try clear hb); (try clear hb2); (try clear hk); (try clear hi); (try clear ho0); obtain ⟨Ao13, co13, eo13⟩ := Kd.R_slice HO147.out; subst eo13) | ((with_reducible refine gate_callee (f := 16) rfl ?_); refine goesL_ (some 23) rfl rfl Try.func16 (by kernel_rfl) rfl #[.slice Ao13 t145.length co13, .int .i64 a1, .int .i64 a2] rfl (by (try simp only [List.map_toArray, List.map_cons, List.map_nil]); first | done | rfl | (simp only [List.length_drop, List.length_take]; rfl)) ?_; (with_reducible refine (dom_Common.calls k _ _ t145 a1 a2 t148 _ ?side1 ?side2 A9.out).mono ?_); (case side1 => repeat (first | exact (Kd.R_reads' HO147.out).2.2 | (with_reducible refine Kd.C_alloc ?_ _) | (with_reducible refine Kd.C_drewN ?_ _) | (with_reducible refine Kd.C_drew ?_))); (case side2 => exact (Kd.R_reads' HO147.out).2.1); rintro e w14 ⟨rfl, hb⟩; refine ⟨_, rfl, ?_⟩; have n0_ := Aside0.mk (Kd.R_below (by (with_reducible repeat (first | apply Kd.R_alloc | apply Kd.R_drewN | apply Kd.R_drew)); exact HO147.out) hb); have n1_ := Aside0.mk (below_step (by repeat (first | (with_reducible first | exact HB.out | apply below_alloc | apply pw_below_drewN | apply below_drew1) | exact HB.out)) hb); clear HO147; clear HB; have HO147 := n0_; have HB := n1_; clear n0_ n1_; (try clear hb); (try clear hb2); (try clear hk); (try clear hi)))
    (try simp only [Act.put, List.setIfInBounds_toArray, List.set_cons_zero, List.set_cons_succ])
    go_cut [12] (fun v12 wc => ∃ (kq : Nat) (x12_9 : Bool), v12 = .bool x12_9 ∧ Aside0 (bywashlaw14_DomCommon.j0 kq a1 a2 a3 t143 t145 t148 x12_9 = some r) ∧ Aside0 (kq ≤ k) ∧ Aside0 (Kd.R (Kd.int .i64) 3 wc w.heap.size (fun _ => True) (.slice Ao13 t145.length co13) t145) ∧ Aside0 (Below w.heap.size w wc))
    case first =>
      have H := HC10.out
      clear HC10
      replace H := Option.bind_eq_some_iff.mp H
      obtain ⟨t149, A150, H⟩ := H
      replace H : (if t149 = true then ((dom_Dominates.f k t145 a3 a2).bind fun t150 => (bywashlaw14_DomCommon.j0 k a1 a2 a3 t143 t145 t148 t150)) else (bywashlaw14_DomCommon.j0 k a1 a2 a3 t143 t145 t148 false)) = some r := H
      have A15 := Aside0.mk A150
      clear A150
      by_cases c16 : t149 = true
      · subst c16
        have H1 : ((dom_Dominates.f k t145 a3 a2).bind fun t150 => (bywashlaw14_DomCommon.j0 k a1 a2 a3 t143 t145 t148 t150)) = some r := by rw [if_pos rfl] at H; exact H
        clear H
        have H := H1
        clear H1
        replace H := Option.bind_eq_some_iff.mp H
        obtain ⟨t150, A170, H⟩ := H
        replace H : (bywashlaw14_DomCommon.j0 k a1 a2 a3 t143 t145 t148 t150) = some r := H
        have A17 := Aside0.mk A170
        clear A170
        have H' := Aside0.mk H
        clear H
        go_wp2_with (first | ((with_reducible refine gate_callee (f := 17) rfl ?_); refine goesL_ (some 27) rfl rfl Try.func17 (by kernel_rfl) rfl #[.slice Ao13 t145.length co13, .int .i64 a3, .int .i64 a1] rfl (by (try simp only [List.map_toArray, List.map_cons, List.map_nil]); first | done | rfl | (simp only [List.length_drop, List.length_take]; rfl)) ?_; (with_reducible refine (dom_Dominates.calls k _ _ t145 a3 a1 true _ ?side1 ?side2 A15.out).mono ?_); (case side1 => repeat (first | exact (Kd.R_reads' HO147.out).2.2 | (with_reducible refine Kd.C_alloc ?_ _) | (with_reducible refine Kd.C_drewN ?_ _) | (with_reducible refine Kd.C_drew ?_))); (case side2 => exact (Kd.R_reads' HO147.out).2.1); rintro e w18 ⟨rfl, hb⟩; refine ⟨_, rfl, ?_⟩; have n0_ := Aside0.mk (Kd.R_below (by (with_reducible repeat (first | apply Kd.R_alloc | apply Kd.R_drewN | apply Kd.R_drew)); exact HO147.out) hb); have n1_ := Aside0.mk (below_step (by repeat (first | (with_reducible first | exact HB.out | apply below_alloc | apply pw_below_drewN | apply below_drew1) | exact HB.out)) hb); clear HO147; clear HB; have HO147 := n0_; have HB := n1_; clear n0_ n1_; (try clear hb); (try clear hb2); (try clear hk); (try clear hi)) | (go_at_call 17; (with_reducible refine (dom_Dominates.calls k _ _ t145 a3 a2 t150 _ ?side1 ?side2 A17.out).mono ?_); (case side1 => repeat (first | exact (Kd.R_reads' HO147.out).2.2 | (with_reducible refine Kd.C_alloc ?_ _) | (with_reducible refine Kd.C_drewN ?_ _) | (with_reducible refine Kd.C_drew ?_))); (case side2 => exact (Kd.R_reads' HO147.out).2.1); rintro e w19 ⟨rfl, hb⟩; have n0_ := Aside0.mk (Kd.R_below (by (with_reducible repeat (first | apply Kd.R_alloc | apply Kd.R_drewN | apply Kd.R_drew)); exact HO147.out) hb); have n1_ := Aside0.mk (below_step (by repeat (first | (with_reducible first | exact HB.out | apply below_alloc | apply pw_below_drewN | apply below_drew1) | exact HB.out)) hb); clear HO147; clear HB; have HO147 := n0_; have HB := n1_; clear n0_ n1_; (try clear hb); (try clear hb2); (try clear hk); (try clear hi)))
        go_meet
        case rel => exact ⟨_, (t150), (by first | rfl | (simp; done) | (simp [*]; done)), H', ⟨by first | omega | exact Nat.le_refl _⟩, ⟨by (with_reducible repeat (first | apply Kd.R_alloc | apply Kd.R_drewN | apply Kd.R_drew)); exact HO147.out⟩, ⟨by repeat (first | (with_reducible first | exact HB.out | apply below_alloc | apply pw_below_drewN | apply below_drew1) | exact HB.out)⟩⟩
      · replace c16 := Bool.eq_false_iff.mpr c16
        subst c16
        have H1 : (bywashlaw14_DomCommon.j0 k a1 a2 a3 t143 t145 t148 false) = some r := by rw [if_neg (show ¬ (false = true) by decide)] at H; exact H
        clear H
        have H := H1
        clear H1
        have H' := Aside0.mk H
        clear H
        go_wp2_with (first | ((with_reducible refine gate_callee (f := 17) rfl ?_); refine goesL_ (some 27) rfl rfl Try.func17 (by kernel_rfl) rfl #[.slice Ao13 t145.length co13, .int .i64 a3, .int .i64 a1] rfl (by (try simp only [List.map_toArray, List.map_cons, List.map_nil]); first | done | rfl | (simp only [List.length_drop, List.length_take]; rfl)) ?_; (with_reducible refine (dom_Dominates.calls k _ _ t145 a3 a1 false _ ?side1 ?side2 A15.out).mono ?_); (case side1 => repeat (first | exact (Kd.R_reads' HO147.out).2.2 | (with_reducible refine Kd.C_alloc ?_ _) | (with_reducible refine Kd.C_drewN ?_ _) | (with_reducible refine Kd.C_drew ?_))); (case side2 => exact (Kd.R_reads' HO147.out).2.1); rintro e w20 ⟨rfl, hb⟩; refine ⟨_, rfl, ?_⟩; have n0_ := Aside0.mk (Kd.R_below (by (with_reducible repeat (first | apply Kd.R_alloc | apply Kd.R_drewN | apply Kd.R_drew)); exact HO147.out) hb); have n1_ := Aside0.mk (below_step (by repeat (first | (with_reducible first | exact HB.out | apply below_alloc | apply pw_below_drewN | apply below_drew1) | exact HB.out)) hb); clear HO147; clear HB; have HO147 := n0_; have HB := n1_; clear n0_ n1_; (try clear hb); (try clear hb2); (try clear hk); (try clear hi)))
        go_meet
        case rel => exact ⟨_, (false), (by first | rfl | (simp; done) | (simp [*]; done)), H', ⟨by first | omega | exact Nat.le_refl _⟩, ⟨by (with_reducible repeat (first | apply Kd.R_alloc | apply Kd.R_drewN | apply Kd.R_drew)); exact HO147.out⟩, ⟨by repeat (first | (with_reducible first | exact HB.out | apply below_alloc | apply pw_below_drewN | apply below_drew1) | exact HB.out)⟩⟩
    case rest =>
      clear HC10
      try clear c1
      try clear p2
      try clear c3
      try clear c7
      try clear c13
      try clear c14
      try clear c15
      try clear c16
      try clear c17
      obtain ⟨kq, x12_9, rfl, HA, HJ9, HO_10, HB⟩ := hcut
      cases kq with
      | zero => exact absurd HA.out (by simp [bywashlaw14_DomCommon.j0])
      | succ kj9 =>
        have H := HA.out
        clear HA
        simp only [bywashlaw14_DomCommon.j0] at H
        have HC21 := Aside0.mk H
        clear H
        go_upto_region 7 with (fail)
        go_cut [67] (fun v67 wc => ∃ (kq : Nat) (x67_20 : Bool), v67 = .bool x67_20 ∧ Aside0 (bywashlaw14_DomCommon.j1 kq a1 a2 t143 t145 t148 x67_20 = some r) ∧ Aside0 (kq ≤ kj9) ∧ Aside0 (Kd.R (Kd.int .i64) 3 wc w.heap.size (fun _ => True) (.slice Ao13 t145.length co13) t145) ∧ Aside0 (Below w.heap.size w wc))
        case first =>
          have H := HC21.out
          clear HC21
          replace H := Option.bind_eq_some_iff.mp H
          obtain ⟨t151, A220, H⟩ := H
          replace H : (if t148 = t151 then (if x12_9 = true then ((dom_Dominates.f kj9 t145 a3 t148).bind fun t152 => (if t152 = true then (if t148 ≥ 0 then ((dom_Dominates.f kj9 t145 t148 a1).bind fun t153 => (if t153 = true then ((dom_Dominates.f kj9 t145 t148 a2).bind fun t154 => (bywashlaw14_DomCommon.j1 kj9 a1 a2 t143 t145 t148 (!t154))) else (bywashlaw14_DomCommon.j1 kj9 a1 a2 t143 t145 t148 true))) else (bywashlaw14_DomCommon.j1 kj9 a1 a2 t143 t145 t148 false)) else (bywashlaw14_DomCommon.j1 kj9 a1 a2 t143 t145 t148 true))) else (if t148 ≥ 0 then ((dom_Dominates.f kj9 t145 t148 a1).bind fun t155 => (if t155 = true then ((dom_Dominates.f kj9 t145 t148 a2).bind fun t156 => (bywashlaw14_DomCommon.j1 kj9 a1 a2 t143 t145 t148 (!t156))) else (bywashlaw14_DomCommon.j1 kj9 a1 a2 t143 t145 t148 true))) else (bywashlaw14_DomCommon.j1 kj9 a1 a2 t143 t145 t148 false))) else (bywashlaw14_DomCommon.j1 kj9 a1 a2 t143 t145 t148 true)) = some r := H
          have A22 := Aside0.mk A220
          clear A220
          by_cases c23 : t148 = t151
          · rw [if_pos c23] at H
            have c23b0 : (t148 == t151) = true := beq_iff_eq.mpr c23
            have c23b1 : (t148 != t151) = false := bne_eq_false_iff_eq.mpr c23
            clear c23
            (first | rw [c23b0] | (simp only [i64_w, i32_w]; rw [c23b0]) | skip)
            by_cases c24 : x12_9 = true
            · subst c24
              have H1 : ((dom_Dominates.f kj9 t145 a3 t148).bind fun t152 => (if t152 = true then (if t148 ≥ 0 then ((dom_Dominates.f kj9 t145 t148 a1).bind fun t153 => (if t153 = true then ((dom_Dominates.f kj9 t145 t148 a2).bind fun t154 => (bywashlaw14_DomCommon.j1 kj9 a1 a2 t143 t145 t148 (!t154))) else (bywashlaw14_DomCommon.j1 kj9 a1 a2 t143 t145 t148 true))) else (bywashlaw14_DomCommon.j1 kj9 a1 a2 t143 t145 t148 false)) else (bywashlaw14_DomCommon.j1 kj9 a1 a2 t143 t145 t148 true))) = some r := by rw [if_pos rfl] at H; exact H
              clear H
              have H := H1
              clear H1
              replace H := Option.bind_eq_some_iff.mp H
              obtain ⟨t152, A250, H⟩ := H
              replace H : (if t152 = true then (if t148 ≥ 0 then ((dom_Dominates.f kj9 t145 t148 a1).bind fun t153 => (if t153 = true then ((dom_Dominates.f kj9 t145 t148 a2).bind fun t154 => (bywashlaw14_DomCommon.j1 kj9 a1 a2 t143 t145 t148 (!t154))) else (bywashlaw14_DomCommon.j1 kj9 a1 a2 t143 t145 t148 true))) else (bywashlaw14_DomCommon.j1 kj9 a1 a2 t143 t145 t148 false)) else (bywashlaw14_DomCommon.j1 kj9 a1 a2 t143 t145 t148 true)) = some r := H
              have A25 := Aside0.mk A250
              clear A250
              by_cases c26 : t152 = true
              · subst c26
                have H1 : (if t148 ≥ 0 then ((dom_Dominates.f kj9 t145 t148 a1).bind fun t153 => (if t153 = true then ((dom_Dominates.f kj9 t145 t148 a2).bind fun t154 => (bywashlaw14_DomCommon.j1 kj9 a1 a2 t143 t145 t148 (!t154))) else (bywashlaw14_DomCommon.j1 kj9 a1 a2 t143 t145 t148 true))) else (bywashlaw14_DomCommon.j1 kj9 a1 a2 t143 t145 t148 false)) = some r := by rw [if_pos rfl] at H; exact H
                clear H
                have H := H1
                clear H1
                by_cases c27 : t148 ≥ 0
                · rw [if_pos c27] at H
                  have c27b0 : decide (0 ≤ t148) = true := decide_eq_true c27
                  clear c27
                  replace H := Option.bind_eq_some_iff.mp H
                  obtain ⟨t153, A280, H⟩ := H
                  replace H : (if t153 = true then ((dom_Dominates.f kj9 t145 t148 a2).bind fun t154 => (bywashlaw14_DomCommon.j1 kj9 a1 a2 t143 t145 t148 (!t154))) else (bywashlaw14_DomCommon.j1 kj9 a1 a2 t143 t145 t148 true)) = some r := H
                  have A28 := Aside0.mk A280
                  clear A280
                  by_cases c29 : t153 = true
                  · subst c29
                    have H1 : ((dom_Dominates.f kj9 t145 t148 a2).bind fun t154 => (bywashlaw14_DomCommon.j1 kj9 a1 a2 t143 t145 t148 (!t154))) = some r := by rw [if_pos rfl] at H; exact H
                    clear H
                    have H := H1
                    clear H1
                    replace H := Option.bind_eq_some_iff.mp H
                    obtain ⟨t154, A300, H⟩ := H
                    replace H : (bywashlaw14_DomCommon.j1 kj9 a1 a2 t143 t145 t148 (!t154)) = some r := H
                    have A30 := Aside0.mk A300
                    clear A300
                    have H' := Aside0.mk H
                    clear H
                    go_wp2_with (first | ((with_reducible refine gate_callee (f := 16) rfl ?_); refine goesL_ (some 38) rfl rfl Try.func16 (by kernel_rfl) rfl #[.slice Ao13 t145.length co13, .int .i64 a2, .int .i64 a1] rfl (by (try simp only [List.map_toArray, List.map_cons, List.map_nil]); first | done | rfl | (simp only [List.length_drop, List.length_take]; rfl)) ?_; (with_reducible refine (dom_Common.calls kj9 _ _ t145 a2 a1 t151 _ ?side1 ?side2 A22.out).mono ?_); (case side1 => repeat (first | exact (Kd.R_reads' HO_10.out).2.2 | (with_reducible refine Kd.C_alloc ?_ _) | (with_reducible refine Kd.C_drewN ?_ _) | (with_reducible refine Kd.C_drew ?_))); (case side2 => exact (Kd.R_reads' HO_10.out).2.1); rintro e w31 ⟨rfl, hb⟩; refine ⟨_, rfl, ?_⟩; have n0_ := Aside0.mk (Kd.R_below (by (with_reducible repeat (first | apply Kd.R_alloc | apply Kd.R_drewN | apply Kd.R_drew)); exact HO_10.out) hb); have n1_ := Aside0.mk (below_step (by repeat (first | (with_reducible first | exact HB.out | apply below_alloc | apply pw_below_drewN | apply below_drew1) | exact HB.out)) hb); clear HO_10; clear HB; have HO_10 := n0_; have HB := n1_; clear n0_ n1_; (try clear hb); (try clear hb2); (try clear hk); (try clear hi)) | (go_at_call 17; (with_reducible refine (dom_Dominates.calls kj9 _ _ t145 a3 t148 true _ ?side1 ?side2 A25.out).mono ?_); (case side1 => repeat (first | exact (Kd.R_reads' HO_10.out).2.2 | (with_reducible refine Kd.C_alloc ?_ _) | (with_reducible refine Kd.C_drewN ?_ _) | (with_reducible refine Kd.C_drew ?_))); (case side2 => exact (Kd.R_reads' HO_10.out).2.1); rintro e w32 ⟨rfl, hb⟩; have n0_ := Aside0.mk (Kd.R_below (by (with_reducible repeat (first | apply Kd.R_alloc | apply Kd.R_drewN | apply Kd.R_drew)); exact HO_10.out) hb); have n1_ := Aside0.mk (below_step (by repeat (first | (with_reducible first | exact HB.out | apply below_alloc | apply pw_below_drewN | apply below_drew1) | exact HB.out)) hb); clear HO_10; clear HB; have HO_10 := n0_; have HB := n1_; clear n0_ n1_; (try clear hb); (try clear hb2); (try clear hk); (try clear hi)) | (go_at_call 17; (with_reducible refine (dom_Dominates.calls kj9 _ _ t145 t148 a1 true _ ?side1 ?side2 A28.out).mono ?_); (case side1 => repeat (first | exact (Kd.R_reads' HO_10.out).2.2 | (with_reducible refine Kd.C_alloc ?_ _) | (with_reducible refine Kd.C_drewN ?_ _) | (with_reducible refine Kd.C_drew ?_))); (case side2 => exact (Kd.R_reads' HO_10.out).2.1); rintro e w33 ⟨rfl, hb⟩; have n0_ := Aside0.mk (Kd.R_below (by (with_reducible repeat (first | apply Kd.R_alloc | apply Kd.R_drewN | apply Kd.R_drew)); exact HO_10.out) hb); have n1_ := Aside0.mk (below_step (by repeat (first | (with_reducible first | exact HB.out | apply below_alloc | apply pw_below_drewN | apply below_drew1) | exact HB.out)) hb); clear HO_10; clear HB; have HO_10 := n0_; have HB := n1_; clear n0_ n1_; (try clear hb); (try clear hb2); (try clear hk); (try clear hi)) | (go_at_call 17; (with_reducible refine (dom_Dominates.calls kj9 _ _ t145 t148 a2 t154 _ ?side1 ?side2 A30.out).mono ?_); (case side1 => repeat (first | exact (Kd.R_reads' HO_10.out).2.2 | (with_reducible refine Kd.C_alloc ?_ _) | (with_reducible refine Kd.C_drewN ?_ _) | (with_reducible refine Kd.C_drew ?_))); (case side2 => exact (Kd.R_reads' HO_10.out).2.1); rintro e w34 ⟨rfl, hb⟩; have n0_ := Aside0.mk (Kd.R_below (by (with_reducible repeat (first | apply Kd.R_alloc | apply Kd.R_drewN | apply Kd.R_drew)); exact HO_10.out) hb); have n1_ := Aside0.mk (below_step (by repeat (first | (with_reducible first | exact HB.out | apply below_alloc | apply pw_below_drewN | apply below_drew1) | exact HB.out)) hb); clear HO_10; clear HB; have HO_10 := n0_; have HB := n1_; clear n0_ n1_; (try clear hb); (try clear hb2); (try clear hk); (try clear hi)))
                    go_meet
                    case rel => exact ⟨_, (!t154), (by first | rfl | (simp; done) | (simp [*]; done)), H', ⟨by have := HJ9.out; first | omega | exact Nat.le_refl _⟩, ⟨by (with_reducible repeat (first | apply Kd.R_alloc | apply Kd.R_drewN | apply Kd.R_drew)); exact HO_10.out⟩, ⟨by repeat (first | (with_reducible first | exact HB.out | apply below_alloc | apply pw_below_drewN | apply below_drew1) | exact HB.out)⟩⟩
                  · replace c29 := Bool.eq_false_iff.mpr c29
                    subst c29
                    have H1 : (bywashlaw14_DomCommon.j1 kj9 a1 a2 t143 t145 t148 true) = some r := by rw [if_neg (show ¬ (false = true) by decide)] at H; exact H
                    clear H
                    have H := H1
                    clear H1
                    have H' := Aside0.mk H
                    clear H
                    go_wp2_with (first | ((with_reducible refine gate_callee (f := 16) rfl ?_); refine goesL_ (some 38) rfl rfl Try.func16 (by kernel_rfl) rfl #[.slice Ao13 t145.length co13, .int .i64 a2, .int .i64 a1] rfl (by (try simp only [List.map_toArray, List.map_cons, List.map_nil]); first | done | rfl | (simp only [List.length_drop, List.length_take]; rfl)) ?_; (with_reducible refine (dom_Common.calls kj9 _ _ t145 a2 a1 t151 _ ?side1 ?side2 A22.out).mono ?_); (case side1 => repeat (first | exact (Kd.R_reads' HO_10.out).2.2 | (with_reducible refine Kd.C_alloc ?_ _) | (with_reducible refine Kd.C_drewN ?_ _) | (with_reducible refine Kd.C_drew ?_))); (case side2 => exact (Kd.R_reads' HO_10.out).2.1); rintro e w35 ⟨rfl, hb⟩; refine ⟨_, rfl, ?_⟩; have n0_ := Aside0.mk (Kd.R_below (by (with_reducible repeat (first | apply Kd.R_alloc | apply Kd.R_drewN | apply Kd.R_drew)); exact HO_10.out) hb); have n1_ := Aside0.mk (below_step (by repeat (first | (with_reducible first | exact HB.out | apply below_alloc | apply pw_below_drewN | apply below_drew1) | exact HB.out)) hb); clear HO_10; clear HB; have HO_10 := n0_; have HB := n1_; clear n0_ n1_; (try clear hb); (try clear hb2); (try clear hk); (try clear hi)) | (go_at_call 17; (with_reducible refine (dom_Dominates.calls kj9 _ _ t145 a3 t148 true _ ?side1 ?side2 A25.out).mono ?_); (case side1 => repeat (first | exact (Kd.R_reads' HO_10.out).2.2 | (with_reducible refine Kd.C_alloc ?_ _) | (with_reducible refine Kd.C_drewN ?_ _) | (with_reducible refine Kd.C_drew ?_))); (case side2 => exact (Kd.R_reads' HO_10.out).2.1); rintro e w36 ⟨rfl, hb⟩; have n0_ := Aside0.mk (Kd.R_below (by (with_reducible repeat (first | apply Kd.R_alloc | apply Kd.R_drewN | apply Kd.R_drew)); exact HO_10.out) hb); have n1_ := Aside0.mk (below_step (by repeat (first | (with_reducible first | exact HB.out | apply below_alloc | apply pw_below_drewN | apply below_drew1) | exact HB.out)) hb); clear HO_10; clear HB; have HO_10 := n0_; have HB := n1_; clear n0_ n1_; (try clear hb); (try clear hb2); (try clear hk); (try clear hi)) | (go_at_call 17; (with_reducible refine (dom_Dominates.calls kj9 _ _ t145 t148 a1 false _ ?side1 ?side2 A28.out).mono ?_); (case side1 => repeat (first | exact (Kd.R_reads' HO_10.out).2.2 | (with_reducible refine Kd.C_alloc ?_ _) | (with_reducible refine Kd.C_drewN ?_ _) | (with_reducible refine Kd.C_drew ?_))); (case side2 => exact (Kd.R_reads' HO_10.out).2.1); rintro e w37 ⟨rfl, hb⟩; have n0_ := Aside0.mk (Kd.R_below (by (with_reducible repeat (first | apply Kd.R_alloc | apply Kd.R_drewN | apply Kd.R_drew)); exact HO_10.out) hb); have n1_ := Aside0.mk (below_step (by repeat (first | (with_reducible first | exact HB.out | apply below_alloc | apply pw_below_drewN | apply below_drew1) | exact HB.out)) hb); clear HO_10; clear HB; have HO_10 := n0_; have HB := n1_; clear n0_ n1_; (try clear hb); (try clear hb2); (try clear hk); (try clear hi)))
                    go_meet
                    case rel => exact ⟨_, (true), (by first | rfl | (simp; done) | (simp [*]; done)), H', ⟨by have := HJ9.out; first | omega | exact Nat.le_refl _⟩, ⟨by (with_reducible repeat (first | apply Kd.R_alloc | apply Kd.R_drewN | apply Kd.R_drew)); exact HO_10.out⟩, ⟨by repeat (first | (with_reducible first | exact HB.out | apply below_alloc | apply pw_below_drewN | apply below_drew1) | exact HB.out)⟩⟩
                · rw [if_neg c27] at H
                  have c27b0 : decide (0 ≤ t148) = false := decide_eq_false c27
                  clear c27
                  have H' := Aside0.mk H
                  clear H
                  go_wp2_with (first | ((with_reducible refine gate_callee (f := 16) rfl ?_); refine goesL_ (some 38) rfl rfl Try.func16 (by kernel_rfl) rfl #[.slice Ao13 t145.length co13, .int .i64 a2, .int .i64 a1] rfl (by (try simp only [List.map_toArray, List.map_cons, List.map_nil]); first | done | rfl | (simp only [List.length_drop, List.length_take]; rfl)) ?_; (with_reducible refine (dom_Common.calls kj9 _ _ t145 a2 a1 t151 _ ?side1 ?side2 A22.out).mono ?_); (case side1 => repeat (first | exact (Kd.R_reads' HO_10.out).2.2 | (with_reducible refine Kd.C_alloc ?_ _) | (with_reducible refine Kd.C_drewN ?_ _) | (with_reducible refine Kd.C_drew ?_))); (case side2 => exact (Kd.R_reads' HO_10.out).2.1); rintro e w38 ⟨rfl, hb⟩; refine ⟨_, rfl, ?_⟩; have n0_ := Aside0.mk (Kd.R_below (by (with_reducible repeat (first | apply Kd.R_alloc | apply Kd.R_drewN | apply Kd.R_drew)); exact HO_10.out) hb); have n1_ := Aside0.mk (below_step (by repeat (first | (with_reducible first | exact HB.out | apply below_alloc | apply pw_below_drewN | apply below_drew1) | exact HB.out)) hb); clear HO_10; clear HB; have HO_10 := n0_; have HB := n1_; clear n0_ n1_; (try clear hb); (try clear hb2); (try clear hk); (try clear hi)) | (go_at_call 17; (with_reducible refine (dom_Dominates.calls kj9 _ _ t145 a3 t148 true _ ?side1 ?side2 A25.out).mono ?_); (case side1 => repeat (first | exact (Kd.R_reads' HO_10.out).2.2 | (with_reducible refine Kd.C_alloc ?_ _) | (with_reducible refine Kd.C_drewN ?_ _) | (with_reducible refine Kd.C_drew ?_))); (case side2 => exact (Kd.R_reads' HO_10.out).2.1); rintro e w39 ⟨rfl, hb⟩; have n0_ := Aside0.mk (Kd.R_below (by (with_reducible repeat (first | apply Kd.R_alloc | apply Kd.R_drewN | apply Kd.R_drew)); exact HO_10.out) hb); have n1_ := Aside0.mk (below_step (by repeat (first | (with_reducible first | exact HB.out | apply below_alloc | apply pw_below_drewN | apply below_drew1) | exact HB.out)) hb); clear HO_10; clear HB; have HO_10 := n0_; have HB := n1_; clear n0_ n1_; (try clear hb); (try clear hb2); (try clear hk); (try clear hi)))
                  go_meet
                  case rel => exact ⟨_, (false), (by first | rfl | (simp; done) | (simp [*]; done)), H', ⟨by have := HJ9.out; first | omega | exact Nat.le_refl _⟩, ⟨by (with_reducible repeat (first | apply Kd.R_alloc | apply Kd.R_drewN | apply Kd.R_drew)); exact HO_10.out⟩, ⟨by repeat (first | (with_reducible first | exact HB.out | apply below_alloc | apply pw_below_drewN | apply below_drew1) | exact HB.out)⟩⟩
              · replace c26 := Bool.eq_false_iff.mpr c26
                subst c26
                have H1 : (bywashlaw14_DomCommon.j1 kj9 a1 a2 t143 t145 t148 true) = some r := by rw [if_neg (show ¬ (false = true) by decide)] at H; exact H
                clear H
                have H := H1
                clear H1
                have H' := Aside0.mk H
                clear H
                go_wp2_with (first | ((with_reducible refine gate_callee (f := 16) rfl ?_); refine goesL_ (some 38) rfl rfl Try.func16 (by kernel_rfl) rfl #[.slice Ao13 t145.length co13, .int .i64 a2, .int .i64 a1] rfl (by (try simp only [List.map_toArray, List.map_cons, List.map_nil]); first | done | rfl | (simp only [List.length_drop, List.length_take]; rfl)) ?_; (with_reducible refine (dom_Common.calls kj9 _ _ t145 a2 a1 t151 _ ?side1 ?side2 A22.out).mono ?_); (case side1 => repeat (first | exact (Kd.R_reads' HO_10.out).2.2 | (with_reducible refine Kd.C_alloc ?_ _) | (with_reducible refine Kd.C_drewN ?_ _) | (with_reducible refine Kd.C_drew ?_))); (case side2 => exact (Kd.R_reads' HO_10.out).2.1); rintro e w40 ⟨rfl, hb⟩; refine ⟨_, rfl, ?_⟩; have n0_ := Aside0.mk (Kd.R_below (by (with_reducible repeat (first | apply Kd.R_alloc | apply Kd.R_drewN | apply Kd.R_drew)); exact HO_10.out) hb); have n1_ := Aside0.mk (below_step (by repeat (first | (with_reducible first | exact HB.out | apply below_alloc | apply pw_below_drewN | apply below_drew1) | exact HB.out)) hb); clear HO_10; clear HB; have HO_10 := n0_; have HB := n1_; clear n0_ n1_; (try clear hb); (try clear hb2); (try clear hk); (try clear hi)) | (go_at_call 17; (with_reducible refine (dom_Dominates.calls kj9 _ _ t145 a3 t148 false _ ?side1 ?side2 A25.out).mono ?_); (case side1 => repeat (first | exact (Kd.R_reads' HO_10.out).2.2 | (with_reducible refine Kd.C_alloc ?_ _) | (with_reducible refine Kd.C_drewN ?_ _) | (with_reducible refine Kd.C_drew ?_))); (case side2 => exact (Kd.R_reads' HO_10.out).2.1); rintro e w41 ⟨rfl, hb⟩; have n0_ := Aside0.mk (Kd.R_below (by (with_reducible repeat (first | apply Kd.R_alloc | apply Kd.R_drewN | apply Kd.R_drew)); exact HO_10.out) hb); have n1_ := Aside0.mk (below_step (by repeat (first | (with_reducible first | exact HB.out | apply below_alloc | apply pw_below_drewN | apply below_drew1) | exact HB.out)) hb); clear HO_10; clear HB; have HO_10 := n0_; have HB := n1_; clear n0_ n1_; (try clear hb); (try clear hb2); (try clear hk); (try clear hi)))
                go_meet
                case rel => exact ⟨_, (true), (by first | rfl | (simp; done) | (simp [*]; done)), H', ⟨by have := HJ9.out; first | omega | exact Nat.le_refl _⟩, ⟨by (with_reducible repeat (first | apply Kd.R_alloc | apply Kd.R_drewN | apply Kd.R_drew)); exact HO_10.out⟩, ⟨by repeat (first | (with_reducible first | exact HB.out | apply below_alloc | apply pw_below_drewN | apply below_drew1) | exact HB.out)⟩⟩
            · replace c24 := Bool.eq_false_iff.mpr c24
              subst c24
              have H1 : (if t148 ≥ 0 then ((dom_Dominates.f kj9 t145 t148 a1).bind fun t155 => (if t155 = true then ((dom_Dominates.f kj9 t145 t148 a2).bind fun t156 => (bywashlaw14_DomCommon.j1 kj9 a1 a2 t143 t145 t148 (!t156))) else (bywashlaw14_DomCommon.j1 kj9 a1 a2 t143 t145 t148 true))) else (bywashlaw14_DomCommon.j1 kj9 a1 a2 t143 t145 t148 false)) = some r := by rw [if_neg (show ¬ (false = true) by decide)] at H; exact H
              clear H
              have H := H1
              clear H1
              by_cases c42 : t148 ≥ 0
              · rw [if_pos c42] at H
                have c42b0 : decide (0 ≤ t148) = true := decide_eq_true c42
                clear c42
                replace H := Option.bind_eq_some_iff.mp H
                obtain ⟨t155, A430, H⟩ := H
                replace H : (if t155 = true then ((dom_Dominates.f kj9 t145 t148 a2).bind fun t156 => (bywashlaw14_DomCommon.j1 kj9 a1 a2 t143 t145 t148 (!t156))) else (bywashlaw14_DomCommon.j1 kj9 a1 a2 t143 t145 t148 true)) = some r := H
                have A43 := Aside0.mk A430
                clear A430
                by_cases c44 : t155 = true
                · subst c44
                  have H1 : ((dom_Dominates.f kj9 t145 t148 a2).bind fun t156 => (bywashlaw14_DomCommon.j1 kj9 a1 a2 t143 t145 t148 (!t156))) = some r := by rw [if_pos rfl] at H; exact H
                  clear H
                  have H := H1
                  clear H1
                  replace H := Option.bind_eq_some_iff.mp H
                  obtain ⟨t156, A450, H⟩ := H
                  replace H : (bywashlaw14_DomCommon.j1 kj9 a1 a2 t143 t145 t148 (!t156)) = some r := H
                  have A45 := Aside0.mk A450
                  clear A450
                  have H' := Aside0.mk H
                  clear H
                  go_wp2_with (first | ((with_reducible refine gate_callee (f := 16) rfl ?_); refine goesL_ (some 38) rfl rfl Try.func16 (by kernel_rfl) rfl #[.slice Ao13 t145.length co13, .int .i64 a2, .int .i64 a1] rfl (by (try simp only [List.map_toArray, List.map_cons, List.map_nil]); first | done | rfl | (simp only [List.length_drop, List.length_take]; rfl)) ?_; (with_reducible refine (dom_Common.calls kj9 _ _ t145 a2 a1 t151 _ ?side1 ?side2 A22.out).mono ?_); (case side1 => repeat (first | exact (Kd.R_reads' HO_10.out).2.2 | (with_reducible refine Kd.C_alloc ?_ _) | (with_reducible refine Kd.C_drewN ?_ _) | (with_reducible refine Kd.C_drew ?_))); (case side2 => exact (Kd.R_reads' HO_10.out).2.1); rintro e w46 ⟨rfl, hb⟩; refine ⟨_, rfl, ?_⟩; have n0_ := Aside0.mk (Kd.R_below (by (with_reducible repeat (first | apply Kd.R_alloc | apply Kd.R_drewN | apply Kd.R_drew)); exact HO_10.out) hb); have n1_ := Aside0.mk (below_step (by repeat (first | (with_reducible first | exact HB.out | apply below_alloc | apply pw_below_drewN | apply below_drew1) | exact HB.out)) hb); clear HO_10; clear HB; have HO_10 := n0_; have HB := n1_; clear n0_ n1_; (try clear hb); (try clear hb2); (try clear hk); (try clear hi)) | (go_at_call 17; (with_reducible refine (dom_Dominates.calls kj9 _ _ t145 t148 a1 true _ ?side1 ?side2 A43.out).mono ?_); (case side1 => repeat (first | exact (Kd.R_reads' HO_10.out).2.2 | (with_reducible refine Kd.C_alloc ?_ _) | (with_reducible refine Kd.C_drewN ?_ _) | (with_reducible refine Kd.C_drew ?_))); (case side2 => exact (Kd.R_reads' HO_10.out).2.1); rintro e w47 ⟨rfl, hb⟩; have n0_ := Aside0.mk (Kd.R_below (by (with_reducible repeat (first | apply Kd.R_alloc | apply Kd.R_drewN | apply Kd.R_drew)); exact HO_10.out) hb); have n1_ := Aside0.mk (below_step (by repeat (first | (with_reducible first | exact HB.out | apply below_alloc | apply pw_below_drewN | apply below_drew1) | exact HB.out)) hb); clear HO_10; clear HB; have HO_10 := n0_; have HB := n1_; clear n0_ n1_; (try clear hb); (try clear hb2); (try clear hk); (try clear hi)) | (go_at_call 17; (with_reducible refine (dom_Dominates.calls kj9 _ _ t145 t148 a2 t156 _ ?side1 ?side2 A45.out).mono ?_); (case side1 => repeat (first | exact (Kd.R_reads' HO_10.out).2.2 | (with_reducible refine Kd.C_alloc ?_ _) | (with_reducible refine Kd.C_drewN ?_ _) | (with_reducible refine Kd.C_drew ?_))); (case side2 => exact (Kd.R_reads' HO_10.out).2.1); rintro e w48 ⟨rfl, hb⟩; have n0_ := Aside0.mk (Kd.R_below (by (with_reducible repeat (first | apply Kd.R_alloc | apply Kd.R_drewN | apply Kd.R_drew)); exact HO_10.out) hb); have n1_ := Aside0.mk (below_step (by repeat (first | (with_reducible first | exact HB.out | apply below_alloc | apply pw_below_drewN | apply below_drew1) | exact HB.out)) hb); clear HO_10; clear HB; have HO_10 := n0_; have HB := n1_; clear n0_ n1_; (try clear hb); (try clear hb2); (try clear hk); (try clear hi)))
                  go_meet
                  case rel => exact ⟨_, (!t156), (by first | rfl | (simp; done) | (simp [*]; done)), H', ⟨by have := HJ9.out; first | omega | exact Nat.le_refl _⟩, ⟨by (with_reducible repeat (first | apply Kd.R_alloc | apply Kd.R_drewN | apply Kd.R_drew)); exact HO_10.out⟩, ⟨by repeat (first | (with_reducible first | exact HB.out | apply below_alloc | apply pw_below_drewN | apply below_drew1) | exact HB.out)⟩⟩
                · replace c44 := Bool.eq_false_iff.mpr c44
                  subst c44
                  have H1 : (bywashlaw14_DomCommon.j1 kj9 a1 a2 t143 t145 t148 true) = some r := by rw [if_neg (show ¬ (false = true) by decide)] at H; exact H
                  clear H
                  have H := H1
                  clear H1
                  have H' := Aside0.mk H
                  clear H
                  go_wp2_with (first | ((with_reducible refine gate_callee (f := 16) rfl ?_); refine goesL_ (some 38) rfl rfl Try.func16 (by kernel_rfl) rfl #[.slice Ao13 t145.length co13, .int .i64 a2, .int .i64 a1] rfl (by (try simp only [List.map_toArray, List.map_cons, List.map_nil]); first | done | rfl | (simp only [List.length_drop, List.length_take]; rfl)) ?_; (with_reducible refine (dom_Common.calls kj9 _ _ t145 a2 a1 t151 _ ?side1 ?side2 A22.out).mono ?_); (case side1 => repeat (first | exact (Kd.R_reads' HO_10.out).2.2 | (with_reducible refine Kd.C_alloc ?_ _) | (with_reducible refine Kd.C_drewN ?_ _) | (with_reducible refine Kd.C_drew ?_))); (case side2 => exact (Kd.R_reads' HO_10.out).2.1); rintro e w49 ⟨rfl, hb⟩; refine ⟨_, rfl, ?_⟩; have n0_ := Aside0.mk (Kd.R_below (by (with_reducible repeat (first | apply Kd.R_alloc | apply Kd.R_drewN | apply Kd.R_drew)); exact HO_10.out) hb); have n1_ := Aside0.mk (below_step (by repeat (first | (with_reducible first | exact HB.out | apply below_alloc | apply pw_below_drewN | apply below_drew1) | exact HB.out)) hb); clear HO_10; clear HB; have HO_10 := n0_; have HB := n1_; clear n0_ n1_; (try clear hb); (try clear hb2); (try clear hk); (try clear hi)) | (go_at_call 17; (with_reducible refine (dom_Dominates.calls kj9 _ _ t145 t148 a1 false _ ?side1 ?side2 A43.out).mono ?_); (case side1 => repeat (first | exact (Kd.R_reads' HO_10.out).2.2 | (with_reducible refine Kd.C_alloc ?_ _) | (with_reducible refine Kd.C_drewN ?_ _) | (with_reducible refine Kd.C_drew ?_))); (case side2 => exact (Kd.R_reads' HO_10.out).2.1); rintro e w50 ⟨rfl, hb⟩; have n0_ := Aside0.mk (Kd.R_below (by (with_reducible repeat (first | apply Kd.R_alloc | apply Kd.R_drewN | apply Kd.R_drew)); exact HO_10.out) hb); have n1_ := Aside0.mk (below_step (by repeat (first | (with_reducible first | exact HB.out | apply below_alloc | apply pw_below_drewN | apply below_drew1) | exact HB.out)) hb); clear HO_10; clear HB; have HO_10 := n0_; have HB := n1_; clear n0_ n1_; (try clear hb); (try clear hb2); (try clear hk); (try clear hi)))
                  go_meet
                  case rel => exact ⟨_, (true), (by first | rfl | (simp; done) | (simp [*]; done)), H', ⟨by have := HJ9.out; first | omega | exact Nat.le_refl _⟩, ⟨by (with_reducible repeat (first | apply Kd.R_alloc | apply Kd.R_drewN | apply Kd.R_drew)); exact HO_10.out⟩, ⟨by repeat (first | (with_reducible first | exact HB.out | apply below_alloc | apply pw_below_drewN | apply below_drew1) | exact HB.out)⟩⟩
              · rw [if_neg c42] at H
                have c42b0 : decide (0 ≤ t148) = false := decide_eq_false c42
                clear c42
                have H' := Aside0.mk H
                clear H
                go_wp2_with (first | ((with_reducible refine gate_callee (f := 16) rfl ?_); refine goesL_ (some 38) rfl rfl Try.func16 (by kernel_rfl) rfl #[.slice Ao13 t145.length co13, .int .i64 a2, .int .i64 a1] rfl (by (try simp only [List.map_toArray, List.map_cons, List.map_nil]); first | done | rfl | (simp only [List.length_drop, List.length_take]; rfl)) ?_; (with_reducible refine (dom_Common.calls kj9 _ _ t145 a2 a1 t151 _ ?side1 ?side2 A22.out).mono ?_); (case side1 => repeat (first | exact (Kd.R_reads' HO_10.out).2.2 | (with_reducible refine Kd.C_alloc ?_ _) | (with_reducible refine Kd.C_drewN ?_ _) | (with_reducible refine Kd.C_drew ?_))); (case side2 => exact (Kd.R_reads' HO_10.out).2.1); rintro e w51 ⟨rfl, hb⟩; refine ⟨_, rfl, ?_⟩; have n0_ := Aside0.mk (Kd.R_below (by (with_reducible repeat (first | apply Kd.R_alloc | apply Kd.R_drewN | apply Kd.R_drew)); exact HO_10.out) hb); have n1_ := Aside0.mk (below_step (by repeat (first | (with_reducible first | exact HB.out | apply below_alloc | apply pw_below_drewN | apply below_drew1) | exact HB.out)) hb); clear HO_10; clear HB; have HO_10 := n0_; have HB := n1_; clear n0_ n1_; (try clear hb); (try clear hb2); (try clear hk); (try clear hi)))
                go_meet
                case rel => exact ⟨_, (false), (by first | rfl | (simp; done) | (simp [*]; done)), H', ⟨by have := HJ9.out; first | omega | exact Nat.le_refl _⟩, ⟨by (with_reducible repeat (first | apply Kd.R_alloc | apply Kd.R_drewN | apply Kd.R_drew)); exact HO_10.out⟩, ⟨by repeat (first | (with_reducible first | exact HB.out | apply below_alloc | apply pw_below_drewN | apply below_drew1) | exact HB.out)⟩⟩
          · rw [if_neg c23] at H
            have c23b0 : (t148 == t151) = false := beq_eq_false_iff_ne.mpr c23
            have c23b1 : (t148 != t151) = true := bne_iff_ne.mpr c23
            (first | rw [c23b0] | (simp only [i64_w, i32_w]; rw [c23b0]) | skip)
            have H' := Aside0.mk H
            clear H
            go_wp2_with (first | ((with_reducible refine gate_callee (f := 16) rfl ?_); refine goesL_ (some 38) rfl rfl Try.func16 (by kernel_rfl) rfl #[.slice Ao13 t145.length co13, .int .i64 a2, .int .i64 a1] rfl (by (try simp only [List.map_toArray, List.map_cons, List.map_nil]); first | done | rfl | (simp only [List.length_drop, List.length_take]; rfl)) ?_; (with_reducible refine (dom_Common.calls kj9 _ _ t145 a2 a1 t151 _ ?side1 ?side2 A22.out).mono ?_); (case side1 => repeat (first | exact (Kd.R_reads' HO_10.out).2.2 | (with_reducible refine Kd.C_alloc ?_ _) | (with_reducible refine Kd.C_drewN ?_ _) | (with_reducible refine Kd.C_drew ?_))); (case side2 => exact (Kd.R_reads' HO_10.out).2.1); rintro e w52 ⟨rfl, hb⟩; refine ⟨_, rfl, ?_⟩; have n0_ := Aside0.mk (Kd.R_below (by (with_reducible repeat (first | apply Kd.R_alloc | apply Kd.R_drewN | apply Kd.R_drew)); exact HO_10.out) hb); have n1_ := Aside0.mk (below_step (by repeat (first | (with_reducible first | exact HB.out | apply below_alloc | apply pw_below_drewN | apply below_drew1) | exact HB.out)) hb); clear HO_10; clear HB; have HO_10 := n0_; have HB := n1_; clear n0_ n1_; (try clear hb); (try clear hb2); (try clear hk); (try clear hi)))
            go_meet
            case rel => exact ⟨_, (true), (by first | rfl | (simp; done) | (simp [*]; done)), H', ⟨by have := HJ9.out; first | omega | exact Nat.le_refl _⟩, ⟨by (with_reducible repeat (first | apply Kd.R_alloc | apply Kd.R_drewN | apply Kd.R_drew)); exact HO_10.out⟩, ⟨by repeat (first | (with_reducible first | exact HB.out | apply below_alloc | apply pw_below_drewN | apply below_drew1) | exact HB.out)⟩⟩
        case rest =>
          clear HC21
          try clear c1
          try clear c2
          try clear p2
          try clear c3
          try clear c4
          try clear c7
          try clear c13
          try clear c14
          try clear c15
          try clear c16
          try clear c17
          try clear c23
          try clear c23b0
          try clear c23b1
          try clear c24
          try clear c26
          try clear c27
          try clear c27b0
          try clear c29
          try clear c42
          try clear c42b0
          try clear c44
          try clear p2
          obtain ⟨kq, x67_20, rfl, HA, HJ20, HO_10, HB⟩ := hcut
          cases kq with
          | zero => exact absurd HA.out (by simp [bywashlaw14_DomCommon.j1])
          | succ kj20 =>
            have H := HA.out
            clear HA
            simp only [bywashlaw14_DomCommon.j1] at H
            by_cases c53 : x67_20 = true
            · subst c53
              have H1 : (some false) = some r := by rw [if_pos rfl] at H; exact H
              clear H
              have H := H1
              clear H1
              obtain rfl := Option.some.inj H
              go_wp2
              go_ret
              exact ⟨by first | rfl | (simp [errW_none, errW_some] <;> rfl) | (simp [*, errW_none, errW_some] <;> rfl) | (exfalso; (try simp_all); (try omega); done), by repeat (first | (with_reducible first | exact HB.out | apply below_alloc | apply pw_below_drewN | apply below_drew1) | exact HB.out)⟩
            · replace c53 := Bool.eq_false_iff.mpr c53
              subst c53
              have H1 : (if t143 = true then ((dom_Dominates.f kj20 t145 0 a1).bind fun t157 => (if t157 = true then ((dom_Dominates.f kj20 t145 0 a2).bind fun t158 => (if ((decide (t148 ≥ 0)) == t158) = true then ((dom_Dominates.f kj20 t145 a1 a2).bind fun t159 => (if t148 = a1 then (if t148 ≥ 0 then ((dom_Dominates.f kj20 t145 a1 a1).bind fun t160 => (if (t159 == t160) = true then (some true) else (some (decide (t148 < 0))))) else (if (t159 == false) = true then (some true) else (some (decide (t148 < 0))))) else (if (t159 == false) = true then (some true) else (some (decide (t148 < 0)))))) else (some false))) else (if ((decide (t148 ≥ 0)) == false) = true then ((dom_Dominates.f kj20 t145 a1 a2).bind fun t161 => (if t148 = a1 then (if t148 ≥ 0 then ((dom_Dominates.f kj20 t145 a1 a1).bind fun t162 => (if (t161 == t162) = true then (some true) else (some (decide (t148 < 0))))) else (if (t161 == false) = true then (some true) else (some (decide (t148 < 0))))) else (if (t161 == false) = true then (some true) else (some (decide (t148 < 0)))))) else (some false)))) else (some false)) = some r := by rw [if_neg (show ¬ (false = true) by decide)] at H; exact H
              clear H
              have H := H1
              clear H1
              by_cases c54 : t143 = true
              · subst c54
                have H1 : ((dom_Dominates.f kj20 t145 0 a1).bind fun t157 => (if t157 = true then ((dom_Dominates.f kj20 t145 0 a2).bind fun t158 => (if ((decide (t148 ≥ 0)) == t158) = true then ((dom_Dominates.f kj20 t145 a1 a2).bind fun t159 => (if t148 = a1 then (if t148 ≥ 0 then ((dom_Dominates.f kj20 t145 a1 a1).bind fun t160 => (if (t159 == t160) = true then (some true) else (some (decide (t148 < 0))))) else (if (t159 == false) = true then (some true) else (some (decide (t148 < 0))))) else (if (t159 == false) = true then (some true) else (some (decide (t148 < 0)))))) else (some false))) else (if ((decide (t148 ≥ 0)) == false) = true then ((dom_Dominates.f kj20 t145 a1 a2).bind fun t161 => (if t148 = a1 then (if t148 ≥ 0 then ((dom_Dominates.f kj20 t145 a1 a1).bind fun t162 => (if (t161 == t162) = true then (some true) else (some (decide (t148 < 0))))) else (if (t161 == false) = true then (some true) else (some (decide (t148 < 0))))) else (if (t161 == false) = true then (some true) else (some (decide (t148 < 0)))))) else (some false)))) = some r := by rw [if_pos rfl] at H; exact H
                clear H
                have H := H1
                clear H1
                replace H := Option.bind_eq_some_iff.mp H
                obtain ⟨t157, A550, H⟩ := H
                replace H : (if t157 = true then ((dom_Dominates.f kj20 t145 0 a2).bind fun t158 => (if ((decide (t148 ≥ 0)) == t158) = true then ((dom_Dominates.f kj20 t145 a1 a2).bind fun t159 => (if t148 = a1 then (if t148 ≥ 0 then ((dom_Dominates.f kj20 t145 a1 a1).bind fun t160 => (if (t159 == t160) = true then (some true) else (some (decide (t148 < 0))))) else (if (t159 == false) = true then (some true) else (some (decide (t148 < 0))))) else (if (t159 == false) = true then (some true) else (some (decide (t148 < 0)))))) else (some false))) else (if ((decide (t148 ≥ 0)) == false) = true then ((dom_Dominates.f kj20 t145 a1 a2).bind fun t161 => (if t148 = a1 then (if t148 ≥ 0 then ((dom_Dominates.f kj20 t145 a1 a1).bind fun t162 => (if (t161 == t162) = true then (some true) else (some (decide (t148 < 0))))) else (if (t161 == false) = true then (some true) else (some (decide (t148 < 0))))) else (if (t161 == false) = true then (some true) else (some (decide (t148 < 0)))))) else (some false))) = some r := H
                have A55 := Aside0.mk A550
                clear A550
                by_cases c56 : t157 = true
                · subst c56
                  have H1 : ((dom_Dominates.f kj20 t145 0 a2).bind fun t158 => (if ((decide (t148 ≥ 0)) == t158) = true then ((dom_Dominates.f kj20 t145 a1 a2).bind fun t159 => (if t148 = a1 then (if t148 ≥ 0 then ((dom_Dominates.f kj20 t145 a1 a1).bind fun t160 => (if (t159 == t160) = true then (some true) else (some (decide (t148 < 0))))) else (if (t159 == false) = true then (some true) else (some (decide (t148 < 0))))) else (if (t159 == false) = true then (some true) else (some (decide (t148 < 0)))))) else (some false))) = some r := by rw [if_pos rfl] at H; exact H
                  clear H
                  have H := H1
                  clear H1
                  replace H := Option.bind_eq_some_iff.mp H
                  obtain ⟨t158, A570, H⟩ := H
                  replace H : (if ((decide (t148 ≥ 0)) == t158) = true then ((dom_Dominates.f kj20 t145 a1 a2).bind fun t159 => (if t148 = a1 then (if t148 ≥ 0 then ((dom_Dominates.f kj20 t145 a1 a1).bind fun t160 => (if (t159 == t160) = true then (some true) else (some (decide (t148 < 0))))) else (if (t159 == false) = true then (some true) else (some (decide (t148 < 0))))) else (if (t159 == false) = true then (some true) else (some (decide (t148 < 0)))))) else (some false)) = some r := H
                  have A57 := Aside0.mk A570
                  clear A570
                  by_cases c58 : ((decide (t148 ≥ 0)) == t158) = true
                  · rw [if_pos c58] at H
                    have c58b0 : ((decide (t148 ≥ 0)) == t158) = true := c58
                    have c58i_ : t158 = decide (t148 ≥ 0) := beq_yes _ _ c58b0
                    (try (have c58b1 : decide ((decide (t148 ≥ 0)) = t158) = true := by simpa using c58))
                    (try (have c58b2 : ((decide (t148 ≥ 0)) == t158) = true := by simpa using c58))
                    clear c58
                    replace H := Option.bind_eq_some_iff.mp H
                    obtain ⟨t159, A590, H⟩ := H
                    replace H : (if t148 = a1 then (if t148 ≥ 0 then ((dom_Dominates.f kj20 t145 a1 a1).bind fun t160 => (if (t159 == t160) = true then (some true) else (some (decide (t148 < 0))))) else (if (t159 == false) = true then (some true) else (some (decide (t148 < 0))))) else (if (t159 == false) = true then (some true) else (some (decide (t148 < 0))))) = some r := H
                    have A59 := Aside0.mk A590
                    clear A590
                    by_cases c60 : t148 = a1
                    · rw [if_pos c60] at H
                      have c60b0 : (t148 == a1) = true := beq_iff_eq.mpr c60
                      have c60b1 : (t148 != a1) = false := bne_eq_false_iff_eq.mpr c60
                      clear c60
                      by_cases c61 : t148 ≥ 0
                      · rw [if_pos c61] at H
                        have c61b0 : decide (0 ≤ t148) = true := decide_eq_true c61
                        clear c61
                        replace H := Option.bind_eq_some_iff.mp H
                        obtain ⟨t160, A620, H⟩ := H
                        replace H : (if (t159 == t160) = true then (some true) else (some (decide (t148 < 0)))) = some r := H
                        have A62 := Aside0.mk A620
                        clear A620
                        by_cases c63 : (t159 == t160) = true
                        · rw [if_pos c63] at H
                          have c63b0 : (t159 == t160) = true := c63
                          (try (have c63b1 : decide (t159 = t160) = true := by simpa using c63))
                          (try (have c63b2 : (t159 == t160) = true := by simpa using c63))
                          clear c63
                          obtain rfl := Option.some.inj H
                          go_wp2_with (first | (go_at_call 17; (with_reducible refine (dom_Dominates.calls kj20 _ _ t145 0 a1 true _ ?side1 ?side2 A55.out).mono ?_); (case side1 => repeat (first | exact (Kd.R_reads' HO_10.out).2.2 | (with_reducible refine Kd.C_alloc ?_ _) | (with_reducible refine Kd.C_drewN ?_ _) | (with_reducible refine Kd.C_drew ?_))); (case side2 => exact (Kd.R_reads' HO_10.out).2.1); rintro e w64 ⟨rfl, hb⟩; have n0_ := Aside0.mk (Kd.R_below (by (with_reducible repeat (first | apply Kd.R_alloc | apply Kd.R_drewN | apply Kd.R_drew)); exact HO_10.out) hb); have n1_ := Aside0.mk (below_step (by repeat (first | (with_reducible first | exact HB.out | apply below_alloc | apply pw_below_drewN | apply below_drew1) | exact HB.out)) hb); clear HO_10; clear HB; have HO_10 := n0_; have HB := n1_; clear n0_ n1_; (try clear hb); (try clear hb2); (try clear hk); (try clear hi)) | (go_at_call 17; (with_reducible refine (dom_Dominates.calls kj20 _ _ t145 0 a2 t158 _ ?side1 ?side2 A57.out).mono ?_); (case side1 => repeat (first | exact (Kd.R_reads' HO_10.out).2.2 | (with_reducible refine Kd.C_alloc ?_ _) | (with_reducible refine Kd.C_drewN ?_ _) | (with_reducible refine Kd.C_drew ?_))); (case side2 => exact (Kd.R_reads' HO_10.out).2.1); rintro e w65 ⟨rfl, hb⟩; have n0_ := Aside0.mk (Kd.R_below (by (with_reducible repeat (first | apply Kd.R_alloc | apply Kd.R_drewN | apply Kd.R_drew)); exact HO_10.out) hb); have n1_ := Aside0.mk (below_step (by repeat (first | (with_reducible first | exact HB.out | apply below_alloc | apply pw_below_drewN | apply below_drew1) | exact HB.out)) hb); clear HO_10; clear HB; have HO_10 := n0_; have HB := n1_; clear n0_ n1_; (try clear hb); (try clear hb2); (try clear hk); (try clear hi)) | (go_at_call 17; (with_reducible refine (dom_Dominates.calls kj20 _ _ t145 a1 a2 t159 _ ?side1 ?side2 A59.out).mono ?_); (case side1 => repeat (first | exact (Kd.R_reads' HO_10.out).2.2 | (with_reducible refine Kd.C_alloc ?_ _) | (with_reducible refine Kd.C_drewN ?_ _) | (with_reducible refine Kd.C_drew ?_))); (case side2 => exact (Kd.R_reads' HO_10.out).2.1); rintro e w66 ⟨rfl, hb⟩; have n0_ := Aside0.mk (Kd.R_below (by (with_reducible repeat (first | apply Kd.R_alloc | apply Kd.R_drewN | apply Kd.R_drew)); exact HO_10.out) hb); have n1_ := Aside0.mk (below_step (by repeat (first | (with_reducible first | exact HB.out | apply below_alloc | apply pw_below_drewN | apply below_drew1) | exact HB.out)) hb); clear HO_10; clear HB; have HO_10 := n0_; have HB := n1_; clear n0_ n1_; (try clear hb); (try clear hb2); (try clear hk); (try clear hi)) | (go_at_call 17; (with_reducible refine (dom_Dominates.calls kj20 _ _ t145 a1 a1 t160 _ ?side1 ?side2 A62.out).mono ?_); (case side1 => repeat (first | exact (Kd.R_reads' HO_10.out).2.2 | (with_reducible refine Kd.C_alloc ?_ _) | (with_reducible refine Kd.C_drewN ?_ _) | (with_reducible refine Kd.C_drew ?_))); (case side2 => exact (Kd.R_reads' HO_10.out).2.1); rintro e w67 ⟨rfl, hb⟩; have n0_ := Aside0.mk (Kd.R_below (by (with_reducible repeat (first | apply Kd.R_alloc | apply Kd.R_drewN | apply Kd.R_drew)); exact HO_10.out) hb); have n1_ := Aside0.mk (below_step (by repeat (first | (with_reducible first | exact HB.out | apply below_alloc | apply pw_below_drewN | apply below_drew1) | exact HB.out)) hb); clear HO_10; clear HB; have HO_10 := n0_; have HB := n1_; clear n0_ n1_; (try clear hb); (try clear hb2); (try clear hk); (try clear hi)))
                          go_ret
                          exact ⟨by first | rfl | (simp [errW_none, errW_some] <;> rfl) | (simp [*, errW_none, errW_some] <;> rfl) | (exfalso; (try simp_all); (try omega); done), by repeat (first | (with_reducible first | exact HB.out | apply below_alloc | apply pw_below_drewN | apply below_drew1) | exact HB.out)⟩
                        · rw [if_neg c63] at H
                          have c63b0 : (t159 == t160) = false := by simpa using c63
                          (try (have c63b1 : decide (t159 = t160) = false := by simpa using c63))
                          (try (have c63b2 : (t159 == t160) = false := by simpa using c63))
                          (try (have c63b3 : ¬ (t159 = t160) := by simpa using c63))
                          clear c63
                          obtain rfl := Option.some.inj H
                          go_wp2_with (first | (go_at_call 17; (with_reducible refine (dom_Dominates.calls kj20 _ _ t145 0 a1 true _ ?side1 ?side2 A55.out).mono ?_); (case side1 => repeat (first | exact (Kd.R_reads' HO_10.out).2.2 | (with_reducible refine Kd.C_alloc ?_ _) | (with_reducible refine Kd.C_drewN ?_ _) | (with_reducible refine Kd.C_drew ?_))); (case side2 => exact (Kd.R_reads' HO_10.out).2.1); rintro e w68 ⟨rfl, hb⟩; have n0_ := Aside0.mk (Kd.R_below (by (with_reducible repeat (first | apply Kd.R_alloc | apply Kd.R_drewN | apply Kd.R_drew)); exact HO_10.out) hb); have n1_ := Aside0.mk (below_step (by repeat (first | (with_reducible first | exact HB.out | apply below_alloc | apply pw_below_drewN | apply below_drew1) | exact HB.out)) hb); clear HO_10; clear HB; have HO_10 := n0_; have HB := n1_; clear n0_ n1_; (try clear hb); (try clear hb2); (try clear hk); (try clear hi)) | (go_at_call 17; (with_reducible refine (dom_Dominates.calls kj20 _ _ t145 0 a2 t158 _ ?side1 ?side2 A57.out).mono ?_); (case side1 => repeat (first | exact (Kd.R_reads' HO_10.out).2.2 | (with_reducible refine Kd.C_alloc ?_ _) | (with_reducible refine Kd.C_drewN ?_ _) | (with_reducible refine Kd.C_drew ?_))); (case side2 => exact (Kd.R_reads' HO_10.out).2.1); rintro e w69 ⟨rfl, hb⟩; have n0_ := Aside0.mk (Kd.R_below (by (with_reducible repeat (first | apply Kd.R_alloc | apply Kd.R_drewN | apply Kd.R_drew)); exact HO_10.out) hb); have n1_ := Aside0.mk (below_step (by repeat (first | (with_reducible first | exact HB.out | apply below_alloc | apply pw_below_drewN | apply below_drew1) | exact HB.out)) hb); clear HO_10; clear HB; have HO_10 := n0_; have HB := n1_; clear n0_ n1_; (try clear hb); (try clear hb2); (try clear hk); (try clear hi)) | (go_at_call 17; (with_reducible refine (dom_Dominates.calls kj20 _ _ t145 a1 a2 t159 _ ?side1 ?side2 A59.out).mono ?_); (case side1 => repeat (first | exact (Kd.R_reads' HO_10.out).2.2 | (with_reducible refine Kd.C_alloc ?_ _) | (with_reducible refine Kd.C_drewN ?_ _) | (with_reducible refine Kd.C_drew ?_))); (case side2 => exact (Kd.R_reads' HO_10.out).2.1); rintro e w70 ⟨rfl, hb⟩; have n0_ := Aside0.mk (Kd.R_below (by (with_reducible repeat (first | apply Kd.R_alloc | apply Kd.R_drewN | apply Kd.R_drew)); exact HO_10.out) hb); have n1_ := Aside0.mk (below_step (by repeat (first | (with_reducible first | exact HB.out | apply below_alloc | apply pw_below_drewN | apply below_drew1) | exact HB.out)) hb); clear HO_10; clear HB; have HO_10 := n0_; have HB := n1_; clear n0_ n1_; (try clear hb); (try clear hb2); (try clear hk); (try clear hi)) | (go_at_call 17; (with_reducible refine (dom_Dominates.calls kj20 _ _ t145 a1 a1 t160 _ ?side1 ?side2 A62.out).mono ?_); (case side1 => repeat (first | exact (Kd.R_reads' HO_10.out).2.2 | (with_reducible refine Kd.C_alloc ?_ _) | (with_reducible refine Kd.C_drewN ?_ _) | (with_reducible refine Kd.C_drew ?_))); (case side2 => exact (Kd.R_reads' HO_10.out).2.1); rintro e w71 ⟨rfl, hb⟩; have n0_ := Aside0.mk (Kd.R_below (by (with_reducible repeat (first | apply Kd.R_alloc | apply Kd.R_drewN | apply Kd.R_drew)); exact HO_10.out) hb); have n1_ := Aside0.mk (below_step (by repeat (first | (with_reducible first | exact HB.out | apply below_alloc | apply pw_below_drewN | apply below_drew1) | exact HB.out)) hb); clear HO_10; clear HB; have HO_10 := n0_; have HB := n1_; clear n0_ n1_; (try clear hb); (try clear hb2); (try clear hk); (try clear hi)))
                          go_ret
                          exact ⟨by first | rfl | (simp [errW_none, errW_some] <;> rfl) | (simp [*, errW_none, errW_some] <;> rfl) | (exfalso; (try simp_all); (try omega); done), by repeat (first | (with_reducible first | exact HB.out | apply below_alloc | apply pw_below_drewN | apply below_drew1) | exact HB.out)⟩
                      · rw [if_neg c61] at H
                        have c61b0 : decide (0 ≤ t148) = false := decide_eq_false c61
                        clear c61
                        by_cases c72 : (t159 == false) = true
                        · rw [if_pos c72] at H
                          have c72b0 : (t159 == false) = true := c72
                          (try (have c72b1 : decide (t159 = false) = true := by simpa using c72))
                          (try (have c72b2 : (t159 == false) = true := by simpa using c72))
                          clear c72
                          obtain rfl := Option.some.inj H
                          go_wp2_with (first | (go_at_call 17; (with_reducible refine (dom_Dominates.calls kj20 _ _ t145 0 a1 true _ ?side1 ?side2 A55.out).mono ?_); (case side1 => repeat (first | exact (Kd.R_reads' HO_10.out).2.2 | (with_reducible refine Kd.C_alloc ?_ _) | (with_reducible refine Kd.C_drewN ?_ _) | (with_reducible refine Kd.C_drew ?_))); (case side2 => exact (Kd.R_reads' HO_10.out).2.1); rintro e w73 ⟨rfl, hb⟩; have n0_ := Aside0.mk (Kd.R_below (by (with_reducible repeat (first | apply Kd.R_alloc | apply Kd.R_drewN | apply Kd.R_drew)); exact HO_10.out) hb); have n1_ := Aside0.mk (below_step (by repeat (first | (with_reducible first | exact HB.out | apply below_alloc | apply pw_below_drewN | apply below_drew1) | exact HB.out)) hb); clear HO_10; clear HB; have HO_10 := n0_; have HB := n1_; clear n0_ n1_; (try clear hb); (try clear hb2); (try clear hk); (try clear hi)) | (go_at_call 17; (with_reducible refine (dom_Dominates.calls kj20 _ _ t145 0 a2 t158 _ ?side1 ?side2 A57.out).mono ?_); (case side1 => repeat (first | exact (Kd.R_reads' HO_10.out).2.2 | (with_reducible refine Kd.C_alloc ?_ _) | (with_reducible refine Kd.C_drewN ?_ _) | (with_reducible refine Kd.C_drew ?_))); (case side2 => exact (Kd.R_reads' HO_10.out).2.1); rintro e w74 ⟨rfl, hb⟩; have n0_ := Aside0.mk (Kd.R_below (by (with_reducible repeat (first | apply Kd.R_alloc | apply Kd.R_drewN | apply Kd.R_drew)); exact HO_10.out) hb); have n1_ := Aside0.mk (below_step (by repeat (first | (with_reducible first | exact HB.out | apply below_alloc | apply pw_below_drewN | apply below_drew1) | exact HB.out)) hb); clear HO_10; clear HB; have HO_10 := n0_; have HB := n1_; clear n0_ n1_; (try clear hb); (try clear hb2); (try clear hk); (try clear hi)) | (go_at_call 17; (with_reducible refine (dom_Dominates.calls kj20 _ _ t145 a1 a2 t159 _ ?side1 ?side2 A59.out).mono ?_); (case side1 => repeat (first | exact (Kd.R_reads' HO_10.out).2.2 | (with_reducible refine Kd.C_alloc ?_ _) | (with_reducible refine Kd.C_drewN ?_ _) | (with_reducible refine Kd.C_drew ?_))); (case side2 => exact (Kd.R_reads' HO_10.out).2.1); rintro e w75 ⟨rfl, hb⟩; have n0_ := Aside0.mk (Kd.R_below (by (with_reducible repeat (first | apply Kd.R_alloc | apply Kd.R_drewN | apply Kd.R_drew)); exact HO_10.out) hb); have n1_ := Aside0.mk (below_step (by repeat (first | (with_reducible first | exact HB.out | apply below_alloc | apply pw_below_drewN | apply below_drew1) | exact HB.out)) hb); clear HO_10; clear HB; have HO_10 := n0_; have HB := n1_; clear n0_ n1_; (try clear hb); (try clear hb2); (try clear hk); (try clear hi)))
                          go_ret
                          exact ⟨by first | rfl | (simp [errW_none, errW_some] <;> rfl) | (simp [*, errW_none, errW_some] <;> rfl) | (exfalso; (try simp_all); (try omega); done), by repeat (first | (with_reducible first | exact HB.out | apply below_alloc | apply pw_below_drewN | apply below_drew1) | exact HB.out)⟩
                        · rw [if_neg c72] at H
                          have c72b0 : (t159 == false) = false := by simpa using c72
                          (try (have c72b1 : decide (t159 = false) = false := by simpa using c72))
                          (try (have c72b2 : (t159 == false) = false := by simpa using c72))
                          (try (have c72b3 : ¬ (t159 = false) := by simpa using c72))
                          clear c72
                          obtain rfl := Option.some.inj H
                          go_wp2_with (first | (go_at_call 17; (with_reducible refine (dom_Dominates.calls kj20 _ _ t145 0 a1 true _ ?side1 ?side2 A55.out).mono ?_); (case side1 => repeat (first | exact (Kd.R_reads' HO_10.out).2.2 | (with_reducible refine Kd.C_alloc ?_ _) | (with_reducible refine Kd.C_drewN ?_ _) | (with_reducible refine Kd.C_drew ?_))); (case side2 => exact (Kd.R_reads' HO_10.out).2.1); rintro e w76 ⟨rfl, hb⟩; have n0_ := Aside0.mk (Kd.R_below (by (with_reducible repeat (first | apply Kd.R_alloc | apply Kd.R_drewN | apply Kd.R_drew)); exact HO_10.out) hb); have n1_ := Aside0.mk (below_step (by repeat (first | (with_reducible first | exact HB.out | apply below_alloc | apply pw_below_drewN | apply below_drew1) | exact HB.out)) hb); clear HO_10; clear HB; have HO_10 := n0_; have HB := n1_; clear n0_ n1_; (try clear hb); (try clear hb2); (try clear hk); (try clear hi)) | (go_at_call 17; (with_reducible refine (dom_Dominates.calls kj20 _ _ t145 0 a2 t158 _ ?side1 ?side2 A57.out).mono ?_); (case side1 => repeat (first | exact (Kd.R_reads' HO_10.out).2.2 | (with_reducible refine Kd.C_alloc ?_ _) | (with_reducible refine Kd.C_drewN ?_ _) | (with_reducible refine Kd.C_drew ?_))); (case side2 => exact (Kd.R_reads' HO_10.out).2.1); rintro e w77 ⟨rfl, hb⟩; have n0_ := Aside0.mk (Kd.R_below (by (with_reducible repeat (first | apply Kd.R_alloc | apply Kd.R_drewN | apply Kd.R_drew)); exact HO_10.out) hb); have n1_ := Aside0.mk (below_step (by repeat (first | (with_reducible first | exact HB.out | apply below_alloc | apply pw_below_drewN | apply below_drew1) | exact HB.out)) hb); clear HO_10; clear HB; have HO_10 := n0_; have HB := n1_; clear n0_ n1_; (try clear hb); (try clear hb2); (try clear hk); (try clear hi)) | (go_at_call 17; (with_reducible refine (dom_Dominates.calls kj20 _ _ t145 a1 a2 t159 _ ?side1 ?side2 A59.out).mono ?_); (case side1 => repeat (first | exact (Kd.R_reads' HO_10.out).2.2 | (with_reducible refine Kd.C_alloc ?_ _) | (with_reducible refine Kd.C_drewN ?_ _) | (with_reducible refine Kd.C_drew ?_))); (case side2 => exact (Kd.R_reads' HO_10.out).2.1); rintro e w78 ⟨rfl, hb⟩; have n0_ := Aside0.mk (Kd.R_below (by (with_reducible repeat (first | apply Kd.R_alloc | apply Kd.R_drewN | apply Kd.R_drew)); exact HO_10.out) hb); have n1_ := Aside0.mk (below_step (by repeat (first | (with_reducible first | exact HB.out | apply below_alloc | apply pw_below_drewN | apply below_drew1) | exact HB.out)) hb); clear HO_10; clear HB; have HO_10 := n0_; have HB := n1_; clear n0_ n1_; (try clear hb); (try clear hb2); (try clear hk); (try clear hi)))
                          go_ret
                          exact ⟨by first | rfl | (simp [errW_none, errW_some] <;> rfl) | (simp [*, errW_none, errW_some] <;> rfl) | (exfalso; (try simp_all); (try omega); done), by repeat (first | (with_reducible first | exact HB.out | apply below_alloc | apply pw_below_drewN | apply below_drew1) | exact HB.out)⟩
                    · rw [if_neg c60] at H
                      have c60b0 : (t148 == a1) = false := beq_eq_false_iff_ne.mpr c60
                      have c60b1 : (t148 != a1) = true := bne_iff_ne.mpr c60
                      by_cases c79 : (t159 == false) = true
                      · rw [if_pos c79] at H
                        have c79b0 : (t159 == false) = true := c79
                        (try (have c79b1 : decide (t159 = false) = true := by simpa using c79))
                        (try (have c79b2 : (t159 == false) = true := by simpa using c79))
                        clear c79
                        obtain rfl := Option.some.inj H
                        go_wp2_with (first | (go_at_call 17; (with_reducible refine (dom_Dominates.calls kj20 _ _ t145 0 a1 true _ ?side1 ?side2 A55.out).mono ?_); (case side1 => repeat (first | exact (Kd.R_reads' HO_10.out).2.2 | (with_reducible refine Kd.C_alloc ?_ _) | (with_reducible refine Kd.C_drewN ?_ _) | (with_reducible refine Kd.C_drew ?_))); (case side2 => exact (Kd.R_reads' HO_10.out).2.1); rintro e w80 ⟨rfl, hb⟩; have n0_ := Aside0.mk (Kd.R_below (by (with_reducible repeat (first | apply Kd.R_alloc | apply Kd.R_drewN | apply Kd.R_drew)); exact HO_10.out) hb); have n1_ := Aside0.mk (below_step (by repeat (first | (with_reducible first | exact HB.out | apply below_alloc | apply pw_below_drewN | apply below_drew1) | exact HB.out)) hb); clear HO_10; clear HB; have HO_10 := n0_; have HB := n1_; clear n0_ n1_; (try clear hb); (try clear hb2); (try clear hk); (try clear hi)) | (go_at_call 17; (with_reducible refine (dom_Dominates.calls kj20 _ _ t145 0 a2 t158 _ ?side1 ?side2 A57.out).mono ?_); (case side1 => repeat (first | exact (Kd.R_reads' HO_10.out).2.2 | (with_reducible refine Kd.C_alloc ?_ _) | (with_reducible refine Kd.C_drewN ?_ _) | (with_reducible refine Kd.C_drew ?_))); (case side2 => exact (Kd.R_reads' HO_10.out).2.1); rintro e w81 ⟨rfl, hb⟩; have n0_ := Aside0.mk (Kd.R_below (by (with_reducible repeat (first | apply Kd.R_alloc | apply Kd.R_drewN | apply Kd.R_drew)); exact HO_10.out) hb); have n1_ := Aside0.mk (below_step (by repeat (first | (with_reducible first | exact HB.out | apply below_alloc | apply pw_below_drewN | apply below_drew1) | exact HB.out)) hb); clear HO_10; clear HB; have HO_10 := n0_; have HB := n1_; clear n0_ n1_; (try clear hb); (try clear hb2); (try clear hk); (try clear hi)) | (go_at_call 17; (with_reducible refine (dom_Dominates.calls kj20 _ _ t145 a1 a2 t159 _ ?side1 ?side2 A59.out).mono ?_); (case side1 => repeat (first | exact (Kd.R_reads' HO_10.out).2.2 | (with_reducible refine Kd.C_alloc ?_ _) | (with_reducible refine Kd.C_drewN ?_ _) | (with_reducible refine Kd.C_drew ?_))); (case side2 => exact (Kd.R_reads' HO_10.out).2.1); rintro e w82 ⟨rfl, hb⟩; have n0_ := Aside0.mk (Kd.R_below (by (with_reducible repeat (first | apply Kd.R_alloc | apply Kd.R_drewN | apply Kd.R_drew)); exact HO_10.out) hb); have n1_ := Aside0.mk (below_step (by repeat (first | (with_reducible first | exact HB.out | apply below_alloc | apply pw_below_drewN | apply below_drew1) | exact HB.out)) hb); clear HO_10; clear HB; have HO_10 := n0_; have HB := n1_; clear n0_ n1_; (try clear hb); (try clear hb2); (try clear hk); (try clear hi)))
                        go_ret
                        exact ⟨by first | rfl | (simp [errW_none, errW_some] <;> rfl) | (simp [*, errW_none, errW_some] <;> rfl) | (exfalso; (try simp_all); (try omega); done), by repeat (first | (with_reducible first | exact HB.out | apply below_alloc | apply pw_below_drewN | apply below_drew1) | exact HB.out)⟩
                      · rw [if_neg c79] at H
                        have c79b0 : (t159 == false) = false := by simpa using c79
                        (try (have c79b1 : decide (t159 = false) = false := by simpa using c79))
                        (try (have c79b2 : (t159 == false) = false := by simpa using c79))
                        (try (have c79b3 : ¬ (t159 = false) := by simpa using c79))
                        clear c79
                        obtain rfl := Option.some.inj H
                        go_wp2_with (first | (go_at_call 17; (with_reducible refine (dom_Dominates.calls kj20 _ _ t145 0 a1 true _ ?side1 ?side2 A55.out).mono ?_); (case side1 => repeat (first | exact (Kd.R_reads' HO_10.out).2.2 | (with_reducible refine Kd.C_alloc ?_ _) | (with_reducible refine Kd.C_drewN ?_ _) | (with_reducible refine Kd.C_drew ?_))); (case side2 => exact (Kd.R_reads' HO_10.out).2.1); rintro e w83 ⟨rfl, hb⟩; have n0_ := Aside0.mk (Kd.R_below (by (with_reducible repeat (first | apply Kd.R_alloc | apply Kd.R_drewN | apply Kd.R_drew)); exact HO_10.out) hb); have n1_ := Aside0.mk (below_step (by repeat (first | (with_reducible first | exact HB.out | apply below_alloc | apply pw_below_drewN | apply below_drew1) | exact HB.out)) hb); clear HO_10; clear HB; have HO_10 := n0_; have HB := n1_; clear n0_ n1_; (try clear hb); (try clear hb2); (try clear hk); (try clear hi)) | (go_at_call 17; (with_reducible refine (dom_Dominates.calls kj20 _ _ t145 0 a2 t158 _ ?side1 ?side2 A57.out).mono ?_); (case side1 => repeat (first | exact (Kd.R_reads' HO_10.out).2.2 | (with_reducible refine Kd.C_alloc ?_ _) | (with_reducible refine Kd.C_drewN ?_ _) | (with_reducible refine Kd.C_drew ?_))); (case side2 => exact (Kd.R_reads' HO_10.out).2.1); rintro e w84 ⟨rfl, hb⟩; have n0_ := Aside0.mk (Kd.R_below (by (with_reducible repeat (first | apply Kd.R_alloc | apply Kd.R_drewN | apply Kd.R_drew)); exact HO_10.out) hb); have n1_ := Aside0.mk (below_step (by repeat (first | (with_reducible first | exact HB.out | apply below_alloc | apply pw_below_drewN | apply below_drew1) | exact HB.out)) hb); clear HO_10; clear HB; have HO_10 := n0_; have HB := n1_; clear n0_ n1_; (try clear hb); (try clear hb2); (try clear hk); (try clear hi)) | (go_at_call 17; (with_reducible refine (dom_Dominates.calls kj20 _ _ t145 a1 a2 t159 _ ?side1 ?side2 A59.out).mono ?_); (case side1 => repeat (first | exact (Kd.R_reads' HO_10.out).2.2 | (with_reducible refine Kd.C_alloc ?_ _) | (with_reducible refine Kd.C_drewN ?_ _) | (with_reducible refine Kd.C_drew ?_))); (case side2 => exact (Kd.R_reads' HO_10.out).2.1); rintro e w85 ⟨rfl, hb⟩; have n0_ := Aside0.mk (Kd.R_below (by (with_reducible repeat (first | apply Kd.R_alloc | apply Kd.R_drewN | apply Kd.R_drew)); exact HO_10.out) hb); have n1_ := Aside0.mk (below_step (by repeat (first | (with_reducible first | exact HB.out | apply below_alloc | apply pw_below_drewN | apply below_drew1) | exact HB.out)) hb); clear HO_10; clear HB; have HO_10 := n0_; have HB := n1_; clear n0_ n1_; (try clear hb); (try clear hb2); (try clear hk); (try clear hi)))
                        go_ret
                        exact ⟨by first | rfl | (simp [errW_none, errW_some] <;> rfl) | (simp [*, errW_none, errW_some] <;> rfl) | (exfalso; (try simp_all); (try omega); done), by repeat (first | (with_reducible first | exact HB.out | apply below_alloc | apply pw_below_drewN | apply below_drew1) | exact HB.out)⟩
                  · rw [if_neg c58] at H
                    have c58b0 : ((decide (t148 ≥ 0)) == t158) = false := by simpa using c58
                    have c58i_ : t158 = !(decide (t148 ≥ 0)) := beq_no _ _ c58b0
                    (try (have c58b1 : decide ((decide (t148 ≥ 0)) = t158) = false := by simpa using c58))
                    (try (have c58b2 : ((decide (t148 ≥ 0)) == t158) = false := by simpa using c58))
                    (try (have c58b3 : ¬ ((decide (t148 ≥ 0)) = t158) := by simpa using c58))
                    clear c58
                    obtain rfl := Option.some.inj H
                    go_wp2_with (first | (go_at_call 17; (with_reducible refine (dom_Dominates.calls kj20 _ _ t145 0 a1 true _ ?side1 ?side2 A55.out).mono ?_); (case side1 => repeat (first | exact (Kd.R_reads' HO_10.out).2.2 | (with_reducible refine Kd.C_alloc ?_ _) | (with_reducible refine Kd.C_drewN ?_ _) | (with_reducible refine Kd.C_drew ?_))); (case side2 => exact (Kd.R_reads' HO_10.out).2.1); rintro e w86 ⟨rfl, hb⟩; have n0_ := Aside0.mk (Kd.R_below (by (with_reducible repeat (first | apply Kd.R_alloc | apply Kd.R_drewN | apply Kd.R_drew)); exact HO_10.out) hb); have n1_ := Aside0.mk (below_step (by repeat (first | (with_reducible first | exact HB.out | apply below_alloc | apply pw_below_drewN | apply below_drew1) | exact HB.out)) hb); clear HO_10; clear HB; have HO_10 := n0_; have HB := n1_; clear n0_ n1_; (try clear hb); (try clear hb2); (try clear hk); (try clear hi)) | (go_at_call 17; (with_reducible refine (dom_Dominates.calls kj20 _ _ t145 0 a2 t158 _ ?side1 ?side2 A57.out).mono ?_); (case side1 => repeat (first | exact (Kd.R_reads' HO_10.out).2.2 | (with_reducible refine Kd.C_alloc ?_ _) | (with_reducible refine Kd.C_drewN ?_ _) | (with_reducible refine Kd.C_drew ?_))); (case side2 => exact (Kd.R_reads' HO_10.out).2.1); rintro e w87 ⟨rfl, hb⟩; have n0_ := Aside0.mk (Kd.R_below (by (with_reducible repeat (first | apply Kd.R_alloc | apply Kd.R_drewN | apply Kd.R_drew)); exact HO_10.out) hb); have n1_ := Aside0.mk (below_step (by repeat (first | (with_reducible first | exact HB.out | apply below_alloc | apply pw_below_drewN | apply below_drew1) | exact HB.out)) hb); clear HO_10; clear HB; have HO_10 := n0_; have HB := n1_; clear n0_ n1_; (try clear hb); (try clear hb2); (try clear hk); (try clear hi)))
                    go_ret
                    exact ⟨by first | rfl | (simp [errW_none, errW_some] <;> rfl) | (simp [*, errW_none, errW_some] <;> rfl) | (exfalso; (try simp_all); (try omega); done), by repeat (first | (with_reducible first | exact HB.out | apply below_alloc | apply pw_below_drewN | apply below_drew1) | exact HB.out)⟩
                · replace c56 := Bool.eq_false_iff.mpr c56
                  subst c56
                  have H1 : (if ((decide (t148 ≥ 0)) == false) = true then ((dom_Dominates.f kj20 t145 a1 a2).bind fun t161 => (if t148 = a1 then (if t148 ≥ 0 then ((dom_Dominates.f kj20 t145 a1 a1).bind fun t162 => (if (t161 == t162) = true then (some true) else (some (decide (t148 < 0))))) else (if (t161 == false) = true then (some true) else (some (decide (t148 < 0))))) else (if (t161 == false) = true then (some true) else (some (decide (t148 < 0)))))) else (some false)) = some r := by rw [if_neg (show ¬ (false = true) by decide)] at H; exact H
                  clear H
                  have H := H1
                  clear H1
                  by_cases c88 : ((decide (t148 ≥ 0)) == false) = true
                  · rw [if_pos c88] at H
                    have c88b0 : ((decide (t148 ≥ 0)) == false) = true := c88
                    (try (have c88b1 : decide ((decide (t148 ≥ 0)) = false) = true := by simpa using c88))
                    (try (have c88b2 : ((decide (t148 ≥ 0)) == false) = true := by simpa using c88))
                    clear c88
                    replace H := Option.bind_eq_some_iff.mp H
                    obtain ⟨t161, A890, H⟩ := H
                    replace H : (if t148 = a1 then (if t148 ≥ 0 then ((dom_Dominates.f kj20 t145 a1 a1).bind fun t162 => (if (t161 == t162) = true then (some true) else (some (decide (t148 < 0))))) else (if (t161 == false) = true then (some true) else (some (decide (t148 < 0))))) else (if (t161 == false) = true then (some true) else (some (decide (t148 < 0))))) = some r := H
                    have A89 := Aside0.mk A890
                    clear A890
                    by_cases c90 : t148 = a1
                    · rw [if_pos c90] at H
                      have c90b0 : (t148 == a1) = true := beq_iff_eq.mpr c90
                      have c90b1 : (t148 != a1) = false := bne_eq_false_iff_eq.mpr c90
                      clear c90
                      by_cases c91 : t148 ≥ 0
                      · rw [if_pos c91] at H
                        have c91b0 : decide (0 ≤ t148) = true := decide_eq_true c91
                        clear c91
                        replace H := Option.bind_eq_some_iff.mp H
                        obtain ⟨t162, A920, H⟩ := H
                        replace H : (if (t161 == t162) = true then (some true) else (some (decide (t148 < 0)))) = some r := H
                        have A92 := Aside0.mk A920
                        clear A920
                        by_cases c93 : (t161 == t162) = true
                        · rw [if_pos c93] at H
                          have c93b0 : (t161 == t162) = true := c93
                          (try (have c93b1 : decide (t161 = t162) = true := by simpa using c93))
                          (try (have c93b2 : (t161 == t162) = true := by simpa using c93))
                          clear c93
                          obtain rfl := Option.some.inj H
                          go_wp2_with (first | (go_at_call 17; (with_reducible refine (dom_Dominates.calls kj20 _ _ t145 0 a1 false _ ?side1 ?side2 A55.out).mono ?_); (case side1 => repeat (first | exact (Kd.R_reads' HO_10.out).2.2 | (with_reducible refine Kd.C_alloc ?_ _) | (with_reducible refine Kd.C_drewN ?_ _) | (with_reducible refine Kd.C_drew ?_))); (case side2 => exact (Kd.R_reads' HO_10.out).2.1); rintro e w94 ⟨rfl, hb⟩; have n0_ := Aside0.mk (Kd.R_below (by (with_reducible repeat (first | apply Kd.R_alloc | apply Kd.R_drewN | apply Kd.R_drew)); exact HO_10.out) hb); have n1_ := Aside0.mk (below_step (by repeat (first | (with_reducible first | exact HB.out | apply below_alloc | apply pw_below_drewN | apply below_drew1) | exact HB.out)) hb); clear HO_10; clear HB; have HO_10 := n0_; have HB := n1_; clear n0_ n1_; (try clear hb); (try clear hb2); (try clear hk); (try clear hi)) | (go_at_call 17; (with_reducible refine (dom_Dominates.calls kj20 _ _ t145 a1 a2 t161 _ ?side1 ?side2 A89.out).mono ?_); (case side1 => repeat (first | exact (Kd.R_reads' HO_10.out).2.2 | (with_reducible refine Kd.C_alloc ?_ _) | (with_reducible refine Kd.C_drewN ?_ _) | (with_reducible refine Kd.C_drew ?_))); (case side2 => exact (Kd.R_reads' HO_10.out).2.1); rintro e w95 ⟨rfl, hb⟩; have n0_ := Aside0.mk (Kd.R_below (by (with_reducible repeat (first | apply Kd.R_alloc | apply Kd.R_drewN | apply Kd.R_drew)); exact HO_10.out) hb); have n1_ := Aside0.mk (below_step (by repeat (first | (with_reducible first | exact HB.out | apply below_alloc | apply pw_below_drewN | apply below_drew1) | exact HB.out)) hb); clear HO_10; clear HB; have HO_10 := n0_; have HB := n1_; clear n0_ n1_; (try clear hb); (try clear hb2); (try clear hk); (try clear hi)) | (go_at_call 17; (with_reducible refine (dom_Dominates.calls kj20 _ _ t145 a1 a1 t162 _ ?side1 ?side2 A92.out).mono ?_); (case side1 => repeat (first | exact (Kd.R_reads' HO_10.out).2.2 | (with_reducible refine Kd.C_alloc ?_ _) | (with_reducible refine Kd.C_drewN ?_ _) | (with_reducible refine Kd.C_drew ?_))); (case side2 => exact (Kd.R_reads' HO_10.out).2.1); rintro e w96 ⟨rfl, hb⟩; have n0_ := Aside0.mk (Kd.R_below (by (with_reducible repeat (first | apply Kd.R_alloc | apply Kd.R_drewN | apply Kd.R_drew)); exact HO_10.out) hb); have n1_ := Aside0.mk (below_step (by repeat (first | (with_reducible first | exact HB.out | apply below_alloc | apply pw_below_drewN | apply below_drew1) | exact HB.out)) hb); clear HO_10; clear HB; have HO_10 := n0_; have HB := n1_; clear n0_ n1_; (try clear hb); (try clear hb2); (try clear hk); (try clear hi)))
                          go_ret
                          exact ⟨by first | rfl | (simp [errW_none, errW_some] <;> rfl) | (simp [*, errW_none, errW_some] <;> rfl) | (exfalso; (try simp_all); (try omega); done), by repeat (first | (with_reducible first | exact HB.out | apply below_alloc | apply pw_below_drewN | apply below_drew1) | exact HB.out)⟩
                        · rw [if_neg c93] at H
                          have c93b0 : (t161 == t162) = false := by simpa using c93
                          (try (have c93b1 : decide (t161 = t162) = false := by simpa using c93))
                          (try (have c93b2 : (t161 == t162) = false := by simpa using c93))
                          (try (have c93b3 : ¬ (t161 = t162) := by simpa using c93))
                          clear c93
                          obtain rfl := Option.some.inj H
                          go_wp2_with (first | (go_at_call 17; (with_reducible refine (dom_Dominates.calls kj20 _ _ t145 0 a1 false _ ?side1 ?side2 A55.out).mono ?_); (case side1 => repeat (first | exact (Kd.R_reads' HO_10.out).2.2 | (with_reducible refine Kd.C_alloc ?_ _) | (with_reducible refine Kd.C_drewN ?_ _) | (with_reducible refine Kd.C_drew ?_))); (case side2 => exact (Kd.R_reads' HO_10.out).2.1); rintro e w97 ⟨rfl, hb⟩; have n0_ := Aside0.mk (Kd.R_below (by (with_reducible repeat (first | apply Kd.R_alloc | apply Kd.R_drewN | apply Kd.R_drew)); exact HO_10.out) hb); have n1_ := Aside0.mk (below_step (by repeat (first | (with_reducible first | exact HB.out | apply below_alloc | apply pw_below_drewN | apply below_drew1) | exact HB.out)) hb); clear HO_10; clear HB; have HO_10 := n0_; have HB := n1_; clear n0_ n1_; (try clear hb); (try clear hb2); (try clear hk); (try clear hi)) | (go_at_call 17; (with_reducible refine (dom_Dominates.calls kj20 _ _ t145 a1 a2 t161 _ ?side1 ?side2 A89.out).mono ?_); (case side1 => repeat (first | exact (Kd.R_reads' HO_10.out).2.2 | (with_reducible refine Kd.C_alloc ?_ _) | (with_reducible refine Kd.C_drewN ?_ _) | (with_reducible refine Kd.C_drew ?_))); (case side2 => exact (Kd.R_reads' HO_10.out).2.1); rintro e w98 ⟨rfl, hb⟩; have n0_ := Aside0.mk (Kd.R_below (by (with_reducible repeat (first | apply Kd.R_alloc | apply Kd.R_drewN | apply Kd.R_drew)); exact HO_10.out) hb); have n1_ := Aside0.mk (below_step (by repeat (first | (with_reducible first | exact HB.out | apply below_alloc | apply pw_below_drewN | apply below_drew1) | exact HB.out)) hb); clear HO_10; clear HB; have HO_10 := n0_; have HB := n1_; clear n0_ n1_; (try clear hb); (try clear hb2); (try clear hk); (try clear hi)) | (go_at_call 17; (with_reducible refine (dom_Dominates.calls kj20 _ _ t145 a1 a1 t162 _ ?side1 ?side2 A92.out).mono ?_); (case side1 => repeat (first | exact (Kd.R_reads' HO_10.out).2.2 | (with_reducible refine Kd.C_alloc ?_ _) | (with_reducible refine Kd.C_drewN ?_ _) | (with_reducible refine Kd.C_drew ?_))); (case side2 => exact (Kd.R_reads' HO_10.out).2.1); rintro e w99 ⟨rfl, hb⟩; have n0_ := Aside0.mk (Kd.R_below (by (with_reducible repeat (first | apply Kd.R_alloc | apply Kd.R_drewN | apply Kd.R_drew)); exact HO_10.out) hb); have n1_ := Aside0.mk (below_step (by repeat (first | (with_reducible first | exact HB.out | apply below_alloc | apply pw_below_drewN | apply below_drew1) | exact HB.out)) hb); clear HO_10; clear HB; have HO_10 := n0_; have HB := n1_; clear n0_ n1_; (try clear hb); (try clear hb2); (try clear hk); (try clear hi)))
                          go_ret
                          exact ⟨by first | rfl | (simp [errW_none, errW_some] <;> rfl) | (simp [*, errW_none, errW_some] <;> rfl) | (exfalso; (try simp_all); (try omega); done), by repeat (first | (with_reducible first | exact HB.out | apply below_alloc | apply pw_below_drewN | apply below_drew1) | exact HB.out)⟩
                      · rw [if_neg c91] at H
                        have c91b0 : decide (0 ≤ t148) = false := decide_eq_false c91
                        clear c91
                        by_cases c100 : (t161 == false) = true
                        · rw [if_pos c100] at H
                          have c100b0 : (t161 == false) = true := c100
                          (try (have c100b1 : decide (t161 = false) = true := by simpa using c100))
                          (try (have c100b2 : (t161 == false) = true := by simpa using c100))
                          clear c100
                          obtain rfl := Option.some.inj H
                          go_wp2_with (first | (go_at_call 17; (with_reducible refine (dom_Dominates.calls kj20 _ _ t145 0 a1 false _ ?side1 ?side2 A55.out).mono ?_); (case side1 => repeat (first | exact (Kd.R_reads' HO_10.out).2.2 | (with_reducible refine Kd.C_alloc ?_ _) | (with_reducible refine Kd.C_drewN ?_ _) | (with_reducible refine Kd.C_drew ?_))); (case side2 => exact (Kd.R_reads' HO_10.out).2.1); rintro e w101 ⟨rfl, hb⟩; have n0_ := Aside0.mk (Kd.R_below (by (with_reducible repeat (first | apply Kd.R_alloc | apply Kd.R_drewN | apply Kd.R_drew)); exact HO_10.out) hb); have n1_ := Aside0.mk (below_step (by repeat (first | (with_reducible first | exact HB.out | apply below_alloc | apply pw_below_drewN | apply below_drew1) | exact HB.out)) hb); clear HO_10; clear HB; have HO_10 := n0_; have HB := n1_; clear n0_ n1_; (try clear hb); (try clear hb2); (try clear hk); (try clear hi)) | (go_at_call 17; (with_reducible refine (dom_Dominates.calls kj20 _ _ t145 a1 a2 t161 _ ?side1 ?side2 A89.out).mono ?_); (case side1 => repeat (first | exact (Kd.R_reads' HO_10.out).2.2 | (with_reducible refine Kd.C_alloc ?_ _) | (with_reducible refine Kd.C_drewN ?_ _) | (with_reducible refine Kd.C_drew ?_))); (case side2 => exact (Kd.R_reads' HO_10.out).2.1); rintro e w102 ⟨rfl, hb⟩; have n0_ := Aside0.mk (Kd.R_below (by (with_reducible repeat (first | apply Kd.R_alloc | apply Kd.R_drewN | apply Kd.R_drew)); exact HO_10.out) hb); have n1_ := Aside0.mk (below_step (by repeat (first | (with_reducible first | exact HB.out | apply below_alloc | apply pw_below_drewN | apply below_drew1) | exact HB.out)) hb); clear HO_10; clear HB; have HO_10 := n0_; have HB := n1_; clear n0_ n1_; (try clear hb); (try clear hb2); (try clear hk); (try clear hi)))
                          go_ret
                          exact ⟨by first | rfl | (simp [errW_none, errW_some] <;> rfl) | (simp [*, errW_none, errW_some] <;> rfl) | (exfalso; (try simp_all); (try omega); done), by repeat (first | (with_reducible first | exact HB.out | apply below_alloc | apply pw_below_drewN | apply below_drew1) | exact HB.out)⟩
                        · rw [if_neg c100] at H
                          have c100b0 : (t161 == false) = false := by simpa using c100
                          (try (have c100b1 : decide (t161 = false) = false := by simpa using c100))
                          (try (have c100b2 : (t161 == false) = false := by simpa using c100))
                          (try (have c100b3 : ¬ (t161 = false) := by simpa using c100))
                          clear c100
                          obtain rfl := Option.some.inj H
                          go_wp2_with (first | (go_at_call 17; (with_reducible refine (dom_Dominates.calls kj20 _ _ t145 0 a1 false _ ?side1 ?side2 A55.out).mono ?_); (case side1 => repeat (first | exact (Kd.R_reads' HO_10.out).2.2 | (with_reducible refine Kd.C_alloc ?_ _) | (with_reducible refine Kd.C_drewN ?_ _) | (with_reducible refine Kd.C_drew ?_))); (case side2 => exact (Kd.R_reads' HO_10.out).2.1); rintro e w103 ⟨rfl, hb⟩; have n0_ := Aside0.mk (Kd.R_below (by (with_reducible repeat (first | apply Kd.R_alloc | apply Kd.R_drewN | apply Kd.R_drew)); exact HO_10.out) hb); have n1_ := Aside0.mk (below_step (by repeat (first | (with_reducible first | exact HB.out | apply below_alloc | apply pw_below_drewN | apply below_drew1) | exact HB.out)) hb); clear HO_10; clear HB; have HO_10 := n0_; have HB := n1_; clear n0_ n1_; (try clear hb); (try clear hb2); (try clear hk); (try clear hi)) | (go_at_call 17; (with_reducible refine (dom_Dominates.calls kj20 _ _ t145 a1 a2 t161 _ ?side1 ?side2 A89.out).mono ?_); (case side1 => repeat (first | exact (Kd.R_reads' HO_10.out).2.2 | (with_reducible refine Kd.C_alloc ?_ _) | (with_reducible refine Kd.C_drewN ?_ _) | (with_reducible refine Kd.C_drew ?_))); (case side2 => exact (Kd.R_reads' HO_10.out).2.1); rintro e w104 ⟨rfl, hb⟩; have n0_ := Aside0.mk (Kd.R_below (by (with_reducible repeat (first | apply Kd.R_alloc | apply Kd.R_drewN | apply Kd.R_drew)); exact HO_10.out) hb); have n1_ := Aside0.mk (below_step (by repeat (first | (with_reducible first | exact HB.out | apply below_alloc | apply pw_below_drewN | apply below_drew1) | exact HB.out)) hb); clear HO_10; clear HB; have HO_10 := n0_; have HB := n1_; clear n0_ n1_; (try clear hb); (try clear hb2); (try clear hk); (try clear hi)))
                          go_ret
                          exact ⟨by first | rfl | (simp [errW_none, errW_some] <;> rfl) | (simp [*, errW_none, errW_some] <;> rfl) | (exfalso; (try simp_all); (try omega); done), by repeat (first | (with_reducible first | exact HB.out | apply below_alloc | apply pw_below_drewN | apply below_drew1) | exact HB.out)⟩
                    · rw [if_neg c90] at H
                      have c90b0 : (t148 == a1) = false := beq_eq_false_iff_ne.mpr c90
                      have c90b1 : (t148 != a1) = true := bne_iff_ne.mpr c90
                      by_cases c105 : (t161 == false) = true
                      · rw [if_pos c105] at H
                        have c105b0 : (t161 == false) = true := c105
                        (try (have c105b1 : decide (t161 = false) = true := by simpa using c105))
                        (try (have c105b2 : (t161 == false) = true := by simpa using c105))
                        clear c105
                        obtain rfl := Option.some.inj H
                        go_wp2_with (first | (go_at_call 17; (with_reducible refine (dom_Dominates.calls kj20 _ _ t145 0 a1 false _ ?side1 ?side2 A55.out).mono ?_); (case side1 => repeat (first | exact (Kd.R_reads' HO_10.out).2.2 | (with_reducible refine Kd.C_alloc ?_ _) | (with_reducible refine Kd.C_drewN ?_ _) | (with_reducible refine Kd.C_drew ?_))); (case side2 => exact (Kd.R_reads' HO_10.out).2.1); rintro e w106 ⟨rfl, hb⟩; have n0_ := Aside0.mk (Kd.R_below (by (with_reducible repeat (first | apply Kd.R_alloc | apply Kd.R_drewN | apply Kd.R_drew)); exact HO_10.out) hb); have n1_ := Aside0.mk (below_step (by repeat (first | (with_reducible first | exact HB.out | apply below_alloc | apply pw_below_drewN | apply below_drew1) | exact HB.out)) hb); clear HO_10; clear HB; have HO_10 := n0_; have HB := n1_; clear n0_ n1_; (try clear hb); (try clear hb2); (try clear hk); (try clear hi)) | (go_at_call 17; (with_reducible refine (dom_Dominates.calls kj20 _ _ t145 a1 a2 t161 _ ?side1 ?side2 A89.out).mono ?_); (case side1 => repeat (first | exact (Kd.R_reads' HO_10.out).2.2 | (with_reducible refine Kd.C_alloc ?_ _) | (with_reducible refine Kd.C_drewN ?_ _) | (with_reducible refine Kd.C_drew ?_))); (case side2 => exact (Kd.R_reads' HO_10.out).2.1); rintro e w107 ⟨rfl, hb⟩; have n0_ := Aside0.mk (Kd.R_below (by (with_reducible repeat (first | apply Kd.R_alloc | apply Kd.R_drewN | apply Kd.R_drew)); exact HO_10.out) hb); have n1_ := Aside0.mk (below_step (by repeat (first | (with_reducible first | exact HB.out | apply below_alloc | apply pw_below_drewN | apply below_drew1) | exact HB.out)) hb); clear HO_10; clear HB; have HO_10 := n0_; have HB := n1_; clear n0_ n1_; (try clear hb); (try clear hb2); (try clear hk); (try clear hi)))
                        go_ret
                        exact ⟨by first | rfl | (simp [errW_none, errW_some] <;> rfl) | (simp [*, errW_none, errW_some] <;> rfl) | (exfalso; (try simp_all); (try omega); done), by repeat (first | (with_reducible first | exact HB.out | apply below_alloc | apply pw_below_drewN | apply below_drew1) | exact HB.out)⟩
                      · rw [if_neg c105] at H
                        have c105b0 : (t161 == false) = false := by simpa using c105
                        (try (have c105b1 : decide (t161 = false) = false := by simpa using c105))
                        (try (have c105b2 : (t161 == false) = false := by simpa using c105))
                        (try (have c105b3 : ¬ (t161 = false) := by simpa using c105))
                        clear c105
                        obtain rfl := Option.some.inj H
                        go_wp2_with (first | (go_at_call 17; (with_reducible refine (dom_Dominates.calls kj20 _ _ t145 0 a1 false _ ?side1 ?side2 A55.out).mono ?_); (case side1 => repeat (first | exact (Kd.R_reads' HO_10.out).2.2 | (with_reducible refine Kd.C_alloc ?_ _) | (with_reducible refine Kd.C_drewN ?_ _) | (with_reducible refine Kd.C_drew ?_))); (case side2 => exact (Kd.R_reads' HO_10.out).2.1); rintro e w108 ⟨rfl, hb⟩; have n0_ := Aside0.mk (Kd.R_below (by (with_reducible repeat (first | apply Kd.R_alloc | apply Kd.R_drewN | apply Kd.R_drew)); exact HO_10.out) hb); have n1_ := Aside0.mk (below_step (by repeat (first | (with_reducible first | exact HB.out | apply below_alloc | apply pw_below_drewN | apply below_drew1) | exact HB.out)) hb); clear HO_10; clear HB; have HO_10 := n0_; have HB := n1_; clear n0_ n1_; (try clear hb); (try clear hb2); (try clear hk); (try clear hi)) | (go_at_call 17; (with_reducible refine (dom_Dominates.calls kj20 _ _ t145 a1 a2 t161 _ ?side1 ?side2 A89.out).mono ?_); (case side1 => repeat (first | exact (Kd.R_reads' HO_10.out).2.2 | (with_reducible refine Kd.C_alloc ?_ _) | (with_reducible refine Kd.C_drewN ?_ _) | (with_reducible refine Kd.C_drew ?_))); (case side2 => exact (Kd.R_reads' HO_10.out).2.1); rintro e w109 ⟨rfl, hb⟩; have n0_ := Aside0.mk (Kd.R_below (by (with_reducible repeat (first | apply Kd.R_alloc | apply Kd.R_drewN | apply Kd.R_drew)); exact HO_10.out) hb); have n1_ := Aside0.mk (below_step (by repeat (first | (with_reducible first | exact HB.out | apply below_alloc | apply pw_below_drewN | apply below_drew1) | exact HB.out)) hb); clear HO_10; clear HB; have HO_10 := n0_; have HB := n1_; clear n0_ n1_; (try clear hb); (try clear hb2); (try clear hk); (try clear hi)))
                        go_ret
                        exact ⟨by first | rfl | (simp [errW_none, errW_some] <;> rfl) | (simp [*, errW_none, errW_some] <;> rfl) | (exfalso; (try simp_all); (try omega); done), by repeat (first | (with_reducible first | exact HB.out | apply below_alloc | apply pw_below_drewN | apply below_drew1) | exact HB.out)⟩
                  · rw [if_neg c88] at H
                    have c88b0 : ((decide (t148 ≥ 0)) == false) = false := by simpa using c88
                    (try (have c88b1 : decide ((decide (t148 ≥ 0)) = false) = false := by simpa using c88))
                    (try (have c88b2 : ((decide (t148 ≥ 0)) == false) = false := by simpa using c88))
                    (try (have c88b3 : ¬ ((decide (t148 ≥ 0)) = false) := by simpa using c88))
                    clear c88
                    obtain rfl := Option.some.inj H
                    go_wp2_with (first | (go_at_call 17; (with_reducible refine (dom_Dominates.calls kj20 _ _ t145 0 a1 false _ ?side1 ?side2 A55.out).mono ?_); (case side1 => repeat (first | exact (Kd.R_reads' HO_10.out).2.2 | (with_reducible refine Kd.C_alloc ?_ _) | (with_reducible refine Kd.C_drewN ?_ _) | (with_reducible refine Kd.C_drew ?_))); (case side2 => exact (Kd.R_reads' HO_10.out).2.1); rintro e w110 ⟨rfl, hb⟩; have n0_ := Aside0.mk (Kd.R_below (by (with_reducible repeat (first | apply Kd.R_alloc | apply Kd.R_drewN | apply Kd.R_drew)); exact HO_10.out) hb); have n1_ := Aside0.mk (below_step (by repeat (first | (with_reducible first | exact HB.out | apply below_alloc | apply pw_below_drewN | apply below_drew1) | exact HB.out)) hb); clear HO_10; clear HB; have HO_10 := n0_; have HB := n1_; clear n0_ n1_; (try clear hb); (try clear hb2); (try clear hk); (try clear hi)))
                    go_ret
                    exact ⟨by first | rfl | (simp [errW_none, errW_some] <;> rfl) | (simp [*, errW_none, errW_some] <;> rfl) | (exfalso; (try simp_all); (try omega); done), by repeat (first | (with_reducible first | exact HB.out | apply below_alloc | apply pw_below_drewN | apply below_drew1) | exact HB.out)⟩
              · replace c54 := Bool.eq_false_iff.mpr c54
                subst c54
                have H1 : (some false) = some r := by rw [if_neg (show ¬ (false = true) by decide)] at H; exact H
                clear H
                have H := H1
                clear H1
                obtain rfl := Option.some.inj H
                go_wp2
                go_ret
                exact ⟨by first | rfl | (simp [errW_none, errW_some] <;> rfl) | (simp [*, errW_none, errW_some] <;> rfl) | (exfalso; (try simp_all); (try omega); done), by repeat (first | (with_reducible first | exact HB.out | apply below_alloc | apply pw_below_drewN | apply below_drew1) | exact HB.out)⟩
  · replace c7 := Bool.eq_false_iff.mpr c7
    subst c7
    have H1 : (some t143) = some r := by rw [if_neg (show ¬ (false = true) by decide)] at H; exact H
    clear H
    have H := H1
    clear H1
    obtain rfl := Option.some.inj H
    go_enter Try.func3, Try.ntmps3
    go_wp2_with (first | ((with_reducible refine gate_callee (f := 13) rfl ?_); refine goesL_ (some 13) rfl rfl Try.func13 (by kernel_rfl) rfl #[] rfl (by (try simp only [List.map_toArray, List.map_cons, List.map_nil]); first | done | rfl | (simp only [List.length_drop, List.length_take]; rfl)) ?_; (with_reducible refine (bywashlaw14_awake.calls k  t143 _ A5.out).mono ?_); rintro e w111 ⟨rfl, hb⟩; refine ⟨_, rfl, ?_⟩; have n0_ := Aside0.mk (below_step (by repeat (first | (with_reducible first | exact HB.out | apply below_alloc | apply pw_below_drewN | apply below_drew1) | exact HB.out)) hb); clear HB; have HB := n0_; clear n0_; (try clear hb); (try clear hb2); (try clear hk); (try clear hi)) | ((with_reducible refine gate_callee (f := 14) rfl ?_); refine goesL_ (some 15) rfl rfl Try.func14 (by kernel_rfl) rfl #[.slice A0 l0.length c0] rfl (by (try simp only [List.map_toArray, List.map_cons, List.map_nil]); first | done | rfl | (simp only [List.length_drop, List.length_take]; rfl)) ?_; (with_reducible refine (bywashref10_Few.calls k _ _ l0 false _ ?side1 ?side2 A6.out).mono ?_); (case side1 => repeat (first | exact (Kd.C_below HR0.out HB.out) | (with_reducible refine Kd.C_alloc ?_ _) | (with_reducible refine Kd.C_drewN ?_ _) | (with_reducible refine Kd.C_drew ?_))); (case side2 => exact HC0.out); rintro e w' ⟨rfl, ⟨nd, rfl⟩⟩; refine ⟨_, rfl, ?_⟩))
    go_ret
    exact ⟨by first | rfl | (simp [errW_none, errW_some] <;> rfl) | (simp [*, errW_none, errW_some] <;> rfl) | (exfalso; (try simp_all); (try omega); done), by repeat (first | (with_reducible first | exact HB.out | apply below_alloc | apply pw_below_drewN | apply below_drew1) | exact HB.out)⟩

/-! ### bywashlaw14_DomPreds: function 4 -/
mutual
def bywashlaw14_DomPreds.j0 : Nat → List (List Int) → Int → Bool → List Int → List (List Int) → Bool → Option (Bool)
  | 0, _, _, _, _, _, _ => none
  | k + 1, x0, x1, x5, x6, x7, x31 => if x31 = true then (some false) else (if x1 ≤ 0 then (bywashlaw14_DomPreds.j1 k x1 x5 x6 x7 true) else (if x1 ≥ (x0.length : Int) then (bywashlaw14_DomPreds.j1 k x1 x5 x6 x7 true) else (if 0 ≤ x1 then (if x1 < (x6.length : Int) then (bywashlaw14_DomPreds.j1 k x1 x5 x6 x7 ((rd x6 x1) == (-2))) else (none)) else (none))))
def bywashlaw14_DomPreds.j1 : Nat → Int → Bool → List Int → List (List Int) → Bool → Option (Bool)
  | 0, _, _, _, _, _ => none
  | k + 1, x1, x5, x6, x7, x46 => if x46 = true then (some x5) else (bywashlaw14_DomPreds.l0 k x1 x5 x6 x7 (-1) 0)
def bywashlaw14_DomPreds.l0 : Nat → Int → Bool → List Int → List (List Int) → Int → Int → Option (Bool)
  | 0, _, _, _, _, _, _ => none
  | k + 1, x1, x5, x6, x7, x8, x9 => if 0 ≤ x1 then (if x1 < (x7.length : Int) then (if x9 < ((rd_L1 x7 x1).length : Int) then (if 0 ≤ x9 then (if 0 ≤ (rd (rd_L1 x7 x1) x9) then (if (rd (rd_L1 x7 x1) x9) < (x6.length : Int) then (if (rd x6 (rd (rd_L1 x7 x1) x9)) = (-2) then (bywashlaw14_DomPreds.l0 k x1 x5 x6 x7 x8 (wrap64 (x9 + 1))) else (if x1 < (x6.length : Int) then ((dom_Dominates.f k x6 (rd x6 x1) (rd (rd_L1 x7 x1) x9)).bind fun t178 => (if t178 = true then (if x8 < 0 then (bywashlaw14_DomPreds.l0 k x1 x5 x6 x7 (rd (rd_L1 x7 x1) x9) (wrap64 (x9 + 1))) else ((dom_Common.f k x6 x8 (rd (rd_L1 x7 x1) x9)).bind fun t179 => (bywashlaw14_DomPreds.l0 k x1 x5 x6 x7 t179 (wrap64 (x9 + 1))))) else (some false))) else (none))) else (none)) else (none)) else (none)) else (if x5 = true then (if x1 < (x6.length : Int) then (some (x8 == (rd x6 x1))) else (none)) else (some false))) else (none)) else (none)
end
def bywashlaw14_DomPreds.f (k : Nat) (l0 : List (List Int)) (a1 : Int) : Option (Bool) := (bywashlaw14_awake.f k).bind fun t163 => ((bywashref10_Few.f k l0).bind fun t164 => (if t164 = true then ((dom_Idoms.f k l0).bind fun t165 => ((graph_Turn.f l0).bind fun t168 => (if (t165.length : Int) = (l0.length : Int) then (bywashlaw14_DomPreds.j0 k l0 a1 t163 t165 t168 ((t168.length : Int) != (l0.length : Int))) else (bywashlaw14_DomPreds.j0 k l0 a1 t163 t165 t168 true)))) else (some t163)))
theorem bywashlaw14_DomPreds.mono_l : ∀ k, (∀ y0 y1 y2 y3 y4 y5, LeO (bywashlaw14_DomPreds.j0 k y0 y1 y2 y3 y4 y5) (bywashlaw14_DomPreds.j0 (k + 1) y0 y1 y2 y3 y4 y5)) ∧ (∀ y0 y1 y2 y3 y4, LeO (bywashlaw14_DomPreds.j1 k y0 y1 y2 y3 y4) (bywashlaw14_DomPreds.j1 (k + 1) y0 y1 y2 y3 y4)) ∧ (∀ y0 y1 y2 y3 y4 y5, LeO (bywashlaw14_DomPreds.l0 k y0 y1 y2 y3 y4 y5) (bywashlaw14_DomPreds.l0 (k + 1) y0 y1 y2 y3 y4 y5))
  | 0 => ⟨fun _ _ _ _ _ _ r h => by simp [bywashlaw14_DomPreds.j0] at h, fun _ _ _ _ _ r h => by simp [bywashlaw14_DomPreds.j1] at h, fun _ _ _ _ _ _ r h => by simp [bywashlaw14_DomPreds.l0] at h⟩
  | k + 1 => by
    obtain ⟨ih0, ih1, ih2⟩ := bywashlaw14_DomPreds.mono_l k
    refine ⟨?_, ?_, ?_⟩
    · intro y0 y1 y2 y3 y4 y5
      unfold bywashlaw14_DomPreds.j0
      repeat' first
      | (with_reducible exact ih0 _ _ _ _ _ _)
      | (with_reducible exact ih1 _ _ _ _ _)
      | (with_reducible exact ih2 _ _ _ _ _ _)
      | (with_reducible exact bywashlaw14_awake.mono _)
      | (with_reducible exact bywashref10_Few.mono _ _)
      | (with_reducible exact dom_Common.mono _ _ _ _)
      | (with_reducible exact dom_Dominates.mono _ _ _ _)
      | (with_reducible exact dom_Idoms.mono _ _)
      | (with_reducible exact LeO.refl _)
      | (with_reducible exact LeO.none _)
      | (with_reducible refine LeO.ite ?_ ?_)
      | (with_reducible refine LeO.bind ?_ (fun _ => ?_))
      | exact ih0 _ _ _ _ _ _
      | exact ih1 _ _ _ _ _
      | exact ih2 _ _ _ _ _ _
      | exact bywashlaw14_awake.mono _
      | exact bywashref10_Few.mono _ _
      | exact dom_Common.mono _ _ _ _
      | exact dom_Dominates.mono _ _ _ _
      | exact dom_Idoms.mono _ _
      | exact LeO.none _
      | refine LeO.ite ?_ ?_
      | refine LeO.bind ?_ (fun _ => ?_)
    · intro y0 y1 y2 y3 y4
      unfold bywashlaw14_DomPreds.j1
      repeat' first
      | (with_reducible exact ih0 _ _ _ _ _ _)
      | (with_reducible exact ih1 _ _ _ _ _)
      | (with_reducible exact ih2 _ _ _ _ _ _)
      | (with_reducible exact bywashlaw14_awake.mono _)
      | (with_reducible exact bywashref10_Few.mono _ _)
      | (with_reducible exact dom_Common.mono _ _ _ _)
      | (with_reducible exact dom_Dominates.mono _ _ _ _)
      | (with_reducible exact dom_Idoms.mono _ _)
      | (with_reducible exact LeO.refl _)
      | (with_reducible exact LeO.none _)
      | (with_reducible refine LeO.ite ?_ ?_)
      | (with_reducible refine LeO.bind ?_ (fun _ => ?_))
      | exact ih0 _ _ _ _ _ _
      | exact ih1 _ _ _ _ _
      | exact ih2 _ _ _ _ _ _
      | exact bywashlaw14_awake.mono _
      | exact bywashref10_Few.mono _ _
      | exact dom_Common.mono _ _ _ _
      | exact dom_Dominates.mono _ _ _ _
      | exact dom_Idoms.mono _ _
      | exact LeO.none _
      | refine LeO.ite ?_ ?_
      | refine LeO.bind ?_ (fun _ => ?_)
    · intro y0 y1 y2 y3 y4 y5
      unfold bywashlaw14_DomPreds.l0
      repeat' first
      | (with_reducible exact ih0 _ _ _ _ _ _)
      | (with_reducible exact ih1 _ _ _ _ _)
      | (with_reducible exact ih2 _ _ _ _ _ _)
      | (with_reducible exact bywashlaw14_awake.mono _)
      | (with_reducible exact bywashref10_Few.mono _ _)
      | (with_reducible exact dom_Common.mono _ _ _ _)
      | (with_reducible exact dom_Dominates.mono _ _ _ _)
      | (with_reducible exact dom_Idoms.mono _ _)
      | (with_reducible exact LeO.refl _)
      | (with_reducible exact LeO.none _)
      | (with_reducible refine LeO.ite ?_ ?_)
      | (with_reducible refine LeO.bind ?_ (fun _ => ?_))
      | exact ih0 _ _ _ _ _ _
      | exact ih1 _ _ _ _ _
      | exact ih2 _ _ _ _ _ _
      | exact bywashlaw14_awake.mono _
      | exact bywashref10_Few.mono _ _
      | exact dom_Common.mono _ _ _ _
      | exact dom_Dominates.mono _ _ _ _
      | exact dom_Idoms.mono _ _
      | exact LeO.none _
      | refine LeO.ite ?_ ?_
      | refine LeO.bind ?_ (fun _ => ?_)
theorem bywashlaw14_DomPreds.mono : ∀ a0 a1 k, LeO (bywashlaw14_DomPreds.f k a0 a1) (bywashlaw14_DomPreds.f (k + 1) a0 a1) := by
  intro a0 a1 k
  obtain ⟨ih0, ih1, ih2⟩ := bywashlaw14_DomPreds.mono_l k
  unfold bywashlaw14_DomPreds.f
  repeat' first
      | (with_reducible exact ih0 _ _ _ _ _ _)
      | (with_reducible exact ih1 _ _ _ _ _)
      | (with_reducible exact ih2 _ _ _ _ _ _)
      | (with_reducible exact bywashlaw14_awake.mono _)
      | (with_reducible exact bywashref10_Few.mono _ _)
      | (with_reducible exact dom_Common.mono _ _ _ _)
      | (with_reducible exact dom_Dominates.mono _ _ _ _)
      | (with_reducible exact dom_Idoms.mono _ _)
      | (with_reducible exact LeO.refl _)
      | (with_reducible exact LeO.none _)
      | (with_reducible refine LeO.ite ?_ ?_)
      | (with_reducible refine LeO.bind ?_ (fun _ => ?_))
      | exact ih0 _ _ _ _ _ _
      | exact ih1 _ _ _ _ _
      | exact ih2 _ _ _ _ _ _
      | exact bywashlaw14_awake.mono _
      | exact bywashref10_Few.mono _ _
      | exact dom_Common.mono _ _ _ _
      | exact dom_Dominates.mono _ _ _ _
      | exact dom_Idoms.mono _ _
      | exact LeO.none _
      | refine LeO.ite ?_ ?_
      | refine LeO.bind ?_ (fun _ => ?_)
set_option maxHeartbeats 8000000 in
set_option maxRecDepth 100000 in
theorem bywashlaw14_DomPreds.calls (k : Nat) (A0 : Option Addr) (c0 : Nat) (l0 : List (List Int)) (a1 : Int) (r : Bool) (w : World) (hr0 : Kd.C (Kd.slice 3 (Kd.int .i64)) w A0 l0.length l0) (hc0 : l0.length ≤ c0) (h : bywashlaw14_DomPreds.f k l0 a1 = some r) :
    Calls Try.prog 4 #[.slice A0 l0.length c0, .int .i64 a1] w fun e w' => e = .returned (.bool r) ∧ Below w.heap.size w w' := by
  have HR0 := Aside0.mk hr0
  have HC0 := Aside0.mk hc0
  clear hr0 hc0
  have HB := Aside0.mk (Below.refl w.heap.size w)
  have H : ((bywashlaw14_awake.f k).bind fun t163 => ((bywashref10_Few.f k l0).bind fun t164 => (if t164 = true then ((dom_Idoms.f k l0).bind fun t165 => ((graph_Turn.f l0).bind fun t168 => (if (t165.length : Int) = (l0.length : Int) then (bywashlaw14_DomPreds.j0 k l0 a1 t163 t165 t168 ((t168.length : Int) != (l0.length : Int))) else (bywashlaw14_DomPreds.j0 k l0 a1 t163 t165 t168 true)))) else (some t163)))) = some r := h
  clear h
  replace H := Option.bind_eq_some_iff.mp H
  obtain ⟨t163, A30, H⟩ := H
  replace H : ((bywashref10_Few.f k l0).bind fun t164 => (if t164 = true then ((dom_Idoms.f k l0).bind fun t165 => ((graph_Turn.f l0).bind fun t168 => (if (t165.length : Int) = (l0.length : Int) then (bywashlaw14_DomPreds.j0 k l0 a1 t163 t165 t168 ((t168.length : Int) != (l0.length : Int))) else (bywashlaw14_DomPreds.j0 k l0 a1 t163 t165 t168 true)))) else (some t163))) = some r := H
  have A3 := Aside0.mk A30
  clear A30
  replace H := Option.bind_eq_some_iff.mp H
  obtain ⟨t164, A40, H⟩ := H
  replace H : (if t164 = true then ((dom_Idoms.f k l0).bind fun t165 => ((graph_Turn.f l0).bind fun t168 => (if (t165.length : Int) = (l0.length : Int) then (bywashlaw14_DomPreds.j0 k l0 a1 t163 t165 t168 ((t168.length : Int) != (l0.length : Int))) else (bywashlaw14_DomPreds.j0 k l0 a1 t163 t165 t168 true)))) else (some t163)) = some r := H
  have A4 := Aside0.mk A40
  clear A40
  by_cases c5 : t164 = true
  · subst c5
    have H1 : ((dom_Idoms.f k l0).bind fun t165 => ((graph_Turn.f l0).bind fun t168 => (if (t165.length : Int) = (l0.length : Int) then (bywashlaw14_DomPreds.j0 k l0 a1 t163 t165 t168 ((t168.length : Int) != (l0.length : Int))) else (bywashlaw14_DomPreds.j0 k l0 a1 t163 t165 t168 true)))) = some r := by rw [if_pos rfl] at H; exact H
    clear H
    have H := H1
    clear H1
    replace H := Option.bind_eq_some_iff.mp H
    obtain ⟨t165, A60, H⟩ := H
    replace H : ((graph_Turn.f l0).bind fun t168 => (if (t165.length : Int) = (l0.length : Int) then (bywashlaw14_DomPreds.j0 k l0 a1 t163 t165 t168 ((t168.length : Int) != (l0.length : Int))) else (bywashlaw14_DomPreds.j0 k l0 a1 t163 t165 t168 true))) = some r := H
    have A6 := Aside0.mk A60
    clear A60
    replace H := Option.bind_eq_some_iff.mp H
    obtain ⟨t168, A70, H⟩ := H
    replace H : (if (t165.length : Int) = (l0.length : Int) then (bywashlaw14_DomPreds.j0 k l0 a1 t163 t165 t168 ((t168.length : Int) != (l0.length : Int))) else (bywashlaw14_DomPreds.j0 k l0 a1 t163 t165 t168 true)) = some r := H
    have A7 := Aside0.mk A70
    clear A70
    have HC8 := Aside0.mk H
    clear H
    go_enter Try.func4, Try.ntmps4
    go_upto_region 6 with (first | ((with_reducible refine gate_callee (f := 13) rfl ?_); refine goesL_ (some 11) rfl rfl Try.func13 (by kernel_rfl) rfl #[] rfl (by (try simp only [List.map_toArray, List.map_cons, List.map_nil]); first | done | rfl | (simp only [List.length_drop, List.length_take]; rfl)) ?_; (with_reducible refine (bywashlaw14_awake.calls k  t163 _ A3.out).mono ?_); rintro e w9 ⟨rfl, hb⟩; refine ⟨_, rfl, ?_⟩; have n0_ := Aside0.mk (below_step (by repeat (first | (with_reducible first | exact HB.out | apply below_alloc | apply pw_below_drewN | apply below_drew1) | exact HB.out)) hb); clear HB; have HB := n0_; clear n0_; (try clear hb); (try clear hb2); (try clear hk); (try clear hi)) | ((with_reducible refine gate_callee (f := 14) rfl ?_); refine goesL_ (some 13) rfl rfl Try.func14 (by kernel_rfl) rfl #[.slice A0 l0.length c0] rfl (by (try simp only [List.map_toArray, List.map_cons, List.map_nil]); first | done | rfl | (simp only [List.length_drop, List.length_take]; rfl)) ?_; (with_reducible refine (bywashref10_Few.calls k _ _ l0 true _ ?side1 ?side2 A4.out).mono ?_); (case side1 => repeat (first | exact (Kd.C_below HR0.out HB.out) | (with_reducible refine Kd.C_alloc ?_ _) | (with_reducible refine Kd.C_drewN ?_ _) | (with_reducible refine Kd.C_drew ?_))); (case side2 => exact HC0.out); rintro e w' ⟨rfl, ⟨nd, rfl⟩⟩; refine ⟨_, rfl, ?_⟩) | ((with_reducible refine gate_callee (f := 15) rfl ?_); refine goesL_ (some 17) rfl rfl Try.func15 (by kernel_rfl) rfl #[.slice A0 l0.length c0] rfl (by (try simp only [List.map_toArray, List.map_cons, List.map_nil]); first | done | rfl | (simp only [List.length_drop, List.length_take]; rfl)) ?_; (with_reducible refine (dom_Idoms.calls k _ _ l0 t165 _ ?side1 ?side2 A6.out).mono ?_); (case side1 => repeat (first | exact (Kd.C_below HR0.out (by repeat (first | (with_reducible first | exact HB.out | apply below_alloc | apply pw_below_drewN | apply below_drew1) | exact HB.out))) | (with_reducible refine Kd.C_alloc ?_ _) | (with_reducible refine Kd.C_drewN ?_ _) | (with_reducible refine Kd.C_drew ?_))); (case side2 => exact HC0.out); rintro e w10 ⟨v166, rfl, ho0, hb⟩; refine ⟨_, rfl, ?_⟩; have n0_ := Aside0.mk (Kd.R_lower ho0 (below_size (by repeat (first | (with_reducible first | exact HB.out | apply below_alloc | apply pw_below_drewN | apply below_drew1) | exact HB.out)))); have n1_ := Aside0.mk (below_step (by repeat (first | (with_reducible first | exact HB.out | apply below_alloc | apply pw_below_drewN | apply below_drew1) | exact HB.out)) hb); clear HB; have HO167 := n0_; have HB := n1_; clear n0_ n1_; (try clear hb); (try clear hb2); (try clear hk); (try clear hi); (try clear ho0)) | ((with_reducible refine gate_callee (f := 18) rfl ?_); refine goesL_ (some 19) rfl rfl Try.func18 (by kernel_rfl) rfl #[.slice A0 l0.length c0] rfl (by (try simp only [List.map_toArray, List.map_cons, List.map_nil]); first | done | rfl | (simp only [List.length_drop, List.length_take]; rfl)) ?_; (with_reducible refine (graph_Turn.calls _ _ l0 t168 _ ?side1 ?side2 A7.out).mono ?_); (case side1 => repeat (first | exact (Kd.C_below HR0.out HB.out) | (with_reducible refine Kd.C_alloc ?_ _) | (with_reducible refine Kd.C_drewN ?_ _) | (with_reducible refine Kd.C_drew ?_))); (case side2 => exact HC0.out); rintro e w11 ⟨v169, rfl, ho0, hb⟩; refine ⟨_, rfl, ?_⟩; have n0_ := Aside0.mk (Kd.R_below (by (with_reducible repeat (first | apply Kd.R_alloc | apply Kd.R_drewN | apply Kd.R_drew)); exact HO167.out) hb); have n1_ := Aside0.mk (Kd.S_lower (Kd.S_new' ho0 (Kd.R_lt (by (with_reducible repeat (first | apply Kd.R_alloc | apply Kd.R_drewN | apply Kd.R_drew)); exact HO167.out))) (below_size (by repeat (first | (with_reducible first | exact HB.out | apply below_alloc | apply pw_below_drewN | apply below_drew1) | exact HB.out)))); have n2_ := Aside0.mk (below_step (by repeat (first | (with_reducible first | exact HB.out | apply below_alloc | apply pw_below_drewN | apply below_drew1) | exact HB.out)) hb); clear HO167; clear HB; have HO167 := n0_; have HO170 := n1_; have HB := n2_; clear n0_ n1_ n2_; (try clear hb); (try clear hb2); (try clear hk); (try clear hi); (try clear ho0)))
    (try simp only [Act.put, List.setIfInBounds_toArray, List.set_cons_zero, List.set_cons_succ])
    go_cut [31] (fun v31 wc => ∃ (kq : Nat) (x31_7 : Bool), v31 = .bool x31_7 ∧ Aside0 (bywashlaw14_DomPreds.j0 kq l0 a1 t163 t165 t168 x31_7 = some r) ∧ Aside0 (kq ≤ k) ∧ Aside0 (Kd.R (Kd.int .i64) 3 wc w.heap.size (fun _ => True) v166 t165) ∧ Aside0 (Kd.S (Kd.slice 3 (Kd.int .i64)) 25 wc w.heap.size (fun k_ => some k_ ≠ (v166 : Value).ownBlock) v169 t168) ∧ Aside0 (Below w.heap.size w wc))
    case first =>
      have H := HC8.out
      clear HC8
      by_cases c12 : (t165.length : Int) = (l0.length : Int)
      · rw [if_pos c12] at H
        have c12b0 : ((t165.length : Int) == (l0.length : Int)) = true := beq_iff_eq.mpr c12
        have c12b1 : ((t165.length : Int) != (l0.length : Int)) = false := bne_eq_false_iff_eq.mpr c12
        have c12b2 : (t165.length == l0.length) = true := by first | simpa using c12 | (simp at c12 ⊢; omega)
        clear c12
        (first | rw [c12b0] | (simp only [i64_w, i32_w]; rw [c12b0]) | skip)
        have H' := Aside0.mk H
        clear H
        obtain ⟨Ao13, co13, eo13⟩ := Kd.R_slice HO167.out
        subst eo13
        obtain ⟨Ao14, co14, eo14⟩ := Kd.S_slice HO170.out
        subst eo14
        go_wp2
        go_meet
        case rel => exact ⟨_, (((t168.length : Int) != (l0.length : Int))), (by first | rfl | (simp; done) | (simp [*]; done)), H', ⟨by first | omega | exact Nat.le_refl _⟩, ⟨by (with_reducible repeat (first | apply Kd.R_alloc | apply Kd.R_drewN | apply Kd.R_drew)); exact HO167.out⟩, ⟨by (with_reducible repeat (first | apply Kd.S_alloc | apply Kd.S_drewN | apply Kd.S_drew)); exact Kd.S_mono HO170.out (fun _ hk => hk.2)⟩, ⟨by repeat (first | (with_reducible first | exact HB.out | apply below_alloc | apply pw_below_drewN | apply below_drew1) | exact HB.out)⟩⟩
      · rw [if_neg c12] at H
        have c12b0 : ((t165.length : Int) == (l0.length : Int)) = false := beq_eq_false_iff_ne.mpr c12
        have c12b1 : ((t165.length : Int) != (l0.length : Int)) = true := bne_iff_ne.mpr c12
        have c12b2 : (t165.length == l0.length) = false := by first | simpa using c12 | (simp at c12 ⊢; omega)
        (first | rw [c12b0] | (simp only [i64_w, i32_w]; rw [c12b0]) | skip)
        have H' := Aside0.mk H
        clear H
        obtain ⟨Ao15, co15, eo15⟩ := Kd.R_slice HO167.out
        subst eo15
        go_wp2
        go_meet
        case rel => exact ⟨_, (true), (by first | rfl | (simp; done) | (simp [*]; done)), H', ⟨by first | omega | exact Nat.le_refl _⟩, ⟨by (with_reducible repeat (first | apply Kd.R_alloc | apply Kd.R_drewN | apply Kd.R_drew)); exact HO167.out⟩, ⟨by (with_reducible repeat (first | apply Kd.S_alloc | apply Kd.S_drewN | apply Kd.S_drew)); exact Kd.S_mono HO170.out (fun _ hk => hk.2)⟩, ⟨by repeat (first | (with_reducible first | exact HB.out | apply below_alloc | apply pw_below_drewN | apply below_drew1) | exact HB.out)⟩⟩
    case rest =>
      clear HC8
      try clear c1
      try clear p2
      try clear c4
      try clear c5
      try clear c12
      try clear c12b0
      try clear c12b1
      try clear c12b2
      try clear c13
      try clear c14
      try clear c15
      obtain ⟨kq, x31_7, rfl, HA, HJ7, HO_6, HO_7, HB⟩ := hcut
      cases kq with
      | zero => exact absurd HA.out (by simp [bywashlaw14_DomPreds.j0])
      | succ kj7 =>
        have H := HA.out
        clear HA
        simp only [bywashlaw14_DomPreds.j0] at H
        by_cases c16 : x31_7 = true
        · subst c16
          have H1 : (some false) = some r := by rw [if_pos rfl] at H; exact H
          clear H
          have H := H1
          clear H1
          obtain rfl := Option.some.inj H
          go_wp2
          go_ret
          exact ⟨by first | rfl | (simp [errW_none, errW_some] <;> rfl) | (simp [*, errW_none, errW_some] <;> rfl) | (exfalso; (try simp_all); (try omega); done), by repeat (first | (with_reducible first | exact HB.out | apply below_alloc | apply pw_below_drewN | apply below_drew1) | exact HB.out)⟩
        · replace c16 := Bool.eq_false_iff.mpr c16
          subst c16
          have H1 : (if a1 ≤ 0 then (bywashlaw14_DomPreds.j1 kj7 a1 t163 t165 t168 true) else (if a1 ≥ (l0.length : Int) then (bywashlaw14_DomPreds.j1 kj7 a1 t163 t165 t168 true) else (if 0 ≤ a1 then (if a1 < (t165.length : Int) then (bywashlaw14_DomPreds.j1 kj7 a1 t163 t165 t168 ((rd t165 a1) == (-2))) else (none)) else (none)))) = some r := by rw [if_neg (show ¬ (false = true) by decide)] at H; exact H
          clear H
          have H := H1
          clear H1
          have HC17 := Aside0.mk H
          clear H
          go_upto_region 8 with (fail)
          go_cut [46] (fun v46 wc => ∃ (kq : Nat) (x46_16 : Bool), v46 = .bool x46_16 ∧ Aside0 (bywashlaw14_DomPreds.j1 kq a1 t163 t165 t168 x46_16 = some r) ∧ Aside0 (kq ≤ kj7) ∧ Aside0 (Kd.R (Kd.int .i64) 3 wc w.heap.size (fun _ => True) v166 t165) ∧ Aside0 (Kd.S (Kd.slice 3 (Kd.int .i64)) 25 wc w.heap.size (fun k_ => some k_ ≠ (v166 : Value).ownBlock) v169 t168) ∧ Aside0 (Below w.heap.size w wc))
          case first =>
            have H := HC17.out
            clear HC17
            by_cases c18 : a1 ≤ 0
            · rw [if_pos c18] at H
              have c18b0 : decide (a1 ≤ 0) = true := decide_eq_true c18
              clear c18
              (first | rw [c18b0] | (simp only [i64_w, i32_w]; rw [c18b0]) | skip)
              have H' := Aside0.mk H
              clear H
              go_wp2
              go_meet
              case rel => exact ⟨_, (true), (by first | rfl | (simp; done) | (simp [*]; done)), H', ⟨by have := HJ7.out; first | omega | exact Nat.le_refl _⟩, ⟨by (with_reducible repeat (first | apply Kd.R_alloc | apply Kd.R_drewN | apply Kd.R_drew)); exact HO_6.out⟩, ⟨by (with_reducible repeat (first | apply Kd.S_alloc | apply Kd.S_drewN | apply Kd.S_drew)); exact HO_7.out⟩, ⟨by repeat (first | (with_reducible first | exact HB.out | apply below_alloc | apply pw_below_drewN | apply below_drew1) | exact HB.out)⟩⟩
            · rw [if_neg c18] at H
              have c18b0 : decide (a1 ≤ 0) = false := decide_eq_false c18
              clear c18
              (first | rw [c18b0] | (simp only [i64_w, i32_w]; rw [c18b0]) | skip)
              by_cases c19 : a1 ≥ (l0.length : Int)
              · rw [if_pos c19] at H
                have c19b0 : decide ((l0.length : Int) ≤ a1) = true := decide_eq_true c19
                clear c19
                have H' := Aside0.mk H
                clear H
                go_wp2
                go_meet
                case rel => exact ⟨_, (true), (by first | rfl | (simp; done) | (simp [*]; done)), H', ⟨by have := HJ7.out; first | omega | exact Nat.le_refl _⟩, ⟨by (with_reducible repeat (first | apply Kd.R_alloc | apply Kd.R_drewN | apply Kd.R_drew)); exact HO_6.out⟩, ⟨by (with_reducible repeat (first | apply Kd.S_alloc | apply Kd.S_drewN | apply Kd.S_drew)); exact HO_7.out⟩, ⟨by repeat (first | (with_reducible first | exact HB.out | apply below_alloc | apply pw_below_drewN | apply below_drew1) | exact HB.out)⟩⟩
              · rw [if_neg c19] at H
                have c19b0 : decide ((l0.length : Int) ≤ a1) = false := decide_eq_false c19
                clear c19
                by_cases c20 : 0 ≤ a1
                · rw [if_pos c20] at H
                  have c20b0 : decide (0 ≤ a1) = true := decide_eq_true c20
                  clear c20
                  by_cases c21 : a1 < (t165.length : Int)
                  · rw [if_pos c21] at H
                    have c21b0 : decide (a1 < (t165.length : Int)) = true := decide_eq_true c21
                    clear c21
                    have H' := Aside0.mk H
                    clear H
                    obtain ⟨Ao22, co22, eo22⟩ := Kd.R_slice HO_6.out
                    subst eo22
                    have p171 : 0 ≤ (a1 : Int) := of_decide_eq_true (by first | (with_reducible assumption) | assumption)
                    have q171 : a1 < (t165.length : Int) := of_decide_eq_true (by first | (with_reducible assumption) | assumption)
                    obtain ⟨ad171, e171, hx171_0⟩ := Kd.at_int (Kd.R_reads' HO_6.out).2.2 a1 p171 q171
                    cases e171
                    replace p171 := eq_true p171
                    replace q171 := eq_true q171
                    go_wp2
                    go_meet
                    case rel => exact ⟨_, (((rd t165 a1) == (-2))), (by first | rfl | (simp; done) | (simp [*]; done)), H', ⟨by have := HJ7.out; first | omega | exact Nat.le_refl _⟩, ⟨by (with_reducible repeat (first | apply Kd.R_alloc | apply Kd.R_drewN | apply Kd.R_drew)); exact HO_6.out⟩, ⟨by (with_reducible repeat (first | apply Kd.S_alloc | apply Kd.S_drewN | apply Kd.S_drew)); exact HO_7.out⟩, ⟨by repeat (first | (with_reducible first | exact HB.out | apply below_alloc | apply pw_below_drewN | apply below_drew1) | exact HB.out)⟩⟩
                  · rw [if_neg c21] at H
                    exact absurd H (by simp)
                · rw [if_neg c20] at H
                  exact absurd H (by simp)
          case rest =>
            clear HC17
            try clear c1
            try clear p1
            try clear q1
            try clear hx1
            try clear c2
            try clear p2
            try clear c4
            try clear c5
            try clear c12
            try clear c12b0
            try clear c12b1
            try clear c12b2
            try clear c13
            try clear c14
            try clear c15
            try clear c16
            try clear p17
            try clear q17
            try clear hx17
            try clear c18
            try clear c18b0
            try clear c19
            try clear c19b0
            try clear c20
            try clear c20b0
            try clear c21
            try clear c21b0
            try clear hx171_0
            try clear p171
            try clear p2
            try clear q171
            obtain ⟨kq, x46_16, rfl, HA, HJ16, HO_6, HO_7, HB⟩ := hcut
            cases kq with
            | zero => exact absurd HA.out (by simp [bywashlaw14_DomPreds.j1])
            | succ kj16 =>
              have H := HA.out
              clear HA
              simp only [bywashlaw14_DomPreds.j1] at H
              by_cases c23 : x46_16 = true
              · subst c23
                have H1 : (some t163) = some r := by rw [if_pos rfl] at H; exact H
                clear H
                have H := H1
                clear H1
                obtain rfl := Option.some.inj H
                go_wp2
                go_ret
                exact ⟨by first | rfl | (simp [errW_none, errW_some] <;> rfl) | (simp [*, errW_none, errW_some] <;> rfl) | (exfalso; (try simp_all); (try omega); done), by repeat (first | (with_reducible first | exact HB.out | apply below_alloc | apply pw_below_drewN | apply below_drew1) | exact HB.out)⟩
              · replace c23 := Bool.eq_false_iff.mpr c23
                subst c23
                have H1 : (bywashlaw14_DomPreds.l0 kj16 a1 t163 t165 t168 (-1) 0) = some r := by rw [if_neg (show ¬ (false = true) by decide)] at H; exact H
                clear H
                have H := H1
                clear H1
                have H' := Aside0.mk H
                clear H
                go_wp2
                go_loopg [8, 9] kj16 (fun kq v8 v9 w' => ∃ (x8_3 : Int) (x9_3 : Int), v8 = .int .i64 x8_3 ∧ v9 = .int .i64 x9_3 ∧ Aside0 (bywashlaw14_DomPreds.l0 kq a1 t163 t165 t168 x8_3 x9_3 = some r) ∧ Aside0 (kq ≤ kj16) ∧ Aside0 (Kd.R (Kd.int .i64) 3 w' w.heap.size (fun _ => True) v166 t165) ∧ Aside0 (Kd.S (Kd.slice 3 (Kd.int .i64)) 25 w' w.heap.size (fun k_ => some k_ ≠ (v166 : Value).ownBlock) v169 t168) ∧ Aside0 (Below w.heap.size w w'))
                case atStart => exact ⟨((-1)), (0), (by first | rfl | (simp; done) | (simp [*]; done)), (by first | rfl | (simp; done) | (simp [*]; done)), H', ⟨Nat.le_refl _⟩, ⟨by (with_reducible repeat (first | apply Kd.R_alloc | apply Kd.R_drewN | apply Kd.R_drew)); exact HO_6.out⟩, ⟨by (with_reducible repeat (first | apply Kd.S_alloc | apply Kd.S_drewN | apply Kd.S_drew)); exact HO_7.out⟩, ⟨by repeat (first | (with_reducible first | exact HB.out | apply below_alloc | apply pw_below_drewN | apply below_drew1) | exact HB.out)⟩⟩
                case round =>
                  clear H'
                  try clear c1
                  try clear p1
                  try clear q1
                  try clear hx1
                  try clear c2
                  try clear p2
                  try clear c4
                  try clear c5
                  try clear c12
                  try clear c12b0
                  try clear c12b1
                  try clear c12b2
                  try clear c13
                  try clear c14
                  try clear c15
                  try clear c16
                  try clear p17
                  try clear q17
                  try clear hx17
                  try clear c18
                  try clear c18b0
                  try clear c19
                  try clear c19b0
                  try clear c20
                  try clear c20b0
                  try clear c21
                  try clear c21b0
                  try clear c23
                  try clear hx171_0
                  try clear p1
                  try clear p17
                  try clear p171
                  try clear p2
                  try clear q1
                  try clear q17
                  try clear q171
                  obtain ⟨x8_3, x9_3, rfl, rfl, HA, HK3, HO_6, HO_7, HB⟩ := hrel
                  cases gk with
                  | zero => exact absurd HA.out (by simp [bywashlaw14_DomPreds.l0])
                  | succ k3 =>
                    have H := HA.out
                    clear HA
                    simp only [bywashlaw14_DomPreds.l0] at H
                    by_cases c24 : 0 ≤ a1
                    · rw [if_pos c24] at H
                      have c24b0 : decide (0 ≤ a1) = true := decide_eq_true c24
                      clear c24
                      by_cases c25 : a1 < (t168.length : Int)
                      · rw [if_pos c25] at H
                        have c25b0 : decide (a1 < (t168.length : Int)) = true := decide_eq_true c25
                        clear c25
                        by_cases c26 : x9_3 < ((rd_L1 t168 a1).length : Int)
                        · rw [if_pos c26] at H
                          have c26b0 : decide (x9_3 < ((rd_L1 t168 a1).length : Int)) = true := decide_eq_true c26
                          clear c26
                          by_cases c27 : 0 ≤ x9_3
                          · rw [if_pos c27] at H
                            have c27b0 : decide (0 ≤ x9_3) = true := decide_eq_true c27
                            clear c27
                            by_cases c28 : 0 ≤ (rd (rd_L1 t168 a1) x9_3)
                            · rw [if_pos c28] at H
                              have c28b0 : decide (0 ≤ (rd (rd_L1 t168 a1) x9_3)) = true := decide_eq_true c28
                              clear c28
                              by_cases c29 : (rd (rd_L1 t168 a1) x9_3) < (t165.length : Int)
                              · rw [if_pos c29] at H
                                have c29b0 : decide ((rd (rd_L1 t168 a1) x9_3) < (t165.length : Int)) = true := decide_eq_true c29
                                clear c29
                                by_cases c30 : (rd t165 (rd (rd_L1 t168 a1) x9_3)) = (-2)
                                · rw [if_pos c30] at H
                                  have c30b0 : ((rd t165 (rd (rd_L1 t168 a1) x9_3)) == (-2)) = true := beq_iff_eq.mpr c30
                                  have c30b1 : ((rd t165 (rd (rd_L1 t168 a1) x9_3)) != (-2)) = false := bne_eq_false_iff_eq.mpr c30
                                  clear c30
                                  have H' := Aside0.mk H
                                  clear H
                                  obtain ⟨Ao31, co31, eo31⟩ := Kd.S_slice HO_7.out
                                  subst eo31
                                  have p172 : 0 ≤ (a1 : Int) := of_decide_eq_true (by first | (with_reducible assumption) | assumption)
                                  have q172 : a1 < (t168.length : Int) := of_decide_eq_true (by first | (with_reducible assumption) | assumption)
                                  obtain ⟨ad172, A172_0, c172_0, e172, hx172_0, hl172_0, hi172_0⟩ := at_L1 (Kd.S_reads' HO_7.out).2.2 a1 p172 q172
                                  cases e172
                                  obtain ⟨ce172, hce172, hMe172, hcc172⟩ := Kd.S_get HO_7.out [] a1 p172 (by first | exact q172 | exact of_decide_eq_true (by first | (with_reducible assumption) | assumption) | (have e_ := (Kd.S_reads' HO_7.out).1; omega))
                                  obtain ⟨ve172_0, rfl, ge172_0⟩ := hMe172
                                  have hv172_0 := hcc172 0 _ rfl
                                  rw [Nat.add_zero, show ((Kd.slice 3 (Kd.int .i64))).sz = 1 from rfl, Nat.mul_one] at hv172_0
                                  replace hv172_0 := Option.some.inj (hv172_0.symm.trans hx172_0)
                                  rw [hv172_0] at ge172_0
                                  have HL172_0 := Aside0.mk (show Kd.R (Kd.int .i64) 3 _ _ _ _ (rd_L1 t168 a1) from ge172_0)
                                  clear hv172_0 ge172_0
                                  clear hcc172 hce172
                                  have HR172_0 := Aside0.mk hi172_0
                                  have HC172_0 := Aside0.mk hl172_0
                                  clear hi172_0 hl172_0
                                  replace p172 := eq_true p172
                                  replace q172 := eq_true q172
                                  have p174 : 0 ≤ (a1 : Int) := of_decide_eq_true (by first | (with_reducible assumption) | assumption)
                                  have q174 : a1 < (t168.length : Int) := of_decide_eq_true (by first | (with_reducible assumption) | assumption)
                                  obtain ⟨ad174, A174_0, c174_0, e174, hx174_0, hl174_0, hi174_0⟩ := at_L1 (Kd.S_reads' HO_7.out).2.2 a1 p174 q174
                                  obtain rfl : ad172 = ad174 := (by injection e174)
                                  obtain ⟨ce174, hce174, hMe174, hcc174⟩ := Kd.S_get HO_7.out [] a1 p174 (by first | exact q174 | exact of_decide_eq_true (by first | (with_reducible assumption) | assumption) | (have e_ := (Kd.S_reads' HO_7.out).1; omega))
                                  obtain ⟨ve174_0, rfl, ge174_0⟩ := hMe174
                                  have hv174_0 := hcc174 0 _ rfl
                                  rw [Nat.add_zero, show ((Kd.slice 3 (Kd.int .i64))).sz = 1 from rfl, Nat.mul_one] at hv174_0
                                  replace hv174_0 := Option.some.inj (hv174_0.symm.trans hx174_0)
                                  rw [hv174_0] at ge174_0
                                  have HL174_0 := Aside0.mk (show Kd.R (Kd.int .i64) 3 _ _ _ _ (rd_L1 t168 a1) from ge174_0)
                                  clear hv174_0 ge174_0
                                  clear hcc174 hce174
                                  have HR174_0 := Aside0.mk hi174_0
                                  have HC174_0 := Aside0.mk hl174_0
                                  clear hi174_0 hl174_0
                                  replace p174 := eq_true p174
                                  replace q174 := eq_true q174
                                  have ea_ := Option.some.inj (hx172_0.symm.trans hx174_0)
                                  injection ea_ with ea_ en_ ec_
                                  subst ea_
                                  subst ec_
                                  clear en_
                                  have p175 : 0 ≤ (x9_3 : Int) := of_decide_eq_true (by first | (with_reducible assumption) | assumption)
                                  have q175 : x9_3 < ((rd_L1 t168 a1).length : Int) := of_decide_eq_true (by first | (with_reducible assumption) | assumption)
                                  obtain ⟨ad175, e175, hx175_0⟩ := Kd.at_int (by repeat (first | (with_reducible exact HR174_0.out) | (with_reducible refine Kd.C_alloc ?_ _) | (with_reducible refine Kd.C_drewN ?_ _) | (with_reducible refine Kd.C_drew ?_) | exact HR174_0.out)) x9_3 p175 q175
                                  cases e175
                                  replace p175 := eq_true p175
                                  replace q175 := eq_true q175
                                  obtain ⟨Ao32, co32, eo32⟩ := Kd.R_slice HO_6.out
                                  subst eo32
                                  have p176 : 0 ≤ ((rd (rd_L1 t168 a1) x9_3) : Int) := of_decide_eq_true (by first | (with_reducible assumption) | assumption)
                                  have q176 : (rd (rd_L1 t168 a1) x9_3) < (t165.length : Int) := of_decide_eq_true (by first | (with_reducible assumption) | assumption)
                                  obtain ⟨ad176, e176, hx176_0⟩ := Kd.at_int (Kd.R_reads' HO_6.out).2.2 (rd (rd_L1 t168 a1) x9_3) p176 q176
                                  cases e176
                                  replace p176 := eq_true p176
                                  replace q176 := eq_true q176
                                  go_wp2
                                  go_roundg k3
                                  case measure => have := HJ7.out; have := HJ16.out; have := HK3.out; omega
                                  case rel => exact ⟨(x8_3), (wrap64 (x9_3 + 1)), (by first | rfl | (simp; done) | (simp [*]; done)), (by first | rfl | (simp; done) | (simp [*]; done)), H', ⟨by have := HJ7.out; have := HJ16.out; have := HK3.out; omega⟩, ⟨by (with_reducible repeat (first | apply Kd.R_alloc | apply Kd.R_drewN | apply Kd.R_drew)); exact HO_6.out⟩, ⟨by (with_reducible repeat (first | apply Kd.S_alloc | apply Kd.S_drewN | apply Kd.S_drew)); exact HO_7.out⟩, ⟨by repeat (first | (with_reducible first | exact HB.out | apply below_alloc | apply pw_below_drewN | apply below_drew1) | exact HB.out)⟩⟩
                                · rw [if_neg c30] at H
                                  have c30b0 : ((rd t165 (rd (rd_L1 t168 a1) x9_3)) == (-2)) = false := beq_eq_false_iff_ne.mpr c30
                                  have c30b1 : ((rd t165 (rd (rd_L1 t168 a1) x9_3)) != (-2)) = true := bne_iff_ne.mpr c30
                                  by_cases c33 : a1 < (t165.length : Int)
                                  · rw [if_pos c33] at H
                                    have c33b0 : decide (a1 < (t165.length : Int)) = true := decide_eq_true c33
                                    clear c33
                                    replace H := Option.bind_eq_some_iff.mp H
                                    obtain ⟨t178, A340, H⟩ := H
                                    replace H : (if t178 = true then (if x8_3 < 0 then (bywashlaw14_DomPreds.l0 k3 a1 t163 t165 t168 (rd (rd_L1 t168 a1) x9_3) (wrap64 (x9_3 + 1))) else ((dom_Common.f k3 t165 x8_3 (rd (rd_L1 t168 a1) x9_3)).bind fun t179 => (bywashlaw14_DomPreds.l0 k3 a1 t163 t165 t168 t179 (wrap64 (x9_3 + 1))))) else (some false)) = some r := H
                                    have A34 := Aside0.mk A340
                                    clear A340
                                    by_cases c35 : t178 = true
                                    · subst c35
                                      have H1 : (if x8_3 < 0 then (bywashlaw14_DomPreds.l0 k3 a1 t163 t165 t168 (rd (rd_L1 t168 a1) x9_3) (wrap64 (x9_3 + 1))) else ((dom_Common.f k3 t165 x8_3 (rd (rd_L1 t168 a1) x9_3)).bind fun t179 => (bywashlaw14_DomPreds.l0 k3 a1 t163 t165 t168 t179 (wrap64 (x9_3 + 1))))) = some r := by rw [if_pos rfl] at H; exact H
                                      clear H
                                      have H := H1
                                      clear H1
                                      by_cases c36 : x8_3 < 0
                                      · rw [if_pos c36] at H
                                        have c36b0 : decide (x8_3 < 0) = true := decide_eq_true c36
                                        clear c36
                                        have H' := Aside0.mk H
                                        clear H
                                        obtain ⟨Ao37, co37, eo37⟩ := Kd.S_slice HO_7.out
                                        subst eo37
                                        have p172 : 0 ≤ (a1 : Int) := of_decide_eq_true (by first | (with_reducible assumption) | assumption)
                                        have q172 : a1 < (t168.length : Int) := of_decide_eq_true (by first | (with_reducible assumption) | assumption)
                                        obtain ⟨ad172, A172_0, c172_0, e172, hx172_0, hl172_0, hi172_0⟩ := at_L1 (Kd.S_reads' HO_7.out).2.2 a1 p172 q172
                                        cases e172
                                        obtain ⟨ce172, hce172, hMe172, hcc172⟩ := Kd.S_get HO_7.out [] a1 p172 (by first | exact q172 | exact of_decide_eq_true (by first | (with_reducible assumption) | assumption) | (have e_ := (Kd.S_reads' HO_7.out).1; omega))
                                        obtain ⟨ve172_0, rfl, ge172_0⟩ := hMe172
                                        have hv172_0 := hcc172 0 _ rfl
                                        rw [Nat.add_zero, show ((Kd.slice 3 (Kd.int .i64))).sz = 1 from rfl, Nat.mul_one] at hv172_0
                                        replace hv172_0 := Option.some.inj (hv172_0.symm.trans hx172_0)
                                        rw [hv172_0] at ge172_0
                                        have HL172_0 := Aside0.mk (show Kd.R (Kd.int .i64) 3 _ _ _ _ (rd_L1 t168 a1) from ge172_0)
                                        clear hv172_0 ge172_0
                                        clear hcc172 hce172
                                        have HR172_0 := Aside0.mk hi172_0
                                        have HC172_0 := Aside0.mk hl172_0
                                        clear hi172_0 hl172_0
                                        replace p172 := eq_true p172
                                        replace q172 := eq_true q172
                                        have p174 : 0 ≤ (a1 : Int) := of_decide_eq_true (by first | (with_reducible assumption) | assumption)
                                        have q174 : a1 < (t168.length : Int) := of_decide_eq_true (by first | (with_reducible assumption) | assumption)
                                        obtain ⟨ad174, A174_0, c174_0, e174, hx174_0, hl174_0, hi174_0⟩ := at_L1 (Kd.S_reads' HO_7.out).2.2 a1 p174 q174
                                        obtain rfl : ad172 = ad174 := (by injection e174)
                                        obtain ⟨ce174, hce174, hMe174, hcc174⟩ := Kd.S_get HO_7.out [] a1 p174 (by first | exact q174 | exact of_decide_eq_true (by first | (with_reducible assumption) | assumption) | (have e_ := (Kd.S_reads' HO_7.out).1; omega))
                                        obtain ⟨ve174_0, rfl, ge174_0⟩ := hMe174
                                        have hv174_0 := hcc174 0 _ rfl
                                        rw [Nat.add_zero, show ((Kd.slice 3 (Kd.int .i64))).sz = 1 from rfl, Nat.mul_one] at hv174_0
                                        replace hv174_0 := Option.some.inj (hv174_0.symm.trans hx174_0)
                                        rw [hv174_0] at ge174_0
                                        have HL174_0 := Aside0.mk (show Kd.R (Kd.int .i64) 3 _ _ _ _ (rd_L1 t168 a1) from ge174_0)
                                        clear hv174_0 ge174_0
                                        clear hcc174 hce174
                                        have HR174_0 := Aside0.mk hi174_0
                                        have HC174_0 := Aside0.mk hl174_0
                                        clear hi174_0 hl174_0
                                        replace p174 := eq_true p174
                                        replace q174 := eq_true q174
                                        have ea_ := Option.some.inj (hx172_0.symm.trans hx174_0)
                                        injection ea_ with ea_ en_ ec_
                                        subst ea_
                                        subst ec_
                                        clear en_
                                        have p175 : 0 ≤ (x9_3 : Int) := of_decide_eq_true (by first | (with_reducible assumption) | assumption)
                                        have q175 : x9_3 < ((rd_L1 t168 a1).length : Int) := of_decide_eq_true (by first | (with_reducible assumption) | assumption)
                                        obtain ⟨ad175, e175, hx175_0⟩ := Kd.at_int (by repeat (first | (with_reducible exact HR174_0.out) | (with_reducible refine Kd.C_alloc ?_ _) | (with_reducible refine Kd.C_drewN ?_ _) | (with_reducible refine Kd.C_drew ?_) | exact HR174_0.out)) x9_3 p175 q175
                                        cases e175
                                        replace p175 := eq_true p175
                                        replace q175 := eq_true q175
                                        obtain ⟨Ao38, co38, eo38⟩ := Kd.R_slice HO_6.out
                                        subst eo38
                                        have p176 : 0 ≤ ((rd (rd_L1 t168 a1) x9_3) : Int) := of_decide_eq_true (by first | (with_reducible assumption) | assumption)
                                        have q176 : (rd (rd_L1 t168 a1) x9_3) < (t165.length : Int) := of_decide_eq_true (by first | (with_reducible assumption) | assumption)
                                        obtain ⟨ad176, e176, hx176_0⟩ := Kd.at_int (Kd.R_reads' HO_6.out).2.2 (rd (rd_L1 t168 a1) x9_3) p176 q176
                                        cases e176
                                        replace p176 := eq_true p176
                                        replace q176 := eq_true q176
                                        have p177 : 0 ≤ (a1 : Int) := of_decide_eq_true (by first | (with_reducible assumption) | assumption)
                                        have q177 : a1 < (t165.length : Int) := of_decide_eq_true (by first | (with_reducible assumption) | assumption)
                                        obtain ⟨ad177, e177, hx177_0⟩ := Kd.at_int (Kd.R_reads' HO_6.out).2.2 a1 p177 q177
                                        obtain rfl : ad176 = ad177 := (by injection e177)
                                        replace p177 := eq_true p177
                                        replace q177 := eq_true q177
                                        go_wp2_with (first | ((with_reducible refine gate_callee (f := 17) rfl ?_); refine goesL_ (some 75) rfl rfl Try.func17 (by kernel_rfl) rfl #[.slice (some ad176) t165.length co38, .int .i64 (rd t165 a1), .int .i64 (rd (rd_L1 t168 a1) x9_3)] rfl (by (try simp only [List.map_toArray, List.map_cons, List.map_nil]); first | done | rfl | (simp only [List.length_drop, List.length_take]; rfl)) ?_; (with_reducible refine (dom_Dominates.calls k3 _ _ t165 (rd t165 a1) (rd (rd_L1 t168 a1) x9_3) true _ ?side1 ?side2 A34.out).mono ?_); (case side1 => repeat (first | exact (Kd.R_reads' HO_6.out).2.2 | (with_reducible refine Kd.C_alloc ?_ _) | (with_reducible refine Kd.C_drewN ?_ _) | (with_reducible refine Kd.C_drew ?_))); (case side2 => exact (Kd.R_reads' HO_6.out).2.1); rintro e w39 ⟨rfl, hb⟩; refine ⟨_, rfl, ?_⟩; have n0_ := Aside0.mk (Kd.R_below (by (with_reducible repeat (first | apply Kd.R_alloc | apply Kd.R_drewN | apply Kd.R_drew)); exact HO_6.out) hb); have n1_ := Aside0.mk (Kd.S_below (by (with_reducible repeat (first | apply Kd.S_alloc | apply Kd.S_drewN | apply Kd.S_drew)); exact HO_7.out) hb); have n2_ := Aside0.mk (Kd.R_below (by (with_reducible repeat (first | apply Kd.R_alloc | apply Kd.R_drewN | apply Kd.R_drew)); exact HL172_0.out) hb); have n3_ := Aside0.mk (Kd.R_below (by (with_reducible repeat (first | apply Kd.R_alloc | apply Kd.R_drewN | apply Kd.R_drew)); exact HL174_0.out) hb); have n4_ := Aside0.mk (Kd.C_below (by repeat (first | (with_reducible exact HR172_0.out) | (with_reducible refine Kd.C_alloc ?_ _) | (with_reducible refine Kd.C_drewN ?_ _) | (with_reducible refine Kd.C_drew ?_) | exact HR172_0.out)) hb); have n5_ := Aside0.mk (Kd.C_below (by repeat (first | (with_reducible exact HR174_0.out) | (with_reducible refine Kd.C_alloc ?_ _) | (with_reducible refine Kd.C_drewN ?_ _) | (with_reducible refine Kd.C_drew ?_) | exact HR174_0.out)) hb); have n6_ := Aside0.mk (below_step (by repeat (first | (with_reducible first | exact HB.out | apply below_alloc | apply pw_below_drewN | apply below_drew1) | exact HB.out)) hb); clear HO_6; clear HO_7; clear HL172_0; clear HL174_0; clear HR172_0; clear HR174_0; clear HB; have HO_6 := n0_; have HO_7 := n1_; have HL172_0 := n2_; have HL174_0 := n3_; have HR172_0 := n4_; have HR174_0 := n5_; have HB := n6_; clear n0_ n1_ n2_ n3_ n4_ n5_ n6_; (try clear hb); (try clear hb2); (try clear hk); (try clear hi)))
                                        go_roundg k3
                                        case measure => have := HJ7.out; have := HJ16.out; have := HK3.out; omega
                                        case rel => exact ⟨(rd (rd_L1 t168 a1) x9_3), (wrap64 (x9_3 + 1)), (by first | rfl | (simp; done) | (simp [*]; done)), (by first | rfl | (simp; done) | (simp [*]; done)), H', ⟨by have := HJ7.out; have := HJ16.out; have := HK3.out; omega⟩, ⟨by (with_reducible repeat (first | apply Kd.R_alloc | apply Kd.R_drewN | apply Kd.R_drew)); exact HO_6.out⟩, ⟨by (with_reducible repeat (first | apply Kd.S_alloc | apply Kd.S_drewN | apply Kd.S_drew)); exact HO_7.out⟩, ⟨by repeat (first | (with_reducible first | exact HB.out | apply below_alloc | apply pw_below_drewN | apply below_drew1) | exact HB.out)⟩⟩
                                      · rw [if_neg c36] at H
                                        have c36b0 : decide (x8_3 < 0) = false := decide_eq_false c36
                                        clear c36
                                        replace H := Option.bind_eq_some_iff.mp H
                                        obtain ⟨t179, A400, H⟩ := H
                                        replace H : (bywashlaw14_DomPreds.l0 k3 a1 t163 t165 t168 t179 (wrap64 (x9_3 + 1))) = some r := H
                                        have A40 := Aside0.mk A400
                                        clear A400
                                        have H' := Aside0.mk H
                                        clear H
                                        obtain ⟨Ao41, co41, eo41⟩ := Kd.S_slice HO_7.out
                                        subst eo41
                                        have p172 : 0 ≤ (a1 : Int) := of_decide_eq_true (by first | (with_reducible assumption) | assumption)
                                        have q172 : a1 < (t168.length : Int) := of_decide_eq_true (by first | (with_reducible assumption) | assumption)
                                        obtain ⟨ad172, A172_0, c172_0, e172, hx172_0, hl172_0, hi172_0⟩ := at_L1 (Kd.S_reads' HO_7.out).2.2 a1 p172 q172
                                        cases e172
                                        obtain ⟨ce172, hce172, hMe172, hcc172⟩ := Kd.S_get HO_7.out [] a1 p172 (by first | exact q172 | exact of_decide_eq_true (by first | (with_reducible assumption) | assumption) | (have e_ := (Kd.S_reads' HO_7.out).1; omega))
                                        obtain ⟨ve172_0, rfl, ge172_0⟩ := hMe172
                                        have hv172_0 := hcc172 0 _ rfl
                                        rw [Nat.add_zero, show ((Kd.slice 3 (Kd.int .i64))).sz = 1 from rfl, Nat.mul_one] at hv172_0
                                        replace hv172_0 := Option.some.inj (hv172_0.symm.trans hx172_0)
                                        rw [hv172_0] at ge172_0
                                        have HL172_0 := Aside0.mk (show Kd.R (Kd.int .i64) 3 _ _ _ _ (rd_L1 t168 a1) from ge172_0)
                                        clear hv172_0 ge172_0
                                        clear hcc172 hce172
                                        have HR172_0 := Aside0.mk hi172_0
                                        have HC172_0 := Aside0.mk hl172_0
                                        clear hi172_0 hl172_0
                                        replace p172 := eq_true p172
                                        replace q172 := eq_true q172
                                        have p174 : 0 ≤ (a1 : Int) := of_decide_eq_true (by first | (with_reducible assumption) | assumption)
                                        have q174 : a1 < (t168.length : Int) := of_decide_eq_true (by first | (with_reducible assumption) | assumption)
                                        obtain ⟨ad174, A174_0, c174_0, e174, hx174_0, hl174_0, hi174_0⟩ := at_L1 (Kd.S_reads' HO_7.out).2.2 a1 p174 q174
                                        obtain rfl : ad172 = ad174 := (by injection e174)
                                        obtain ⟨ce174, hce174, hMe174, hcc174⟩ := Kd.S_get HO_7.out [] a1 p174 (by first | exact q174 | exact of_decide_eq_true (by first | (with_reducible assumption) | assumption) | (have e_ := (Kd.S_reads' HO_7.out).1; omega))
                                        obtain ⟨ve174_0, rfl, ge174_0⟩ := hMe174
                                        have hv174_0 := hcc174 0 _ rfl
                                        rw [Nat.add_zero, show ((Kd.slice 3 (Kd.int .i64))).sz = 1 from rfl, Nat.mul_one] at hv174_0
                                        replace hv174_0 := Option.some.inj (hv174_0.symm.trans hx174_0)
                                        rw [hv174_0] at ge174_0
                                        have HL174_0 := Aside0.mk (show Kd.R (Kd.int .i64) 3 _ _ _ _ (rd_L1 t168 a1) from ge174_0)
                                        clear hv174_0 ge174_0
                                        clear hcc174 hce174
                                        have HR174_0 := Aside0.mk hi174_0
                                        have HC174_0 := Aside0.mk hl174_0
                                        clear hi174_0 hl174_0
                                        replace p174 := eq_true p174
                                        replace q174 := eq_true q174
                                        have ea_ := Option.some.inj (hx172_0.symm.trans hx174_0)
                                        injection ea_ with ea_ en_ ec_
                                        subst ea_
                                        subst ec_
                                        clear en_
                                        have p175 : 0 ≤ (x9_3 : Int) := of_decide_eq_true (by first | (with_reducible assumption) | assumption)
                                        have q175 : x9_3 < ((rd_L1 t168 a1).length : Int) := of_decide_eq_true (by first | (with_reducible assumption) | assumption)
                                        obtain ⟨ad175, e175, hx175_0⟩ := Kd.at_int (by repeat (first | (with_reducible exact HR174_0.out) | (with_reducible refine Kd.C_alloc ?_ _) | (with_reducible refine Kd.C_drewN ?_ _) | (with_reducible refine Kd.C_drew ?_) | exact HR174_0.out)) x9_3 p175 q175
                                        cases e175
                                        replace p175 := eq_true p175
                                        replace q175 := eq_true q175
                                        obtain ⟨Ao42, co42, eo42⟩ := Kd.R_slice HO_6.out
                                        subst eo42
                                        have p176 : 0 ≤ ((rd (rd_L1 t168 a1) x9_3) : Int) := of_decide_eq_true (by first | (with_reducible assumption) | assumption)
                                        have q176 : (rd (rd_L1 t168 a1) x9_3) < (t165.length : Int) := of_decide_eq_true (by first | (with_reducible assumption) | assumption)
                                        obtain ⟨ad176, e176, hx176_0⟩ := Kd.at_int (Kd.R_reads' HO_6.out).2.2 (rd (rd_L1 t168 a1) x9_3) p176 q176
                                        cases e176
                                        replace p176 := eq_true p176
                                        replace q176 := eq_true q176
                                        have p177 : 0 ≤ (a1 : Int) := of_decide_eq_true (by first | (with_reducible assumption) | assumption)
                                        have q177 : a1 < (t165.length : Int) := of_decide_eq_true (by first | (with_reducible assumption) | assumption)
                                        obtain ⟨ad177, e177, hx177_0⟩ := Kd.at_int (Kd.R_reads' HO_6.out).2.2 a1 p177 q177
                                        obtain rfl : ad176 = ad177 := (by injection e177)
                                        replace p177 := eq_true p177
                                        replace q177 := eq_true q177
                                        go_wp2_with (first | ((with_reducible refine gate_callee (f := 17) rfl ?_); refine goesL_ (some 75) rfl rfl Try.func17 (by kernel_rfl) rfl #[.slice (some ad176) t165.length co42, .int .i64 (rd t165 a1), .int .i64 (rd (rd_L1 t168 a1) x9_3)] rfl (by (try simp only [List.map_toArray, List.map_cons, List.map_nil]); first | done | rfl | (simp only [List.length_drop, List.length_take]; rfl)) ?_; (with_reducible refine (dom_Dominates.calls k3 _ _ t165 (rd t165 a1) (rd (rd_L1 t168 a1) x9_3) true _ ?side1 ?side2 A34.out).mono ?_); (case side1 => repeat (first | exact (Kd.R_reads' HO_6.out).2.2 | (with_reducible refine Kd.C_alloc ?_ _) | (with_reducible refine Kd.C_drewN ?_ _) | (with_reducible refine Kd.C_drew ?_))); (case side2 => exact (Kd.R_reads' HO_6.out).2.1); rintro e w43 ⟨rfl, hb⟩; refine ⟨_, rfl, ?_⟩; have n0_ := Aside0.mk (Kd.R_below (by (with_reducible repeat (first | apply Kd.R_alloc | apply Kd.R_drewN | apply Kd.R_drew)); exact HO_6.out) hb); have n1_ := Aside0.mk (Kd.S_below (by (with_reducible repeat (first | apply Kd.S_alloc | apply Kd.S_drewN | apply Kd.S_drew)); exact HO_7.out) hb); have n2_ := Aside0.mk (Kd.R_below (by (with_reducible repeat (first | apply Kd.R_alloc | apply Kd.R_drewN | apply Kd.R_drew)); exact HL172_0.out) hb); have n3_ := Aside0.mk (Kd.R_below (by (with_reducible repeat (first | apply Kd.R_alloc | apply Kd.R_drewN | apply Kd.R_drew)); exact HL174_0.out) hb); have n4_ := Aside0.mk (Kd.C_below (by repeat (first | (with_reducible exact HR172_0.out) | (with_reducible refine Kd.C_alloc ?_ _) | (with_reducible refine Kd.C_drewN ?_ _) | (with_reducible refine Kd.C_drew ?_) | exact HR172_0.out)) hb); have n5_ := Aside0.mk (Kd.C_below (by repeat (first | (with_reducible exact HR174_0.out) | (with_reducible refine Kd.C_alloc ?_ _) | (with_reducible refine Kd.C_drewN ?_ _) | (with_reducible refine Kd.C_drew ?_) | exact HR174_0.out)) hb); have n6_ := Aside0.mk (below_step (by repeat (first | (with_reducible first | exact HB.out | apply below_alloc | apply pw_below_drewN | apply below_drew1) | exact HB.out)) hb); clear HO_6; clear HO_7; clear HL172_0; clear HL174_0; clear HR172_0; clear HR174_0; clear HB; have HO_6 := n0_; have HO_7 := n1_; have HL172_0 := n2_; have HL174_0 := n3_; have HR172_0 := n4_; have HR174_0 := n5_; have HB := n6_; clear n0_ n1_ n2_ n3_ n4_ n5_ n6_; (try clear hb); (try clear hb2); (try clear hk); (try clear hi)) | ((with_reducible refine gate_callee (f := 16) rfl ?_); refine goesL_ (some 83) rfl rfl Try.func16 (by kernel_rfl) rfl #[.slice (some ad176) t165.length co42, .int .i64 x8_3, .int .i64 (rd (rd_L1 t168 a1) x9_3)] rfl (by (try simp only [List.map_toArray, List.map_cons, List.map_nil]); first | done | rfl | (simp only [List.length_drop, List.length_take]; rfl)) ?_; (with_reducible refine (dom_Common.calls k3 _ _ t165 x8_3 (rd (rd_L1 t168 a1) x9_3) t179 _ ?side1 ?side2 A40.out).mono ?_); (case side1 => repeat (first | exact (Kd.R_reads' HO_6.out).2.2 | (with_reducible refine Kd.C_alloc ?_ _) | (with_reducible refine Kd.C_drewN ?_ _) | (with_reducible refine Kd.C_drew ?_))); (case side2 => exact (Kd.R_reads' HO_6.out).2.1); rintro e w44 ⟨rfl, hb⟩; refine ⟨_, rfl, ?_⟩; have n0_ := Aside0.mk (Kd.R_below (by (with_reducible repeat (first | apply Kd.R_alloc | apply Kd.R_drewN | apply Kd.R_drew)); exact HO_6.out) hb); have n1_ := Aside0.mk (Kd.S_below (by (with_reducible repeat (first | apply Kd.S_alloc | apply Kd.S_drewN | apply Kd.S_drew)); exact HO_7.out) hb); have n2_ := Aside0.mk (Kd.R_below (by (with_reducible repeat (first | apply Kd.R_alloc | apply Kd.R_drewN | apply Kd.R_drew)); exact HL172_0.out) hb); have n3_ := Aside0.mk (Kd.R_below (by (with_reducible repeat (first | apply Kd.R_alloc | apply Kd.R_drewN | apply Kd.R_drew)); exact HL174_0.out) hb); have n4_ := Aside0.mk (Kd.C_below (by repeat (first | (with_reducible exact HR172_0.out) | (with_reducible refine Kd.C_alloc ?_ _) | (with_reducible refine Kd.C_drewN ?_ _) | (with_reducible refine Kd.C_drew ?_) | exact HR172_0.out)) hb); have n5_ := Aside0.mk (Kd.C_below (by repeat (first | (with_reducible exact HR174_0.out) | (with_reducible refine Kd.C_alloc ?_ _) | (with_reducible refine Kd.C_drewN ?_ _) | (with_reducible refine Kd.C_drew ?_) | exact HR174_0.out)) hb); have n6_ := Aside0.mk (below_step (by repeat (first | (with_reducible first | exact HB.out | apply below_alloc | apply pw_below_drewN | apply below_drew1) | exact HB.out)) hb); clear HO_6; clear HO_7; clear HL172_0; clear HL174_0; clear HR172_0; clear HR174_0; clear HB; have HO_6 := n0_; have HO_7 := n1_; have HL172_0 := n2_; have HL174_0 := n3_; have HR172_0 := n4_; have HR174_0 := n5_; have HB := n6_; clear n0_ n1_ n2_ n3_ n4_ n5_ n6_; (try clear hb); (try clear hb2); (try clear hk); (try clear hi)))
                                        go_roundg k3
                                        case measure => have := HJ7.out; have := HJ16.out; have := HK3.out; omega
                                        case rel => exact ⟨(t179), (wrap64 (x9_3 + 1)), (by first | rfl | (simp; done) | (simp [*]; done)), (by first | rfl | (simp; done) | (simp [*]; done)), H', ⟨by have := HJ7.out; have := HJ16.out; have := HK3.out; omega⟩, ⟨by (with_reducible repeat (first | apply Kd.R_alloc | apply Kd.R_drewN | apply Kd.R_drew)); exact HO_6.out⟩, ⟨by (with_reducible repeat (first | apply Kd.S_alloc | apply Kd.S_drewN | apply Kd.S_drew)); exact HO_7.out⟩, ⟨by repeat (first | (with_reducible first | exact HB.out | apply below_alloc | apply pw_below_drewN | apply below_drew1) | exact HB.out)⟩⟩
                                    · replace c35 := Bool.eq_false_iff.mpr c35
                                      subst c35
                                      have H1 : (some false) = some r := by rw [if_neg (show ¬ (false = true) by decide)] at H; exact H
                                      clear H
                                      have H := H1
                                      clear H1
                                      obtain rfl := Option.some.inj H
                                      obtain ⟨Ao45, co45, eo45⟩ := Kd.S_slice HO_7.out
                                      subst eo45
                                      have p172 : 0 ≤ (a1 : Int) := of_decide_eq_true (by first | (with_reducible assumption) | assumption)
                                      have q172 : a1 < (t168.length : Int) := of_decide_eq_true (by first | (with_reducible assumption) | assumption)
                                      obtain ⟨ad172, A172_0, c172_0, e172, hx172_0, hl172_0, hi172_0⟩ := at_L1 (Kd.S_reads' HO_7.out).2.2 a1 p172 q172
                                      cases e172
                                      obtain ⟨ce172, hce172, hMe172, hcc172⟩ := Kd.S_get HO_7.out [] a1 p172 (by first | exact q172 | exact of_decide_eq_true (by first | (with_reducible assumption) | assumption) | (have e_ := (Kd.S_reads' HO_7.out).1; omega))
                                      obtain ⟨ve172_0, rfl, ge172_0⟩ := hMe172
                                      have hv172_0 := hcc172 0 _ rfl
                                      rw [Nat.add_zero, show ((Kd.slice 3 (Kd.int .i64))).sz = 1 from rfl, Nat.mul_one] at hv172_0
                                      replace hv172_0 := Option.some.inj (hv172_0.symm.trans hx172_0)
                                      rw [hv172_0] at ge172_0
                                      have HL172_0 := Aside0.mk (show Kd.R (Kd.int .i64) 3 _ _ _ _ (rd_L1 t168 a1) from ge172_0)
                                      clear hv172_0 ge172_0
                                      clear hcc172 hce172
                                      have HR172_0 := Aside0.mk hi172_0
                                      have HC172_0 := Aside0.mk hl172_0
                                      clear hi172_0 hl172_0
                                      replace p172 := eq_true p172
                                      replace q172 := eq_true q172
                                      have p174 : 0 ≤ (a1 : Int) := of_decide_eq_true (by first | (with_reducible assumption) | assumption)
                                      have q174 : a1 < (t168.length : Int) := of_decide_eq_true (by first | (with_reducible assumption) | assumption)
                                      obtain ⟨ad174, A174_0, c174_0, e174, hx174_0, hl174_0, hi174_0⟩ := at_L1 (Kd.S_reads' HO_7.out).2.2 a1 p174 q174
                                      obtain rfl : ad172 = ad174 := (by injection e174)
                                      obtain ⟨ce174, hce174, hMe174, hcc174⟩ := Kd.S_get HO_7.out [] a1 p174 (by first | exact q174 | exact of_decide_eq_true (by first | (with_reducible assumption) | assumption) | (have e_ := (Kd.S_reads' HO_7.out).1; omega))
                                      obtain ⟨ve174_0, rfl, ge174_0⟩ := hMe174
                                      have hv174_0 := hcc174 0 _ rfl
                                      rw [Nat.add_zero, show ((Kd.slice 3 (Kd.int .i64))).sz = 1 from rfl, Nat.mul_one] at hv174_0
                                      replace hv174_0 := Option.some.inj (hv174_0.symm.trans hx174_0)
                                      rw [hv174_0] at ge174_0
                                      have HL174_0 := Aside0.mk (show Kd.R (Kd.int .i64) 3 _ _ _ _ (rd_L1 t168 a1) from ge174_0)
                                      clear hv174_0 ge174_0
                                      clear hcc174 hce174
                                      have HR174_0 := Aside0.mk hi174_0
                                      have HC174_0 := Aside0.mk hl174_0
                                      clear hi174_0 hl174_0
                                      replace p174 := eq_true p174
                                      replace q174 := eq_true q174
                                      have ea_ := Option.some.inj (hx172_0.symm.trans hx174_0)
                                      injection ea_ with ea_ en_ ec_
                                      subst ea_
                                      subst ec_
                                      clear en_
                                      have p175 : 0 ≤ (x9_3 : Int) := of_decide_eq_true (by first | (with_reducible assumption) | assumption)
                                      have q175 : x9_3 < ((rd_L1 t168 a1).length : Int) := of_decide_eq_true (by first | (with_reducible assumption) | assumption)
                                      obtain ⟨ad175, e175, hx175_0⟩ := Kd.at_int (by repeat (first | (with_reducible exact HR174_0.out) | (with_reducible refine Kd.C_alloc ?_ _) | (with_reducible refine Kd.C_drewN ?_ _) | (with_reducible refine Kd.C_drew ?_) | exact HR174_0.out)) x9_3 p175 q175
                                      cases e175
                                      replace p175 := eq_true p175
                                      replace q175 := eq_true q175
                                      obtain ⟨Ao46, co46, eo46⟩ := Kd.R_slice HO_6.out
                                      subst eo46
                                      have p176 : 0 ≤ ((rd (rd_L1 t168 a1) x9_3) : Int) := of_decide_eq_true (by first | (with_reducible assumption) | assumption)
                                      have q176 : (rd (rd_L1 t168 a1) x9_3) < (t165.length : Int) := of_decide_eq_true (by first | (with_reducible assumption) | assumption)
                                      obtain ⟨ad176, e176, hx176_0⟩ := Kd.at_int (Kd.R_reads' HO_6.out).2.2 (rd (rd_L1 t168 a1) x9_3) p176 q176
                                      cases e176
                                      replace p176 := eq_true p176
                                      replace q176 := eq_true q176
                                      have p177 : 0 ≤ (a1 : Int) := of_decide_eq_true (by first | (with_reducible assumption) | assumption)
                                      have q177 : a1 < (t165.length : Int) := of_decide_eq_true (by first | (with_reducible assumption) | assumption)
                                      obtain ⟨ad177, e177, hx177_0⟩ := Kd.at_int (Kd.R_reads' HO_6.out).2.2 a1 p177 q177
                                      obtain rfl : ad176 = ad177 := (by injection e177)
                                      replace p177 := eq_true p177
                                      replace q177 := eq_true q177
                                      go_wp2_with (first | ((with_reducible refine gate_callee (f := 17) rfl ?_); refine goesL_ (some 75) rfl rfl Try.func17 (by kernel_rfl) rfl #[.slice (some ad176) t165.length co46, .int .i64 (rd t165 a1), .int .i64 (rd (rd_L1 t168 a1) x9_3)] rfl (by (try simp only [List.map_toArray, List.map_cons, List.map_nil]); first | done | rfl | (simp only [List.length_drop, List.length_take]; rfl)) ?_; (with_reducible refine (dom_Dominates.calls k3 _ _ t165 (rd t165 a1) (rd (rd_L1 t168 a1) x9_3) false _ ?side1 ?side2 A34.out).mono ?_); (case side1 => repeat (first | exact (Kd.R_reads' HO_6.out).2.2 | (with_reducible refine Kd.C_alloc ?_ _) | (with_reducible refine Kd.C_drewN ?_ _) | (with_reducible refine Kd.C_drew ?_))); (case side2 => exact (Kd.R_reads' HO_6.out).2.1); rintro e w47 ⟨rfl, hb⟩; refine ⟨_, rfl, ?_⟩; have n0_ := Aside0.mk (Kd.R_below (by (with_reducible repeat (first | apply Kd.R_alloc | apply Kd.R_drewN | apply Kd.R_drew)); exact HO_6.out) hb); have n1_ := Aside0.mk (Kd.S_below (by (with_reducible repeat (first | apply Kd.S_alloc | apply Kd.S_drewN | apply Kd.S_drew)); exact HO_7.out) hb); have n2_ := Aside0.mk (Kd.R_below (by (with_reducible repeat (first | apply Kd.R_alloc | apply Kd.R_drewN | apply Kd.R_drew)); exact HL172_0.out) hb); have n3_ := Aside0.mk (Kd.R_below (by (with_reducible repeat (first | apply Kd.R_alloc | apply Kd.R_drewN | apply Kd.R_drew)); exact HL174_0.out) hb); have n4_ := Aside0.mk (Kd.C_below (by repeat (first | (with_reducible exact HR172_0.out) | (with_reducible refine Kd.C_alloc ?_ _) | (with_reducible refine Kd.C_drewN ?_ _) | (with_reducible refine Kd.C_drew ?_) | exact HR172_0.out)) hb); have n5_ := Aside0.mk (Kd.C_below (by repeat (first | (with_reducible exact HR174_0.out) | (with_reducible refine Kd.C_alloc ?_ _) | (with_reducible refine Kd.C_drewN ?_ _) | (with_reducible refine Kd.C_drew ?_) | exact HR174_0.out)) hb); have n6_ := Aside0.mk (below_step (by repeat (first | (with_reducible first | exact HB.out | apply below_alloc | apply pw_below_drewN | apply below_drew1) | exact HB.out)) hb); clear HO_6; clear HO_7; clear HL172_0; clear HL174_0; clear HR172_0; clear HR174_0; clear HB; have HO_6 := n0_; have HO_7 := n1_; have HL172_0 := n2_; have HL174_0 := n3_; have HR172_0 := n4_; have HR174_0 := n5_; have HB := n6_; clear n0_ n1_ n2_ n3_ n4_ n5_ n6_; (try clear hb); (try clear hb2); (try clear hk); (try clear hi)))
                                      go_ret
                                      exact ⟨by first | rfl | (simp [errW_none, errW_some] <;> rfl) | (simp [*, errW_none, errW_some] <;> rfl) | (exfalso; (try simp_all); (try omega); done), by repeat (first | (with_reducible first | exact HB.out | apply below_alloc | apply pw_below_drewN | apply below_drew1) | exact HB.out)⟩
                                  · rw [if_neg c33] at H
                                    exact absurd H (by simp)
                              · rw [if_neg c29] at H
                                exact absurd H (by simp)
                            · rw [if_neg c28] at H
                              exact absurd H (by simp)
                          · rw [if_neg c27] at H
                            exact absurd H (by simp)
                        · rw [if_neg c26] at H
                          have c26b0 : decide (x9_3 < ((rd_L1 t168 a1).length : Int)) = false := decide_eq_false c26
                          clear c26
                          by_cases c48 : t163 = true
                          · subst c48
                            have H1 : (if a1 < (t165.length : Int) then (some (x8_3 == (rd t165 a1))) else (none)) = some r := by rw [if_pos rfl] at H; exact H
                            clear H
                            have H := H1
                            clear H1
                            by_cases c49 : a1 < (t165.length : Int)
                            · rw [if_pos c49] at H
                              have c49b0 : decide (a1 < (t165.length : Int)) = true := decide_eq_true c49
                              clear c49
                              obtain rfl := Option.some.inj H
                              obtain ⟨Ao50, co50, eo50⟩ := Kd.S_slice HO_7.out
                              subst eo50
                              have p172 : 0 ≤ (a1 : Int) := of_decide_eq_true (by first | (with_reducible assumption) | assumption)
                              have q172 : a1 < (t168.length : Int) := of_decide_eq_true (by first | (with_reducible assumption) | assumption)
                              obtain ⟨ad172, A172_0, c172_0, e172, hx172_0, hl172_0, hi172_0⟩ := at_L1 (Kd.S_reads' HO_7.out).2.2 a1 p172 q172
                              cases e172
                              obtain ⟨ce172, hce172, hMe172, hcc172⟩ := Kd.S_get HO_7.out [] a1 p172 (by first | exact q172 | exact of_decide_eq_true (by first | (with_reducible assumption) | assumption) | (have e_ := (Kd.S_reads' HO_7.out).1; omega))
                              obtain ⟨ve172_0, rfl, ge172_0⟩ := hMe172
                              have hv172_0 := hcc172 0 _ rfl
                              rw [Nat.add_zero, show ((Kd.slice 3 (Kd.int .i64))).sz = 1 from rfl, Nat.mul_one] at hv172_0
                              replace hv172_0 := Option.some.inj (hv172_0.symm.trans hx172_0)
                              rw [hv172_0] at ge172_0
                              have HL172_0 := Aside0.mk (show Kd.R (Kd.int .i64) 3 _ _ _ _ (rd_L1 t168 a1) from ge172_0)
                              clear hv172_0 ge172_0
                              clear hcc172 hce172
                              have HR172_0 := Aside0.mk hi172_0
                              have HC172_0 := Aside0.mk hl172_0
                              clear hi172_0 hl172_0
                              replace p172 := eq_true p172
                              replace q172 := eq_true q172
                              obtain ⟨Ao51, co51, eo51⟩ := Kd.R_slice HO_6.out
                              subst eo51
                              have p173 : 0 ≤ (a1 : Int) := of_decide_eq_true (by first | (with_reducible assumption) | assumption)
                              have q173 : a1 < (t165.length : Int) := of_decide_eq_true (by first | (with_reducible assumption) | assumption)
                              obtain ⟨ad173, e173, hx173_0⟩ := Kd.at_int (Kd.R_reads' HO_6.out).2.2 a1 p173 q173
                              cases e173
                              replace p173 := eq_true p173
                              replace q173 := eq_true q173
                              go_wp2
                              go_ret
                              exact ⟨by first | rfl | (simp [errW_none, errW_some] <;> rfl) | (simp [*, errW_none, errW_some] <;> rfl) | (exfalso; (try simp_all); (try omega); done), by repeat (first | (with_reducible first | exact HB.out | apply below_alloc | apply pw_below_drewN | apply below_drew1) | exact HB.out)⟩
                            · rw [if_neg c49] at H
                              exact absurd H (by simp)
                          · replace c48 := Bool.eq_false_iff.mpr c48
                            subst c48
                            have H1 : (some false) = some r := by rw [if_neg (show ¬ (false = true) by decide)] at H; exact H
                            clear H
                            have H := H1
                            clear H1
                            obtain rfl := Option.some.inj H
                            obtain ⟨Ao52, co52, eo52⟩ := Kd.S_slice HO_7.out
                            subst eo52
                            have p172 : 0 ≤ (a1 : Int) := of_decide_eq_true (by first | (with_reducible assumption) | assumption)
                            have q172 : a1 < (t168.length : Int) := of_decide_eq_true (by first | (with_reducible assumption) | assumption)
                            obtain ⟨ad172, A172_0, c172_0, e172, hx172_0, hl172_0, hi172_0⟩ := at_L1 (Kd.S_reads' HO_7.out).2.2 a1 p172 q172
                            cases e172
                            obtain ⟨ce172, hce172, hMe172, hcc172⟩ := Kd.S_get HO_7.out [] a1 p172 (by first | exact q172 | exact of_decide_eq_true (by first | (with_reducible assumption) | assumption) | (have e_ := (Kd.S_reads' HO_7.out).1; omega))
                            obtain ⟨ve172_0, rfl, ge172_0⟩ := hMe172
                            have hv172_0 := hcc172 0 _ rfl
                            rw [Nat.add_zero, show ((Kd.slice 3 (Kd.int .i64))).sz = 1 from rfl, Nat.mul_one] at hv172_0
                            replace hv172_0 := Option.some.inj (hv172_0.symm.trans hx172_0)
                            rw [hv172_0] at ge172_0
                            have HL172_0 := Aside0.mk (show Kd.R (Kd.int .i64) 3 _ _ _ _ (rd_L1 t168 a1) from ge172_0)
                            clear hv172_0 ge172_0
                            clear hcc172 hce172
                            have HR172_0 := Aside0.mk hi172_0
                            have HC172_0 := Aside0.mk hl172_0
                            clear hi172_0 hl172_0
                            replace p172 := eq_true p172
                            replace q172 := eq_true q172
                            go_wp2
                            go_ret
                            exact ⟨by first | rfl | (simp [errW_none, errW_some] <;> rfl) | (simp [*, errW_none, errW_some] <;> rfl) | (exfalso; (try simp_all); (try omega); done), by repeat (first | (with_reducible first | exact HB.out | apply below_alloc | apply pw_below_drewN | apply below_drew1) | exact HB.out)⟩
                      · rw [if_neg c25] at H
                        exact absurd H (by simp)
                    · rw [if_neg c24] at H
                      exact absurd H (by simp)
  · replace c5 := Bool.eq_false_iff.mpr c5
    subst c5
    have H1 : (some t163) = some r := by rw [if_neg (show ¬ (false = true) by decide)] at H; exact H
    clear H
    have H := H1
    clear H1
    obtain rfl := Option.some.inj H
    go_enter Try.func4, Try.ntmps4
    go_wp2_with (first | ((with_reducible refine gate_callee (f := 13) rfl ?_); refine goesL_ (some 11) rfl rfl Try.func13 (by kernel_rfl) rfl #[] rfl (by (try simp only [List.map_toArray, List.map_cons, List.map_nil]); first | done | rfl | (simp only [List.length_drop, List.length_take]; rfl)) ?_; (with_reducible refine (bywashlaw14_awake.calls k  t163 _ A3.out).mono ?_); rintro e w53 ⟨rfl, hb⟩; refine ⟨_, rfl, ?_⟩; have n0_ := Aside0.mk (below_step (by repeat (first | (with_reducible first | exact HB.out | apply below_alloc | apply pw_below_drewN | apply below_drew1) | exact HB.out)) hb); clear HB; have HB := n0_; clear n0_; (try clear hb); (try clear hb2); (try clear hk); (try clear hi)) | ((with_reducible refine gate_callee (f := 14) rfl ?_); refine goesL_ (some 13) rfl rfl Try.func14 (by kernel_rfl) rfl #[.slice A0 l0.length c0] rfl (by (try simp only [List.map_toArray, List.map_cons, List.map_nil]); first | done | rfl | (simp only [List.length_drop, List.length_take]; rfl)) ?_; (with_reducible refine (bywashref10_Few.calls k _ _ l0 false _ ?side1 ?side2 A4.out).mono ?_); (case side1 => repeat (first | exact (Kd.C_below HR0.out HB.out) | (with_reducible refine Kd.C_alloc ?_ _) | (with_reducible refine Kd.C_drewN ?_ _) | (with_reducible refine Kd.C_drew ?_))); (case side2 => exact HC0.out); rintro e w' ⟨rfl, ⟨nd, rfl⟩⟩; refine ⟨_, rfl, ?_⟩))
    go_ret
    exact ⟨by first | rfl | (simp [errW_none, errW_some] <;> rfl) | (simp [*, errW_none, errW_some] <;> rfl) | (exfalso; (try simp_all); (try omega); done), by repeat (first | (with_reducible first | exact HB.out | apply below_alloc | apply pw_below_drewN | apply below_drew1) | exact HB.out)⟩

end Go.Proofs.Ytemcmcnhpdkdfaa.P
