/- What the claim uses of: Pbywashlaw12 Gkahn2 Gshr3 Granks Gplaces Gawake12 Hopen -/
import Derived.Deep.Matrix
import Derived.ChangeOld
import Derived.Test.YtdknhgbjgdmfkaaQG3
namespace Go.Proofs.Ytdknhgbjgdmfkaa.P
open Go.RowKit Go.Proofs.YtdknhgbjgdmfkaaW.PrintWords Go.Proofs.YtdknhgbjgdmfkaaW.PrintLast Go.Proofs.YtdknhgbjgdmfkaaW.PrintMore
attribute [local go_sem] max2_int min2_int max_two min_two max_three min_three max_four min_four
set_option linter.unusedVariables false
set_option linter.unusedSimpArgs false
def bywashlaw12_awake.f (k : Nat)  : Option (Bool) := (some (([(([1, 2] : List Int)), (([2] : List Int)), []] : List (List Int)) : List (List Int))).bind fun y462 => ((rank_Ranks.f k y462).bind fun t465 => ((bywashref01_Ints.f k t465 (([0, 1, 2] : List Int))).bind fun t471 => (if t471 = true then ((rank_Sound.f y462 (([0, 1, 2] : List Int))).bind fun t475 => (if t475 = true then ((rank_Schedule.f k y462 0).bind fun t476 => ((bywashref01_Ints.f k t476 (([0, 1, 2] : List Int))).bind fun t482 => (some t482))) else (some false))) else (some false))))
theorem bywashlaw12_awake.mono : ∀ k, LeO (bywashlaw12_awake.f k ) (bywashlaw12_awake.f (k + 1) ) := by
  intro  k
  unfold bywashlaw12_awake.f
  repeat' first
      | (with_reducible exact bywashref01_Ints.mono _ _ _)
      | (with_reducible exact rank_Ranks.mono _ _)
      | (with_reducible exact rank_Schedule.mono _ _ _)
      | (with_reducible exact LeO.refl _)
      | (with_reducible exact LeO.none _)
      | (with_reducible refine LeO.ite ?_ ?_)
      | (with_reducible refine LeO.bind ?_ (fun _ => ?_))
      | exact bywashref01_Ints.mono _ _ _
      | exact rank_Ranks.mono _ _
      | exact rank_Schedule.mono _ _ _
      | exact LeO.none _
      | refine LeO.ite ?_ ?_
      | refine LeO.bind ?_ (fun _ => ?_)
set_option maxHeartbeats 8000000 in
set_option maxRecDepth 100000 in
theorem bywashlaw12_awake.calls (k : Nat)  (r : Bool) (w : World) (h : bywashlaw12_awake.f k  = some r) :
    Calls Try.prog 44 #[] w fun e w' => e = .returned (.bool r) ∧ Below w.heap.size w w' := by
  have HB := Aside0.mk (Below.refl w.heap.size w)
  have H : ((some (([(([1, 2] : List Int)), (([2] : List Int)), []] : List (List Int)) : List (List Int))).bind fun y462 => ((rank_Ranks.f k y462).bind fun t465 => ((bywashref01_Ints.f k t465 (([0, 1, 2] : List Int))).bind fun t471 => (if t471 = true then ((rank_Sound.f y462 (([0, 1, 2] : List Int))).bind fun t475 => (if t475 = true then ((rank_Schedule.f k y462 0).bind fun t476 => ((bywashref01_Ints.f k t476 (([0, 1, 2] : List Int))).bind fun t482 => (some t482))) else (some false))) else (some false))))) = some r := h
  clear h
  obtain ⟨y456, hy456⟩ : ∃ y_ : List Int, y_ = (([1, 2] : List Int)) := ⟨_, rfl⟩
  replace H : ((some (([y456, (([2] : List Int)), []] : List (List Int)) : List (List Int))).bind fun y462 => ((rank_Ranks.f k y462).bind fun t465 => ((bywashref01_Ints.f k t465 (([0, 1, 2] : List Int))).bind fun t471 => (if t471 = true then ((rank_Sound.f y462 (([0, 1, 2] : List Int))).bind fun t475 => (if t475 = true then ((rank_Schedule.f k y462 0).bind fun t476 => ((bywashref01_Ints.f k t476 (([0, 1, 2] : List Int))).bind fun t482 => (some t482))) else (some false))) else (some false))))) = some r := by first | (rw [hy456]; with_reducible exact H) | (have H2_ := (Option.bind_some _ _).symm.trans H; rw [hy456]; with_reducible exact H2_) | (have H2_ := (Option.bind_some _ _).symm.trans H; with_reducible exact H2_) | with_reducible exact H | (rw [hy456]; exact H) | exact H
  have Ny456 := Aside0.mk hy456
  clear hy456
  obtain ⟨y459, hy459⟩ : ∃ y_ : List Int, y_ = (([2] : List Int)) := ⟨_, rfl⟩
  replace H : ((some (([y456, y459, []] : List (List Int)) : List (List Int))).bind fun y462 => ((rank_Ranks.f k y462).bind fun t465 => ((bywashref01_Ints.f k t465 (([0, 1, 2] : List Int))).bind fun t471 => (if t471 = true then ((rank_Sound.f y462 (([0, 1, 2] : List Int))).bind fun t475 => (if t475 = true then ((rank_Schedule.f k y462 0).bind fun t476 => ((bywashref01_Ints.f k t476 (([0, 1, 2] : List Int))).bind fun t482 => (some t482))) else (some false))) else (some false))))) = some r := by first | (rw [hy459]; with_reducible exact H) | (have H2_ := (Option.bind_some _ _).symm.trans H; rw [hy459]; with_reducible exact H2_) | (have H2_ := (Option.bind_some _ _).symm.trans H; with_reducible exact H2_) | with_reducible exact H | (rw [hy459]; exact H) | exact H
  have Ny459 := Aside0.mk hy459
  clear hy459
  obtain ⟨y462, hy462⟩ : ∃ y_ : List (List Int), y_ = (([y456, y459, []] : List (List Int))) := ⟨_, rfl⟩
  replace H : ((rank_Ranks.f k y462).bind fun t465 => ((bywashref01_Ints.f k t465 (([0, 1, 2] : List Int))).bind fun t471 => (if t471 = true then ((rank_Sound.f y462 (([0, 1, 2] : List Int))).bind fun t475 => (if t475 = true then ((rank_Schedule.f k y462 0).bind fun t476 => ((bywashref01_Ints.f k t476 (([0, 1, 2] : List Int))).bind fun t482 => (some t482))) else (some false))) else (some false)))) = some r := by first | (rw [hy462]; with_reducible exact H) | (have H2_ := (Option.bind_some _ _).symm.trans H; rw [hy462]; with_reducible exact H2_) | (have H2_ := (Option.bind_some _ _).symm.trans H; with_reducible exact H2_) | with_reducible exact H | (rw [hy462]; exact H) | exact H
  have Ny462 := Aside0.mk hy462
  clear hy462
  replace H := Option.bind_eq_some_iff.mp H
  obtain ⟨t465, A10, H⟩ := H
  replace H : ((bywashref01_Ints.f k t465 (([0, 1, 2] : List Int))).bind fun t471 => (if t471 = true then ((rank_Sound.f y462 (([0, 1, 2] : List Int))).bind fun t475 => (if t475 = true then ((rank_Schedule.f k y462 0).bind fun t476 => ((bywashref01_Ints.f k t476 (([0, 1, 2] : List Int))).bind fun t482 => (some t482))) else (some false))) else (some false))) = some r := H
  have A1 := Aside0.mk A10
  clear A10
  obtain ⟨y468, hy468⟩ : ∃ y_ : List Int, y_ = (([0, 1, 2] : List Int)) := ⟨_, rfl⟩
  replace H : ((bywashref01_Ints.f k t465 y468).bind fun t471 => (if t471 = true then ((rank_Sound.f y462 (([0, 1, 2] : List Int))).bind fun t475 => (if t475 = true then ((rank_Schedule.f k y462 0).bind fun t476 => ((bywashref01_Ints.f k t476 (([0, 1, 2] : List Int))).bind fun t482 => (some t482))) else (some false))) else (some false))) = some r := by first | (rw [hy468]; with_reducible exact H) | (have H2_ := (Option.bind_some _ _).symm.trans H; rw [hy468]; with_reducible exact H2_) | (have H2_ := (Option.bind_some _ _).symm.trans H; with_reducible exact H2_) | with_reducible exact H | (rw [hy468]; exact H) | exact H
  have Ny468 := Aside0.mk hy468
  clear hy468
  replace H := Option.bind_eq_some_iff.mp H
  obtain ⟨t471, A20, H⟩ := H
  replace H : (if t471 = true then ((rank_Sound.f y462 (([0, 1, 2] : List Int))).bind fun t475 => (if t475 = true then ((rank_Schedule.f k y462 0).bind fun t476 => ((bywashref01_Ints.f k t476 (([0, 1, 2] : List Int))).bind fun t482 => (some t482))) else (some false))) else (some false)) = some r := H
  have A2 := Aside0.mk A20
  clear A20
  by_cases c3 : t471 = true
  · subst c3
    have H1 : ((rank_Sound.f y462 (([0, 1, 2] : List Int))).bind fun t475 => (if t475 = true then ((rank_Schedule.f k y462 0).bind fun t476 => ((bywashref01_Ints.f k t476 (([0, 1, 2] : List Int))).bind fun t482 => (some t482))) else (some false))) = some r := by rw [if_pos rfl] at H; exact H
    clear H
    have H := H1
    clear H1
    obtain ⟨y472, hy472⟩ : ∃ y_ : List Int, y_ = (([0, 1, 2] : List Int)) := ⟨_, rfl⟩
    replace H : ((rank_Sound.f y462 y472).bind fun t475 => (if t475 = true then ((rank_Schedule.f k y462 0).bind fun t476 => ((bywashref01_Ints.f k t476 (([0, 1, 2] : List Int))).bind fun t482 => (some t482))) else (some false))) = some r := by first | (rw [hy472]; with_reducible exact H) | (have H2_ := (Option.bind_some _ _).symm.trans H; rw [hy472]; with_reducible exact H2_) | (have H2_ := (Option.bind_some _ _).symm.trans H; with_reducible exact H2_) | with_reducible exact H | (rw [hy472]; exact H) | exact H
    have Ny472 := Aside0.mk hy472
    clear hy472
    replace H := Option.bind_eq_some_iff.mp H
    obtain ⟨t475, A40, H⟩ := H
    replace H : (if t475 = true then ((rank_Schedule.f k y462 0).bind fun t476 => ((bywashref01_Ints.f k t476 (([0, 1, 2] : List Int))).bind fun t482 => (some t482))) else (some false)) = some r := H
    have A4 := Aside0.mk A40
    clear A40
    by_cases c5 : t475 = true
    · subst c5
      have H1 : ((rank_Schedule.f k y462 0).bind fun t476 => ((bywashref01_Ints.f k t476 (([0, 1, 2] : List Int))).bind fun t482 => (some t482))) = some r := by rw [if_pos rfl] at H; exact H
      clear H
      have H := H1
      clear H1
      replace H := Option.bind_eq_some_iff.mp H
      obtain ⟨t476, A60, H⟩ := H
      replace H : ((bywashref01_Ints.f k t476 (([0, 1, 2] : List Int))).bind fun t482 => (some t482)) = some r := H
      have A6 := Aside0.mk A60
      clear A60
      obtain ⟨y479, hy479⟩ : ∃ y_ : List Int, y_ = (([0, 1, 2] : List Int)) := ⟨_, rfl⟩
      replace H : ((bywashref01_Ints.f k t476 y479).bind fun t482 => (some t482)) = some r := by first | (rw [hy479]; with_reducible exact H) | (have H2_ := (Option.bind_some _ _).symm.trans H; rw [hy479]; with_reducible exact H2_) | (have H2_ := (Option.bind_some _ _).symm.trans H; with_reducible exact H2_) | with_reducible exact H | (rw [hy479]; exact H) | exact H
      have Ny479 := Aside0.mk hy479
      clear hy479
      replace H := Option.bind_eq_some_iff.mp H
      obtain ⟨t482, A70, H⟩ := H
      replace H : (some t482) = some r := H
      have A7 := Aside0.mk A70
      clear A70
      obtain rfl := Option.some.inj H
      go_enter Try.func44, Try.ntmps44
      go_wp2_with (first | ((with_reducible refine gate_dst (N := 2) rfl ?_); (try (refine gate_guard (by rfl) ?_; dsimp only)); refine Kd.R_lit (Kd.int .i64) _ 3 ?hg (N := 2) ?hd (xs := ([1, 2] : List Int)) (inner := [.int .i64 1, .int .i64 2]) (ok := fun _ => True) (okp := fun _ => True) ?hr ?hp (fun _ hk => hk) trivial (Below.refl _ _) (Nat.le_refl _) (by simp) ?_; (case hd => rfl); (case hg => rfl); (case hr => first | (go_simp; done) | (go_simp; rfl)); (case hp => exact (Reps.one (show Kd.M (Kd.int .i64) _ _ _ 1 [.int .i64 1] from rfl) (Reps.one (show Kd.M (Kd.int .i64) _ _ _ 2 [.int .i64 2] from rfl) (Reps.none _ _)))); intro v457 w8 ho9 hb hg_ hnew_; clear hg_ hnew_; (first | rw [← Ny456.out] at ho9 | (simp only [Int.reduceToNat] at ho9; rw [← Ny456.out] at ho9)); have n0_ := Aside0.mk (Kd.R_lower ho9 (below_size (by repeat (first | (with_reducible first | exact HB.out | apply below_alloc | apply pw_below_drewN | apply below_drew1) | exact HB.out)))); have n1_ := Aside0.mk (below_step (by repeat (first | (with_reducible first | exact HB.out | apply below_alloc | apply pw_below_drewN | apply below_drew1) | exact HB.out)) hb); clear HB; have HO458 := n0_; have HB := n1_; clear n0_ n1_; clear hb ho9) | ((with_reducible refine gate_dst (N := 3) rfl ?_); (try (refine gate_guard (by rfl) ?_; dsimp only)); refine Kd.R_lit (Kd.int .i64) _ 3 ?hg (N := 3) ?hd (xs := ([2] : List Int)) (inner := [.int .i64 2]) (ok := fun _ => True) (okp := fun _ => True) ?hr ?hp (fun _ hk => hk) trivial (Below.refl _ _) (Nat.le_refl _) (by simp) ?_; (case hd => rfl); (case hg => rfl); (case hr => first | (go_simp; done) | (go_simp; rfl)); (case hp => exact (Reps.one (show Kd.M (Kd.int .i64) _ _ _ 2 [.int .i64 2] from rfl) (Reps.none _ _))); intro v460 w10 ho11 hb hg_ hnew_; clear hg_ hnew_; (first | rw [← Ny459.out] at ho11 | (simp only [Int.reduceToNat] at ho11; rw [← Ny459.out] at ho11)); have n0_ := Aside0.mk (Kd.R_elder' (by (with_reducible repeat (first | apply Kd.R_alloc | apply Kd.R_drewN | apply Kd.R_drew)); exact HO458.out) (Kd.R_base ho11) hb); have n1_ := Aside0.mk (Kd.R_lower (Kd.R_new' ho11 (Kd.R_lt (by (with_reducible repeat (first | apply Kd.R_alloc | apply Kd.R_drewN | apply Kd.R_drew)); exact HO458.out))) (below_size (by repeat (first | (with_reducible first | exact HB.out | apply below_alloc | apply pw_below_drewN | apply below_drew1) | exact HB.out)))); have n2_ := Aside0.mk (below_step (by repeat (first | (with_reducible first | exact HB.out | apply below_alloc | apply pw_below_drewN | apply below_drew1) | exact HB.out)) hb); clear HO458; clear HB; have HO458 := n0_; have HO461 := n1_; have HB := n2_; clear n0_ n1_ n2_; clear hb ho11; obtain ⟨Ao12, co12, eo12⟩ := Kd.R_slice HO458.out; subst eo12; obtain ⟨Ao13, co13, eo13⟩ := Kd.R_slice HO461.out; subst eo13) | ((with_reducible refine gate_dst (N := 4) rfl ?_); (try (refine gate_guard (by rfl) ?_; dsimp only)); refine Kd.N_lit (Kd.slice 3 (Kd.int .i64)) _ 32 ?hg (N' := 4) ?hd (xs := ([y456, y459, []] : List (List Int))) (inner := [.slice Ao12 y456.length co12, .slice Ao13 y459.length co13, .slice none 0 0]) (ok := (fun _ => True)) (okp := (fun _ => True)) ?hr ?hp (fun _ hk => hk) ((show ∀ k_, w10.heap.size ≤ k_ → (fun _ => True) k_ from fun k_ hk => trivial) _ (Nat.le_refl _)) (Below.refl _ _) (Nat.le_refl _) (by simp) ?_; (case hd => rfl); (case hg => rfl); (case hr => first | (go_simp; done) | (go_simp; rfl)); (case hp => exact (Reps.one (show Kd.FK (Kd.slice 3 (Kd.int .i64)) _ _ y456 [.slice Ao12 y456.length co12] from (Kd.FK_slice_mk (Kd.R_reads' (Kd.R_mono (ok' := (fun _ => True)) (HO458.out) (fun k_ hk => trivial))).2.1 (Kd.R_F (Kd.R_mono (ok' := (fun _ => True)) (HO458.out) (fun k_ hk => trivial))))) (Reps.one (show Kd.FK (Kd.slice 3 (Kd.int .i64)) _ _ y459 [.slice Ao13 y459.length co13] from (Kd.FK_slice_mk (Kd.R_reads' (Kd.R_mono (ok' := (fun _ => True)) (HO461.out) (fun k_ hk => trivial))).2.1 (Kd.R_F (Kd.R_mono (ok' := (fun _ => True)) (HO461.out) (fun k_ hk => trivial))))) (Reps.one (show Kd.FK (Kd.slice 3 (Kd.int .i64)) _ _ [] [.slice none 0 0] from (Kd.FK_slice_mk (Nat.le_refl _) (Kd.F_nil _ _ _))) (Reps.none _ _))))); intro v463 w14 ho15 hb hg_ hnew_; clear hg_ hnew_; (first | rw [← Ny462.out] at ho15 | (simp only [Int.reduceToNat] at ho15; rw [← Ny462.out] at ho15)); have n0_ := Aside0.mk (Kd.N_lower ho15 (below_size (by repeat (first | (with_reducible first | exact HB.out | apply below_alloc | apply pw_below_drewN | apply below_drew1) | exact HB.out)))); have n1_ := Aside0.mk (below_step (by repeat (first | (with_reducible first | exact HB.out | apply below_alloc | apply pw_below_drewN | apply below_drew1) | exact HB.out)) hb); clear HB; clear HO458; clear HO461; have HO464 := n0_; have HB := n1_; clear n0_ n1_; clear hb ho15; obtain ⟨Ao16, co16, eo16⟩ := Kd.N_slice HO464.out; subst eo16) | ((with_reducible refine gate_callee (f := 46) rfl ?_); refine goesL_ (some 6) rfl rfl Try.func46 (by kernel_rfl) rfl #[.slice Ao16 y462.length co16] rfl (by (try simp only [List.map_toArray, List.map_cons, List.map_nil]); first | done | rfl | (simp only [List.length_drop, List.length_take]; rfl)) ?_; (with_reducible refine (rank_Ranks.calls k _ _ y462 t465 _ ?side1 ?side2 A1.out).mono ?_); (case side1 => repeat (first | exact (Kd.N_reads' HO464.out).2.2 | (with_reducible refine Kd.C_alloc ?_ _) | (with_reducible refine Kd.C_drewN ?_ _) | (with_reducible refine Kd.C_drew ?_))); (case side2 => exact (Kd.N_reads' HO464.out).2.1); rintro e w17 ⟨v466, rfl, ho0, hb⟩; refine ⟨_, rfl, ?_⟩; have n0_ := Aside0.mk (Kd.N_elder' (by (with_reducible repeat (first | apply Kd.N_alloc | apply Kd.N_drewN | apply Kd.N_drew)); exact HO464.out) (Kd.R_base ho0) hb); have n1_ := Aside0.mk (Kd.R_lower ho0 (below_size (by repeat (first | (with_reducible first | exact HB.out | apply below_alloc | apply pw_below_drewN | apply below_drew1) | exact HB.out)))); have n2_ := Aside0.mk (below_step (by repeat (first | (with_reducible first | exact HB.out | apply below_alloc | apply pw_below_drewN | apply below_drew1) | exact HB.out)) hb); clear HO464; clear HB; have HO464 := n0_; have HO467 := n1_; have HB := n2_; clear n0_ n1_ n2_; (try clear hb); (try clear hb2); (try clear hk); (try clear hi); (try clear ho0)) | ((with_reducible refine gate_dst (N := 7) rfl ?_); (try (refine gate_guard (by rfl) ?_; dsimp only)); refine Kd.R_lit (Kd.int .i64) _ 3 ?hg (N := 7) ?hd (xs := ([0, 1, 2] : List Int)) (inner := [.int .i64 0, .int .i64 1, .int .i64 2]) (ok := fun _ => True) (okp := fun _ => True) ?hr ?hp (fun _ hk => hk) trivial (Below.refl _ _) (Nat.le_refl _) (by simp) ?_; (case hd => rfl); (case hg => rfl); (case hr => first | (go_simp; done) | (go_simp; rfl)); (case hp => exact (Reps.one (show Kd.M (Kd.int .i64) _ _ _ 0 [.int .i64 0] from rfl) (Reps.one (show Kd.M (Kd.int .i64) _ _ _ 1 [.int .i64 1] from rfl) (Reps.one (show Kd.M (Kd.int .i64) _ _ _ 2 [.int .i64 2] from rfl) (Reps.none _ _))))); intro v469 w18 ho19 hb hg_ hnew_; clear hg_ hnew_; (first | rw [← Ny468.out] at ho19 | (simp only [Int.reduceToNat] at ho19; rw [← Ny468.out] at ho19)); have n0_ := Aside0.mk (Kd.N_elder' (by (with_reducible repeat (first | apply Kd.N_alloc | apply Kd.N_drewN | apply Kd.N_drew)); exact HO464.out) (Kd.R_base ho19) hb); have n1_ := Aside0.mk (Kd.R_elder' (by (with_reducible repeat (first | apply Kd.R_alloc | apply Kd.R_drewN | apply Kd.R_drew)); exact HO467.out) (Kd.R_base ho19) hb); have n2_ := Aside0.mk (Kd.R_lower (Kd.R_new' ho19 (Kd.R_lt (by (with_reducible repeat (first | apply Kd.R_alloc | apply Kd.R_drewN | apply Kd.R_drew)); exact HO467.out))) (below_size (by repeat (first | (with_reducible first | exact HB.out | apply below_alloc | apply pw_below_drewN | apply below_drew1) | exact HB.out)))); have n3_ := Aside0.mk (below_step (by repeat (first | (with_reducible first | exact HB.out | apply below_alloc | apply pw_below_drewN | apply below_drew1) | exact HB.out)) hb); clear HO464; clear HO467; clear HB; have HO464 := n0_; have HO467 := n1_; have HO470 := n2_; have HB := n3_; clear n0_ n1_ n2_ n3_; clear hb ho19; obtain ⟨Ao20, co20, eo20⟩ := Kd.R_slice HO467.out; subst eo20; obtain ⟨Ao21, co21, eo21⟩ := Kd.R_slice HO470.out; subst eo21) | ((with_reducible refine gate_callee (f := 23) rfl ?_); refine goesL_ (some 8) rfl rfl Try.func23 (by kernel_rfl) rfl #[.slice Ao20 t465.length co20, .slice Ao21 y468.length co21] rfl (by (try simp only [List.map_toArray, List.map_cons, List.map_nil]); first | done | rfl | (simp only [List.length_drop, List.length_take]; rfl)) ?_; (with_reducible refine (bywashref01_Ints.calls k _ _ t465 _ _ y468 true _ ?side1 ?side2 ?side3 ?side4 A2.out).mono ?_); (case side1 => repeat (first | exact (Kd.R_reads' HO467.out).2.2 | (with_reducible refine Kd.C_alloc ?_ _) | (with_reducible refine Kd.C_drewN ?_ _) | (with_reducible refine Kd.C_drew ?_))); (case side2 => exact (Kd.R_reads' HO467.out).2.1); (case side3 => repeat (first | exact (Kd.R_reads' HO470.out).2.2 | (with_reducible refine Kd.C_alloc ?_ _) | (with_reducible refine Kd.C_drewN ?_ _) | (with_reducible refine Kd.C_drew ?_))); (case side4 => exact (Kd.R_reads' HO470.out).2.1); rintro e w' ⟨rfl, ⟨nd, rfl⟩⟩; refine ⟨_, rfl, ?_⟩) | ((with_reducible refine gate_dst (N := 11) rfl ?_); (try (refine gate_guard (by rfl) ?_; dsimp only)); refine Kd.R_lit (Kd.int .i64) _ 3 ?hg (N := 11) ?hd (xs := ([0, 1, 2] : List Int)) (inner := [.int .i64 0, .int .i64 1, .int .i64 2]) (ok := fun _ => True) (okp := fun _ => True) ?hr ?hp (fun _ hk => hk) trivial (Below.refl _ _) (Nat.le_refl _) (by simp) ?_; (case hd => rfl); (case hg => rfl); (case hr => first | (go_simp; done) | (go_simp; rfl)); (case hp => exact (Reps.one (show Kd.M (Kd.int .i64) _ _ _ 0 [.int .i64 0] from rfl) (Reps.one (show Kd.M (Kd.int .i64) _ _ _ 1 [.int .i64 1] from rfl) (Reps.one (show Kd.M (Kd.int .i64) _ _ _ 2 [.int .i64 2] from rfl) (Reps.none _ _))))); intro v473 w22 ho23 hb hg_ hnew_; clear hg_ hnew_; (first | rw [← Ny472.out] at ho23 | (simp only [Int.reduceToNat] at ho23; rw [← Ny472.out] at ho23)); have n0_ := Aside0.mk (Kd.N_elder' (by (with_reducible repeat (first | apply Kd.N_alloc | apply Kd.N_drewN | apply Kd.N_drew)); exact HO464.out) (Kd.R_base ho23) hb); have n1_ := Aside0.mk (Kd.R_elder' (by (with_reducible repeat (first | apply Kd.R_alloc | apply Kd.R_drewN | apply Kd.R_drew)); exact HO467.out) (Kd.R_base ho23) hb); have n2_ := Aside0.mk (Kd.R_elder' (by (with_reducible repeat (first | apply Kd.R_alloc | apply Kd.R_drewN | apply Kd.R_drew)); exact HO470.out) (Kd.R_base ho23) hb); have n3_ := Aside0.mk (Kd.R_lower (Kd.R_new' (Kd.R_new' ho23 (Kd.R_lt (by (with_reducible repeat (first | apply Kd.R_alloc | apply Kd.R_drewN | apply Kd.R_drew)); exact HO467.out))) (Kd.R_lt (by (with_reducible repeat (first | apply Kd.R_alloc | apply Kd.R_drewN | apply Kd.R_drew)); exact HO470.out))) (below_size (by repeat (first | (with_reducible first | exact HB.out | apply below_alloc | apply pw_below_drewN | apply below_drew1) | exact HB.out)))); have n4_ := Aside0.mk (below_step (by repeat (first | (with_reducible first | exact HB.out | apply below_alloc | apply pw_below_drewN | apply below_drew1) | exact HB.out)) hb); clear HO464; clear HO467; clear HO470; clear HB; have HO464 := n0_; have HO467 := n1_; have HO470 := n2_; have HO474 := n3_; have HB := n4_; clear n0_ n1_ n2_ n3_ n4_; clear hb ho23; obtain ⟨Ao24, co24, eo24⟩ := Kd.R_slice HO474.out; subst eo24) | (go_at_call 49; (with_reducible refine (rank_Sound.calls _ _ y462 _ _ y472 true _ ?side1 ?side2 ?side3 ?side4 A4.out).mono ?_); (case side1 => repeat (first | exact (Kd.N_reads' HO464.out).2.2 | (with_reducible refine Kd.C_alloc ?_ _) | (with_reducible refine Kd.C_drewN ?_ _) | (with_reducible refine Kd.C_drew ?_))); (case side2 => exact (Kd.N_reads' HO464.out).2.1); (case side3 => repeat (first | exact (Kd.R_reads' HO474.out).2.2 | (with_reducible refine Kd.C_alloc ?_ _) | (with_reducible refine Kd.C_drewN ?_ _) | (with_reducible refine Kd.C_drew ?_))); (case side4 => exact (Kd.R_reads' HO474.out).2.1); rintro e w25 ⟨rfl, hb⟩; have n0_ := Aside0.mk (Kd.N_below (by (with_reducible repeat (first | apply Kd.N_alloc | apply Kd.N_drewN | apply Kd.N_drew)); exact HO464.out) hb); have n1_ := Aside0.mk (Kd.R_below (by (with_reducible repeat (first | apply Kd.R_alloc | apply Kd.R_drewN | apply Kd.R_drew)); exact HO467.out) hb); have n2_ := Aside0.mk (Kd.R_below (by (with_reducible repeat (first | apply Kd.R_alloc | apply Kd.R_drewN | apply Kd.R_drew)); exact HO470.out) hb); have n3_ := Aside0.mk (Kd.R_below (by (with_reducible repeat (first | apply Kd.R_alloc | apply Kd.R_drewN | apply Kd.R_drew)); exact HO474.out) hb); have n4_ := Aside0.mk (below_step (by repeat (first | (with_reducible first | exact HB.out | apply below_alloc | apply pw_below_drewN | apply below_drew1) | exact HB.out)) hb); clear HO464; clear HO467; clear HO470; clear HO474; clear HB; have HO464 := n0_; have HO467 := n1_; have HO470 := n2_; have HO474 := n3_; have HB := n4_; clear n0_ n1_ n2_ n3_ n4_; (try clear hb); (try clear hb2); (try clear hk); (try clear hi)) | (go_at_call 45; (with_reducible refine (rank_Schedule.calls k _ _ y462 0 t476 _ ?side1 ?side2 A6.out).mono ?_); (case side1 => repeat (first | exact (Kd.N_reads' HO464.out).2.2 | (with_reducible refine Kd.C_alloc ?_ _) | (with_reducible refine Kd.C_drewN ?_ _) | (with_reducible refine Kd.C_drew ?_))); (case side2 => exact (Kd.N_reads' HO464.out).2.1); rintro e w26 ⟨v477, rfl, ho0, hb⟩; have n0_ := Aside0.mk (Kd.N_elder' (by (with_reducible repeat (first | apply Kd.N_alloc | apply Kd.N_drewN | apply Kd.N_drew)); exact HO464.out) (Kd.R_base ho0) hb); have n1_ := Aside0.mk (Kd.R_elder' (by (with_reducible repeat (first | apply Kd.R_alloc | apply Kd.R_drewN | apply Kd.R_drew)); exact HO467.out) (Kd.R_base ho0) hb); have n2_ := Aside0.mk (Kd.R_elder' (by (with_reducible repeat (first | apply Kd.R_alloc | apply Kd.R_drewN | apply Kd.R_drew)); exact HO470.out) (Kd.R_base ho0) hb); have n3_ := Aside0.mk (Kd.R_elder' (by (with_reducible repeat (first | apply Kd.R_alloc | apply Kd.R_drewN | apply Kd.R_drew)); exact HO474.out) (Kd.R_base ho0) hb); have n4_ := Aside0.mk (Kd.R_lower (Kd.R_new' (Kd.R_new' (Kd.R_new' ho0 (Kd.R_lt (by (with_reducible repeat (first | apply Kd.R_alloc | apply Kd.R_drewN | apply Kd.R_drew)); exact HO467.out))) (Kd.R_lt (by (with_reducible repeat (first | apply Kd.R_alloc | apply Kd.R_drewN | apply Kd.R_drew)); exact HO470.out))) (Kd.R_lt (by (with_reducible repeat (first | apply Kd.R_alloc | apply Kd.R_drewN | apply Kd.R_drew)); exact HO474.out))) (below_size (by repeat (first | (with_reducible first | exact HB.out | apply below_alloc | apply pw_below_drewN | apply below_drew1) | exact HB.out)))); have n5_ := Aside0.mk (below_step (by repeat (first | (with_reducible first | exact HB.out | apply below_alloc | apply pw_below_drewN | apply below_drew1) | exact HB.out)) hb); clear HO464; clear HO467; clear HO470; clear HO474; clear HB; have HO464 := n0_; have HO467 := n1_; have HO470 := n2_; have HO474 := n3_; have HO478 := n4_; have HB := n5_; clear n0_ n1_ n2_ n3_ n4_ n5_; (try clear hb); (try clear hb2); (try clear hk); (try clear hi); (try clear ho0)) | ((with_reducible refine gate_dst (N := 17) rfl ?_); (try (refine gate_guard (by rfl) ?_; dsimp only)); refine Kd.R_lit (Kd.int .i64) _ 3 ?hg (N := 17) ?hd (xs := ([0, 1, 2] : List Int)) (inner := [.int .i64 0, .int .i64 1, .int .i64 2]) (ok := fun _ => True) (okp := fun _ => True) ?hr ?hp (fun _ hk => hk) trivial (Below.refl _ _) (Nat.le_refl _) (by simp) ?_; (case hd => rfl); (case hg => rfl); (case hr => first | (go_simp; done) | (go_simp; rfl)); (case hp => exact (Reps.one (show Kd.M (Kd.int .i64) _ _ _ 0 [.int .i64 0] from rfl) (Reps.one (show Kd.M (Kd.int .i64) _ _ _ 1 [.int .i64 1] from rfl) (Reps.one (show Kd.M (Kd.int .i64) _ _ _ 2 [.int .i64 2] from rfl) (Reps.none _ _))))); intro v480 w27 ho28 hb hg_ hnew_; clear hg_ hnew_; (first | rw [← Ny479.out] at ho28 | (simp only [Int.reduceToNat] at ho28; rw [← Ny479.out] at ho28)); have n0_ := Aside0.mk (Kd.N_elder' (by (with_reducible repeat (first | apply Kd.N_alloc | apply Kd.N_drewN | apply Kd.N_drew)); exact HO464.out) (Kd.R_base ho28) hb); have n1_ := Aside0.mk (Kd.R_elder' (by (with_reducible repeat (first | apply Kd.R_alloc | apply Kd.R_drewN | apply Kd.R_drew)); exact HO467.out) (Kd.R_base ho28) hb); have n2_ := Aside0.mk (Kd.R_elder' (by (with_reducible repeat (first | apply Kd.R_alloc | apply Kd.R_drewN | apply Kd.R_drew)); exact HO470.out) (Kd.R_base ho28) hb); have n3_ := Aside0.mk (Kd.R_elder' (by (with_reducible repeat (first | apply Kd.R_alloc | apply Kd.R_drewN | apply Kd.R_drew)); exact HO474.out) (Kd.R_base ho28) hb); have n4_ := Aside0.mk (Kd.R_elder' (by (with_reducible repeat (first | apply Kd.R_alloc | apply Kd.R_drewN | apply Kd.R_drew)); exact HO478.out) (Kd.R_base ho28) hb); have n5_ := Aside0.mk (Kd.R_lower (Kd.R_new' (Kd.R_new' (Kd.R_new' (Kd.R_new' ho28 (Kd.R_lt (by (with_reducible repeat (first | apply Kd.R_alloc | apply Kd.R_drewN | apply Kd.R_drew)); exact HO467.out))) (Kd.R_lt (by (with_reducible repeat (first | apply Kd.R_alloc | apply Kd.R_drewN | apply Kd.R_drew)); exact HO470.out))) (Kd.R_lt (by (with_reducible repeat (first | apply Kd.R_alloc | apply Kd.R_drewN | apply Kd.R_drew)); exact HO474.out))) (Kd.R_lt (by (with_reducible repeat (first | apply Kd.R_alloc | apply Kd.R_drewN | apply Kd.R_drew)); exact HO478.out))) (below_size (by repeat (first | (with_reducible first | exact HB.out | apply below_alloc | apply pw_below_drewN | apply below_drew1) | exact HB.out)))); have n6_ := Aside0.mk (below_step (by repeat (first | (with_reducible first | exact HB.out | apply below_alloc | apply pw_below_drewN | apply below_drew1) | exact HB.out)) hb); clear HO464; clear HO467; clear HO470; clear HO474; clear HO478; clear HB; have HO464 := n0_; have HO467 := n1_; have HO470 := n2_; have HO474 := n3_; have HO478 := n4_; have HO481 := n5_; have HB := n6_; clear n0_ n1_ n2_ n3_ n4_ n5_ n6_; clear hb ho28; obtain ⟨Ao29, co29, eo29⟩ := Kd.R_slice HO478.out; subst eo29; obtain ⟨Ao30, co30, eo30⟩ := Kd.R_slice HO481.out; subst eo30) | (go_at_call 23; (with_reducible refine (bywashref01_Ints.calls k _ _ t476 _ _ y479 t482 _ ?side1 ?side2 ?side3 ?side4 A7.out).mono ?_); (case side1 => repeat (first | exact (Kd.R_reads' HO478.out).2.2 | (with_reducible refine Kd.C_alloc ?_ _) | (with_reducible refine Kd.C_drewN ?_ _) | (with_reducible refine Kd.C_drew ?_))); (case side2 => exact (Kd.R_reads' HO478.out).2.1); (case side3 => repeat (first | exact (Kd.R_reads' HO481.out).2.2 | (with_reducible refine Kd.C_alloc ?_ _) | (with_reducible refine Kd.C_drewN ?_ _) | (with_reducible refine Kd.C_drew ?_))); (case side4 => exact (Kd.R_reads' HO481.out).2.1); rintro e w' ⟨rfl, ⟨nd, rfl⟩⟩))
      go_ret
      exact ⟨by first | rfl | (simp [errW_none, errW_some] <;> rfl) | (simp [*, errW_none, errW_some] <;> rfl) | (exfalso; (try simp_all); (try omega); done), by repeat (first | (with_reducible first | exact HB.out | apply below_alloc | apply pw_below_drewN | apply below_drew1) | exact HB.out)⟩
    · replace c5 := Bool.eq_false_iff.mpr c5
      subst c5
      have H1 : (some false) = some r := by rw [if_neg (show ¬ (false = true) by decide)] at H; exact H
      clear H
      have H := H1
      clear H1
      obtain rfl := Option.some.inj H
      go_enter Try.func44, Try.ntmps44
      go_wp2_with (first | ((with_reducible refine gate_dst (N := 2) rfl ?_); (try (refine gate_guard (by rfl) ?_; dsimp only)); refine Kd.R_lit (Kd.int .i64) _ 3 ?hg (N := 2) ?hd (xs := ([1, 2] : List Int)) (inner := [.int .i64 1, .int .i64 2]) (ok := fun _ => True) (okp := fun _ => True) ?hr ?hp (fun _ hk => hk) trivial (Below.refl _ _) (Nat.le_refl _) (by simp) ?_; (case hd => rfl); (case hg => rfl); (case hr => first | (go_simp; done) | (go_simp; rfl)); (case hp => exact (Reps.one (show Kd.M (Kd.int .i64) _ _ _ 1 [.int .i64 1] from rfl) (Reps.one (show Kd.M (Kd.int .i64) _ _ _ 2 [.int .i64 2] from rfl) (Reps.none _ _)))); intro v457 w31 ho32 hb hg_ hnew_; clear hg_ hnew_; (first | rw [← Ny456.out] at ho32 | (simp only [Int.reduceToNat] at ho32; rw [← Ny456.out] at ho32)); have n0_ := Aside0.mk (Kd.R_lower ho32 (below_size (by repeat (first | (with_reducible first | exact HB.out | apply below_alloc | apply pw_below_drewN | apply below_drew1) | exact HB.out)))); have n1_ := Aside0.mk (below_step (by repeat (first | (with_reducible first | exact HB.out | apply below_alloc | apply pw_below_drewN | apply below_drew1) | exact HB.out)) hb); clear HB; have HO458 := n0_; have HB := n1_; clear n0_ n1_; clear hb ho32) | ((with_reducible refine gate_dst (N := 3) rfl ?_); (try (refine gate_guard (by rfl) ?_; dsimp only)); refine Kd.R_lit (Kd.int .i64) _ 3 ?hg (N := 3) ?hd (xs := ([2] : List Int)) (inner := [.int .i64 2]) (ok := fun _ => True) (okp := fun _ => True) ?hr ?hp (fun _ hk => hk) trivial (Below.refl _ _) (Nat.le_refl _) (by simp) ?_; (case hd => rfl); (case hg => rfl); (case hr => first | (go_simp; done) | (go_simp; rfl)); (case hp => exact (Reps.one (show Kd.M (Kd.int .i64) _ _ _ 2 [.int .i64 2] from rfl) (Reps.none _ _))); intro v460 w33 ho34 hb hg_ hnew_; clear hg_ hnew_; (first | rw [← Ny459.out] at ho34 | (simp only [Int.reduceToNat] at ho34; rw [← Ny459.out] at ho34)); have n0_ := Aside0.mk (Kd.R_elder' (by (with_reducible repeat (first | apply Kd.R_alloc | apply Kd.R_drewN | apply Kd.R_drew)); exact HO458.out) (Kd.R_base ho34) hb); have n1_ := Aside0.mk (Kd.R_lower (Kd.R_new' ho34 (Kd.R_lt (by (with_reducible repeat (first | apply Kd.R_alloc | apply Kd.R_drewN | apply Kd.R_drew)); exact HO458.out))) (below_size (by repeat (first | (with_reducible first | exact HB.out | apply below_alloc | apply pw_below_drewN | apply below_drew1) | exact HB.out)))); have n2_ := Aside0.mk (below_step (by repeat (first | (with_reducible first | exact HB.out | apply below_alloc | apply pw_below_drewN | apply below_drew1) | exact HB.out)) hb); clear HO458; clear HB; have HO458 := n0_; have HO461 := n1_; have HB := n2_; clear n0_ n1_ n2_; clear hb ho34; obtain ⟨Ao35, co35, eo35⟩ := Kd.R_slice HO458.out; subst eo35; obtain ⟨Ao36, co36, eo36⟩ := Kd.R_slice HO461.out; subst eo36) | ((with_reducible refine gate_dst (N := 4) rfl ?_); (try (refine gate_guard (by rfl) ?_; dsimp only)); refine Kd.N_lit (Kd.slice 3 (Kd.int .i64)) _ 32 ?hg (N' := 4) ?hd (xs := ([y456, y459, []] : List (List Int))) (inner := [.slice Ao35 y456.length co35, .slice Ao36 y459.length co36, .slice none 0 0]) (ok := (fun _ => True)) (okp := (fun _ => True)) ?hr ?hp (fun _ hk => hk) ((show ∀ k_, w33.heap.size ≤ k_ → (fun _ => True) k_ from fun k_ hk => trivial) _ (Nat.le_refl _)) (Below.refl _ _) (Nat.le_refl _) (by simp) ?_; (case hd => rfl); (case hg => rfl); (case hr => first | (go_simp; done) | (go_simp; rfl)); (case hp => exact (Reps.one (show Kd.FK (Kd.slice 3 (Kd.int .i64)) _ _ y456 [.slice Ao35 y456.length co35] from (Kd.FK_slice_mk (Kd.R_reads' (Kd.R_mono (ok' := (fun _ => True)) (HO458.out) (fun k_ hk => trivial))).2.1 (Kd.R_F (Kd.R_mono (ok' := (fun _ => True)) (HO458.out) (fun k_ hk => trivial))))) (Reps.one (show Kd.FK (Kd.slice 3 (Kd.int .i64)) _ _ y459 [.slice Ao36 y459.length co36] from (Kd.FK_slice_mk (Kd.R_reads' (Kd.R_mono (ok' := (fun _ => True)) (HO461.out) (fun k_ hk => trivial))).2.1 (Kd.R_F (Kd.R_mono (ok' := (fun _ => True)) (HO461.out) (fun k_ hk => trivial))))) (Reps.one (show Kd.FK (Kd.slice 3 (Kd.int .i64)) _ _ [] [.slice none 0 0] from (Kd.FK_slice_mk (Nat.le_refl _) (Kd.F_nil _ _ _))) (Reps.none _ _))))); intro v463 w37 ho38 hb hg_ hnew_; clear hg_ hnew_; (first | rw [← Ny462.out] at ho38 | (simp only [Int.reduceToNat] at ho38; rw [← Ny462.out] at ho38)); have n0_ := Aside0.mk (Kd.N_lower ho38 (below_size (by repeat (first | (with_reducible first | exact HB.out | apply below_alloc | apply pw_below_drewN | apply below_drew1) | exact HB.out)))); have n1_ := Aside0.mk (below_step (by repeat (first | (with_reducible first | exact HB.out | apply below_alloc | apply pw_below_drewN | apply below_drew1) | exact HB.out)) hb); clear HB; clear HO458; clear HO461; have HO464 := n0_; have HB := n1_; clear n0_ n1_; clear hb ho38; obtain ⟨Ao39, co39, eo39⟩ := Kd.N_slice HO464.out; subst eo39) | ((with_reducible refine gate_callee (f := 46) rfl ?_); refine goesL_ (some 6) rfl rfl Try.func46 (by kernel_rfl) rfl #[.slice Ao39 y462.length co39] rfl (by (try simp only [List.map_toArray, List.map_cons, List.map_nil]); first | done | rfl | (simp only [List.length_drop, List.length_take]; rfl)) ?_; (with_reducible refine (rank_Ranks.calls k _ _ y462 t465 _ ?side1 ?side2 A1.out).mono ?_); (case side1 => repeat (first | exact (Kd.N_reads' HO464.out).2.2 | (with_reducible refine Kd.C_alloc ?_ _) | (with_reducible refine Kd.C_drewN ?_ _) | (with_reducible refine Kd.C_drew ?_))); (case side2 => exact (Kd.N_reads' HO464.out).2.1); rintro e w40 ⟨v466, rfl, ho0, hb⟩; refine ⟨_, rfl, ?_⟩; have n0_ := Aside0.mk (Kd.N_elder' (by (with_reducible repeat (first | apply Kd.N_alloc | apply Kd.N_drewN | apply Kd.N_drew)); exact HO464.out) (Kd.R_base ho0) hb); have n1_ := Aside0.mk (Kd.R_lower ho0 (below_size (by repeat (first | (with_reducible first | exact HB.out | apply below_alloc | apply pw_below_drewN | apply below_drew1) | exact HB.out)))); have n2_ := Aside0.mk (below_step (by repeat (first | (with_reducible first | exact HB.out | apply below_alloc | apply pw_below_drewN | apply below_drew1) | exact HB.out)) hb); clear HO464; clear HB; have HO464 := n0_; have HO467 := n1_; have HB := n2_; clear n0_ n1_ n2_; (try clear hb); (try clear hb2); (try clear hk); (try clear hi); (try clear ho0)) | ((with_reducible refine gate_dst (N := 7) rfl ?_); (try (refine gate_guard (by rfl) ?_; dsimp only)); refine Kd.R_lit (Kd.int .i64) _ 3 ?hg (N := 7) ?hd (xs := ([0, 1, 2] : List Int)) (inner := [.int .i64 0, .int .i64 1, .int .i64 2]) (ok := fun _ => True) (okp := fun _ => True) ?hr ?hp (fun _ hk => hk) trivial (Below.refl _ _) (Nat.le_refl _) (by simp) ?_; (case hd => rfl); (case hg => rfl); (case hr => first | (go_simp; done) | (go_simp; rfl)); (case hp => exact (Reps.one (show Kd.M (Kd.int .i64) _ _ _ 0 [.int .i64 0] from rfl) (Reps.one (show Kd.M (Kd.int .i64) _ _ _ 1 [.int .i64 1] from rfl) (Reps.one (show Kd.M (Kd.int .i64) _ _ _ 2 [.int .i64 2] from rfl) (Reps.none _ _))))); intro v469 w41 ho42 hb hg_ hnew_; clear hg_ hnew_; (first | rw [← Ny468.out] at ho42 | (simp only [Int.reduceToNat] at ho42; rw [← Ny468.out] at ho42)); have n0_ := Aside0.mk (Kd.N_elder' (by (with_reducible repeat (first | apply Kd.N_alloc | apply Kd.N_drewN | apply Kd.N_drew)); exact HO464.out) (Kd.R_base ho42) hb); have n1_ := Aside0.mk (Kd.R_elder' (by (with_reducible repeat (first | apply Kd.R_alloc | apply Kd.R_drewN | apply Kd.R_drew)); exact HO467.out) (Kd.R_base ho42) hb); have n2_ := Aside0.mk (Kd.R_lower (Kd.R_new' ho42 (Kd.R_lt (by (with_reducible repeat (first | apply Kd.R_alloc | apply Kd.R_drewN | apply Kd.R_drew)); exact HO467.out))) (below_size (by repeat (first | (with_reducible first | exact HB.out | apply below_alloc | apply pw_below_drewN | apply below_drew1) | exact HB.out)))); have n3_ := Aside0.mk (below_step (by repeat (first | (with_reducible first | exact HB.out | apply below_alloc | apply pw_below_drewN | apply below_drew1) | exact HB.out)) hb); clear HO464; clear HO467; clear HB; have HO464 := n0_; have HO467 := n1_; have HO470 := n2_; have HB := n3_; clear n0_ n1_ n2_ n3_; clear hb ho42; obtain ⟨Ao43, co43, eo43⟩ := Kd.R_slice HO467.out; subst eo43; obtain ⟨Ao44, co44, eo44⟩ := Kd.R_slice HO470.out; subst eo44) | ((with_reducible refine gate_callee (f := 23) rfl ?_); refine goesL_ (some 8) rfl rfl Try.func23 (by kernel_rfl) rfl #[.slice Ao43 t465.length co43, .slice Ao44 y468.length co44] rfl (by (try simp only [List.map_toArray, List.map_cons, List.map_nil]); first | done | rfl | (simp only [List.length_drop, List.length_take]; rfl)) ?_; (with_reducible refine (bywashref01_Ints.calls k _ _ t465 _ _ y468 true _ ?side1 ?side2 ?side3 ?side4 A2.out).mono ?_); (case side1 => repeat (first | exact (Kd.R_reads' HO467.out).2.2 | (with_reducible refine Kd.C_alloc ?_ _) | (with_reducible refine Kd.C_drewN ?_ _) | (with_reducible refine Kd.C_drew ?_))); (case side2 => exact (Kd.R_reads' HO467.out).2.1); (case side3 => repeat (first | exact (Kd.R_reads' HO470.out).2.2 | (with_reducible refine Kd.C_alloc ?_ _) | (with_reducible refine Kd.C_drewN ?_ _) | (with_reducible refine Kd.C_drew ?_))); (case side4 => exact (Kd.R_reads' HO470.out).2.1); rintro e w' ⟨rfl, ⟨nd, rfl⟩⟩; refine ⟨_, rfl, ?_⟩) | ((with_reducible refine gate_dst (N := 11) rfl ?_); (try (refine gate_guard (by rfl) ?_; dsimp only)); refine Kd.R_lit (Kd.int .i64) _ 3 ?hg (N := 11) ?hd (xs := ([0, 1, 2] : List Int)) (inner := [.int .i64 0, .int .i64 1, .int .i64 2]) (ok := fun _ => True) (okp := fun _ => True) ?hr ?hp (fun _ hk => hk) trivial (Below.refl _ _) (Nat.le_refl _) (by simp) ?_; (case hd => rfl); (case hg => rfl); (case hr => first | (go_simp; done) | (go_simp; rfl)); (case hp => exact (Reps.one (show Kd.M (Kd.int .i64) _ _ _ 0 [.int .i64 0] from rfl) (Reps.one (show Kd.M (Kd.int .i64) _ _ _ 1 [.int .i64 1] from rfl) (Reps.one (show Kd.M (Kd.int .i64) _ _ _ 2 [.int .i64 2] from rfl) (Reps.none _ _))))); intro v473 w45 ho46 hb hg_ hnew_; clear hg_ hnew_; (first | rw [← Ny472.out] at ho46 | (simp only [Int.reduceToNat] at ho46; rw [← Ny472.out] at ho46)); have n0_ := Aside0.mk (Kd.N_elder' (by (with_reducible repeat (first | apply Kd.N_alloc | apply Kd.N_drewN | apply Kd.N_drew)); exact HO464.out) (Kd.R_base ho46) hb); have n1_ := Aside0.mk (Kd.R_elder' (by (with_reducible repeat (first | apply Kd.R_alloc | apply Kd.R_drewN | apply Kd.R_drew)); exact HO467.out) (Kd.R_base ho46) hb); have n2_ := Aside0.mk (Kd.R_elder' (by (with_reducible repeat (first | apply Kd.R_alloc | apply Kd.R_drewN | apply Kd.R_drew)); exact HO470.out) (Kd.R_base ho46) hb); have n3_ := Aside0.mk (Kd.R_lower (Kd.R_new' (Kd.R_new' ho46 (Kd.R_lt (by (with_reducible repeat (first | apply Kd.R_alloc | apply Kd.R_drewN | apply Kd.R_drew)); exact HO467.out))) (Kd.R_lt (by (with_reducible repeat (first | apply Kd.R_alloc | apply Kd.R_drewN | apply Kd.R_drew)); exact HO470.out))) (below_size (by repeat (first | (with_reducible first | exact HB.out | apply below_alloc | apply pw_below_drewN | apply below_drew1) | exact HB.out)))); have n4_ := Aside0.mk (below_step (by repeat (first | (with_reducible first | exact HB.out | apply below_alloc | apply pw_below_drewN | apply below_drew1) | exact HB.out)) hb); clear HO464; clear HO467; clear HO470; clear HB; have HO464 := n0_; have HO467 := n1_; have HO470 := n2_; have HO474 := n3_; have HB := n4_; clear n0_ n1_ n2_ n3_ n4_; clear hb ho46; obtain ⟨Ao47, co47, eo47⟩ := Kd.R_slice HO474.out; subst eo47) | (go_at_call 49; (with_reducible refine (rank_Sound.calls _ _ y462 _ _ y472 false _ ?side1 ?side2 ?side3 ?side4 A4.out).mono ?_); (case side1 => repeat (first | exact (Kd.N_reads' HO464.out).2.2 | (with_reducible refine Kd.C_alloc ?_ _) | (with_reducible refine Kd.C_drewN ?_ _) | (with_reducible refine Kd.C_drew ?_))); (case side2 => exact (Kd.N_reads' HO464.out).2.1); (case side3 => repeat (first | exact (Kd.R_reads' HO474.out).2.2 | (with_reducible refine Kd.C_alloc ?_ _) | (with_reducible refine Kd.C_drewN ?_ _) | (with_reducible refine Kd.C_drew ?_))); (case side4 => exact (Kd.R_reads' HO474.out).2.1); rintro e w48 ⟨rfl, hb⟩; have n0_ := Aside0.mk (Kd.N_below (by (with_reducible repeat (first | apply Kd.N_alloc | apply Kd.N_drewN | apply Kd.N_drew)); exact HO464.out) hb); have n1_ := Aside0.mk (Kd.R_below (by (with_reducible repeat (first | apply Kd.R_alloc | apply Kd.R_drewN | apply Kd.R_drew)); exact HO467.out) hb); have n2_ := Aside0.mk (Kd.R_below (by (with_reducible repeat (first | apply Kd.R_alloc | apply Kd.R_drewN | apply Kd.R_drew)); exact HO470.out) hb); have n3_ := Aside0.mk (Kd.R_below (by (with_reducible repeat (first | apply Kd.R_alloc | apply Kd.R_drewN | apply Kd.R_drew)); exact HO474.out) hb); have n4_ := Aside0.mk (below_step (by repeat (first | (with_reducible first | exact HB.out | apply below_alloc | apply pw_below_drewN | apply below_drew1) | exact HB.out)) hb); clear HO464; clear HO467; clear HO470; clear HO474; clear HB; have HO464 := n0_; have HO467 := n1_; have HO470 := n2_; have HO474 := n3_; have HB := n4_; clear n0_ n1_ n2_ n3_ n4_; (try clear hb); (try clear hb2); (try clear hk); (try clear hi)))
      go_ret
      exact ⟨by first | rfl | (simp [errW_none, errW_some] <;> rfl) | (simp [*, errW_none, errW_some] <;> rfl) | (exfalso; (try simp_all); (try omega); done), by repeat (first | (with_reducible first | exact HB.out | apply below_alloc | apply pw_below_drewN | apply below_drew1) | exact HB.out)⟩
  · replace c3 := Bool.eq_false_iff.mpr c3
    subst c3
    have H1 : (some false) = some r := by rw [if_neg (show ¬ (false = true) by decide)] at H; exact H
    clear H
    have H := H1
    clear H1
    obtain rfl := Option.some.inj H
    go_enter Try.func44, Try.ntmps44
    go_wp2_with (first | ((with_reducible refine gate_dst (N := 2) rfl ?_); (try (refine gate_guard (by rfl) ?_; dsimp only)); refine Kd.R_lit (Kd.int .i64) _ 3 ?hg (N := 2) ?hd (xs := ([1, 2] : List Int)) (inner := [.int .i64 1, .int .i64 2]) (ok := fun _ => True) (okp := fun _ => True) ?hr ?hp (fun _ hk => hk) trivial (Below.refl _ _) (Nat.le_refl _) (by simp) ?_; (case hd => rfl); (case hg => rfl); (case hr => first | (go_simp; done) | (go_simp; rfl)); (case hp => exact (Reps.one (show Kd.M (Kd.int .i64) _ _ _ 1 [.int .i64 1] from rfl) (Reps.one (show Kd.M (Kd.int .i64) _ _ _ 2 [.int .i64 2] from rfl) (Reps.none _ _)))); intro v457 w49 ho50 hb hg_ hnew_; clear hg_ hnew_; (first | rw [← Ny456.out] at ho50 | (simp only [Int.reduceToNat] at ho50; rw [← Ny456.out] at ho50)); have n0_ := Aside0.mk (Kd.R_lower ho50 (below_size (by repeat (first | (with_reducible first | exact HB.out | apply below_alloc | apply pw_below_drewN | apply below_drew1) | exact HB.out)))); have n1_ := Aside0.mk (below_step (by repeat (first | (with_reducible first | exact HB.out | apply below_alloc | apply pw_below_drewN | apply below_drew1) | exact HB.out)) hb); clear HB; have HO458 := n0_; have HB := n1_; clear n0_ n1_; clear hb ho50) | ((with_reducible refine gate_dst (N := 3) rfl ?_); (try (refine gate_guard (by rfl) ?_; dsimp only)); refine Kd.R_lit (Kd.int .i64) _ 3 ?hg (N := 3) ?hd (xs := ([2] : List Int)) (inner := [.int .i64 2]) (ok := fun _ => True) (okp := fun _ => True) ?hr ?hp (fun _ hk => hk) trivial (Below.refl _ _) (Nat.le_refl _) (by simp) ?_; (case hd => rfl); (case hg => rfl); (case hr => first | (go_simp; done) | (go_simp; rfl)); (case hp => exact (Reps.one (show Kd.M (Kd.int .i64) _ _ _ 2 [.int .i64 2] from rfl) (Reps.none _ _))); intro v460 w51 ho52 hb hg_ hnew_; clear hg_ hnew_; (first | rw [← Ny459.out] at ho52 | (simp only [Int.reduceToNat] at ho52; rw [← Ny459.out] at ho52)); have n0_ := Aside0.mk (Kd.R_elder' (by (with_reducible repeat (first | apply Kd.R_alloc | apply Kd.R_drewN | apply Kd.R_drew)); exact HO458.out) (Kd.R_base ho52) hb); have n1_ := Aside0.mk (Kd.R_lower (Kd.R_new' ho52 (Kd.R_lt (by (with_reducible repeat (first | apply Kd.R_alloc | apply Kd.R_drewN | apply Kd.R_drew)); exact HO458.out))) (below_size (by repeat (first | (with_reducible first | exact HB.out | apply below_alloc | apply pw_below_drewN | apply below_drew1) | exact HB.out)))); have n2_ := Aside0.mk (below_step (by repeat (first | (with_reducible first | exact HB.out | apply below_alloc | apply pw_below_drewN | apply below_drew1) | exact HB.out)) hb); clear HO458; clear HB; have HO458 := n0_; have HO461 := n1_; have HB := n2_; clear n0_ n1_ n2_; clear hb ho52; obtain ⟨Ao53, co53, eo53⟩ := Kd.R_slice HO458.out; subst eo53; obtain ⟨Ao54, co54, eo54⟩ := Kd.R_slice HO461.out; subst eo54) | ((with_reducible refine gate_dst (N := 4) rfl ?_); (try (refine gate_guard (by rfl) ?_; dsimp only)); refine Kd.N_lit (Kd.slice 3 (Kd.int .i64)) _ 32 ?hg (N' := 4) ?hd (xs := ([y456, y459, []] : List (List Int))) (inner := [.slice Ao53 y456.length co53, .slice Ao54 y459.length co54, .slice none 0 0]) (ok := (fun _ => True)) (okp := (fun _ => True)) ?hr ?hp (fun _ hk => hk) ((show ∀ k_, w51.heap.size ≤ k_ → (fun _ => True) k_ from fun k_ hk => trivial) _ (Nat.le_refl _)) (Below.refl _ _) (Nat.le_refl _) (by simp) ?_; (case hd => rfl); (case hg => rfl); (case hr => first | (go_simp; done) | (go_simp; rfl)); (case hp => exact (Reps.one (show Kd.FK (Kd.slice 3 (Kd.int .i64)) _ _ y456 [.slice Ao53 y456.length co53] from (Kd.FK_slice_mk (Kd.R_reads' (Kd.R_mono (ok' := (fun _ => True)) (HO458.out) (fun k_ hk => trivial))).2.1 (Kd.R_F (Kd.R_mono (ok' := (fun _ => True)) (HO458.out) (fun k_ hk => trivial))))) (Reps.one (show Kd.FK (Kd.slice 3 (Kd.int .i64)) _ _ y459 [.slice Ao54 y459.length co54] from (Kd.FK_slice_mk (Kd.R_reads' (Kd.R_mono (ok' := (fun _ => True)) (HO461.out) (fun k_ hk => trivial))).2.1 (Kd.R_F (Kd.R_mono (ok' := (fun _ => True)) (HO461.out) (fun k_ hk => trivial))))) (Reps.one (show Kd.FK (Kd.slice 3 (Kd.int .i64)) _ _ [] [.slice none 0 0] from (Kd.FK_slice_mk (Nat.le_refl _) (Kd.F_nil _ _ _))) (Reps.none _ _))))); intro v463 w55 ho56 hb hg_ hnew_; clear hg_ hnew_; (first | rw [← Ny462.out] at ho56 | (simp only [Int.reduceToNat] at ho56; rw [← Ny462.out] at ho56)); have n0_ := Aside0.mk (Kd.N_lower ho56 (below_size (by repeat (first | (with_reducible first | exact HB.out | apply below_alloc | apply pw_below_drewN | apply below_drew1) | exact HB.out)))); have n1_ := Aside0.mk (below_step (by repeat (first | (with_reducible first | exact HB.out | apply below_alloc | apply pw_below_drewN | apply below_drew1) | exact HB.out)) hb); clear HB; clear HO458; clear HO461; have HO464 := n0_; have HB := n1_; clear n0_ n1_; clear hb ho56; obtain ⟨Ao57, co57, eo57⟩ := Kd.N_slice HO464.out; subst eo57) | ((with_reducible refine gate_callee (f := 46) rfl ?_); refine goesL_ (some 6) rfl rfl Try.func46 (by kernel_rfl) rfl #[.slice Ao57 y462.length co57] rfl (by (try simp only [List.map_toArray, List.map_cons, List.map_nil]); first | done | rfl | (simp only [List.length_drop, List.length_take]; rfl)) ?_; (with_reducible refine (rank_Ranks.calls k _ _ y462 t465 _ ?side1 ?side2 A1.out).mono ?_); (case side1 => repeat (first | exact (Kd.N_reads' HO464.out).2.2 | (with_reducible refine Kd.C_alloc ?_ _) | (with_reducible refine Kd.C_drewN ?_ _) | (with_reducible refine Kd.C_drew ?_))); (case side2 => exact (Kd.N_reads' HO464.out).2.1); rintro e w58 ⟨v466, rfl, ho0, hb⟩; refine ⟨_, rfl, ?_⟩; have n0_ := Aside0.mk (Kd.N_elder' (by (with_reducible repeat (first | apply Kd.N_alloc | apply Kd.N_drewN | apply Kd.N_drew)); exact HO464.out) (Kd.R_base ho0) hb); have n1_ := Aside0.mk (Kd.R_lower ho0 (below_size (by repeat (first | (with_reducible first | exact HB.out | apply below_alloc | apply pw_below_drewN | apply below_drew1) | exact HB.out)))); have n2_ := Aside0.mk (below_step (by repeat (first | (with_reducible first | exact HB.out | apply below_alloc | apply pw_below_drewN | apply below_drew1) | exact HB.out)) hb); clear HO464; clear HB; have HO464 := n0_; have HO467 := n1_; have HB := n2_; clear n0_ n1_ n2_; (try clear hb); (try clear hb2); (try clear hk); (try clear hi); (try clear ho0)) | ((with_reducible refine gate_dst (N := 7) rfl ?_); (try (refine gate_guard (by rfl) ?_; dsimp only)); refine Kd.R_lit (Kd.int .i64) _ 3 ?hg (N := 7) ?hd (xs := ([0, 1, 2] : List Int)) (inner := [.int .i64 0, .int .i64 1, .int .i64 2]) (ok := fun _ => True) (okp := fun _ => True) ?hr ?hp (fun _ hk => hk) trivial (Below.refl _ _) (Nat.le_refl _) (by simp) ?_; (case hd => rfl); (case hg => rfl); (case hr => first | (go_simp; done) | (go_simp; rfl)); (case hp => exact (Reps.one (show Kd.M (Kd.int .i64) _ _ _ 0 [.int .i64 0] from rfl) (Reps.one (show Kd.M (Kd.int .i64) _ _ _ 1 [.int .i64 1] from rfl) (Reps.one (show Kd.M (Kd.int .i64) _ _ _ 2 [.int .i64 2] from rfl) (Reps.none _ _))))); intro v469 w59 ho60 hb hg_ hnew_; clear hg_ hnew_; (first | rw [← Ny468.out] at ho60 | (simp only [Int.reduceToNat] at ho60; rw [← Ny468.out] at ho60)); have n0_ := Aside0.mk (Kd.N_elder' (by (with_reducible repeat (first | apply Kd.N_alloc | apply Kd.N_drewN | apply Kd.N_drew)); exact HO464.out) (Kd.R_base ho60) hb); have n1_ := Aside0.mk (Kd.R_elder' (by (with_reducible repeat (first | apply Kd.R_alloc | apply Kd.R_drewN | apply Kd.R_drew)); exact HO467.out) (Kd.R_base ho60) hb); have n2_ := Aside0.mk (Kd.R_lower (Kd.R_new' ho60 (Kd.R_lt (by (with_reducible repeat (first | apply Kd.R_alloc | apply Kd.R_drewN | apply Kd.R_drew)); exact HO467.out))) (below_size (by repeat (first | (with_reducible first | exact HB.out | apply below_alloc | apply pw_below_drewN | apply below_drew1) | exact HB.out)))); have n3_ := Aside0.mk (below_step (by repeat (first | (with_reducible first | exact HB.out | apply below_alloc | apply pw_below_drewN | apply below_drew1) | exact HB.out)) hb); clear HO464; clear HO467; clear HB; have HO464 := n0_; have HO467 := n1_; have HO470 := n2_; have HB := n3_; clear n0_ n1_ n2_ n3_; clear hb ho60; obtain ⟨Ao61, co61, eo61⟩ := Kd.R_slice HO467.out; subst eo61; obtain ⟨Ao62, co62, eo62⟩ := Kd.R_slice HO470.out; subst eo62) | ((with_reducible refine gate_callee (f := 23) rfl ?_); refine goesL_ (some 8) rfl rfl Try.func23 (by kernel_rfl) rfl #[.slice Ao61 t465.length co61, .slice Ao62 y468.length co62] rfl (by (try simp only [List.map_toArray, List.map_cons, List.map_nil]); first | done | rfl | (simp only [List.length_drop, List.length_take]; rfl)) ?_; (with_reducible refine (bywashref01_Ints.calls k _ _ t465 _ _ y468 false _ ?side1 ?side2 ?side3 ?side4 A2.out).mono ?_); (case side1 => repeat (first | exact (Kd.R_reads' HO467.out).2.2 | (with_reducible refine Kd.C_alloc ?_ _) | (with_reducible refine Kd.C_drewN ?_ _) | (with_reducible refine Kd.C_drew ?_))); (case side2 => exact (Kd.R_reads' HO467.out).2.1); (case side3 => repeat (first | exact (Kd.R_reads' HO470.out).2.2 | (with_reducible refine Kd.C_alloc ?_ _) | (with_reducible refine Kd.C_drewN ?_ _) | (with_reducible refine Kd.C_drew ?_))); (case side4 => exact (Kd.R_reads' HO470.out).2.1); rintro e w' ⟨rfl, ⟨nd, rfl⟩⟩; refine ⟨_, rfl, ?_⟩))
    go_ret
    exact ⟨by first | rfl | (simp [errW_none, errW_some] <;> rfl) | (simp [*, errW_none, errW_some] <;> rfl) | (exfalso; (try simp_all); (try omega); done), by repeat (first | (with_reducible first | exact HB.out | apply below_alloc | apply pw_below_drewN | apply below_drew1) | exact HB.out)⟩
end Go.Proofs.Ytdknhgbjgdmfkaa.P
namespace Go.Proofs.Ytdknhgbjgdmfkaa.P
open Go.RowKit Go.Lib Go.Proofs.YtdknhgbjgdmfkaaW.PrintWords Go.Proofs.YtdknhgbjgdmfkaaW.PrintMore
theorem wrap_small {x : Int} (h : -1000000000 ≤ x ∧ x ≤ 1000000000) : wrap64 x = x := by
  unfold wrap64
  omega
theorem mx_max (a b : Int) : mx a b = max a b := by
  unfold mx
  split <;> omega
def RankQ (c : List (List Int)) (F : Nat → Option (List Int)) : Prop := ∃ o, o.length = c.length ∧ IsRank c (rd o) ∧ (∀ b, Node c b → 0 ≤ rd o b ∧ rd o b ≤ (c.length : Int)) ∧ Ev F o
section
variable {c : List (List Int)}
theorem RankQ.step {g f : Nat → Option (List Int)} (h : ∀ k, g (k + 1) = f k) (q : RankQ c f) : RankQ c g := by
  obtain ⟨o, h1, h2, h3, h4⟩ := q
  exact ⟨o, h1, h2, h3, Ev.step h h4⟩
theorem row_short (hd : Dag c) (a : Int) : (row c a).length ≤ c.length := few_nodes (row_nodup hd.rows a) (fun _ hx => row_node hd.v hx)
theorem of_l4 (hd : Dag c) (hn : c.length ≤ 900) {D o0 l0 f0 : List Int} {a : Int} (hk : KI c D o0 l0 (a :: f0))
    (hend : ∀ o l f, KR c a (row c a) o0 l0 f0 o l f → RankQ c (fun k => rank_of.l3 k c o l f)) :
    ∀ d j : Nat, j + d = (row c a).length → ∀ o l f, KR c a ((row c a).take j) o0 l0 f0 o l f → RankQ c (fun k => rank_of.l4 k c o l f a (row c a) ((row c a).length : Int) (j : Int))
  | 0, j, hj, o, l, f, h => by
    refine RankQ.step (f := fun k => rank_of.l3 k c o l f) (fun k => by rw [rank_of.l4, if_neg (by omega)]) ?_
    refine hend o l f ?_
    rwa [List.take_of_length_le (by omega)] at h
  | d + 1, j, hj, o, l, f, h => by
    have hjl : j < (row c a).length := by omega
    obtain ⟨y, ey⟩ : ∃ y, y = (row c a)[j] := ⟨_, rfl⟩
    have hy : y ∈ row c a := ey ▸ List.getElem_mem hjl
    have hyN := row_node hd.v hy
    have haN := (hk.fm a).1 List.mem_cons_self
    have hnd := row_nodup hd.rows a
    have htk : (row c a).take (j + 1) = (row c a).take j ++ [y] := by rw [ey, List.take_succ_eq_append_getElem hjl]
    have hyt : ¬ y ∈ (row c a).take j := fun hm => by
      have h1 : ((row c a).take (j + 1)).Nodup := hnd.sublist (List.take_sublist _ _)
      rw [htk, List.nodup_append] at h1
      exact h1.2.2 y hm y (by simp) rfl
    have hat : ¬ a ∈ (row c a).take j := fun hm => hd.none a a haN.1.1 (List.mem_of_mem_take hm) (.refl a)
    have hya : y ≠ a := fun e => hd.none a a haN.1.1 (e ▸ hy) (.refl a)
    have oy : rd o y = rd o0 y := by rw [h.ov y hyN, if_neg hyt]
    have oa : rd o a = rd o0 a := by rw [h.ov a haN.1, if_neg hat]
    have ly : rd l y = rd l0 y := by rw [h.lv y hyN, if_neg hyt]
    have b1 := hk.ob a haN.1
    have b2 := hk.len
    have b3 := hk.lv y hyN
    have b4 := inC_le (c := c) D y
    have b5 := row_short hd a
    have b6 : f.length ≤ 2000 := by
      rw [h.fv, List.length_append]
      have h1 : (a :: f0).length ≤ c.length := few_nodes hk.fn (fun x hx => ((hk.fm x).1 hx).1)
      have h2 := List.length_filter_le (fun b => decide (rd l0 b = 1)) ((row c a).take j)
      rw [List.length_take] at h2
      rw [List.length_cons] at h1
      omega
    have w1 : wrap64 (rd o a + 1) = rd o0 a + 1 := by rw [oa]; exact wrap_small (by omega)
    have w2 : wrap64 (rd l y - 1) = rd l0 y - 1 := by rw [ly]; exact wrap_small (by omega)
    obtain ⟨o', eo⟩ : ∃ o', o' = o.set y.toNat (max (rd o0 y) (rd o0 a + 1)) := ⟨_, rfl⟩
    obtain ⟨l', el⟩ : ∃ l', l' = l.set y.toNat (rd l0 y - 1) := ⟨_, rfl⟩
    have hol := h.ol
    have hll := h.ll
    have hyo : 0 ≤ y ∧ y < (o.length : Int) := by rw [hol]; exact hyN
    have hyl : 0 ≤ y ∧ y < (l.length : Int) := by rw [hll]; exact hyN
    have ly' : rd l' y = rd l0 y - 1 := by rw [el, rd_set _ hyl hyN.1, if_pos rfl]
    have hKR : KR c a ((row c a).take (j + 1)) o0 l0 f0 o' l' (if rd l0 y = 1 then f ++ [y] else f) := by
      refine ⟨by rw [eo, List.length_set]; exact hol, by rw [el, List.length_set]; exact hll, fun x hx => ?_, fun x hx => ?_, ?_⟩
      · rw [eo, rd_set _ hyo hx.1, htk, h.ov x hx]
        by_cases e : x = y
        · subst e
          simp
        · simp [e]
      · rw [el, rd_set _ hyl hx.1, htk, h.lv x hx]
        by_cases e : x = y
        · subst e
          simp
        · simp [e]
      · rw [htk, List.filter_append, ← List.append_assoc, ← h.fv]
        by_cases e : rd l0 y = 1
        · simp [e]
        · simp [e]
    have ih := of_l4 hd hn hk hend d (j + 1) (by omega) o' l' _ hKR
    have hry : rd (row c a) (j : Int) = y := by rw [rd_nat' hjl, ey]
    have hyN2 := hyN.2
    have hyN1 := hyN.1
    have haN1 := haN.1.1
    have haN2 := haN.1.2
    by_cases e : rd l0 y = 1
    · rw [if_pos e] at ih
      refine RankQ.step (fun k => ?_) ih
      rw [rank_of.l4, if_pos (by omega), if_pos (by omega), if_pos (by omega), hry, if_pos hyN1, if_pos (by omega), if_pos haN1, if_pos (by omega), Option.bind_some, if_pos (by omega), Option.bind_some, w1, w2, mx_max, oy, ← eo, ← el, ly', if_pos (by omega), if_pos (by omega), wrap_succ (by omega)]
    · rw [if_neg e] at ih
      refine RankQ.step (fun k => ?_) ih
      rw [rank_of.l4, if_pos (by omega), if_pos (by omega), if_pos (by omega), hry, if_pos hyN1, if_pos (by omega), if_pos haN1, if_pos (by omega), Option.bind_some, if_pos (by omega), Option.bind_some, w1, w2, mx_max, oy, ← eo, ← el, ly', if_neg (by omega), wrap_succ (by omega)]
theorem of_l3 (hd : Dag c) (hn : c.length ≤ 900) : ∀ (m : Nat) (D o l f : List Int), KI c D o l f → D.length + m = c.length → RankQ c (fun k => rank_of.l3 k c o l f) := by
  intro m
  induction m with
  | zero =>
    intro D o l f h hm
    cases f with
    | nil =>
      refine RankQ.step (f := fun _ => some o) (fun k => by rw [rank_of.l3, if_neg (by simp)]) ?_
      obtain ⟨h1, h2⟩ := h.done hd
      exact ⟨o, h.ol, h1, h2, Ev.now _⟩
    | cons a f =>
      exfalso
      obtain ⟨ha, haD, _⟩ := (h.fm a).1 List.mem_cons_self
      have := few_nodes (n := c.length) (List.nodup_cons.2 ⟨haD, h.dn⟩) (fun x hx => (List.mem_cons.1 hx).elim (fun e => e ▸ ha) (h.dN x))
      rw [List.length_cons] at this
      omega
  | succ m ih =>
    intro D o l f h hm
    cases f with
    | nil =>
      refine RankQ.step (f := fun _ => some o) (fun k => by rw [rank_of.l3, if_neg (by simp)]) ?_
      obtain ⟨h1, h2⟩ := h.done hd
      exact ⟨o, h.ol, h1, h2, Ev.now _⟩
    | cons a f =>
      obtain ⟨ha, haD, _⟩ := (h.fm a).1 List.mem_cons_self
      have ha1 := ha.1
      have ha2 := ha.2
      have h4 := of_l4 hd hn h (fun o2 l2 f2 hk => ih (a :: D) o2 l2 f2 (h.step hd hk) (by rw [List.length_cons]; omega)) (row c a).length 0 (by omega) o l f (by
        refine ⟨h.ol, h.ll, fun x _ => by simp, fun x _ => by simp, by simp⟩)
      refine RankQ.step (fun k => ?_) h4
      rw [rank_of.l3, if_pos (by rw [List.length_cons]; omega), if_pos (by rw [List.length_cons]; omega), if_pos (by rw [List.length_cons]; omega), show rd (a :: f) 0 = a from rfl, if_pos ha1, if_pos ha2]
      rfl
def CL (c : List (List Int)) (i : Nat) (p l : List Int) : Prop := l.length = c.length ∧ ∀ b, Node c b → rd l b = ((nodes i).countP (fun a => decide (b ∈ row c a)) : Int) + (if b ∈ p then 1 else 0)
theorem countP_nodes_le (i : Nat) (p : Int → Bool) : (nodes i).countP p ≤ i := by
  have := List.countP_le_length (p := p) (l := nodes i)
  rwa [nodes_len] at this
theorem CL.next {i : Nat} {l : List Int} (h : CL c i (row c (i : Int)) l) : CL c (i + 1) [] l := by
  refine ⟨h.1, fun b hb => ?_⟩
  rw [h.2 b hb, nodes_snoc, List.countP_append]
  by_cases e : b ∈ row c (i : Int) <;> simp [e]
theorem CL.put (hd : Dag c) {i j : Nat} {l : List Int} (hj : j < (row c (i : Int)).length) (h : CL c i ((row c (i : Int)).take j) l) : CL c i ((row c (i : Int)).take (j + 1)) (l.set ((row c (i : Int))[j]).toNat (rd l (row c (i : Int))[j] + 1)) := by
  obtain ⟨y, ey⟩ : ∃ y, y = (row c (i : Int))[j] := ⟨_, rfl⟩
  rw [← ey]
  have hyN := row_node hd.v (ey ▸ List.getElem_mem hj : y ∈ row c (i : Int))
  have htk : (row c (i : Int)).take (j + 1) = (row c (i : Int)).take j ++ [y] := by rw [ey, List.take_succ_eq_append_getElem hj]
  have hyt : ¬ y ∈ (row c (i : Int)).take j := fun hm => by
    have h1 : ((row c (i : Int)).take (j + 1)).Nodup := (row_nodup hd.rows _).sublist (List.take_sublist _ _)
    rw [htk, List.nodup_append] at h1
    exact h1.2.2 y hm y (by simp) rfl
  refine ⟨by rw [List.length_set]; exact h.1, fun b hb => ?_⟩
  rw [rd_set _ (by rw [h.1]; exact hyN) hb.1, htk, h.2 b hb, h.2 y hyN, if_neg hyt]
  by_cases e : b = y
  · subst e
    simp [hyt]
  · simp [e]
theorem of_l1 (hd : Dag c) (hn : c.length ≤ 900) (o : List Int) {i : Nat} (hi : i < c.length) (hend : ∀ l, CL c (i + 1) [] l → RankQ c (fun k => rank_of.l0 k c o l c (c.length : Int) ((i + 1 : Nat) : Int))) :
    ∀ d j : Nat, j + d = (row c (i : Int)).length → ∀ l, CL c i ((row c (i : Int)).take j) l → RankQ c (fun k => rank_of.l1 k c o l c (c.length : Int) (i : Int) (row c (i : Int)) ((row c (i : Int)).length : Int) (j : Int))
  | 0, j, hj, l, h => by
    rw [List.take_of_length_le (by omega)] at h
    refine RankQ.step (fun k => ?_) (hend l h.next)
    rw [rank_of.l1, if_neg (by omega), wrap_succ (by omega)]
  | d + 1, j, hj, l, h => by
    have hjl : j < (row c (i : Int)).length := by omega
    have b5 := row_short hd (i : Int)
    have ih := of_l1 hd hn o hi hend d (j + 1) (by omega) _ (h.put hd hjl)
    have hyN := row_node hd.v (List.getElem_mem hjl)
    have hyN1 := hyN.1
    have hyN2 := hyN.2
    have hll := h.1
    have hv := h.2 _ hyN
    have hc := countP_nodes_le i (fun a => decide ((row c (i : Int))[j] ∈ row c a))
    have hw : wrap64 (rd l (row c (i : Int))[j] + 1) = rd l (row c (i : Int))[j] + 1 := wrap_small (by
      rw [hv]
      split <;> omega)
    refine RankQ.step (fun k => ?_) ih
    rw [rank_of.l1, if_pos (by omega), if_pos (by omega), if_pos (by omega), rd_nat' hjl, if_pos hyN1, if_pos (by omega), hw, wrap_succ (by omega)]
theorem of_l2 (hd : Dag c) (hn : c.length ≤ 900) {o l : List Int} (hl : l.length = c.length) (hend : RankQ c (fun k => rank_of.l3 k c o l ((nodes c.length).filter fun b => decide (rd l b = 0)))) :
    ∀ d i : Nat, i + d = c.length → RankQ c (fun k => rank_of.l2 k c o l ((nodes i).filter fun b => decide (rd l b = 0)) l (l.length : Int) (i : Int))
  | 0, i, hi => by
    obtain rfl : i = c.length := by omega
    refine RankQ.step (fun k => ?_) hend
    rw [rank_of.l2, if_neg (by omega)]
  | d + 1, i, hi => by
    have ih := of_l2 hd hn hl hend d (i + 1) (by omega)
    rw [nodes_snoc, List.filter_append, List.filter_cons, List.filter_nil] at ih
    have hle := List.length_filter_le (fun b => decide (rd l b = 0)) (nodes i)
    rw [nodes_len] at hle
    by_cases e : rd l (i : Int) = 0
    · rw [if_pos (decide_eq_true e)] at ih
      refine RankQ.step (fun k => ?_) ih
      rw [rank_of.l2, if_pos (by omega), if_pos (by omega), if_pos (by omega), if_pos e, if_pos (by omega), wrap_succ (by omega)]
    · rw [if_neg (by simp [e]), List.append_nil] at ih
      refine RankQ.step (fun k => ?_) ih
      rw [rank_of.l2, if_pos (by omega), if_pos (by omega), if_pos (by omega), if_neg e, wrap_succ (by omega)]
theorem of_l0 (hd : Dag c) (hn : c.length ≤ 900) {o : List Int} (hend : ∀ l, CL c c.length [] l → RankQ c (fun k => rank_of.l2 k c o l [] l (l.length : Int) 0)) :
    ∀ d i : Nat, i + d = c.length → ∀ l, CL c i [] l → RankQ c (fun k => rank_of.l0 k c o l c (c.length : Int) (i : Int))
  | 0, i, hi, l, h => by
    obtain rfl : i = c.length := by omega
    refine RankQ.step (fun k => ?_) (hend l h)
    rw [rank_of.l0, if_neg (by omega)]
  | d + 1, i, hi, l, h => by
    have hi' : i < c.length := by omega
    refine RankQ.step (fun k => ?_) (of_l1 hd hn o hi' (fun l2 h2 => of_l0 hd hn hend d (i + 1) (by omega) l2 h2) (row c (i : Int)).length 0 (by omega) l (by rw [List.take_zero]; exact h))
    rw [rank_of.l0, if_pos (by omega), if_pos (by omega), if_pos (by omega)]
    rfl
theorem rank_of_ev (hd : Dag c) (hn : c.length ≤ 900) : RankQ c (fun k => rank_of.f k c) := by
  have h := of_l0 hd hn (o := List.replicate c.length 0) (fun l hl => by
    have hl2 : ∀ b, Node c b → rd l b = (inC c [] b : Int) := fun b hb => by
      rw [hl.2 b hb, if_neg (by simp), Int.add_zero]
      unfold inC
      congr 1
    have := of_l2 hd hn (o := List.replicate c.length 0) hl.1 (of_l3 hd hn c.length [] _ l _ (KI.start hl.1 hl2) (by simp)) c.length 0 (by omega)
    simpa [nodes] using this) c.length 0 (by omega) (List.replicate c.length 0) ⟨by simp, fun b hb => by
      have hz : rd (List.replicate c.length 0) b = 0 := by
        unfold rd
        rw [List.getD_eq_getElem?_getD, List.getElem?_replicate]
        split <;> rfl
      rw [hz]
      simp [nodes]⟩
  obtain ⟨o, h1, h2, h3, h4⟩ := h
  refine ⟨o, h1, h2, h3, Ev.congr (fun k => ?_) h4⟩
  unfold rank_of.f
  rw [if_pos (by omega), if_pos (by omega), Int.toNat_natCast]
  rfl
end
end Go.Proofs.Ytdknhgbjgdmfkaa.P
namespace Go.Proofs.Ytdknhgbjgdmfkaa.P
open Go.RowKit Go.Lib Go.Proofs.YtdknhgbjgdmfkaaW.PrintWords
theorem shrRow_longer {inn : List Int} {a : Int} {L : Nat} : ∀ (l : List Int) (o : List (List Int)) (b : Nat), l.length ≤ L → NoLonger o b → NoLonger (l.foldl (shrStep inn a) o) (b + l.length) := by
  intro l
  induction l with
  | nil => intro o b _ h; exact h
  | cons x l ih =>
    intro o b hl h
    rw [List.foldl_cons, List.length_cons]
    have := ih (shrStep inn a o x) (b + 1) (by rw [List.length_cons] at hl; omega) h.shr
    rwa [show b + 1 + l.length = b + (l.length + 1) by omega] at this
theorem shrSo_longer {m L : Nat} {inn : List Int} {c : List (List Int)} (hL : ∀ l ∈ c, l.length ≤ L) : ∀ k, k ≤ c.length → NoLonger (shrSo m inn c k) (k * L)
  | 0, _ => fun j => by
    rw [shrSo]
    simp [List.getD_eq_getElem?_getD, List.getElem?_replicate]
    split <;> simp
  | k + 1, hk => by
    have hg : (c.getD k []).length ≤ L := by
      rw [List.getD_eq_getElem?_getD, List.getElem?_eq_getElem (by omega)]
      exact hL _ (List.getElem_mem _)
    intro j
    rw [shrSo]
    have := shrRow_longer (inn := inn) (a := (k : Int)) (c.getD k []) _ _ hg (shrSo_longer (m := m) (inn := inn) hL k (by omega)) j
    rw [Nat.succ_mul]
    omega
theorem shrink_now {g : List (List Int)} (h : few g = true) : scc_Shrink.f g = some (shr (clean g), inB (clean g)) := by
  have hf := few_fits h
  have hl := (few_iff.1 h).2
  have h2 : fits (shrB (clean g)) = true := by
    have hs : (shrB (clean g)).length ≤ 40 := by
      unfold shrB
      rw [shrSo_len]
      have := (parts_small hf).2.2.2.1
      omega
    unfold fits
    rw [Bool.and_eq_true, decide_eq_true_iff, List.all_eq_true]
    refine ⟨by omega, fun l hl' => decide_eq_true ?_⟩
    obtain ⟨j, hj, rfl⟩ := List.getElem_of_mem hl'
    have := shrSo_longer (m := (partsB (clean g)).length) (inn := inB (clean g)) (c := clean g) (L := 40) (fun l hl => by have := clean_row_le l hl; omega) (clean g).length (Nat.le_refl _) j
    rw [clean_len] at this
    have e : ((shrB (clean g)).getD j []) = (shrB (clean g))[j] := by rw [List.getD_eq_getElem?_getD, List.getElem?_eq_getElem hj]; rfl
    rw [← e]
    have h3 : (shrSo (partsB (clean g)).length (inB (clean g)) (clean g) g.length) = shrB (clean g) := by unfold shrB; rw [clean_len]
    rw [h3] at this
    have h4 : g.length * 40 ≤ 1600 := Nat.mul_le_mul_right 40 hl
    omega
  unfold scc_Shrink.f
  rw [if_pos hf, if_pos h2]
  rfl
theorem shr_small {g : List (List Int)} (h : few g = true) : Small (shr (clean g)) ∧ (shr (clean g)).length ≤ g.length := by
  have hf := few_fits h
  have hl := (few_iff.1 h).2
  have := (parts_small hf).2.2.2.1
  refine ⟨small_of shr_Valid shr_rises (by rw [shr_len]; omega), by rw [shr_len]; exact this⟩
theorem inB_len {c : List (List Int)} : (inB c).length = c.length := by unfold inB; rw [inSo_len]
end Go.Proofs.Ytdknhgbjgdmfkaa.P
namespace Go.Proofs.Ytdknhgbjgdmfkaa.P
open Go.RowKit Go.Lib Go.Proofs.YtdknhgbjgdmfkaaW.PrintWords Go.Proofs.YtdknhgbjgdmfkaaW.PrintMore
section
variable {c : List (List Int)}
theorem shr_Dag (hv : Valid c) : Dag (shr c) := ⟨shr_Valid, shr_rises, fun _ _ hx hy => shr_none hv hx hy⟩
structure Rk (c : List (List Int)) (r : List Int) : Prop where
  len : r.length = c.length
  isr : ∃ o : List Int, IsRank (shr c) (rd o) ∧ (∀ b, Node (shr c) b → 0 ≤ rd o b ∧ rd o b ≤ ((shr c).length : Int)) ∧ ∀ a, Node c a → rd r a = rd o (rd (inB c) a)
variable {r : List Int}
theorem Rk.bound (hv : Valid c) (h : Rk c r) {a : Int} (ha : Node c a) : 0 ≤ rd r a ∧ rd r a ≤ (c.length : Int) := by
  obtain ⟨o, h1, h2, h3⟩ := h.isr
  rw [h3 a ha]
  have h4 := h2 _ (node_shr.2 (inB_range hv ha))
  have h5 : (shr c).length ≤ c.length := by
    rw [shr_len]
    unfold partsB
    rw [List.length_map]
    refine Nat.le_trans (List.length_filter_le _ _) ?_
    rw [nodes_len]
    exact Nat.le_refl _
  omega
theorem Rk.same (hv : Valid c) (h : Rk c r) {a b : Int} (ha : Node c a) (hb : Node c b) (h1 : Way c a b) (h2 : Way c b a) : rd r a = rd r b := by
  obtain ⟨o, _, _, h3⟩ := h.isr
  rw [h3 a ha, h3 b hb, (inB_eq hv ha hb).2 ⟨h1, h2⟩]
theorem Rk.rise (hv : Valid c) (h : Rk c r) {a b : Int} (ha : Node c a) (hb : b ∈ row c a) (hn : ¬ Way c b a) : rd r a + 1 ≤ rd r b := by
  obtain ⟨o, h1, _, h3⟩ := h.isr
  have hbN := row_node hv hb
  rw [h3 a ha, h3 b hbN]
  have hne : rd (inB c) a ≠ rd (inB c) b := fun e => hn ((inB_eq hv ha hbN).1 e).2
  have hr := inB_range hv ha
  exact h1.rise _ _ (node_shr.2 hr) ((mem_shr hv hr.1).2 ⟨a, ha, b, hb, rfl, rfl, hne⟩)
theorem Rk.edge (hv : Valid c) (h : Rk c r) {a b : Int} (ha : Node c a) (hb : b ∈ row c a) : rd r a ≤ rd r b := by
  by_cases e : Way c b a
  · exact Int.le_of_eq (h.same hv ha (row_node hv hb) (.edge hb) e)
  · have := h.rise hv ha hb e
    omega
theorem Rk.way (hv : Valid c) (h : Rk c r) {a b : Int} (hw : Way c a b) : Node c a → rd r a ≤ rd r b := by
  induction hw with
  | refl => exact fun _ => Int.le_refl _
  | step hx _ ih => exact fun ha => Int.le_trans (h.edge hv ha hx) (ih (row_node hv hx))
theorem Rk.from_ (hv : Valid c) (h : Rk c r) {b : Int} (hb : Node c b) : rd r b = 0 ∨ ∃ a d, Node c a ∧ d ∈ row c a ∧ Way c b d ∧ Way c d b ∧ ¬ Way c d a ∧ rd r b = rd r a + 1 := by
  obtain ⟨o, h1, _, h3⟩ := h.isr
  rcases h1.from_ _ (node_shr.2 (inB_range hv hb)) with e | ⟨x, hx, hxb, e⟩
  · exact .inl (by rw [h3 b hb, e])
  · obtain ⟨a, ha, d, hd, e1, e2, e3⟩ := (mem_shr hv hx.1).1 hxb
    have hdN := row_node hv hd
    obtain ⟨w1, w2⟩ := (inB_eq hv hdN hb).1 e2
    refine .inr ⟨a, d, ha, hd, w2, w1, fun hw => e3 ?_, by rw [h3 b hb, h3 a ha, e1]; exact e⟩
    rw [← e1, ← e2]
    exact (inB_eq hv ha hdN).2 ⟨.edge hd, hw⟩
theorem Rk.below (hv : Valid c) (h : Rk c r) {k : Nat} : ∀ {m : Nat} {b : Int}, Node c b → rd r b = (m : Int) → k ≤ m → ∃ a, Node c a ∧ rd r a = (k : Int) := by
  intro m
  induction m with
  | zero => intro b hb e hk; exact ⟨b, hb, by rw [e]; omega⟩
  | succ m ih =>
    intro b hb e hk
    by_cases hkm : k = m + 1
    · exact ⟨b, hb, by rw [e, hkm]⟩
    · rcases h.from_ hv hb with e0 | ⟨a, d, ha, _, _, _, _, e1⟩
      · omega
      · exact ih ha (by omega) (by omega)
end
theorem nodes_put {α : Type} (f : Int → α) (z : α) {n i : Nat} (h : i < n) : ((nodes i).map f ++ List.replicate (n - i) z).set i (f (i : Int)) = (nodes (i + 1)).map f ++ List.replicate (n - (i + 1)) z := by
  rw [List.set_append_right _ _ (by rw [List.length_map, nodes_len]; exact Nat.le_refl _), List.length_map, nodes_len, Nat.sub_self, show n - i = (n - (i + 1)) + 1 from by omega, List.replicate_succ, List.set_cons_zero, nodes_snoc, List.map_append, List.append_assoc]
  rfl
theorem ranks_l0 {o inn : List Int} {n : Nat} (hl : inn.length = n) (hn : n ≤ 900) (hi : ∀ a, 0 ≤ a → a < (n : Int) → 0 ≤ rd inn a ∧ rd inn a < (o.length : Int)) :
    ∀ d i : Nat, i + d = n → Ev (fun k => rank_Ranks.l0 k o ((nodes i).map (fun a => rd o (rd inn a)) ++ List.replicate (n - i) 0) inn (inn.length : Int) (i : Int)) ((nodes n).map (fun a => rd o (rd inn a)))
  | 0, i, hd => by
    obtain rfl : i = n := by omega
    refine Ev.step (f := fun _ => some ((nodes i).map (fun a => rd o (rd inn a)))) (fun k => ?_) (Ev.now _)
    rw [rank_Ranks.l0, if_neg (by omega), Nat.sub_self, List.replicate_zero, List.append_nil]
  | d + 1, i, hd => by
    have h1 := hi (i : Int) (by omega) (by omega)
    have hlen : ((nodes i).map (fun a => rd o (rd inn a)) ++ List.replicate (n - i) (0 : Int)).length = n := by
      rw [List.length_append, List.length_map, nodes_len, List.length_replicate]
      omega
    have ih := ranks_l0 hl hn hi d (i + 1) (by omega)
    rw [← nodes_put (fun a => rd o (rd inn a)) (0 : Int) (by omega)] at ih
    refine Ev.step (fun k => ?_) ih
    rw [rank_Ranks.l0, if_pos (by omega), if_pos (by omega), if_pos (by omega), if_pos h1.1, if_pos h1.2, if_pos (by rw [hlen]; omega), wrap_succ (by omega), Int.toNat_natCast]
theorem ranks_ev {g : List (List Int)} (h : few g = true) : ∃ r, Ev (fun k => rank_Ranks.f k g) r ∧ Rk (clean g) r ∧ r.length = g.length := by
  have hv := clean_Valid g
  obtain ⟨hs, hle⟩ := shr_small h
  have hn := hs.2
  have hg := (few_iff.1 h).2
  obtain ⟨o, h1, h2, h3, h4⟩ := rank_of_ev (shr_Dag hv) hn
  have hl : (inB (clean g)).length = g.length := by rw [inB_len, clean_len]
  refine ⟨(nodes g.length).map (fun a => rd o (rd (inB (clean g)) a)), ?_, ⟨by rw [List.length_map, nodes_len, clean_len], o, h2, h3, fun a ha => ?_⟩, by rw [List.length_map, nodes_len]⟩
  · have h5 := ranks_l0 (o := o) hl (by omega) (fun a ha0 ha1 => by
      have := inB_range hv (a := a) ⟨ha0, by rw [clean_len]; exact ha1⟩
      rw [h1, shr_len]
      exact this) g.length 0 (by omega)
    refine Ev.congr (f := fun k => (rank_of.f k (shr (clean g))).bind fun t => rank_Ranks.l0 k t ((nodes 0).map (fun a => rd t (rd (inB (clean g)) a)) ++ List.replicate (g.length - 0) 0) (inB (clean g)) ((inB (clean g)).length : Int) ((0 : Nat) : Int)) (fun k => ?_) (Ev.bind h4 h5)
    unfold rank_Ranks.f
    rw [shrink_now h, Option.bind_some]
    congr 1
    funext t
    rw [if_pos (by omega), if_pos (by omega), Int.toNat_natCast]
    rfl
  · have ha2 : a.toNat < g.length := by
      have := ha.1
      have := ha.2
      rw [clean_len] at this
      omega
    have := nodes_map_get (0 : Int) (fun a => rd o (rd (inB (clean g)) a)) ha2
    unfold rd at this ⊢
    rw [this, Int.toNat_of_nonneg ha.1]
end Go.Proofs.Ytdknhgbjgdmfkaa.P
namespace Go.Proofs.Ytdknhgbjgdmfkaa.P
open Go.RowKit Go.Lib Go.Proofs.YtdknhgbjgdmfkaaW.PrintWords Go.Proofs.YtdknhgbjgdmfkaaW.PrintMore
theorem placesB_len (l : List Int) (n : Nat) : (placesB l n).length = n := by
  unfold placesB
  rw [places_len]
  simp
theorem places_so {l : List Int} {n : Nat} {a : Int} (h0 : 0 ≤ a) (h1 : a < (n : Int)) : ∀ m, m ≤ l.length →
    (rd ((down (pairOf l) l.length m).foldl (placeStep n) (List.replicate n (-1))) a = -1 ∧ (∀ k, l.length - m ≤ k → k < l.length → l.getD k 0 ≠ a)) ∨
    ∃ k, l.length - m ≤ k ∧ k < l.length ∧ l.getD k 0 = a ∧ (∀ j, l.length - m ≤ j → j < k → l.getD j 0 ≠ a) ∧ rd ((down (pairOf l) l.length m).foldl (placeStep n) (List.replicate n (-1))) a = (k : Int)
  | 0, _ => .inl ⟨by
      unfold down rd
      rw [List.range_zero, List.map_nil, List.foldl_nil, List.getD_eq_getElem?_getD, List.getElem?_replicate, if_pos (by omega)]
      rfl, fun k h2 h3 => by omega⟩
  | m + 1, hm => by
    have ih := places_so (l := l) h0 h1 m (by omega)
    obtain ⟨cur, ec⟩ : ∃ cur, cur = (down (pairOf l) l.length m).foldl (placeStep n) (List.replicate n (-1)) := ⟨_, rfl⟩
    have hcl : cur.length = n := by rw [ec, places_len, List.length_replicate]
    rw [down_succ, List.foldl_append, List.foldl_cons, List.foldl_nil, ← ec]
    rw [← ec] at ih
    obtain ⟨q, eq⟩ : ∃ q, q = l.length - 1 - m := ⟨_, rfl⟩
    have hq : l.length - (m + 1) = q := by omega
    have hq2 : l.length - m = q + 1 := by omega
    rw [← eq, hq]
    rw [hq2] at ih
    unfold placeStep pairOf
    simp only
    by_cases e : l.getD q 0 = a
    · rw [e, if_pos ⟨h0, h1⟩, rd_set _ (by omega) h0, if_pos rfl]
      exact .inr ⟨q, Nat.le_refl _, by omega, e, fun j h2 h3 => by omega, rfl⟩
    · have hsame : rd (if 0 ≤ l.getD q 0 ∧ l.getD q 0 < (n : Int) then cur.set (l.getD q 0).toNat (q : Int) else cur) a = rd cur a := by
        split
        · rename_i hc
          rw [rd_set _ (by rw [hcl]; exact hc) h0, if_neg (fun h => e h.symm)]
        · rfl
      rw [hsame]
      rcases ih with ⟨h2, h3⟩ | ⟨k, h2, h3, h4, h5, h6⟩
      · exact .inl ⟨h2, fun k hk hkl => if ek : k = q then ek ▸ e else h3 k (by omega) hkl⟩
      · exact .inr ⟨k, by omega, h3, h4, fun j hj hjk => if ek : j = q then ek ▸ e else h5 j (by omega) hjk, h6⟩
theorem places_get {l : List Int} {n : Nat} {a : Int} (h0 : 0 ≤ a) (h1 : a < (n : Int)) : (rd (placesB l n) a = -1 ∧ ¬ a ∈ l) ∨ ∃ k, k < l.length ∧ l.getD k 0 = a ∧ (∀ j, j < k → l.getD j 0 ≠ a) ∧ rd (placesB l n) a = (k : Int) := by
  rcases places_so (l := l) h0 h1 l.length (Nat.le_refl _) with ⟨h2, h3⟩ | ⟨k, _, h3, h4, h5, h6⟩
  · refine .inl ⟨h2, fun hm => ?_⟩
    obtain ⟨k, hk, e⟩ := List.getElem_of_mem hm
    exact h3 k (by omega) hk (by rw [List.getD_eq_getElem?_getD, List.getElem?_eq_getElem hk]; exact e)
  · exact .inr ⟨k, h3, h4, fun j hj => h5 j (by omega) hj, h6⟩
theorem order_any {g : List (List Int)} (h : Small g) (a : Int) : ∃ o, graph_Order.f g a = some o ∧ (∀ x, x ∈ o ↔ (0 ≤ a ∧ a < (g.length : Int)) ∧ Way (clean g) a x) ∧ o.Nodup ∧ ∀ x ∈ o, 0 ≤ x ∧ x < (g.length : Int) := by
  by_cases ha : 0 ≤ a ∧ a < (g.length : Int)
  · obtain ⟨o, h1, h2, h3, h4, _⟩ := order_now h ha
    exact ⟨a :: o, h1, fun x => by rw [h2]; exact ⟨fun hw => ⟨ha, hw⟩, fun hw => hw.2⟩, h3, h4⟩
  · refine ⟨[], ?_, fun x => ?_, List.nodup_nil, fun x hx => by simp at hx⟩
    · unfold graph_Order.f
      rw [if_pos h.1, told_none (fun hn => ha (clean_node.1 hn))]
      rfl
    · simp only [List.not_mem_nil, false_iff]
      exact fun hw => ha hw.1
theorem places_now {o : List Int} {n : Nat} (hn : n ≤ 900) (ho : o.length ≤ 900) : rank_places.f o (n : Int) = some (placesB o n) := by
  unfold rank_places.f
  rw [if_pos (by omega), Int.toNat_natCast]
end Go.Proofs.Ytdknhgbjgdmfkaa.P
namespace Go.Proofs.Ytdknhgbjgdmfkaa.P
open Go.RowKit Go.Lib Go.Proofs.YtdknhgbjgdmfkaaW.PrintWords Go.Proofs.YtdknhgbjgdmfkaaW.PrintMore
theorem sched_ev {g : List (List Int)} {a : Int} {rk o : List Int} (hg : g.length ≤ 900) (hr : Ev (fun k => rank_Ranks.f k g) rk) (hl : rk.length = g.length) (ho : graph_Order.f g a = some o) (hol : o.length ≤ 900)
    (hk : ((nodes g.length).map (keyAt g.length rk (placesB o g.length))).Nodup) : Ev (fun k => rank_Schedule.f k g a) (schedB g.length rk (placesB o g.length)) := by
  unfold rank_Schedule.f
  refine Ev.bind hr ?_
  rw [ho]
  simp only [Option.bind_some]
  rw [places_now hg hol]
  simp only [Option.bind_some]
  rw [if_pos ⟨hl, hk⟩]
  exact Ev.now _
def exR : List (List Int) := [[1, 2], [2], []]
theorem exR_clean : clean exR = exR := clean_self (by intro l hl; simp only [exR, List.mem_cons, List.not_mem_nil, or_false] at hl; rcases hl with rfl | rfl | rfl <;> intro b hb <;> simp at hb <;> (try rcases hb with rfl | rfl) <;> (try subst hb) <;> decide) (by decide)
theorem exR_few : few exR = true := by decide
theorem exR_row {a b : Int} (h : b ∈ row exR a) (ha : Node exR a) : (a = 0 ∧ (b = 1 ∨ b = 2)) ∨ (a = 1 ∧ b = 2) := by
  have h0 := ha.1
  have h1 := ha.2
  have h2 : a = 0 ∨ a = 1 ∨ a = 2 := by
    have : (exR.length : Int) = 3 := rfl
    omega
  rcases h2 with rfl | rfl | rfl
  · exact .inl ⟨rfl, by simpa [row, exR] using h⟩
  · exact .inr ⟨rfl, by simpa [row, exR] using h⟩
  · simp [row, exR] at h
theorem exR_way {a b : Int} (h : Way exR a b) : Node exR a → a ≤ b := by
  induction h with
  | refl => exact fun _ => Int.le_refl _
  | step hx _ ih =>
    intro ha
    have h1 := exR_row hx ha
    have h2 := ih (by rcases h1 with ⟨_, h | h⟩ | ⟨_, h⟩ <;> rw [h] <;> exact ⟨by decide, by decide⟩)
    omega
theorem exR_ranks {r : List Int} (h : Rk exR r) : r = [0, 1, 2] := by
  have hv : Valid exR := exR_clean ▸ clean_Valid exR
  have n0 : Node exR 0 := ⟨by decide, by decide⟩
  have n1 : Node exR 1 := ⟨by decide, by decide⟩
  have n2 : Node exR 2 := ⟨by decide, by decide⟩
  have hlen : r.length = 3 := h.len
  have hpre : ∀ b, Node exR b → rd r b = 0 ∨ ∃ a, Node exR a ∧ b ∈ row exR a ∧ rd r b = rd r a + 1 := fun b hb => by
    rcases h.from_ hv hb with e | ⟨a, d, ha, hd, w1, w2, _, e⟩
    · exact .inl e
    · have e1 := exR_way w1 hb
      have e2 := exR_way w2 (row_node hv hd)
      obtain rfl : b = d := by omega
      exact .inr ⟨a, ha, hd, e⟩
  have h0 : rd r 0 = 0 := by
    rcases hpre 0 n0 with e | ⟨a, ha, hd, _⟩
    · exact e
    · have := exR_row hd ha
      omega
  have up01 := h.rise hv n0 (b := 1) (by decide) (fun hw => by have := exR_way hw n1; omega)
  have up12 := h.rise hv n1 (b := 2) (by decide) (fun hw => by have := exR_way hw n2; omega)
  have h1 : rd r 1 = 1 := by
    rcases hpre 1 n1 with e | ⟨a, ha, hd, e⟩
    · omega
    · have := exR_row hd ha
      obtain rfl : a = 0 := by omega
      omega
  have h2 : rd r 2 = 2 := by
    rcases hpre 2 n2 with e | ⟨a, ha, hd, e⟩
    · omega
    · have := exR_row hd ha
      have : a = 0 ∨ a = 1 := by omega
      rcases this with rfl | rfl <;> omega
  match r, hlen with
  | [x, y, z], _ =>
    have e0 : x = 0 := h0
    have e1 : y = 1 := h1
    have e2 : z = 2 := h2
    rw [e0, e1, e2]
theorem exR_ev : Ev (fun k => rank_Ranks.f k exR) [0, 1, 2] := by
  obtain ⟨r, h1, h2, _⟩ := ranks_ev exR_few
  rw [exR_clean] at h2
  rw [← exR_ranks h2]
  exact h1
theorem awake12_ev : Ev (fun k => bywashlaw12_awake.f k) true := by
  obtain ⟨o, ho, _, hnd, hrng⟩ := order_any (few_small exR_few) 0
  have hol : o.length ≤ 900 := by
    have := few_nodes hnd hrng
    have : exR.length = 3 := rfl
    omega
  have hkey : ((nodes exR.length).map (keyAt exR.length [0, 1, 2] (placesB o exR.length))).Nodup := by
    have : (nodes exR.length).map (keyAt exR.length [0, 1, 2] (placesB o exR.length)) = [keyAt exR.length [0, 1, 2] (placesB o exR.length) 0, keyAt exR.length [0, 1, 2] (placesB o exR.length) 1, keyAt exR.length [0, 1, 2] (placesB o exR.length) 2] := rfl
    rw [this]
    unfold keyAt rd
    simp
  have hs : schedB exR.length [0, 1, 2] (placesB o exR.length) = [0, 1, 2] := by
    refine (sched_uniq (List.Perm.refl _) ?_ hkey).symm
    have : nodes exR.length = [0, 1, 2] := rfl
    rw [this]
    simp only [List.pairwise_cons, List.mem_cons, List.not_mem_nil, or_false, false_imp_iff, implies_true, List.Pairwise.nil, and_true, lex2_le]
    refine ⟨fun b hb => ?_, fun b hb => ?_⟩
    · rcases hb with rfl | rfl
      · exact .inl (show (0 : Int) < 1 from by decide)
      · exact .inl (show (0 : Int) < 2 from by decide)
    · subst hb
      exact .inl (show (1 : Int) < 2 from by decide)
  have hsch := sched_ev (g := exR) (a := 0) (by decide) exR_ev rfl ho hol hkey
  rw [hs] at hsch
  have hsound : rank_Sound.f exR [0, 1, 2] = some true := by
    unfold rank_Sound.f
    rw [if_pos (by decide), if_pos (few_fits exR_few), exR_clean]
    decide
  unfold bywashlaw12_awake.f
  simp only [Option.bind_some]
  rw [show ([([1, 2] : List Int), ([2] : List Int), []] : List (List Int)) = exR from rfl]
  refine Ev.bind exR_ev ?_
  refine Ev.bind (ints_ev _ _ (by decide)) ?_
  simp only [decide_true, if_true, hsound, Option.bind_some]
  refine Ev.bind hsch ?_
  refine Ev.bind (ints_ev _ _ (by decide)) ?_
  simp only [decide_true]
  exact Ev.now _
end Go.Proofs.Ytdknhgbjgdmfkaa.P
namespace Go.Proofs.Ytdknhgbjgdmfkaa.P
open Go.RowKit Go.Lib Go.Sort Go.Deep Go.Proofs.YtdknhgbjgdmfkaaW.PrintWords Go.Proofs.YtdknhgbjgdmfkaaW.PrintLast Go.Proofs.YtdknhgbjgdmfkaaW.PrintMore
theorem C_of_cells {w : World} {A : Option Addr} {n : Nat} {zs : List Int} (hn : n ≤ 9223372036854775807) (hl : n ≤ zs.length) (hA : A = none → zs.length = 0) (hc : ∀ a, A = some a → ∀ c, c < zs.length → w.cell? (a.add c) = some (.int .i64 (zs.getD c 0))) : dI.C w A (zs.take n).length (zs.take n) := by
  have e : (zs.take n).length = n := by rw [List.length_take]; omega
  refine ⟨rfl, by rw [e]; exact hn, fun hp => ?_⟩
  cases A with
  | none => have := hA rfl; omega
  | some a =>
    refine ⟨a, rfl, fun j p hj => ⟨[.int .i64 p], rfl, rfl, fun i u hu => ?_⟩⟩
    have hjl : j < (zs.take n).length := (List.getElem?_eq_some_iff.1 hj).1
    match i, hu with
    | 0, hu =>
      injection hu with hu
      subst hu
      have hjz : j < zs.length := by omega
      have h1 := hc a rfl j hjz
      rw [List.getElem?_take, if_pos (by omega), List.getElem?_eq_getElem hjz] at hj
      injection hj with hj
      rw [List.getD_eq_getElem?_getD, List.getElem?_eq_getElem hjz, Option.getD_some, hj] at h1
      rw [show j * dI.sz + 0 = j from by show j * 1 + 0 = j; omega]
      exact h1
    | i + 1, hu => simp at hu
theorem open_rows {H : Type} {enc : TypeId × Value → H} {P : Program} {w : World} {base : Nat} {held : Bool} {t e q : TypeId} {fuel : Nat} {a0 : Option Addr} {len cap : Nat} {x : DataW H × List MemPlace} (ht : P.underlying t = some (.slice e)) (he : P.underlying e = some (.slice q)) (hq : P.underlying q = some (.int .i64))
    (ce : P.cellsOf e = 1) (cq : P.cellsOf q = 1) (h : DataW.trod enc P w base (fun _ => true) held fuel t [.slice a0 len cap] = some x) :
    ∃ l : List (List Int), l.length = len ∧ (Kd.slice 3 (Kd.int .i64)).C w a0 l.length l ∧ l.length ≤ cap ∧ l.length ≤ 9223372036854775807 ∧ (∀ r ∈ l, r.length ≤ 9223372036854775807 ∧ ∀ y ∈ r, (Lit.int .i64 y).wf = true) := by
  rcases open_int_rows ht he hq ce cq h with ⟨hcs, _⟩ | ⟨a, len', cap', A, L, C, Z, hcs, _, hl, hm, _, hr⟩
  · simp at hcs
    obtain ⟨rfl, rfl, rfl⟩ := hcs
    exact ⟨[], rfl, ⟨rfl, by simp, fun hp => absurd hp (by simp)⟩, Nat.le_refl _, by simp, fun r hr => by simp at hr⟩
  · simp at hcs
    obtain ⟨rfl, rfl, rfl⟩ := hcs
    have hm' : cap ≤ 9223372036854775807 := hm
    have hrow : ∀ r, r < cap → dI.C w (A r) ((Z r).take (L r)).length ((Z r).take (L r)) ∧ ((Z r).take (L r)).length = L r := by
      intro r hrc
      obtain ⟨_, h2, h3, h4, _, h6, h7⟩ := hr r hrc
      have h3' : C r ≤ 9223372036854775807 := h3
      exact ⟨C_of_cells (by omega) (by omega) (fun e => by rw [h4]; exact h6 e) (fun a' ha c hc => (h7 a' ha).2 c (by omega)), by rw [List.length_take]; omega⟩
    refine ⟨(List.range len).map fun r => (Z r).take (L r), by simp, ?_, by simpa using hl, by simp; omega, ?_⟩
    · refine ⟨rfl, by simp; omega, fun hp => ⟨a, rfl, fun j p hj => ?_⟩⟩
      rw [List.getElem?_map] at hj
      have hjl : j < len := by
        rcases Nat.lt_or_ge j len with h1 | h1
        · exact h1
        · rw [List.getElem?_eq_none (by simpa using h1)] at hj
          cases hj
      rw [List.getElem?_eq_getElem (by simpa using hjl)] at hj
      simp only [List.getElem_range, Option.map_some, Option.some.injEq] at hj
      subst hj
      obtain ⟨h1, h2, _⟩ := hr j (by omega)
      obtain ⟨hc, hcl⟩ := hrow j (by omega)
      refine ⟨[.slice (A j) (L j) (C j)], rfl, ⟨A j, C j, by rw [hcl], by rw [hcl]; exact h2, hc⟩, fun i u hu => ?_⟩
      match i, hu with
      | 0, hu =>
        injection hu with hu
        subst hu
        rw [show j * (Kd.slice 3 (Kd.int .i64)).sz + 0 = j from by show j * 1 + 0 = j; omega]
        exact h1
      | i + 1, hu => simp at hu
    · intro r hrm
      rw [List.mem_map] at hrm
      obtain ⟨j, hj, rfl⟩ := hrm
      rw [List.mem_range] at hj
      obtain ⟨_, h2, h3, h4, h5, _⟩ := hr j (by omega)
      have h3' : C j ≤ 9223372036854775807 := h3
      exact ⟨by rw [(hrow j (by omega)).2]; omega, fun y hy => h5 y (List.mem_of_mem_take hy)⟩
end Go.Proofs.Ytdknhgbjgdmfkaa.P
namespace Go.Proofs.Ytdknhgbjgdmfkaa.P
open Go.RowKit Go.Lib Go.Sort Go.Deep Go.ChangeShapes Go.WideShapes Go.Proofs.YtdknhgbjgdmfkaaW.PrintWords Go.Proofs.YtdknhgbjgdmfkaaW.PrintLast Go.Proofs.YtdknhgbjgdmfkaaW.PrintMore
end Go.Proofs.Ytdknhgbjgdmfkaa.P
