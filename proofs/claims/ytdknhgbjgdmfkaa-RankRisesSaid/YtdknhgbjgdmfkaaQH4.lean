/- What the claim uses of: Pbywashlaw12 Gawake12 Gsound Hleads PlawRankRisesTF -/
import Derived.Test.YtdknhgbjgdmfkaaQH3
namespace Go.Proofs.Ytdknhgbjgdmfkaa.P
open Go.RowKit Go.Proofs.YtdknhgbjgdmfkaaW.PrintWords Go.Proofs.YtdknhgbjgdmfkaaW.PrintLast Go.Proofs.YtdknhgbjgdmfkaaW.PrintMore
attribute [local go_sem] max2_int min2_int max_two min_two max_three min_three max_four min_four
set_option linter.unusedVariables false
set_option linter.unusedSimpArgs false
def bywashlaw12_awake.f (k : Nat)  : Option (Bool) := (some (([(([1, 2] : List Int)), (([2] : List Int)), []] : List (List Int)) : List (List Int))).bind fun y462 => ((rank_Ranks.f k y462).bind fun t465 => ((bywashref01_Ints.f k t465 (([0, 1, 2] : List Int))).bind fun t471 => (if t471 = true then ((rank_Sound.f y462 (([0, 1, 2] : List Int))).bind fun t475 => (if t475 = true then ((rank_Schedule.f k y462 0).bind fun t476 => ((bywashref01_Ints.f k t476 (([0, 1, 2] : List Int))).bind fun t482 => (some t482))) else (some false))) else (some false))))
theorem bywashlaw12_awake.mono : ∀ k, LeO (bywashlaw12_awake.f k ) (bywashlaw12_awake.f (k + 1) ) := by
  intro  k
  unfold bywashlaw12_awake.f
  repeat' first
      | (with_reducible exact bywashref01_Ints.mono _ _ _)
      | (with_reducible exact rank_Ranks.mono _ _)
      | (with_reducible exact rank_Schedule.mono _ _ _)
      | (with_reducible exact LeO.refl _)
      | (with_reducible exact LeO.none _)
      | (with_reducible refine LeO.ite ?_ ?_)
      | (with_reducible refine LeO.bind ?_ (fun _ => ?_))
      | exact bywashref01_Ints.mono _ _ _
      | exact rank_Ranks.mono _ _
      | exact rank_Schedule.mono _ _ _
      | exact LeO.none _
      | refine LeO.ite ?_ ?_
      | refine LeO.bind ?_ (fun _ => ?_)
set_option maxHeartbeats 8000000 in
set_option maxRecDepth 100000 in
theorem bywashlaw12_awake.calls (k : Nat)  (r : Bool) (w : World) (h : bywashlaw12_awake.f k  = some r) :
    Calls Try.prog 44 #[] w fun e w' => e = .returned (.bool r) ∧ Below w.heap.size w w' := by
  have HB := Aside0.mk (Below.refl w.heap.size w)
  have H : ((some (([(([1, 2] : List Int)), (([2] : List Int)), []] : List (List Int)) : List (List Int))).bind fun y462 => ((rank_Ranks.f k y462).bind fun t465 => ((bywashref01_Ints.f k t465 (([0, 1, 2] : List Int))).bind fun t471 => (if t471 = true then ((rank_Sound.f y462 (([0, 1, 2] : List Int))).bind fun t475 => (if t475 = true then ((rank_Schedule.f k y462 0).bind fun t476 => ((bywashref01_Ints.f k t476 (([0, 1, 2] : List Int))).bind fun t482 => (some t482))) else (some false))) else (some false))))) = some r := h
  clear h
  obtain ⟨y456, hy456⟩ : ∃ y_ : List Int, y_ = (([1, 2] : List Int)) := ⟨_, rfl⟩
  replace H : ((some (([y456, (([2] : List Int)), []] : List (List Int)) : List (List Int))).bind fun y462 => ((rank_Ranks.f k y462).bind fun t465 => ((bywashref01_Ints.f k t465 (([0, 1, 2] : List Int))).bind fun t471 => (if t471 = true then ((rank_Sound.f y462 (([0, 1, 2] : List Int))).bind fun t475 => (if t475 = true then ((rank_Schedule.f k y462 0).bind fun t476 => ((bywashref01_Ints.f k t476 (([0, 1, 2] : List Int))).bind fun t482 => (some t482))) else (some false))) else (some false))))) = some r := by first | (rw [hy456]; with_reducible exact H) | (have H2_ := (Option.bind_some _ _).symm.trans H; rw [hy456]; with_reducible exact H2_) | (have H2_ := (Option.bind_some _ _).symm.trans H; with_reducible exact H2_) | with_reducible exact H | (rw [hy456]; exact H) | exact H
  have Ny456 := Aside0.mk hy456
  clear hy456
  obtain ⟨y459, hy459⟩ : ∃ y_ : List Int, y_ = (([2] : List Int)) := ⟨_, rfl⟩
  replace H : ((some (([y456, y459, []] : List (List Int)) : List (List Int))).bind fun y462 => ((rank_Ranks.f k y462).bind fun t465 => ((bywashref01_Ints.f k t465 (([0, 1, 2] : List Int))).bind fun t471 => (if t471 = true then ((rank_Sound.f y462 (([0, 1, 2] : List Int))).bind fun t475 => (if t475 = true then ((rank_Schedule.f k y462 0).bind fun t476 => ((bywashref01_Ints.f k t476 (([0, 1, 2] : List Int))).bind fun t482 => (some t482))) else (some false))) else (some false))))) = some r := by first | (rw [hy459]; with_reducible exact H) | (have H2_ := (Option.bind_some _ _).symm.trans H; rw [hy459]; with_reducible exact H2_) | (have H2_ := (Option.bind_some _ _).symm.trans H; with_reducible exact H2_) | with_reducible exact H | (rw [hy459]; exact H) | exact H
  have Ny459 := Aside0.mk hy459
  clear hy459
  obtain ⟨y462, hy462⟩ : ∃ y_ : List (List Int), y_ = (([y456, y459, []] : List (List Int))) := ⟨_, rfl⟩
  replace H : ((rank_Ranks.f k y462).bind fun t465 => ((bywashref01_Ints.f k t465 (([0, 1, 2] : List Int))).bind fun t471 => (if t471 = true then ((rank_Sound.f y462 (([0, 1, 2] : List Int))).bind fun t475 => (if t475 = true then ((rank_Schedule.f k y462 0).bind fun t476 => ((bywashref01_Ints.f k t476 (([0, 1, 2] : List Int))).bind fun t482 => (some t482))) else (some false))) else (some false)))) = some r := by first | (rw [hy462]; with_reducible exact H) | (have H2_ := (Option.bind_some _ _).symm.trans H; rw [hy462]; with_reducible exact H2_) | (have H2_ := (Option.bind_some _ _).symm.trans H; with_reducible exact H2_) | with_reducible exact H | (rw [hy462]; exact H) | exact H
  have Ny462 := Aside0.mk hy462
  clear hy462
  replace H := Option.bind_eq_some_iff.mp H
  obtain ⟨t465, A10, H⟩ := H
  replace H : ((bywashref01_Ints.f k t465 (([0, 1, 2] : List Int))).bind fun t471 => (if t471 = true then ((rank_Sound.f y462 (([0, 1, 2] : List Int))).bind fun t475 => (if t475 = true then ((rank_Schedule.f k y462 0).bind fun t476 => ((bywashref01_Ints.f k t476 (([0, 1, 2] : List Int))).bind fun t482 => (some t482))) else (some false))) else (some false))) = some r := H
  have A1 := Aside0.mk A10
  clear A10
  obtain ⟨y468, hy468⟩ : ∃ y_ : List Int, y_ = (([0, 1, 2] : List Int)) := ⟨_, rfl⟩
  replace H : ((bywashref01_Ints.f k t465 y468).bind fun t471 => (if t471 = true then ((rank_Sound.f y462 (([0, 1, 2] : List Int))).bind fun t475 => (if t475 = true then ((rank_Schedule.f k y462 0).bind fun t476 => ((bywashref01_Ints.f k t476 (([0, 1, 2] : List Int))).bind fun t482 => (some t482))) else (some false))) else (some false))) = some r := by first | (rw [hy468]; with_reducible exact H) | (have H2_ := (Option.bind_some _ _).symm.trans H; rw [hy468]; with_reducible exact H2_) | (have H2_ := (Option.bind_some _ _).symm.trans H; with_reducible exact H2_) | with_reducible exact H | (rw [hy468]; exact H) | exact H
  have Ny468 := Aside0.mk hy468
  clear hy468
  replace H := Option.bind_eq_some_iff.mp H
  obtain ⟨t471, A20, H⟩ := H
  replace H : (if t471 = true then ((rank_Sound.f y462 (([0, 1, 2] : List Int))).bind fun t475 => (if t475 = true then ((rank_Schedule.f k y462 0).bind fun t476 => ((bywashref01_Ints.f k t476 (([0, 1, 2] : List Int))).bind fun t482 => (some t482))) else (some false))) else (some false)) = some r := H
  have A2 := Aside0.mk A20
  clear A20
  by_cases c3 : t471 = true
  · subst c3
    have H1 : ((rank_Sound.f y462 (([0, 1, 2] : List Int))).bind fun t475 => (if t475 = true then ((rank_Schedule.f k y462 0).bind fun t476 => ((bywashref01_Ints.f k t476 (([0, 1, 2] : List Int))).bind fun t482 => (some t482))) else (some false))) = some r := by rw [if_pos rfl] at H; exact H
    clear H
    have H := H1
    clear H1
    obtain ⟨y472, hy472⟩ : ∃ y_ : List Int, y_ = (([0, 1, 2] : List Int)) := ⟨_, rfl⟩
    replace H : ((rank_Sound.f y462 y472).bind fun t475 => (if t475 = true then ((rank_Schedule.f k y462 0).bind fun t476 => ((bywashref01_Ints.f k t476 (([0, 1, 2] : List Int))).bind fun t482 => (some t482))) else (some false))) = some r := by first | (rw [hy472]; with_reducible exact H) | (have H2_ := (Option.bind_some _ _).symm.trans H; rw [hy472]; with_reducible exact H2_) | (have H2_ := (Option.bind_some _ _).symm.trans H; with_reducible exact H2_) | with_reducible exact H | (rw [hy472]; exact H) | exact H
    have Ny472 := Aside0.mk hy472
    clear hy472
    replace H := Option.bind_eq_some_iff.mp H
    obtain ⟨t475, A40, H⟩ := H
    replace H : (if t475 = true then ((rank_Schedule.f k y462 0).bind fun t476 => ((bywashref01_Ints.f k t476 (([0, 1, 2] : List Int))).bind fun t482 => (some t482))) else (some false)) = some r := H
    have A4 := Aside0.mk A40
    clear A40
    by_cases c5 : t475 = true
    · subst c5
      have H1 : ((rank_Schedule.f k y462 0).bind fun t476 => ((bywashref01_Ints.f k t476 (([0, 1, 2] : List Int))).bind fun t482 => (some t482))) = some r := by rw [if_pos rfl] at H; exact H
      clear H
      have H := H1
      clear H1
      replace H := Option.bind_eq_some_iff.mp H
      obtain ⟨t476, A60, H⟩ := H
      replace H : ((bywashref01_Ints.f k t476 (([0, 1, 2] : List Int))).bind fun t482 => (some t482)) = some r := H
      have A6 := Aside0.mk A60
      clear A60
      obtain ⟨y479, hy479⟩ : ∃ y_ : List Int, y_ = (([0, 1, 2] : List Int)) := ⟨_, rfl⟩
      replace H : ((bywashref01_Ints.f k t476 y479).bind fun t482 => (some t482)) = some r := by first | (rw [hy479]; with_reducible exact H) | (have H2_ := (Option.bind_some _ _).symm.trans H; rw [hy479]; with_reducible exact H2_) | (have H2_ := (Option.bind_some _ _).symm.trans H; with_reducible exact H2_) | with_reducible exact H | (rw [hy479]; exact H) | exact H
      have Ny479 := Aside0.mk hy479
      clear hy479
      replace H := Option.bind_eq_some_iff.mp H
      obtain ⟨t482, A70, H⟩ := H
      replace H : (some t482) = some r := H
      have A7 := Aside0.mk A70
      clear A70
      obtain rfl := Option.some.inj H
      go_enter Try.func44, Try.ntmps44
      go_wp2_with (first | ((with_reducible refine gate_dst (N := 2) rfl ?_); (try (refine gate_guard (by rfl) ?_; dsimp only)); refine Kd.R_lit (Kd.int .i64) _ 3 ?hg (N := 2) ?hd (xs := ([1, 2] : List Int)) (inner := [.int .i64 1, .int .i64 2]) (ok := fun _ => True) (okp := fun _ => True) ?hr ?hp (fun _ hk => hk) trivial (Below.refl _ _) (Nat.le_refl _) (by simp) ?_; (case hd => rfl); (case hg => rfl); (case hr => first | (go_simp; done) | (go_simp; rfl)); (case hp => exact (Reps.one (show Kd.M (Kd.int .i64) _ _ _ 1 [.int .i64 1] from rfl) (Reps.one (show Kd.M (Kd.int .i64) _ _ _ 2 [.int .i64 2] from rfl) (Reps.none _ _)))); intro v457 w8 ho9 hb hg_ hnew_; clear hg_ hnew_; (first | rw [← Ny456.out] at ho9 | (simp only [Int.reduceToNat] at ho9; rw [← Ny456.out] at ho9)); have n0_ := Aside0.mk (Kd.R_lower ho9 (below_size (by repeat (first | (with_reducible first | exact HB.out | apply below_alloc | apply pw_below_drewN | apply below_drew1) | exact HB.out)))); have n1_ := Aside0.mk (below_step (by repeat (first | (with_reducible first | exact HB.out | apply below_alloc | apply pw_below_drewN | apply below_drew1) | exact HB.out)) hb); clear HB; have HO458 := n0_; have HB := n1_; clear n0_ n1_; clear hb ho9) | ((with_reducible refine gate_dst (N := 3) rfl ?_); (try (refine gate_guard (by rfl) ?_; dsimp only)); refine Kd.R_lit (Kd.int .i64) _ 3 ?hg (N := 3) ?hd (xs := ([2] : List Int)) (inner := [.int .i64 2]) (ok := fun _ => True) (okp := fun _ => True) ?hr ?hp (fun _ hk => hk) trivial (Below.refl _ _) (Nat.le_refl _) (by simp) ?_; (case hd => rfl); (case hg => rfl); (case hr => first | (go_simp; done) | (go_simp; rfl)); (case hp => exact (Reps.one (show Kd.M (Kd.int .i64) _ _ _ 2 [.int .i64 2] from rfl) (Reps.none _ _))); intro v460 w10 ho11 hb hg_ hnew_; clear hg_ hnew_; (first | rw [← Ny459.out] at ho11 | (simp only [Int.reduceToNat] at ho11; rw [← Ny459.out] at ho11)); have n0_ := Aside0.mk (Kd.R_elder' (by (with_reducible repeat (first | apply Kd.R_alloc | apply Kd.R_drewN | apply Kd.R_drew)); exact HO458.out) (Kd.R_base ho11) hb); have n1_ := Aside0.mk (Kd.R_lower (Kd.R_new' ho11 (Kd.R_lt (by (with_reducible repeat (first | apply Kd.R_alloc | apply Kd.R_drewN | apply Kd.R_drew)); exact HO458.out))) (below_size (by repeat (first | (with_reducible first | exact HB.out | apply below_alloc | apply pw_below_drewN | apply below_drew1) | exact HB.out)))); have n2_ := Aside0.mk (below_step (by repeat (first | (with_reducible first | exact HB.out | apply below_alloc | apply pw_below_drewN | apply below_drew1) | exact HB.out)) hb); clear HO458; clear HB; have HO458 := n0_; have HO461 := n1_; have HB := n2_; clear n0_ n1_ n2_; clear hb ho11; obtain ⟨Ao12, co12, eo12⟩ := Kd.R_slice HO458.out; subst eo12; obtain ⟨Ao13, co13, eo13⟩ := Kd.R_slice HO461.out; subst eo13) | ((with_reducible refine gate_dst (N := 4) rfl ?_); (try (refine gate_guard (by rfl) ?_; dsimp only)); refine Kd.N_lit (Kd.slice 3 (Kd.int .i64)) _ 32 ?hg (N' := 4) ?hd (xs := ([y456, y459, []] : List (List Int))) (inner := [.slice Ao12 y456.length co12, .slice Ao13 y459.length co13, .slice none 0 0]) (ok := (fun _ => True)) (okp := (fun _ => True)) ?hr ?hp (fun _ hk => hk) ((show ∀ k_, w10.heap.size ≤ k_ → (fun _ => True) k_ from fun k_ hk => trivial) _ (Nat.le_refl _)) (Below.refl _ _) (Nat.le_refl _) (by simp) ?_; (case hd => rfl); (case hg => rfl); (case hr => first | (go_simp; done) | (go_simp; rfl)); (case hp => exact (Reps.one (show Kd.FK (Kd.slice 3 (Kd.int .i64)) _ _ y456 [.slice Ao12 y456.length co12] from (Kd.FK_slice_mk (Kd.R_reads' (Kd.R_mono (ok' := (fun _ => True)) (HO458.out) (fun k_ hk => trivial))).2.1 (Kd.R_F (Kd.R_mono (ok' := (fun _ => True)) (HO458.out) (fun k_ hk => trivial))))) (Reps.one (show Kd.FK (Kd.slice 3 (Kd.int .i64)) _ _ y459 [.slice Ao13 y459.length co13] from (Kd.FK_slice_mk (Kd.R_reads' (Kd.R_mono (ok' := (fun _ => True)) (HO461.out) (fun k_ hk => trivial))).2.1 (Kd.R_F (Kd.R_mono (ok' := (fun _ => True)) (HO461.out) (fun k_ hk => trivial))))) (Reps.one (show Kd.FK (Kd.slice 3 (Kd.int .i64)) _ _ [] [.slice none 0 0] from (Kd.FK_slice_mk (Nat.le_refl _) (Kd.F_nil _ _ _))) (Reps.none _ _))))); intro v463 w14 ho15 hb hg_ hnew_; clear hg_ hnew_; (first | rw [← Ny462.out] at ho15 | (simp only [Int.reduceToNat] at ho15; rw [← Ny462.out] at ho15)); have n0_ := Aside0.mk (Kd.N_lower ho15 (below_size (by repeat (first | (with_reducible first | exact HB.out | apply below_alloc | apply pw_below_drewN | apply below_drew1) | exact HB.out)))); have n1_ := Aside0.mk (below_step (by repeat (first | (with_reducible first | exact HB.out | apply below_alloc | apply pw_below_drewN | apply below_drew1) | exact HB.out)) hb); clear HB; clear HO458; clear HO461; have HO464 := n0_; have HB := n1_; clear n0_ n1_; clear hb ho15; obtain ⟨Ao16, co16, eo16⟩ := Kd.N_slice HO464.out; subst eo16) | ((with_reducible refine gate_callee (f := 46) rfl ?_); refine goesL_ (some 6) rfl rfl Try.func46 (by kernel_rfl) rfl #[.slice Ao16 y462.length co16] rfl (by (try simp only [List.map_toArray, List.map_cons, List.map_nil]); first | done | rfl | (simp only [List.length_drop, List.length_take]; rfl)) ?_; (with_reducible refine (rank_Ranks.calls k _ _ y462 t465 _ ?side1 ?side2 A1.out).mono ?_); (case side1 => repeat (first | exact (Kd.N_reads' HO464.out).2.2 | (with_reducible refine Kd.C_alloc ?_ _) | (with_reducible refine Kd.C_drewN ?_ _) | (with_reducible refine Kd.C_drew ?_))); (case side2 => exact (Kd.N_reads' HO464.out).2.1); rintro e w17 ⟨v466, rfl, ho0, hb⟩; refine ⟨_, rfl, ?_⟩; have n0_ := Aside0.mk (Kd.N_elder' (by (with_reducible repeat (first | apply Kd.N_alloc | apply Kd.N_drewN | apply Kd.N_drew)); exact HO464.out) (Kd.R_base ho0) hb); have n1_ := Aside0.mk (Kd.R_lower ho0 (below_size (by repeat (first | (with_reducible first | exact HB.out | apply below_alloc | apply pw_below_drewN | apply below_drew1) | exact HB.out)))); have n2_ := Aside0.mk (below_step (by repeat (first | (with_reducible first | exact HB.out | apply below_alloc | apply pw_below_drewN | apply below_drew1) | exact HB.out)) hb); clear HO464; clear HB; have HO464 := n0_; have HO467 := n1_; have HB := n2_; clear n0_ n1_ n2_; (try clear hb); (try clear hb2); (try clear hk); (try clear hi); (try clear ho0)) | ((with_reducible refine gate_dst (N := 7) rfl ?_); (try (refine gate_guard (by rfl) ?_; dsimp only)); refine Kd.R_lit (Kd.int .i64) _ 3 ?hg (N := 7) ?hd (xs := ([0, 1, 2] : List Int)) (inner := [.int .i64 0, .int .i64 1, .int .i64 2]) (ok := fun _ => True) (okp := fun _ => True) ?hr ?hp (fun _ hk => hk) trivial (Below.refl _ _) (Nat.le_refl _) (by simp) ?_; (case hd => rfl); (case hg => rfl); (case hr => first | (go_simp; done) | (go_simp; rfl)); (case hp => exact (Reps.one (show Kd.M (Kd.int .i64) _ _ _ 0 [.int .i64 0] from rfl) (Reps.one (show Kd.M (Kd.int .i64) _ _ _ 1 [.int .i64 1] from rfl) (Reps.one (show Kd.M (Kd.int .i64) _ _ _ 2 [.int .i64 2] from rfl) (Reps.none _ _))))); intro v469 w18 ho19 hb hg_ hnew_; clear hg_ hnew_; (first | rw [← Ny468.out] at ho19 | (simp only [Int.reduceToNat] at ho19; rw [← Ny468.out] at ho19)); have n0_ := Aside0.mk (Kd.N_elder' (by (with_reducible repeat (first | apply Kd.N_alloc | apply Kd.N_drewN | apply Kd.N_drew)); exact HO464.out) (Kd.R_base ho19) hb); have n1_ := Aside0.mk (Kd.R_elder' (by (with_reducible repeat (first | apply Kd.R_alloc | apply Kd.R_drewN | apply Kd.R_drew)); exact HO467.out) (Kd.R_base ho19) hb); have n2_ := Aside0.mk (Kd.R_lower (Kd.R_new' ho19 (Kd.R_lt (by (with_reducible repeat (first | apply Kd.R_alloc | apply Kd.R_drewN | apply Kd.R_drew)); exact HO467.out))) (below_size (by repeat (first | (with_reducible first | exact HB.out | apply below_alloc | apply pw_below_drewN | apply below_drew1) | exact HB.out)))); have n3_ := Aside0.mk (below_step (by repeat (first | (with_reducible first | exact HB.out | apply below_alloc | apply pw_below_drewN | apply below_drew1) | exact HB.out)) hb); clear HO464; clear HO467; clear HB; have HO464 := n0_; have HO467 := n1_; have HO470 := n2_; have HB := n3_; clear n0_ n1_ n2_ n3_; clear hb ho19; obtain ⟨Ao20, co20, eo20⟩ := Kd.R_slice HO467.out; subst eo20; obtain ⟨Ao21, co21, eo21⟩ := Kd.R_slice HO470.out; subst eo21) | ((with_reducible refine gate_callee (f := 23) rfl ?_); refine goesL_ (some 8) rfl rfl Try.func23 (by kernel_rfl) rfl #[.slice Ao20 t465.length co20, .slice Ao21 y468.length co21] rfl (by (try simp only [List.map_toArray, List.map_cons, List.map_nil]); first | done | rfl | (simp only [List.length_drop, List.length_take]; rfl)) ?_; (with_reducible refine (bywashref01_Ints.calls k _ _ t465 _ _ y468 true _ ?side1 ?side2 ?side3 ?side4 A2.out).mono ?_); (case side1 => repeat (first | exact (Kd.R_reads' HO467.out).2.2 | (with_reducible refine Kd.C_alloc ?_ _) | (with_reducible refine Kd.C_drewN ?_ _) | (with_reducible refine Kd.C_drew ?_))); (case side2 => exact (Kd.R_reads' HO467.out).2.1); (case side3 => repeat (first | exact (Kd.R_reads' HO470.out).2.2 | (with_reducible refine Kd.C_alloc ?_ _) | (with_reducible refine Kd.C_drewN ?_ _) | (with_reducible refine Kd.C_drew ?_))); (case side4 => exact (Kd.R_reads' HO470.out).2.1); rintro e w' ⟨rfl, ⟨nd, rfl⟩⟩; refine ⟨_, rfl, ?_⟩) | ((with_reducible refine gate_dst (N := 11) rfl ?_); (try (refine gate_guard (by rfl) ?_; dsimp only)); refine Kd.R_lit (Kd.int .i64) _ 3 ?hg (N := 11) ?hd (xs := ([0, 1, 2] : List Int)) (inner := [.int .i64 0, .int .i64 1, .int .i64 2]) (ok := fun _ => True) (okp := fun _ => True) ?hr ?hp (fun _ hk => hk) trivial (Below.refl _ _) (Nat.le_refl _) (by simp) ?_; (case hd => rfl); (case hg => rfl); (case hr => first | (go_simp; done) | (go_simp; rfl)); (case hp => exact (Reps.one (show Kd.M (Kd.int .i64) _ _ _ 0 [.int .i64 0] from rfl) (Reps.one (show Kd.M (Kd.int .i64) _ _ _ 1 [.int .i64 1] from rfl) (Reps.one (show Kd.M (Kd.int .i64) _ _ _ 2 [.int .i64 2] from rfl) (Reps.none _ _))))); intro v473 w22 ho23 hb hg_ hnew_; clear hg_ hnew_; (first | rw [← Ny472.out] at ho23 | (simp only [Int.reduceToNat] at ho23; rw [← Ny472.out] at ho23)); have n0_ := Aside0.mk (Kd.N_elder' (by (with_reducible repeat (first | apply Kd.N_alloc | apply Kd.N_drewN | apply Kd.N_drew)); exact HO464.out) (Kd.R_base ho23) hb); have n1_ := Aside0.mk (Kd.R_elder' (by (with_reducible repeat (first | apply Kd.R_alloc | apply Kd.R_drewN | apply Kd.R_drew)); exact HO467.out) (Kd.R_base ho23) hb); have n2_ := Aside0.mk (Kd.R_elder' (by (with_reducible repeat (first | apply Kd.R_alloc | apply Kd.R_drewN | apply Kd.R_drew)); exact HO470.out) (Kd.R_base ho23) hb); have n3_ := Aside0.mk (Kd.R_lower (Kd.R_new' (Kd.R_new' ho23 (Kd.R_lt (by (with_reducible repeat (first | apply Kd.R_alloc | apply Kd.R_drewN | apply Kd.R_drew)); exact HO467.out))) (Kd.R_lt (by (with_reducible repeat (first | apply Kd.R_alloc | apply Kd.R_drewN | apply Kd.R_drew)); exact HO470.out))) (below_size (by repeat (first | (with_reducible first | exact HB.out | apply below_alloc | apply pw_below_drewN | apply below_drew1) | exact HB.out)))); have n4_ := Aside0.mk (below_step (by repeat (first | (with_reducible first | exact HB.out | apply below_alloc | apply pw_below_drewN | apply below_drew1) | exact HB.out)) hb); clear HO464; clear HO467; clear HO470; clear HB; have HO464 := n0_; have HO467 := n1_; have HO470 := n2_; have HO474 := n3_; have HB := n4_; clear n0_ n1_ n2_ n3_ n4_; clear hb ho23; obtain ⟨Ao24, co24, eo24⟩ := Kd.R_slice HO474.out; subst eo24) | (go_at_call 49; (with_reducible refine (rank_Sound.calls _ _ y462 _ _ y472 true _ ?side1 ?side2 ?side3 ?side4 A4.out).mono ?_); (case side1 => repeat (first | exact (Kd.N_reads' HO464.out).2.2 | (with_reducible refine Kd.C_alloc ?_ _) | (with_reducible refine Kd.C_drewN ?_ _) | (with_reducible refine Kd.C_drew ?_))); (case side2 => exact (Kd.N_reads' HO464.out).2.1); (case side3 => repeat (first | exact (Kd.R_reads' HO474.out).2.2 | (with_reducible refine Kd.C_alloc ?_ _) | (with_reducible refine Kd.C_drewN ?_ _) | (with_reducible refine Kd.C_drew ?_))); (case side4 => exact (Kd.R_reads' HO474.out).2.1); rintro e w25 ⟨rfl, hb⟩; have n0_ := Aside0.mk (Kd.N_below (by (with_reducible repeat (first | apply Kd.N_alloc | apply Kd.N_drewN | apply Kd.N_drew)); exact HO464.out) hb); have n1_ := Aside0.mk (Kd.R_below (by (with_reducible repeat (first | apply Kd.R_alloc | apply Kd.R_drewN | apply Kd.R_drew)); exact HO467.out) hb); have n2_ := Aside0.mk (Kd.R_below (by (with_reducible repeat (first | apply Kd.R_alloc | apply Kd.R_drewN | apply Kd.R_drew)); exact HO470.out) hb); have n3_ := Aside0.mk (Kd.R_below (by (with_reducible repeat (first | apply Kd.R_alloc | apply Kd.R_drewN | apply Kd.R_drew)); exact HO474.out) hb); have n4_ := Aside0.mk (below_step (by repeat (first | (with_reducible first | exact HB.out | apply below_alloc | apply pw_below_drewN | apply below_drew1) | exact HB.out)) hb); clear HO464; clear HO467; clear HO470; clear HO474; clear HB; have HO464 := n0_; have HO467 := n1_; have HO470 := n2_; have HO474 := n3_; have HB := n4_; clear n0_ n1_ n2_ n3_ n4_; (try clear hb); (try clear hb2); (try clear hk); (try clear hi)) | (go_at_call 45; (with_reducible refine (rank_Schedule.calls k _ _ y462 0 t476 _ ?side1 ?side2 A6.out).mono ?_); (case side1 => repeat (first | exact (Kd.N_reads' HO464.out).2.2 | (with_reducible refine Kd.C_alloc ?_ _) | (with_reducible refine Kd.C_drewN ?_ _) | (with_reducible refine Kd.C_drew ?_))); (case side2 => exact (Kd.N_reads' HO464.out).2.1); rintro e w26 ⟨v477, rfl, ho0, hb⟩; have n0_ := Aside0.mk (Kd.N_elder' (by (with_reducible repeat (first | apply Kd.N_alloc | apply Kd.N_drewN | apply Kd.N_drew)); exact HO464.out) (Kd.R_base ho0) hb); have n1_ := Aside0.mk (Kd.R_elder' (by (with_reducible repeat (first | apply Kd.R_alloc | apply Kd.R_drewN | apply Kd.R_drew)); exact HO467.out) (Kd.R_base ho0) hb); have n2_ := Aside0.mk (Kd.R_elder' (by (with_reducible repeat (first | apply Kd.R_alloc | apply Kd.R_drewN | apply Kd.R_drew)); exact HO470.out) (Kd.R_base ho0) hb); have n3_ := Aside0.mk (Kd.R_elder' (by (with_reducible repeat (first | apply Kd.R_alloc | apply Kd.R_drewN | apply Kd.R_drew)); exact HO474.out) (Kd.R_base ho0) hb); have n4_ := Aside0.mk (Kd.R_lower (Kd.R_new' (Kd.R_new' (Kd.R_new' ho0 (Kd.R_lt (by (with_reducible repeat (first | apply Kd.R_alloc | apply Kd.R_drewN | apply Kd.R_drew)); exact HO467.out))) (Kd.R_lt (by (with_reducible repeat (first | apply Kd.R_alloc | apply Kd.R_drewN | apply Kd.R_drew)); exact HO470.out))) (Kd.R_lt (by (with_reducible repeat (first | apply Kd.R_alloc | apply Kd.R_drewN | apply Kd.R_drew)); exact HO474.out))) (below_size (by repeat (first | (with_reducible first | exact HB.out | apply below_alloc | apply pw_below_drewN | apply below_drew1) | exact HB.out)))); have n5_ := Aside0.mk (below_step (by repeat (first | (with_reducible first | exact HB.out | apply below_alloc | apply pw_below_drewN | apply below_drew1) | exact HB.out)) hb); clear HO464; clear HO467; clear HO470; clear HO474; clear HB; have HO464 := n0_; have HO467 := n1_; have HO470 := n2_; have HO474 := n3_; have HO478 := n4_; have HB := n5_; clear n0_ n1_ n2_ n3_ n4_ n5_; (try clear hb); (try clear hb2); (try clear hk); (try clear hi); (try clear ho0)) | ((with_reducible refine gate_dst (N := 17) rfl ?_); (try (refine gate_guard (by rfl) ?_; dsimp only)); refine Kd.R_lit (Kd.int .i64) _ 3 ?hg (N := 17) ?hd (xs := ([0, 1, 2] : List Int)) (inner := [.int .i64 0, .int .i64 1, .int .i64 2]) (ok := fun _ => True) (okp := fun _ => True) ?hr ?hp (fun _ hk => hk) trivial (Below.refl _ _) (Nat.le_refl _) (by simp) ?_; (case hd => rfl); (case hg => rfl); (case hr => first | (go_simp; done) | (go_simp; rfl)); (case hp => exact (Reps.one (show Kd.M (Kd.int .i64) _ _ _ 0 [.int .i64 0] from rfl) (Reps.one (show Kd.M (Kd.int .i64) _ _ _ 1 [.int .i64 1] from rfl) (Reps.one (show Kd.M (Kd.int .i64) _ _ _ 2 [.int .i64 2] from rfl) (Reps.none _ _))))); intro v480 w27 ho28 hb hg_ hnew_; clear hg_ hnew_; (first | rw [← Ny479.out] at ho28 | (simp only [Int.reduceToNat] at ho28; rw [← Ny479.out] at ho28)); have n0_ := Aside0.mk (Kd.N_elder' (by (with_reducible repeat (first | apply Kd.N_alloc | apply Kd.N_drewN | apply Kd.N_drew)); exact HO464.out) (Kd.R_base ho28) hb); have n1_ := Aside0.mk (Kd.R_elder' (by (with_reducible repeat (first | apply Kd.R_alloc | apply Kd.R_drewN | apply Kd.R_drew)); exact HO467.out) (Kd.R_base ho28) hb); have n2_ := Aside0.mk (Kd.R_elder' (by (with_reducible repeat (first | apply Kd.R_alloc | apply Kd.R_drewN | apply Kd.R_drew)); exact HO470.out) (Kd.R_base ho28) hb); have n3_ := Aside0.mk (Kd.R_elder' (by (with_reducible repeat (first | apply Kd.R_alloc | apply Kd.R_drewN | apply Kd.R_drew)); exact HO474.out) (Kd.R_base ho28) hb); have n4_ := Aside0.mk (Kd.R_elder' (by (with_reducible repeat (first | apply Kd.R_alloc | apply Kd.R_drewN | apply Kd.R_drew)); exact HO478.out) (Kd.R_base ho28) hb); have n5_ := Aside0.mk (Kd.R_lower (Kd.R_new' (Kd.R_new' (Kd.R_new' (Kd.R_new' ho28 (Kd.R_lt (by (with_reducible repeat (first | apply Kd.R_alloc | apply Kd.R_drewN | apply Kd.R_drew)); exact HO467.out))) (Kd.R_lt (by (with_reducible repeat (first | apply Kd.R_alloc | apply Kd.R_drewN | apply Kd.R_drew)); exact HO470.out))) (Kd.R_lt (by (with_reducible repeat (first | apply Kd.R_alloc | apply Kd.R_drewN | apply Kd.R_drew)); exact HO474.out))) (Kd.R_lt (by (with_reducible repeat (first | apply Kd.R_alloc | apply Kd.R_drewN | apply Kd.R_drew)); exact HO478.out))) (below_size (by repeat (first | (with_reducible first | exact HB.out | apply below_alloc | apply pw_below_drewN | apply below_drew1) | exact HB.out)))); have n6_ := Aside0.mk (below_step (by repeat (first | (with_reducible first | exact HB.out | apply below_alloc | apply pw_below_drewN | apply below_drew1) | exact HB.out)) hb); clear HO464; clear HO467; clear HO470; clear HO474; clear HO478; clear HB; have HO464 := n0_; have HO467 := n1_; have HO470 := n2_; have HO474 := n3_; have HO478 := n4_; have HO481 := n5_; have HB := n6_; clear n0_ n1_ n2_ n3_ n4_ n5_ n6_; clear hb ho28; obtain ⟨Ao29, co29, eo29⟩ := Kd.R_slice HO478.out; subst eo29; obtain ⟨Ao30, co30, eo30⟩ := Kd.R_slice HO481.out; subst eo30) | (go_at_call 23; (with_reducible refine (bywashref01_Ints.calls k _ _ t476 _ _ y479 t482 _ ?side1 ?side2 ?side3 ?side4 A7.out).mono ?_); (case side1 => repeat (first | exact (Kd.R_reads' HO478.out).2.2 | (with_reducible refine Kd.C_alloc ?_ _) | (with_reducible refine Kd.C_drewN ?_ _) | (with_reducible refine Kd.C_drew ?_))); (case side2 => exact (Kd.R_reads' HO478.out).2.1); (case side3 => repeat (first | exact (Kd.R_reads' HO481.out).2.2 | (with_reducible refine Kd.C_alloc ?_ _) | (with_reducible refine Kd.C_drewN ?_ _) | (with_reducible refine Kd.C_drew ?_))); (case side4 => exact (Kd.R_reads' HO481.out).2.1); rintro e w' ⟨rfl, ⟨nd, rfl⟩⟩))
      go_ret
      exact ⟨by first | rfl | (simp [errW_none, errW_some] <;> rfl) | (simp [*, errW_none, errW_some] <;> rfl) | (exfalso; (try simp_all); (try omega); done), by repeat (first | (with_reducible first | exact HB.out | apply below_alloc | apply pw_below_drewN | apply below_drew1) | exact HB.out)⟩
    · replace c5 := Bool.eq_false_iff.mpr c5
      subst c5
      have H1 : (some false) = some r := by rw [if_neg (show ¬ (false = true) by decide)] at H; exact H
      clear H
      have H := H1
      clear H1
      obtain rfl := Option.some.inj H
      go_enter Try.func44, Try.ntmps44
      go_wp2_with (first | ((with_reducible refine gate_dst (N := 2) rfl ?_); (try (refine gate_guard (by rfl) ?_; dsimp only)); refine Kd.R_lit (Kd.int .i64) _ 3 ?hg (N := 2) ?hd (xs := ([1, 2] : List Int)) (inner := [.int .i64 1, .int .i64 2]) (ok := fun _ => True) (okp := fun _ => True) ?hr ?hp (fun _ hk => hk) trivial (Below.refl _ _) (Nat.le_refl _) (by simp) ?_; (case hd => rfl); (case hg => rfl); (case hr => first | (go_simp; done) | (go_simp; rfl)); (case hp => exact (Reps.one (show Kd.M (Kd.int .i64) _ _ _ 1 [.int .i64 1] from rfl) (Reps.one (show Kd.M (Kd.int .i64) _ _ _ 2 [.int .i64 2] from rfl) (Reps.none _ _)))); intro v457 w31 ho32 hb hg_ hnew_; clear hg_ hnew_; (first | rw [← Ny456.out] at ho32 | (simp only [Int.reduceToNat] at ho32; rw [← Ny456.out] at ho32)); have n0_ := Aside0.mk (Kd.R_lower ho32 (below_size (by repeat (first | (with_reducible first | exact HB.out | apply below_alloc | apply pw_below_drewN | apply below_drew1) | exact HB.out)))); have n1_ := Aside0.mk (below_step (by repeat (first | (with_reducible first | exact HB.out | apply below_alloc | apply pw_below_drewN | apply below_drew1) | exact HB.out)) hb); clear HB; have HO458 := n0_; have HB := n1_; clear n0_ n1_; clear hb ho32) | ((with_reducible refine gate_dst (N := 3) rfl ?_); (try (refine gate_guard (by rfl) ?_; dsimp only)); refine Kd.R_lit (Kd.int .i64) _ 3 ?hg (N := 3) ?hd (xs := ([2] : List Int)) (inner := [.int .i64 2]) (ok := fun _ => True) (okp := fun _ => True) ?hr ?hp (fun _ hk => hk) trivial (Below.refl _ _) (Nat.le_refl _) (by simp) ?_; (case hd => rfl); (case hg => rfl); (case hr => first | (go_simp; done) | (go_simp; rfl)); (case hp => exact (Reps.one (show Kd.M (Kd.int .i64) _ _ _ 2 [.int .i64 2] from rfl) (Reps.none _ _))); intro v460 w33 ho34 hb hg_ hnew_; clear hg_ hnew_; (first | rw [← Ny459.out] at ho34 | (simp only [Int.reduceToNat] at ho34; rw [← Ny459.out] at ho34)); have n0_ := Aside0.mk (Kd.R_elder' (by (with_reducible repeat (first | apply Kd.R_alloc | apply Kd.R_drewN | apply Kd.R_drew)); exact HO458.out) (Kd.R_base ho34) hb); have n1_ := Aside0.mk (Kd.R_lower (Kd.R_new' ho34 (Kd.R_lt (by (with_reducible repeat (first | apply Kd.R_alloc | apply Kd.R_drewN | apply Kd.R_drew)); exact HO458.out))) (below_size (by repeat (first | (with_reducible first | exact HB.out | apply below_alloc | apply pw_below_drewN | apply below_drew1) | exact HB.out)))); have n2_ := Aside0.mk (below_step (by repeat (first | (with_reducible first | exact HB.out | apply below_alloc | apply pw_below_drewN | apply below_drew1) | exact HB.out)) hb); clear HO458; clear HB; have HO458 := n0_; have HO461 := n1_; have HB := n2_; clear n0_ n1_ n2_; clear hb ho34; obtain ⟨Ao35, co35, eo35⟩ := Kd.R_slice HO458.out; subst eo35; obtain ⟨Ao36, co36, eo36⟩ := Kd.R_slice HO461.out; subst eo36) | ((with_reducible refine gate_dst (N := 4) rfl ?_); (try (refine gate_guard (by rfl) ?_; dsimp only)); refine Kd.N_lit (Kd.slice 3 (Kd.int .i64)) _ 32 ?hg (N' := 4) ?hd (xs := ([y456, y459, []] : List (List Int))) (inner := [.slice Ao35 y456.length co35, .slice Ao36 y459.length co36, .slice none 0 0]) (ok := (fun _ => True)) (okp := (fun _ => True)) ?hr ?hp (fun _ hk => hk) ((show ∀ k_, w33.heap.size ≤ k_ → (fun _ => True) k_ from fun k_ hk => trivial) _ (Nat.le_refl _)) (Below.refl _ _) (Nat.le_refl _) (by simp) ?_; (case hd => rfl); (case hg => rfl); (case hr => first | (go_simp; done) | (go_simp; rfl)); (case hp => exact (Reps.one (show Kd.FK (Kd.slice 3 (Kd.int .i64)) _ _ y456 [.slice Ao35 y456.length co35] from (Kd.FK_slice_mk (Kd.R_reads' (Kd.R_mono (ok' := (fun _ => True)) (HO458.out) (fun k_ hk => trivial))).2.1 (Kd.R_F (Kd.R_mono (ok' := (fun _ => True)) (HO458.out) (fun k_ hk => trivial))))) (Reps.one (show Kd.FK (Kd.slice 3 (Kd.int .i64)) _ _ y459 [.slice Ao36 y459.length co36] from (Kd.FK_slice_mk (Kd.R_reads' (Kd.R_mono (ok' := (fun _ => True)) (HO461.out) (fun k_ hk => trivial))).2.1 (Kd.R_F (Kd.R_mono (ok' := (fun _ => True)) (HO461.out) (fun k_ hk => trivial))))) (Reps.one (show Kd.FK (Kd.slice 3 (Kd.int .i64)) _ _ [] [.slice none 0 0] from (Kd.FK_slice_mk (Nat.le_refl _) (Kd.F_nil _ _ _))) (Reps.none _ _))))); intro v463 w37 ho38 hb hg_ hnew_; clear hg_ hnew_; (first | rw [← Ny462.out] at ho38 | (simp only [Int.reduceToNat] at ho38; rw [← Ny462.out] at ho38)); have n0_ := Aside0.mk (Kd.N_lower ho38 (below_size (by repeat (first | (with_reducible first | exact HB.out | apply below_alloc | apply pw_below_drewN | apply below_drew1) | exact HB.out)))); have n1_ := Aside0.mk (below_step (by repeat (first | (with_reducible first | exact HB.out | apply below_alloc | apply pw_below_drewN | apply below_drew1) | exact HB.out)) hb); clear HB; clear HO458; clear HO461; have HO464 := n0_; have HB := n1_; clear n0_ n1_; clear hb ho38; obtain ⟨Ao39, co39, eo39⟩ := Kd.N_slice HO464.out; subst eo39) | ((with_reducible refine gate_callee (f := 46) rfl ?_); refine goesL_ (some 6) rfl rfl Try.func46 (by kernel_rfl) rfl #[.slice Ao39 y462.length co39] rfl (by (try simp only [List.map_toArray, List.map_cons, List.map_nil]); first | done | rfl | (simp only [List.length_drop, List.length_take]; rfl)) ?_; (with_reducible refine (rank_Ranks.calls k _ _ y462 t465 _ ?side1 ?side2 A1.out).mono ?_); (case side1 => repeat (first | exact (Kd.N_reads' HO464.out).2.2 | (with_reducible refine Kd.C_alloc ?_ _) | (with_reducible refine Kd.C_drewN ?_ _) | (with_reducible refine Kd.C_drew ?_))); (case side2 => exact (Kd.N_reads' HO464.out).2.1); rintro e w40 ⟨v466, rfl, ho0, hb⟩; refine ⟨_, rfl, ?_⟩; have n0_ := Aside0.mk (Kd.N_elder' (by (with_reducible repeat (first | apply Kd.N_alloc | apply Kd.N_drewN | apply Kd.N_drew)); exact HO464.out) (Kd.R_base ho0) hb); have n1_ := Aside0.mk (Kd.R_lower ho0 (below_size (by repeat (first | (with_reducible first | exact HB.out | apply below_alloc | apply pw_below_drewN | apply below_drew1) | exact HB.out)))); have n2_ := Aside0.mk (below_step (by repeat (first | (with_reducible first | exact HB.out | apply below_alloc | apply pw_below_drewN | apply below_drew1) | exact HB.out)) hb); clear HO464; clear HB; have HO464 := n0_; have HO467 := n1_; have HB := n2_; clear n0_ n1_ n2_; (try clear hb); (try clear hb2); (try clear hk); (try clear hi); (try clear ho0)) | ((with_reducible refine gate_dst (N := 7) rfl ?_); (try (refine gate_guard (by rfl) ?_; dsimp only)); refine Kd.R_lit (Kd.int .i64) _ 3 ?hg (N := 7) ?hd (xs := ([0, 1, 2] : List Int)) (inner := [.int .i64 0, .int .i64 1, .int .i64 2]) (ok := fun _ => True) (okp := fun _ => True) ?hr ?hp (fun _ hk => hk) trivial (Below.refl _ _) (Nat.le_refl _) (by simp) ?_; (case hd => rfl); (case hg => rfl); (case hr => first | (go_simp; done) | (go_simp; rfl)); (case hp => exact (Reps.one (show Kd.M (Kd.int .i64) _ _ _ 0 [.int .i64 0] from rfl) (Reps.one (show Kd.M (Kd.int .i64) _ _ _ 1 [.int .i64 1] from rfl) (Reps.one (show Kd.M (Kd.int .i64) _ _ _ 2 [.int .i64 2] from rfl) (Reps.none _ _))))); intro v469 w41 ho42 hb hg_ hnew_; clear hg_ hnew_; (first | rw [← Ny468.out] at ho42 | (simp only [Int.reduceToNat] at ho42; rw [← Ny468.out] at ho42)); have n0_ := Aside0.mk (Kd.N_elder' (by (with_reducible repeat (first | apply Kd.N_alloc | apply Kd.N_drewN | apply Kd.N_drew)); exact HO464.out) (Kd.R_base ho42) hb); have n1_ := Aside0.mk (Kd.R_elder' (by (with_reducible repeat (first | apply Kd.R_alloc | apply Kd.R_drewN | apply Kd.R_drew)); exact HO467.out) (Kd.R_base ho42) hb); have n2_ := Aside0.mk (Kd.R_lower (Kd.R_new' ho42 (Kd.R_lt (by (with_reducible repeat (first | apply Kd.R_alloc | apply Kd.R_drewN | apply Kd.R_drew)); exact HO467.out))) (below_size (by repeat (first | (with_reducible first | exact HB.out | apply below_alloc | apply pw_below_drewN | apply below_drew1) | exact HB.out)))); have n3_ := Aside0.mk (below_step (by repeat (first | (with_reducible first | exact HB.out | apply below_alloc | apply pw_below_drewN | apply below_drew1) | exact HB.out)) hb); clear HO464; clear HO467; clear HB; have HO464 := n0_; have HO467 := n1_; have HO470 := n2_; have HB := n3_; clear n0_ n1_ n2_ n3_; clear hb ho42; obtain ⟨Ao43, co43, eo43⟩ := Kd.R_slice HO467.out; subst eo43; obtain ⟨Ao44, co44, eo44⟩ := Kd.R_slice HO470.out; subst eo44) | ((with_reducible refine gate_callee (f := 23) rfl ?_); refine goesL_ (some 8) rfl rfl Try.func23 (by kernel_rfl) rfl #[.slice Ao43 t465.length co43, .slice Ao44 y468.length co44] rfl (by (try simp only [List.map_toArray, List.map_cons, List.map_nil]); first | done | rfl | (simp only [List.length_drop, List.length_take]; rfl)) ?_; (with_reducible refine (bywashref01_Ints.calls k _ _ t465 _ _ y468 true _ ?side1 ?side2 ?side3 ?side4 A2.out).mono ?_); (case side1 => repeat (first | exact (Kd.R_reads' HO467.out).2.2 | (with_reducible refine Kd.C_alloc ?_ _) | (with_reducible refine Kd.C_drewN ?_ _) | (with_reducible refine Kd.C_drew ?_))); (case side2 => exact (Kd.R_reads' HO467.out).2.1); (case side3 => repeat (first | exact (Kd.R_reads' HO470.out).2.2 | (with_reducible refine Kd.C_alloc ?_ _) | (with_reducible refine Kd.C_drewN ?_ _) | (with_reducible refine Kd.C_drew ?_))); (case side4 => exact (Kd.R_reads' HO470.out).2.1); rintro e w' ⟨rfl, ⟨nd, rfl⟩⟩; refine ⟨_, rfl, ?_⟩) | ((with_reducible refine gate_dst (N := 11) rfl ?_); (try (refine gate_guard (by rfl) ?_; dsimp only)); refine Kd.R_lit (Kd.int .i64) _ 3 ?hg (N := 11) ?hd (xs := ([0, 1, 2] : List Int)) (inner := [.int .i64 0, .int .i64 1, .int .i64 2]) (ok := fun _ => True) (okp := fun _ => True) ?hr ?hp (fun _ hk => hk) trivial (Below.refl _ _) (Nat.le_refl _) (by simp) ?_; (case hd => rfl); (case hg => rfl); (case hr => first | (go_simp; done) | (go_simp; rfl)); (case hp => exact (Reps.one (show Kd.M (Kd.int .i64) _ _ _ 0 [.int .i64 0] from rfl) (Reps.one (show Kd.M (Kd.int .i64) _ _ _ 1 [.int .i64 1] from rfl) (Reps.one (show Kd.M (Kd.int .i64) _ _ _ 2 [.int .i64 2] from rfl) (Reps.none _ _))))); intro v473 w45 ho46 hb hg_ hnew_; clear hg_ hnew_; (first | rw [← Ny472.out] at ho46 | (simp only [Int.reduceToNat] at ho46; rw [← Ny472.out] at ho46)); have n0_ := Aside0.mk (Kd.N_elder' (by (with_reducible repeat (first | apply Kd.N_alloc | apply Kd.N_drewN | apply Kd.N_drew)); exact HO464.out) (Kd.R_base ho46) hb); have n1_ := Aside0.mk (Kd.R_elder' (by (with_reducible repeat (first | apply Kd.R_alloc | apply Kd.R_drewN | apply Kd.R_drew)); exact HO467.out) (Kd.R_base ho46) hb); have n2_ := Aside0.mk (Kd.R_elder' (by (with_reducible repeat (first | apply Kd.R_alloc | apply Kd.R_drewN | apply Kd.R_drew)); exact HO470.out) (Kd.R_base ho46) hb); have n3_ := Aside0.mk (Kd.R_lower (Kd.R_new' (Kd.R_new' ho46 (Kd.R_lt (by (with_reducible repeat (first | apply Kd.R_alloc | apply Kd.R_drewN | apply Kd.R_drew)); exact HO467.out))) (Kd.R_lt (by (with_reducible repeat (first | apply Kd.R_alloc | apply Kd.R_drewN | apply Kd.R_drew)); exact HO470.out))) (below_size (by repeat (first | (with_reducible first | exact HB.out | apply below_alloc | apply pw_below_drewN | apply below_drew1) | exact HB.out)))); have n4_ := Aside0.mk (below_step (by repeat (first | (with_reducible first | exact HB.out | apply below_alloc | apply pw_below_drewN | apply below_drew1) | exact HB.out)) hb); clear HO464; clear HO467; clear HO470; clear HB; have HO464 := n0_; have HO467 := n1_; have HO470 := n2_; have HO474 := n3_; have HB := n4_; clear n0_ n1_ n2_ n3_ n4_; clear hb ho46; obtain ⟨Ao47, co47, eo47⟩ := Kd.R_slice HO474.out; subst eo47) | (go_at_call 49; (with_reducible refine (rank_Sound.calls _ _ y462 _ _ y472 false _ ?side1 ?side2 ?side3 ?side4 A4.out).mono ?_); (case side1 => repeat (first | exact (Kd.N_reads' HO464.out).2.2 | (with_reducible refine Kd.C_alloc ?_ _) | (with_reducible refine Kd.C_drewN ?_ _) | (with_reducible refine Kd.C_drew ?_))); (case side2 => exact (Kd.N_reads' HO464.out).2.1); (case side3 => repeat (first | exact (Kd.R_reads' HO474.out).2.2 | (with_reducible refine Kd.C_alloc ?_ _) | (with_reducible refine Kd.C_drewN ?_ _) | (with_reducible refine Kd.C_drew ?_))); (case side4 => exact (Kd.R_reads' HO474.out).2.1); rintro e w48 ⟨rfl, hb⟩; have n0_ := Aside0.mk (Kd.N_below (by (with_reducible repeat (first | apply Kd.N_alloc | apply Kd.N_drewN | apply Kd.N_drew)); exact HO464.out) hb); have n1_ := Aside0.mk (Kd.R_below (by (with_reducible repeat (first | apply Kd.R_alloc | apply Kd.R_drewN | apply Kd.R_drew)); exact HO467.out) hb); have n2_ := Aside0.mk (Kd.R_below (by (with_reducible repeat (first | apply Kd.R_alloc | apply Kd.R_drewN | apply Kd.R_drew)); exact HO470.out) hb); have n3_ := Aside0.mk (Kd.R_below (by (with_reducible repeat (first | apply Kd.R_alloc | apply Kd.R_drewN | apply Kd.R_drew)); exact HO474.out) hb); have n4_ := Aside0.mk (below_step (by repeat (first | (with_reducible first | exact HB.out | apply below_alloc | apply pw_below_drewN | apply below_drew1) | exact HB.out)) hb); clear HO464; clear HO467; clear HO470; clear HO474; clear HB; have HO464 := n0_; have HO467 := n1_; have HO470 := n2_; have HO474 := n3_; have HB := n4_; clear n0_ n1_ n2_ n3_ n4_; (try clear hb); (try clear hb2); (try clear hk); (try clear hi)))
      go_ret
      exact ⟨by first | rfl | (simp [errW_none, errW_some] <;> rfl) | (simp [*, errW_none, errW_some] <;> rfl) | (exfalso; (try simp_all); (try omega); done), by repeat (first | (with_reducible first | exact HB.out | apply below_alloc | apply pw_below_drewN | apply below_drew1) | exact HB.out)⟩
  · replace c3 := Bool.eq_false_iff.mpr c3
    subst c3
    have H1 : (some false) = some r := by rw [if_neg (show ¬ (false = true) by decide)] at H; exact H
    clear H
    have H := H1
    clear H1
    obtain rfl := Option.some.inj H
    go_enter Try.func44, Try.ntmps44
    go_wp2_with (first | ((with_reducible refine gate_dst (N := 2) rfl ?_); (try (refine gate_guard (by rfl) ?_; dsimp only)); refine Kd.R_lit (Kd.int .i64) _ 3 ?hg (N := 2) ?hd (xs := ([1, 2] : List Int)) (inner := [.int .i64 1, .int .i64 2]) (ok := fun _ => True) (okp := fun _ => True) ?hr ?hp (fun _ hk => hk) trivial (Below.refl _ _) (Nat.le_refl _) (by simp) ?_; (case hd => rfl); (case hg => rfl); (case hr => first | (go_simp; done) | (go_simp; rfl)); (case hp => exact (Reps.one (show Kd.M (Kd.int .i64) _ _ _ 1 [.int .i64 1] from rfl) (Reps.one (show Kd.M (Kd.int .i64) _ _ _ 2 [.int .i64 2] from rfl) (Reps.none _ _)))); intro v457 w49 ho50 hb hg_ hnew_; clear hg_ hnew_; (first | rw [← Ny456.out] at ho50 | (simp only [Int.reduceToNat] at ho50; rw [← Ny456.out] at ho50)); have n0_ := Aside0.mk (Kd.R_lower ho50 (below_size (by repeat (first | (with_reducible first | exact HB.out | apply below_alloc | apply pw_below_drewN | apply below_drew1) | exact HB.out)))); have n1_ := Aside0.mk (below_step (by repeat (first | (with_reducible first | exact HB.out | apply below_alloc | apply pw_below_drewN | apply below_drew1) | exact HB.out)) hb); clear HB; have HO458 := n0_; have HB := n1_; clear n0_ n1_; clear hb ho50) | ((with_reducible refine gate_dst (N := 3) rfl ?_); (try (refine gate_guard (by rfl) ?_; dsimp only)); refine Kd.R_lit (Kd.int .i64) _ 3 ?hg (N := 3) ?hd (xs := ([2] : List Int)) (inner := [.int .i64 2]) (ok := fun _ => True) (okp := fun _ => True) ?hr ?hp (fun _ hk => hk) trivial (Below.refl _ _) (Nat.le_refl _) (by simp) ?_; (case hd => rfl); (case hg => rfl); (case hr => first | (go_simp; done) | (go_simp; rfl)); (case hp => exact (Reps.one (show Kd.M (Kd.int .i64) _ _ _ 2 [.int .i64 2] from rfl) (Reps.none _ _))); intro v460 w51 ho52 hb hg_ hnew_; clear hg_ hnew_; (first | rw [← Ny459.out] at ho52 | (simp only [Int.reduceToNat] at ho52; rw [← Ny459.out] at ho52)); have n0_ := Aside0.mk (Kd.R_elder' (by (with_reducible repeat (first | apply Kd.R_alloc | apply Kd.R_drewN | apply Kd.R_drew)); exact HO458.out) (Kd.R_base ho52) hb); have n1_ := Aside0.mk (Kd.R_lower (Kd.R_new' ho52 (Kd.R_lt (by (with_reducible repeat (first | apply Kd.R_alloc | apply Kd.R_drewN | apply Kd.R_drew)); exact HO458.out))) (below_size (by repeat (first | (with_reducible first | exact HB.out | apply below_alloc | apply pw_below_drewN | apply below_drew1) | exact HB.out)))); have n2_ := Aside0.mk (below_step (by repeat (first | (with_reducible first | exact HB.out | apply below_alloc | apply pw_below_drewN | apply below_drew1) | exact HB.out)) hb); clear HO458; clear HB; have HO458 := n0_; have HO461 := n1_; have HB := n2_; clear n0_ n1_ n2_; clear hb ho52; obtain ⟨Ao53, co53, eo53⟩ := Kd.R_slice HO458.out; subst eo53; obtain ⟨Ao54, co54, eo54⟩ := Kd.R_slice HO461.out; subst eo54) | ((with_reducible refine gate_dst (N := 4) rfl ?_); (try (refine gate_guard (by rfl) ?_; dsimp only)); refine Kd.N_lit (Kd.slice 3 (Kd.int .i64)) _ 32 ?hg (N' := 4) ?hd (xs := ([y456, y459, []] : List (List Int))) (inner := [.slice Ao53 y456.length co53, .slice Ao54 y459.length co54, .slice none 0 0]) (ok := (fun _ => True)) (okp := (fun _ => True)) ?hr ?hp (fun _ hk => hk) ((show ∀ k_, w51.heap.size ≤ k_ → (fun _ => True) k_ from fun k_ hk => trivial) _ (Nat.le_refl _)) (Below.refl _ _) (Nat.le_refl _) (by simp) ?_; (case hd => rfl); (case hg => rfl); (case hr => first | (go_simp; done) | (go_simp; rfl)); (case hp => exact (Reps.one (show Kd.FK (Kd.slice 3 (Kd.int .i64)) _ _ y456 [.slice Ao53 y456.length co53] from (Kd.FK_slice_mk (Kd.R_reads' (Kd.R_mono (ok' := (fun _ => True)) (HO458.out) (fun k_ hk => trivial))).2.1 (Kd.R_F (Kd.R_mono (ok' := (fun _ => True)) (HO458.out) (fun k_ hk => trivial))))) (Reps.one (show Kd.FK (Kd.slice 3 (Kd.int .i64)) _ _ y459 [.slice Ao54 y459.length co54] from (Kd.FK_slice_mk (Kd.R_reads' (Kd.R_mono (ok' := (fun _ => True)) (HO461.out) (fun k_ hk => trivial))).2.1 (Kd.R_F (Kd.R_mono (ok' := (fun _ => True)) (HO461.out) (fun k_ hk => trivial))))) (Reps.one (show Kd.FK (Kd.slice 3 (Kd.int .i64)) _ _ [] [.slice none 0 0] from (Kd.FK_slice_mk (Nat.le_refl _) (Kd.F_nil _ _ _))) (Reps.none _ _))))); intro v463 w55 ho56 hb hg_ hnew_; clear hg_ hnew_; (first | rw [← Ny462.out] at ho56 | (simp only [Int.reduceToNat] at ho56; rw [← Ny462.out] at ho56)); have n0_ := Aside0.mk (Kd.N_lower ho56 (below_size (by repeat (first | (with_reducible first | exact HB.out | apply below_alloc | apply pw_below_drewN | apply below_drew1) | exact HB.out)))); have n1_ := Aside0.mk (below_step (by repeat (first | (with_reducible first | exact HB.out | apply below_alloc | apply pw_below_drewN | apply below_drew1) | exact HB.out)) hb); clear HB; clear HO458; clear HO461; have HO464 := n0_; have HB := n1_; clear n0_ n1_; clear hb ho56; obtain ⟨Ao57, co57, eo57⟩ := Kd.N_slice HO464.out; subst eo57) | ((with_reducible refine gate_callee (f := 46) rfl ?_); refine goesL_ (some 6) rfl rfl Try.func46 (by kernel_rfl) rfl #[.slice Ao57 y462.length co57] rfl (by (try simp only [List.map_toArray, List.map_cons, List.map_nil]); first | done | rfl | (simp only [List.length_drop, List.length_take]; rfl)) ?_; (with_reducible refine (rank_Ranks.calls k _ _ y462 t465 _ ?side1 ?side2 A1.out).mono ?_); (case side1 => repeat (first | exact (Kd.N_reads' HO464.out).2.2 | (with_reducible refine Kd.C_alloc ?_ _) | (with_reducible refine Kd.C_drewN ?_ _) | (with_reducible refine Kd.C_drew ?_))); (case side2 => exact (Kd.N_reads' HO464.out).2.1); rintro e w58 ⟨v466, rfl, ho0, hb⟩; refine ⟨_, rfl, ?_⟩; have n0_ := Aside0.mk (Kd.N_elder' (by (with_reducible repeat (first | apply Kd.N_alloc | apply Kd.N_drewN | apply Kd.N_drew)); exact HO464.out) (Kd.R_base ho0) hb); have n1_ := Aside0.mk (Kd.R_lower ho0 (below_size (by repeat (first | (with_reducible first | exact HB.out | apply below_alloc | apply pw_below_drewN | apply below_drew1) | exact HB.out)))); have n2_ := Aside0.mk (below_step (by repeat (first | (with_reducible first | exact HB.out | apply below_alloc | apply pw_below_drewN | apply below_drew1) | exact HB.out)) hb); clear HO464; clear HB; have HO464 := n0_; have HO467 := n1_; have HB := n2_; clear n0_ n1_ n2_; (try clear hb); (try clear hb2); (try clear hk); (try clear hi); (try clear ho0)) | ((with_reducible refine gate_dst (N := 7) rfl ?_); (try (refine gate_guard (by rfl) ?_; dsimp only)); refine Kd.R_lit (Kd.int .i64) _ 3 ?hg (N := 7) ?hd (xs := ([0, 1, 2] : List Int)) (inner := [.int .i64 0, .int .i64 1, .int .i64 2]) (ok := fun _ => True) (okp := fun _ => True) ?hr ?hp (fun _ hk => hk) trivial (Below.refl _ _) (Nat.le_refl _) (by simp) ?_; (case hd => rfl); (case hg => rfl); (case hr => first | (go_simp; done) | (go_simp; rfl)); (case hp => exact (Reps.one (show Kd.M (Kd.int .i64) _ _ _ 0 [.int .i64 0] from rfl) (Reps.one (show Kd.M (Kd.int .i64) _ _ _ 1 [.int .i64 1] from rfl) (Reps.one (show Kd.M (Kd.int .i64) _ _ _ 2 [.int .i64 2] from rfl) (Reps.none _ _))))); intro v469 w59 ho60 hb hg_ hnew_; clear hg_ hnew_; (first | rw [← Ny468.out] at ho60 | (simp only [Int.reduceToNat] at ho60; rw [← Ny468.out] at ho60)); have n0_ := Aside0.mk (Kd.N_elder' (by (with_reducible repeat (first | apply Kd.N_alloc | apply Kd.N_drewN | apply Kd.N_drew)); exact HO464.out) (Kd.R_base ho60) hb); have n1_ := Aside0.mk (Kd.R_elder' (by (with_reducible repeat (first | apply Kd.R_alloc | apply Kd.R_drewN | apply Kd.R_drew)); exact HO467.out) (Kd.R_base ho60) hb); have n2_ := Aside0.mk (Kd.R_lower (Kd.R_new' ho60 (Kd.R_lt (by (with_reducible repeat (first | apply Kd.R_alloc | apply Kd.R_drewN | apply Kd.R_drew)); exact HO467.out))) (below_size (by repeat (first | (with_reducible first | exact HB.out | apply below_alloc | apply pw_below_drewN | apply below_drew1) | exact HB.out)))); have n3_ := Aside0.mk (below_step (by repeat (first | (with_reducible first | exact HB.out | apply below_alloc | apply pw_below_drewN | apply below_drew1) | exact HB.out)) hb); clear HO464; clear HO467; clear HB; have HO464 := n0_; have HO467 := n1_; have HO470 := n2_; have HB := n3_; clear n0_ n1_ n2_ n3_; clear hb ho60; obtain ⟨Ao61, co61, eo61⟩ := Kd.R_slice HO467.out; subst eo61; obtain ⟨Ao62, co62, eo62⟩ := Kd.R_slice HO470.out; subst eo62) | ((with_reducible refine gate_callee (f := 23) rfl ?_); refine goesL_ (some 8) rfl rfl Try.func23 (by kernel_rfl) rfl #[.slice Ao61 t465.length co61, .slice Ao62 y468.length co62] rfl (by (try simp only [List.map_toArray, List.map_cons, List.map_nil]); first | done | rfl | (simp only [List.length_drop, List.length_take]; rfl)) ?_; (with_reducible refine (bywashref01_Ints.calls k _ _ t465 _ _ y468 false _ ?side1 ?side2 ?side3 ?side4 A2.out).mono ?_); (case side1 => repeat (first | exact (Kd.R_reads' HO467.out).2.2 | (with_reducible refine Kd.C_alloc ?_ _) | (with_reducible refine Kd.C_drewN ?_ _) | (with_reducible refine Kd.C_drew ?_))); (case side2 => exact (Kd.R_reads' HO467.out).2.1); (case side3 => repeat (first | exact (Kd.R_reads' HO470.out).2.2 | (with_reducible refine Kd.C_alloc ?_ _) | (with_reducible refine Kd.C_drewN ?_ _) | (with_reducible refine Kd.C_drew ?_))); (case side4 => exact (Kd.R_reads' HO470.out).2.1); rintro e w' ⟨rfl, ⟨nd, rfl⟩⟩; refine ⟨_, rfl, ?_⟩))
    go_ret
    exact ⟨by first | rfl | (simp [errW_none, errW_some] <;> rfl) | (simp [*, errW_none, errW_some] <;> rfl) | (exfalso; (try simp_all); (try omega); done), by repeat (first | (with_reducible first | exact HB.out | apply below_alloc | apply pw_below_drewN | apply below_drew1) | exact HB.out)⟩
end Go.Proofs.Ytdknhgbjgdmfkaa.P
namespace Go.Proofs.Ytdknhgbjgdmfkaa.P
open Go.RowKit Go.Lib Go.Proofs.YtdknhgbjgdmfkaaW.PrintWords Go.Proofs.YtdknhgbjgdmfkaaW.PrintMore
theorem sched_ev {g : List (List Int)} {a : Int} {rk o : List Int} (hg : g.length ≤ 900) (hr : Ev (fun k => rank_Ranks.f k g) rk) (hl : rk.length = g.length) (ho : graph_Order.f g a = some o) (hol : o.length ≤ 900)
    (hk : ((nodes g.length).map (keyAt g.length rk (placesB o g.length))).Nodup) : Ev (fun k => rank_Schedule.f k g a) (schedB g.length rk (placesB o g.length)) := by
  unfold rank_Schedule.f
  refine Ev.bind hr ?_
  rw [ho]
  simp only [Option.bind_some]
  rw [places_now hg hol]
  simp only [Option.bind_some]
  rw [if_pos ⟨hl, hk⟩]
  exact Ev.now _
def exR : List (List Int) := [[1, 2], [2], []]
theorem exR_clean : clean exR = exR := clean_self (by intro l hl; simp only [exR, List.mem_cons, List.not_mem_nil, or_false] at hl; rcases hl with rfl | rfl | rfl <;> intro b hb <;> simp at hb <;> (try rcases hb with rfl | rfl) <;> (try subst hb) <;> decide) (by decide)
theorem exR_few : few exR = true := by decide
theorem exR_row {a b : Int} (h : b ∈ row exR a) (ha : Node exR a) : (a = 0 ∧ (b = 1 ∨ b = 2)) ∨ (a = 1 ∧ b = 2) := by
  have h0 := ha.1
  have h1 := ha.2
  have h2 : a = 0 ∨ a = 1 ∨ a = 2 := by
    have : (exR.length : Int) = 3 := rfl
    omega
  rcases h2 with rfl | rfl | rfl
  · exact .inl ⟨rfl, by simpa [row, exR] using h⟩
  · exact .inr ⟨rfl, by simpa [row, exR] using h⟩
  · simp [row, exR] at h
theorem exR_way {a b : Int} (h : Way exR a b) : Node exR a → a ≤ b := by
  induction h with
  | refl => exact fun _ => Int.le_refl _
  | step hx _ ih =>
    intro ha
    have h1 := exR_row hx ha
    have h2 := ih (by rcases h1 with ⟨_, h | h⟩ | ⟨_, h⟩ <;> rw [h] <;> exact ⟨by decide, by decide⟩)
    omega
theorem exR_ranks {r : List Int} (h : Rk exR r) : r = [0, 1, 2] := by
  have hv : Valid exR := exR_clean ▸ clean_Valid exR
  have n0 : Node exR 0 := ⟨by decide, by decide⟩
  have n1 : Node exR 1 := ⟨by decide, by decide⟩
  have n2 : Node exR 2 := ⟨by decide, by decide⟩
  have hlen : r.length = 3 := h.len
  have hpre : ∀ b, Node exR b → rd r b = 0 ∨ ∃ a, Node exR a ∧ b ∈ row exR a ∧ rd r b = rd r a + 1 := fun b hb => by
    rcases h.from_ hv hb with e | ⟨a, d, ha, hd, w1, w2, _, e⟩
    · exact .inl e
    · have e1 := exR_way w1 hb
      have e2 := exR_way w2 (row_node hv hd)
      obtain rfl : b = d := by omega
      exact .inr ⟨a, ha, hd, e⟩
  have h0 : rd r 0 = 0 := by
    rcases hpre 0 n0 with e | ⟨a, ha, hd, _⟩
    · exact e
    · have := exR_row hd ha
      omega
  have up01 := h.rise hv n0 (b := 1) (by decide) (fun hw => by have := exR_way hw n1; omega)
  have up12 := h.rise hv n1 (b := 2) (by decide) (fun hw => by have := exR_way hw n2; omega)
  have h1 : rd r 1 = 1 := by
    rcases hpre 1 n1 with e | ⟨a, ha, hd, e⟩
    · omega
    · have := exR_row hd ha
      obtain rfl : a = 0 := by omega
      omega
  have h2 : rd r 2 = 2 := by
    rcases hpre 2 n2 with e | ⟨a, ha, hd, e⟩
    · omega
    · have := exR_row hd ha
      have : a = 0 ∨ a = 1 := by omega
      rcases this with rfl | rfl <;> omega
  match r, hlen with
  | [x, y, z], _ =>
    have e0 : x = 0 := h0
    have e1 : y = 1 := h1
    have e2 : z = 2 := h2
    rw [e0, e1, e2]
theorem exR_ev : Ev (fun k => rank_Ranks.f k exR) [0, 1, 2] := by
  obtain ⟨r, h1, h2, _⟩ := ranks_ev exR_few
  rw [exR_clean] at h2
  rw [← exR_ranks h2]
  exact h1
theorem awake12_ev : Ev (fun k => bywashlaw12_awake.f k) true := by
  obtain ⟨o, ho, _, hnd, hrng⟩ := order_any (few_small exR_few) 0
  have hol : o.length ≤ 900 := by
    have := few_nodes hnd hrng
    have : exR.length = 3 := rfl
    omega
  have hkey : ((nodes exR.length).map (keyAt exR.length [0, 1, 2] (placesB o exR.length))).Nodup := by
    have : (nodes exR.length).map (keyAt exR.length [0, 1, 2] (placesB o exR.length)) = [keyAt exR.length [0, 1, 2] (placesB o exR.length) 0, keyAt exR.length [0, 1, 2] (placesB o exR.length) 1, keyAt exR.length [0, 1, 2] (placesB o exR.length) 2] := rfl
    rw [this]
    unfold keyAt rd
    simp
  have hs : schedB exR.length [0, 1, 2] (placesB o exR.length) = [0, 1, 2] := by
    refine (sched_uniq (List.Perm.refl _) ?_ hkey).symm
    have : nodes exR.length = [0, 1, 2] := rfl
    rw [this]
    simp only [List.pairwise_cons, List.mem_cons, List.not_mem_nil, or_false, false_imp_iff, implies_true, List.Pairwise.nil, and_true, lex2_le]
    refine ⟨fun b hb => ?_, fun b hb => ?_⟩
    · rcases hb with rfl | rfl
      · exact .inl (show (0 : Int) < 1 from by decide)
      · exact .inl (show (0 : Int) < 2 from by decide)
    · subst hb
      exact .inl (show (1 : Int) < 2 from by decide)
  have hsch := sched_ev (g := exR) (a := 0) (by decide) exR_ev rfl ho hol hkey
  rw [hs] at hsch
  have hsound : rank_Sound.f exR [0, 1, 2] = some true := by
    unfold rank_Sound.f
    rw [if_pos (by decide), if_pos (few_fits exR_few), exR_clean]
    decide
  unfold bywashlaw12_awake.f
  simp only [Option.bind_some]
  rw [show ([([1, 2] : List Int), ([2] : List Int), []] : List (List Int)) = exR from rfl]
  refine Ev.bind exR_ev ?_
  refine Ev.bind (ints_ev _ _ (by decide)) ?_
  simp only [decide_true, if_true, hsound, Option.bind_some]
  refine Ev.bind hsch ?_
  refine Ev.bind (ints_ev _ _ (by decide)) ?_
  simp only [decide_true]
  exact Ev.now _
end Go.Proofs.Ytdknhgbjgdmfkaa.P
namespace Go.Proofs.Ytdknhgbjgdmfkaa.P
open Go.RowKit Go.Lib Go.Proofs.YtdknhgbjgdmfkaaW.PrintWords Go.Proofs.YtdknhgbjgdmfkaaW.PrintMore
theorem sound_ranks {c : List (List Int)} {r : List Int} (hv : Valid c) (h : Rk c r) : soundB c r = true := by
  unfold soundB
  rw [List.all_eq_true]
  intro k hk
  have hk' := List.mem_range.1 hk
  rw [Bool.not_eq_true', List.any_eq_false]
  intro b hb
  unfold lessIn
  rw [decide_eq_true_iff]
  have hN : Node c (k : Int) := ⟨by omega, by omega⟩
  have := h.edge hv hN (b := b) (by unfold row; rw [Int.toNat_natCast]; exact hb)
  unfold rd at this
  rw [Int.toNat_natCast] at this
  omega
theorem sound_now {g : List (List Int)} {r : List Int} (hf : fits g = true) (hl : r.length = g.length) : rank_Sound.f g r = some (soundB (clean g) r) := by
  unfold rank_Sound.f
  rw [if_pos hl, if_pos hf]
end Go.Proofs.Ytdknhgbjgdmfkaa.P
namespace Go.Proofs.Ytdknhgbjgdmfkaa.P
open Go.RowKit Go.Shelf Go.Lib Go.Sort Go.Proofs.YtdknhgbjgdmfkaaW.PrintWords Go.Proofs.YtdknhgbjgdmfkaaW.PrintLast Go.Proofs.YtdknhgbjgdmfkaaW.PrintMore
set_option maxHeartbeats 8000000 in
set_option maxRecDepth 100000 in
theorem scc_Leads.calls (A0 : Option Addr) (c0 : Nat) (l0 : List (List Int)) (r : List Int) (w : World) (hr0 : Kd.C (Kd.slice 3 (Kd.int .i64)) w A0 l0.length l0) (hc0 : l0.length ≤ c0) (h : scc_Leads.f l0 = some r) :
    Calls Try.prog 35 #[.slice A0 l0.length c0] w fun e w' => ∃ v0_ : Value, e = .returned v0_ ∧ Kd.R (Kd.int .i64) 3 w' w.heap.size (fun _ => True) v0_ r ∧ Below w.heap.size w w' := by
  have HF : Aside0 (fits l0 = true ∧ r = leadB (clean l0)) := by
    unfold scc_Leads.f at h
    split at h
    · exact ⟨⟨by assumption, (Option.some.inj h).symm⟩⟩
    · cases h
  have HPT : Aside0 (∀ W, Below w.heap.size w W → Calls Try.prog 36 #[.slice A0 l0.length c0] W fun e w' => ∃ v0_ : Value, e = .returned v0_ ∧ Kd.S (Kd.slice 3 (Kd.int .i64)) 32 w' W.heap.size (fun _ => True) v0_ (partsB (clean l0)) ∧ Below W.heap.size W w') :=
    ⟨fun W hW => scc_Parts.calls A0 c0 l0 _ W (Kd.C_below hr0 hW) hc0 (by unfold scc_Parts.f; rw [if_pos HF.out.1])⟩
  have HRR : Aside0 (r = putSo 0 (fun j _ => ((partsB (clean l0)).getD j []).getD 0 0) l0.length (partsB (clean l0)) (partsB (clean l0)).length) := ⟨by rw [leads_are HF.out.1]; exact HF.out.2⟩
  obtain ⟨hPn, _, hpl, hPl, hn⟩ := parts_small HF.out.1
  clear hr0 hc0 h HF
  obtain ⟨P, eP⟩ : ∃ P, P = partsB (clean l0) := ⟨_, rfl⟩
  rw [← eP] at hPn hpl hPl HPT HRR
  obtain ⟨n, en⟩ : ∃ n, n = l0.length := ⟨_, rfl⟩
  rw [← en] at hPn hpl hPl hn HPT HRR ⊢
  have HPN := Aside0.mk hPn
  have HPL := Aside0.mk hpl
  clear eP en hPn hpl
  have hmk := run_make_row' (P := Try.prog) 32 3 (.int .i64 0) 8 Try.underlying32 info3 rfl .i64 .i64 n (by omega) (by omega)
  go_enter Try.func35, Try.ntmps35
  go_upto_region 2 with (fail)
  have HR1 := Aside0.mk (R_made (W := w.alloc (.cells (madeCells #[.int .i64 0] n) 3)) (base := w.heap.size) (n := n) (pheap_new w _ _ rfl) (Nat.le_refl _) hn)
  have HB1 := Aside0.mk (below_alloc (Below.refl _ _) (.cells (madeCells #[.int .i64 0] n) 3) : Below w.heap.size w _)
  have HG1 : Aside0 (w.heap.size < (w.alloc (.cells (madeCells #[.int .i64 0] n) 3)).heap.size) := ⟨by rw [size_alloc1]; omega⟩
  obtain ⟨W1, hW1⟩ : ∃ W1, W1 = w.alloc (.cells (madeCells #[.int .i64 0] n) 3) := ⟨_, rfl⟩
  obtain ⟨gi, egi⟩ : ∃ gi, gi = w.heap.size := ⟨_, rfl⟩
  rw [← hW1] at HR1 HB1 HG1
  rw [← hW1, ← egi]
  rw [← egi] at HG1
  have HR1' : Aside0 (dI.R 3 W1 w.heap.size (fun k => k = gi) (.slice (some ⟨gi, 0, none⟩) n n) (List.replicate n 0)) := ⟨by rw [egi]; exact HR1.out⟩
  have HGW : Aside0 (w.heap.size ≤ gi) := ⟨Nat.le_of_eq egi.symm⟩
  clear hW1 egi hmk HR1
  go_upto_region 3 with (go_at_call 36; refine (HPT.out _ HB1.out).mono ?_; rintro e w2 ⟨vP, rfl, hoP, hbP⟩; obtain ⟨AP, cP, rfl, _⟩ := Kd.S_reads hoP; have HS2 := Aside0.mk (Kd.S_mono (ok' := fun k => W1.heap.size ≤ k) (Kd.S_bound hoP) (fun k hk => hk.2.1)); have HB2 := Aside0.mk hbP; clear hoP hbP)
  obtain ⟨m, em⟩ : ∃ m, m = P.length := ⟨_, rfl⟩
  have HM := Aside0.mk em
  rw [← em] at hPl HS2 ⊢
  clear em
  have HR2 := Aside0.mk (Kd.R_below HR1'.out HB2.out)
  go_loopw [14] (fun v14 wr => ∃ k : Nat, v14 = .int .i64 k ∧ k ≤ m ∧ Aside0 (dI.R 3 wr w.heap.size (fun k => k = gi) (.slice (some ⟨gi, 0, none⟩) n n) (putSo 0 (fun j _ => (P.getD j []).getD 0 0) n P k)) ∧ Aside0 (Fr (fun k => k = gi) w2 wr)) (fun v14 _ => m - (intOf v14).toNat)
  case atStart => exact ⟨0, rfl, Nat.zero_le _, HR2, ⟨Fr.refl _ _⟩⟩
  case round =>
    clear HR2 HR1'
    obtain ⟨k, rfl, hk, HR, HFr⟩ := hrel
    by_cases hlt : k < m
    · obtain ⟨g, A1, c1, hAP, hc1, hst⟩ := S_rowT HS2.out (T := fun k => k = gi) (fun k hk e => by have := HG1.out; omega) hlt
      subst hAP
      have hmem : P.getD k [] ∈ P := by
        rw [List.getD_eq_getElem?_getD, List.getElem?_eq_getElem (by have := HM.out; omega)]
        exact List.getElem_mem _
      obtain ⟨p, ep⟩ : ∃ p, p = P.getD k [] := ⟨_, rfl⟩
      rw [← ep] at hst hc1 hmem
      obtain ⟨R, eR⟩ : ∃ R, R = p.length := ⟨_, rfl⟩
      have hRn : R ≤ n := by rw [eR]; exact (HPL.out p hmem).1
      rw [← eR] at hst hc1
      have HER := Aside0.mk eR
      have HST := Aside0.mk hst
      have HEP := Aside0.mk ep
      have HXN := Aside0.mk (HPN.out p hmem)
      obtain ⟨hx1, _⟩ := hst wr HFr.out
      obtain ⟨o, eo⟩ : ∃ o, o = putSo 0 (fun j _ => (P.getD j []).getD 0 0) n P k := ⟨_, rfl⟩
      rw [← eo] at HR
      have HEO := Aside0.mk eo
      clear hst eR ep hmem eo
      go_wp2
      go_loopw [20] (fun v20 wr => ∃ j : Nat, v20 = .int .i64 j ∧ j ≤ R ∧ Aside0 (dI.R 3 wr w.heap.size (fun k => k = gi) (.slice (some ⟨gi, 0, none⟩) n n) (putR (fun _ => p.getD 0 0) (p.take j) o)) ∧ Aside0 (Fr (fun k => k = gi) w2 wr)) (fun v20 _ => R - (intOf v20).toNat)
      case atStart => exact ⟨0, rfl, Nat.zero_le _, ⟨by rw [List.take_zero]; exact HR.out⟩, HFr⟩
      case round =>
        clear HR HFr hx1
        obtain ⟨j, rfl, hj, HR, HFr⟩ := hrel
        by_cases hjl : j < R
        · obtain ⟨_, hC1⟩ := HST.out wr HFr.out
          obtain ⟨gb, ob, e2, _, hrc⟩ := C_ints hC1 (by omega)
          subst e2
          have hjP : j < p.length := by have := HER.out; omega
          have hcb := hrc j hjP
          have hc0 := hrc 0 (by omega)
          obtain ⟨x, ex⟩ : ∃ x, x = p.getD j 0 := ⟨_, rfl⟩
          obtain ⟨y0, ey0⟩ : ∃ y, y = p.getD 0 0 := ⟨_, rfl⟩
          rw [← ex] at hcb
          rw [← ey0, Nat.add_zero] at hc0
          have hxn : 0 ≤ x ∧ x < (n : Int) := HXN.out x (by rw [ex]; exact getD_mem hjP)
          have htake : p.take (j + 1) = p.take j ++ [x] := by rw [ex]; exact take_succ_getD hjP
          obtain ⟨y, rfl⟩ : ∃ y : Nat, x = (y : Int) := ⟨x.toNat, by omega⟩
          have hyn : y < n := by omega
          obtain ⟨hfc, hfz⟩ := R_int_cell' HR.out hyn
          have HTK := Aside0.mk htake
          have HY0 := Aside0.mk ey0
          clear ex ey0 hrc hC1 htake hxn
          go_wp2
          go_roundw
          case rel =>
            refine ⟨j + 1, by go_num, by omega, ⟨?_⟩, ⟨HFr.out.setCell (p := ⟨gi, y, none⟩) (.inl rfl) _⟩⟩
            rw [HTK.out, putR_snoc, ← HY0.out, Int.toNat_natCast]
            have h := HR.out
            rw [← HY0.out] at h
            exact Kd.R_putn h (y : Int) y0
          case measure => simp [intOf]; omega
        · obtain rfl : j = R := by omega
          go_wp2
          go_roundw
          case rel =>
            refine ⟨k + 1, by go_num, by omega, ⟨?_⟩, HFr⟩
            rw [putSo, ← HEP.out, ← HEO.out]
            have h := HR.out
            rw [HER.out, List.take_length] at h
            exact h
          case measure => simp [intOf]; omega
    · obtain rfl : k = m := by omega
      go_wp2
      go_ret
      refine ⟨_, rfl, ?_, below_fr (pbel_next HB1.out HB2.out) HFr.out (fun q e => by have := HGW.out; omega) (pbel_next HB1.out HB2.out).size⟩
      rw [HRR.out, ← HM.out]
      exact Kd.R_mono HR.out (fun _ _ => trivial)
end Go.Proofs.Ytdknhgbjgdmfkaa.P
namespace Go.Proofs.Ytdknhgbjgdmfkaa.P
open Go.RowKit Go.Proofs.YtdknhgbjgdmfkaaW.PrintWords Go.Proofs.YtdknhgbjgdmfkaaW.PrintLast Go.Proofs.YtdknhgbjgdmfkaaW.PrintMore
attribute [local go_sem] max2_int min2_int max_two min_two max_three min_three max_four min_four
set_option linter.unusedVariables false
set_option linter.unusedSimpArgs false
mutual
def bywashlaw12_RankRises.j0 : Nat → List (List Int) → Int → Int → Bool → List Int → List Int → List (List Int) → Bool → Option (Bool)
 | 0, _, _, _, _, _, _, _, _ => none
 | k + 1, x0, x1, x2, x7, x8, x9, x10, x51 => if x51 = true then (some false) else (if 0 ≤ (x0.length : Int) then (if ((x0.length : Int) : Int).toNat ≤ 35184372088832 then (bywashlaw12_RankRises.l0 k x0 x1 x2 x7 x8 x9 x10 (List.replicate ((x0.length : Int) : Int).toNat 0) 0) else (none)) else (none))
def bywashlaw12_RankRises.l0 : Nat → List (List Int) → Int → Int → Bool → List Int → List Int → List (List Int) → List Int → Int → Option (Bool)
 | 0, _, _, _, _, _, _, _, _, _ => none
 | k + 1, x0, x1, x2, x7, x8, x9, x10, x11, x12 => if x12 < (x0.length : Int) then (bywashlaw12_RankRises.l1 k x0 x1 x2 x7 x8 x9 x10 x11 x12 0) else (bywashlaw12_RankRises.l2 k x0 x1 x2 x7 x8 x9 x11 0)
def bywashlaw12_RankRises.l1 : Nat → List (List Int) → Int → Int → Bool → List Int → List Int → List (List Int) → List Int → Int → Int → Option (Bool)
 | 0, _, _, _, _, _, _, _, _, _, _ => none
 | k + 1, x0, x1, x2, x7, x8, x9, x10, x11, x12, x13 => if 0 ≤ x12 then (if x12 < (x10.length : Int) then (if x13 < ((rd_L1 x10 x12).length : Int) then (if 0 ≤ x13 then (if x12 < (x9.length : Int) then (if 0 ≤ (rd (rd_L1 x10 x12) x13) then (if (rd (rd_L1 x10 x12) x13) < (x9.length : Int) then (if x12 < (x8.length : Int) then (if (rd (rd_L1 x10 x12) x13) < (x8.length : Int) then (if (((rd x9 x12) == (rd x9 (rd (rd_L1 x10 x12) x13))) != ((rd x8 x12) == (rd x8 (rd (rd_L1 x10 x12) x13)))) = true then (if (rd x9 x12) = (rd x9 (rd (rd_L1 x10 x12) x13)) then (bywashlaw12_RankRises.j3 k x0 x1 x2 x7 x8 x9 x10 x11 x12 x13 (rd (rd_L1 x10 x12) x13) true) else (bywashlaw12_RankRises.j3 k x0 x1 x2 x7 x8 x9 x10 x11 x12 x13 (rd (rd_L1 x10 x12) x13) (decide ((rd x8 (rd (rd_L1 x10 x12) x13)) ≤ (rd x8 x12))))) else (if (rd x9 x12) = (rd x9 (rd (rd_L1 x10 x12) x13)) then (bywashlaw12_RankRises.j3 k x0 x1 x2 x7 x8 x9 x10 x11 x12 x13 (rd (rd_L1 x10 x12) x13) false) else (bywashlaw12_RankRises.j3 k x0 x1 x2 x7 x8 x9 x10 x11 x12 x13 (rd (rd_L1 x10 x12) x13) (decide ((rd x8 (rd (rd_L1 x10 x12) x13)) ≤ (rd x8 x12)))))) else (none)) else (none)) else (none)) else (none)) else (none)) else (none)) else (bywashlaw12_RankRises.l0 k x0 x1 x2 x7 x8 x9 x10 x11 (wrap64 (x12 + 1)))) else (none)) else (none)
def bywashlaw12_RankRises.j3 : Nat → List (List Int) → Int → Int → Bool → List Int → List Int → List (List Int) → List Int → Int → Int → Int → Bool → Option (Bool)
 | 0, _, _, _, _, _, _, _, _, _, _, _, _ => none
 | k + 1, x0, x1, x2, x7, x8, x9, x10, x11, x12, x13, x14, x128 => if x128 = true then (some false) else (if 0 ≤ x12 then (if x12 < (x9.length : Int) then (if 0 ≤ x14 then (if x14 < (x9.length : Int) then (if (rd x9 x12) = (rd x9 x14) then (bywashlaw12_RankRises.l1 k x0 x1 x2 x7 x8 x9 x10 x11 x12 (wrap64 (x13 + 1))) else (if 0 ≤ (rd x9 x14) then (if (rd x9 x14) < (x11.length : Int) then (if x12 < (x8.length : Int) then (bywashlaw12_RankRises.l1 k x0 x1 x2 x7 x8 x9 x10 (x11.set ((rd x9 x14) : Int).toNat (mx (rd x11 (rd x9 x14)) (wrap64 ((rd x8 x12) + 1)))) x12 (wrap64 (x13 + 1))) else (none)) else (none)) else (none))) else (none)) else (none)) else (none)) else (none))
def bywashlaw12_RankRises.l2 : Nat → List (List Int) → Int → Int → Bool → List Int → List Int → List Int → Int → Option (Bool)
 | 0, _, _, _, _, _, _, _, _ => none
 | k + 1, x0, x1, x2, x7, x8, x9, x11, x15 => if x15 < (x0.length : Int) then (if 0 ≤ x15 then (if x15 < (x8.length : Int) then (if x15 < (x9.length : Int) then (if 0 ≤ (rd x9 x15) then (if (rd x9 x15) < (x11.length : Int) then (if (rd x8 x15) = (rd x11 (rd x9 x15)) then (bywashlaw12_RankRises.l2 k x0 x1 x2 x7 x8 x9 x11 (wrap64 (x15 + 1))) else (some false)) else (none)) else (none)) else (none)) else (none)) else (none)) else (if x1 < 0 then (some x7) else (if x1 ≥ (x0.length : Int) then (some x7) else (if x2 < 0 then (some x7) else (if x2 ≥ (x0.length : Int) then (some x7) else (if x7 = true then ((graph_Path.f x0 x1 x2).bind fun t553 => (if t553 = true then (if 0 ≤ x1 then (if x1 < (x8.length : Int) then (if 0 ≤ x2 then (if x2 < (x8.length : Int) then (some (decide ((rd x8 x1) ≤ (rd x8 x2)))) else (none)) else (none)) else (none)) else (none)) else (some true))) else (some false))))))
end
def bywashlaw12_RankRises.f (k : Nat) (l0 : List (List Int)) (a1 : Int) (a2 : Int) : Option (Bool) := (bywashlaw12_awake.f k).bind fun t511 => ((bywashref10_Few.f k l0).bind fun t512 => (if t512 = true then ((rank_Ranks.f k l0).bind fun t513 => ((scc_Leads.f l0).bind fun t516 => ((graph_Clean.f l0).bind fun t519 => (if (t513.length : Int) = (l0.length : Int) then (if (t516.length : Int) = (l0.length : Int) then (if (t519.length : Int) = (l0.length : Int) then ((rank_Sound.f l0 t513).bind fun t522 => (bywashlaw12_RankRises.j0 k l0 a1 a2 t511 t513 t516 t519 (!t522))) else (bywashlaw12_RankRises.j0 k l0 a1 a2 t511 t513 t516 t519 true)) else (bywashlaw12_RankRises.j0 k l0 a1 a2 t511 t513 t516 t519 true)) else (bywashlaw12_RankRises.j0 k l0 a1 a2 t511 t513 t516 t519 true))))) else (some t511)))
theorem bywashlaw12_RankRises.mono_l : ∀ k, (∀ y0 y1 y2 y3 y4 y5 y6 y7, LeO (bywashlaw12_RankRises.j0 k y0 y1 y2 y3 y4 y5 y6 y7) (bywashlaw12_RankRises.j0 (k + 1) y0 y1 y2 y3 y4 y5 y6 y7)) ∧ (∀ y0 y1 y2 y3 y4 y5 y6 y7 y8, LeO (bywashlaw12_RankRises.l0 k y0 y1 y2 y3 y4 y5 y6 y7 y8) (bywashlaw12_RankRises.l0 (k + 1) y0 y1 y2 y3 y4 y5 y6 y7 y8)) ∧ (∀ y0 y1 y2 y3 y4 y5 y6 y7 y8 y9, LeO (bywashlaw12_RankRises.l1 k y0 y1 y2 y3 y4 y5 y6 y7 y8 y9) (bywashlaw12_RankRises.l1 (k + 1) y0 y1 y2 y3 y4 y5 y6 y7 y8 y9)) ∧ (∀ y0 y1 y2 y3 y4 y5 y6 y7 y8 y9 y10 y11, LeO (bywashlaw12_RankRises.j3 k y0 y1 y2 y3 y4 y5 y6 y7 y8 y9 y10 y11) (bywashlaw12_RankRises.j3 (k + 1) y0 y1 y2 y3 y4 y5 y6 y7 y8 y9 y10 y11)) ∧ (∀ y0 y1 y2 y3 y4 y5 y6 y7, LeO (bywashlaw12_RankRises.l2 k y0 y1 y2 y3 y4 y5 y6 y7) (bywashlaw12_RankRises.l2 (k + 1) y0 y1 y2 y3 y4 y5 y6 y7))
 | 0 => ⟨fun _ _ _ _ _ _ _ _ r h => by simp [bywashlaw12_RankRises.j0] at h, fun _ _ _ _ _ _ _ _ _ r h => by simp [bywashlaw12_RankRises.l0] at h, fun _ _ _ _ _ _ _ _ _ _ r h => by simp [bywashlaw12_RankRises.l1] at h, fun _ _ _ _ _ _ _ _ _ _ _ _ r h => by simp [bywashlaw12_RankRises.j3] at h, fun _ _ _ _ _ _ _ _ r h => by simp [bywashlaw12_RankRises.l2] at h⟩
 | k + 1 => by
  obtain ⟨ih0, ih1, ih2, ih3, ih4⟩ := bywashlaw12_RankRises.mono_l k
  refine ⟨?_, ?_, ?_, ?_, ?_⟩
  ·
   intro y0 y1 y2 y3 y4 y5 y6 y7
   unfold bywashlaw12_RankRises.j0
   repeat' first
   | (with_reducible exact ih0 _ _ _ _ _ _ _ _)
   | (with_reducible exact ih1 _ _ _ _ _ _ _ _ _)
   | (with_reducible exact ih2 _ _ _ _ _ _ _ _ _ _)
   | (with_reducible exact ih3 _ _ _ _ _ _ _ _ _ _ _ _)
   | (with_reducible exact ih4 _ _ _ _ _ _ _ _)
   | (with_reducible exact bywashlaw12_awake.mono _)
   | (with_reducible exact bywashref10_Few.mono _ _)
   | (with_reducible exact rank_Ranks.mono _ _)
   | (with_reducible exact LeO.refl _)
   | (with_reducible exact LeO.none _)
   | (with_reducible refine LeO.ite ?_ ?_)
   | (with_reducible refine LeO.bind ?_ (fun _ => ?_))
   | exact ih0 _ _ _ _ _ _ _ _
   | exact ih1 _ _ _ _ _ _ _ _ _
   | exact ih2 _ _ _ _ _ _ _ _ _ _
   | exact ih3 _ _ _ _ _ _ _ _ _ _ _ _
   | exact ih4 _ _ _ _ _ _ _ _
   | exact bywashlaw12_awake.mono _
   | exact bywashref10_Few.mono _ _
   | exact rank_Ranks.mono _ _
   | exact LeO.none _
   | refine LeO.ite ?_ ?_
   | refine LeO.bind ?_ (fun _ => ?_)
  ·
   intro y0 y1 y2 y3 y4 y5 y6 y7 y8
   unfold bywashlaw12_RankRises.l0
   repeat' first
   | (with_reducible exact ih0 _ _ _ _ _ _ _ _)
   | (with_reducible exact ih1 _ _ _ _ _ _ _ _ _)
   | (with_reducible exact ih2 _ _ _ _ _ _ _ _ _ _)
   | (with_reducible exact ih3 _ _ _ _ _ _ _ _ _ _ _ _)
   | (with_reducible exact ih4 _ _ _ _ _ _ _ _)
   | (with_reducible exact bywashlaw12_awake.mono _)
   | (with_reducible exact bywashref10_Few.mono _ _)
   | (with_reducible exact rank_Ranks.mono _ _)
   | (with_reducible exact LeO.refl _)
   | (with_reducible exact LeO.none _)
   | (with_reducible refine LeO.ite ?_ ?_)
   | (with_reducible refine LeO.bind ?_ (fun _ => ?_))
   | exact ih0 _ _ _ _ _ _ _ _
   | exact ih1 _ _ _ _ _ _ _ _ _
   | exact ih2 _ _ _ _ _ _ _ _ _ _
   | exact ih3 _ _ _ _ _ _ _ _ _ _ _ _
   | exact ih4 _ _ _ _ _ _ _ _
   | exact bywashlaw12_awake.mono _
   | exact bywashref10_Few.mono _ _
   | exact rank_Ranks.mono _ _
   | exact LeO.none _
   | refine LeO.ite ?_ ?_
   | refine LeO.bind ?_ (fun _ => ?_)
  ·
   intro y0 y1 y2 y3 y4 y5 y6 y7 y8 y9
   unfold bywashlaw12_RankRises.l1
   repeat' first
   | (with_reducible exact ih0 _ _ _ _ _ _ _ _)
   | (with_reducible exact ih1 _ _ _ _ _ _ _ _ _)
   | (with_reducible exact ih2 _ _ _ _ _ _ _ _ _ _)
   | (with_reducible exact ih3 _ _ _ _ _ _ _ _ _ _ _ _)
   | (with_reducible exact ih4 _ _ _ _ _ _ _ _)
   | (with_reducible exact bywashlaw12_awake.mono _)
   | (with_reducible exact bywashref10_Few.mono _ _)
   | (with_reducible exact rank_Ranks.mono _ _)
   | (with_reducible exact LeO.refl _)
   | (with_reducible exact LeO.none _)
   | (with_reducible refine LeO.ite ?_ ?_)
   | (with_reducible refine LeO.bind ?_ (fun _ => ?_))
   | exact ih0 _ _ _ _ _ _ _ _
   | exact ih1 _ _ _ _ _ _ _ _ _
   | exact ih2 _ _ _ _ _ _ _ _ _ _
   | exact ih3 _ _ _ _ _ _ _ _ _ _ _ _
   | exact ih4 _ _ _ _ _ _ _ _
   | exact bywashlaw12_awake.mono _
   | exact bywashref10_Few.mono _ _
   | exact rank_Ranks.mono _ _
   | exact LeO.none _
   | refine LeO.ite ?_ ?_
   | refine LeO.bind ?_ (fun _ => ?_)
  ·
   intro y0 y1 y2 y3 y4 y5 y6 y7 y8 y9 y10 y11
   unfold bywashlaw12_RankRises.j3
   repeat' first
   | (with_reducible exact ih0 _ _ _ _ _ _ _ _)
   | (with_reducible exact ih1 _ _ _ _ _ _ _ _ _)
   | (with_reducible exact ih2 _ _ _ _ _ _ _ _ _ _)
   | (with_reducible exact ih3 _ _ _ _ _ _ _ _ _ _ _ _)
   | (with_reducible exact ih4 _ _ _ _ _ _ _ _)
   | (with_reducible exact bywashlaw12_awake.mono _)
   | (with_reducible exact bywashref10_Few.mono _ _)
   | (with_reducible exact rank_Ranks.mono _ _)
   | (with_reducible exact LeO.refl _)
   | (with_reducible exact LeO.none _)
   | (with_reducible refine LeO.ite ?_ ?_)
   | (with_reducible refine LeO.bind ?_ (fun _ => ?_))
   | exact ih0 _ _ _ _ _ _ _ _
   | exact ih1 _ _ _ _ _ _ _ _ _
   | exact ih2 _ _ _ _ _ _ _ _ _ _
   | exact ih3 _ _ _ _ _ _ _ _ _ _ _ _
   | exact ih4 _ _ _ _ _ _ _ _
   | exact bywashlaw12_awake.mono _
   | exact bywashref10_Few.mono _ _
   | exact rank_Ranks.mono _ _
   | exact LeO.none _
   | refine LeO.ite ?_ ?_
   | refine LeO.bind ?_ (fun _ => ?_)
  ·
   intro y0 y1 y2 y3 y4 y5 y6 y7
   unfold bywashlaw12_RankRises.l2
   repeat' first
   | (with_reducible exact ih0 _ _ _ _ _ _ _ _)
   | (with_reducible exact ih1 _ _ _ _ _ _ _ _ _)
   | (with_reducible exact ih2 _ _ _ _ _ _ _ _ _ _)
   | (with_reducible exact ih3 _ _ _ _ _ _ _ _ _ _ _ _)
   | (with_reducible exact ih4 _ _ _ _ _ _ _ _)
   | (with_reducible exact bywashlaw12_awake.mono _)
   | (with_reducible exact bywashref10_Few.mono _ _)
   | (with_reducible exact rank_Ranks.mono _ _)
   | (with_reducible exact LeO.refl _)
   | (with_reducible exact LeO.none _)
   | (with_reducible refine LeO.ite ?_ ?_)
   | (with_reducible refine LeO.bind ?_ (fun _ => ?_))
   | exact ih0 _ _ _ _ _ _ _ _
   | exact ih1 _ _ _ _ _ _ _ _ _
   | exact ih2 _ _ _ _ _ _ _ _ _ _
   | exact ih3 _ _ _ _ _ _ _ _ _ _ _ _
   | exact ih4 _ _ _ _ _ _ _ _
   | exact bywashlaw12_awake.mono _
   | exact bywashref10_Few.mono _ _
   | exact rank_Ranks.mono _ _
   | exact LeO.none _
   | refine LeO.ite ?_ ?_
   | refine LeO.bind ?_ (fun _ => ?_)
theorem bywashlaw12_RankRises.mono : ∀ a0 a1 a2 k, LeO (bywashlaw12_RankRises.f k a0 a1 a2) (bywashlaw12_RankRises.f (k + 1) a0 a1 a2) := by
 intro a0 a1 a2 k
 obtain ⟨ih0, ih1, ih2, ih3, ih4⟩ := bywashlaw12_RankRises.mono_l k
 unfold bywashlaw12_RankRises.f
 repeat' first
   | (with_reducible exact ih0 _ _ _ _ _ _ _ _)
   | (with_reducible exact ih1 _ _ _ _ _ _ _ _ _)
   | (with_reducible exact ih2 _ _ _ _ _ _ _ _ _ _)
   | (with_reducible exact ih3 _ _ _ _ _ _ _ _ _ _ _ _)
   | (with_reducible exact ih4 _ _ _ _ _ _ _ _)
   | (with_reducible exact bywashlaw12_awake.mono _)
   | (with_reducible exact bywashref10_Few.mono _ _)
   | (with_reducible exact rank_Ranks.mono _ _)
   | (with_reducible exact LeO.refl _)
   | (with_reducible exact LeO.none _)
   | (with_reducible refine LeO.ite ?_ ?_)
   | (with_reducible refine LeO.bind ?_ (fun _ => ?_))
   | exact ih0 _ _ _ _ _ _ _ _
   | exact ih1 _ _ _ _ _ _ _ _ _
   | exact ih2 _ _ _ _ _ _ _ _ _ _
   | exact ih3 _ _ _ _ _ _ _ _ _ _ _ _
   | exact ih4 _ _ _ _ _ _ _ _
   | exact bywashlaw12_awake.mono _
   | exact bywashref10_Few.mono _ _
   | exact rank_Ranks.mono _ _
   | exact LeO.none _
   | refine LeO.ite ?_ ?_
   | refine LeO.bind ?_ (fun _ => ?_)
end Go.Proofs.Ytdknhgbjgdmfkaa.P
