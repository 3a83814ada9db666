/- What the claim uses of: Pbywashlaw11 Gawake11 Hpath PlawSccShrunk PureSccShrunk Hinsert Hwith -/
import Derived.Deep.RegionWith
import Derived.Test.YtdknhgbjgdmfkaaQE3
namespace Go.Proofs.Ytdknhgbjgdmfkaa.P
open Go.RowKit Go.Proofs.YtdknhgbjgdmfkaaW.PrintWords Go.Proofs.YtdknhgbjgdmfkaaW.PrintLast Go.Proofs.YtdknhgbjgdmfkaaW.PrintMore
attribute [local go_sem] max2_int min2_int max_two min_two max_three min_three max_four min_four
set_option linter.unusedVariables false
set_option linter.unusedSimpArgs false
def bywashlaw11_awake.f (k : Nat)  : Option (Bool) := (scc_Parts.f (([(([1] : List Int)), (([0, 2] : List Int)), []] : List (List Int)))).bind fun t113 => (if (t113.length : Int) = 2 then (if 0 < (t113.length : Int) then ((bywashref01_Ints.f k (rd_L1 t113 0) (([0, 1] : List Int))).bind fun t120 => (if t120 = true then (if 1 < (t113.length : Int) then ((bywashref01_Ints.f k (rd_L1 t113 1) (([2] : List Int))).bind fun t125 => (some t125)) else (none)) else (some false))) else (none)) else (some false))
theorem bywashlaw11_awake.mono : ∀ k, LeO (bywashlaw11_awake.f k ) (bywashlaw11_awake.f (k + 1) ) := by
  intro  k
  unfold bywashlaw11_awake.f
  repeat' first
      | (with_reducible exact bywashref01_Ints.mono _ _ _)
      | (with_reducible exact LeO.refl _)
      | (with_reducible exact LeO.none _)
      | (with_reducible refine LeO.ite ?_ ?_)
      | (with_reducible refine LeO.bind ?_ (fun _ => ?_))
      | exact bywashref01_Ints.mono _ _ _
      | exact LeO.none _
      | refine LeO.ite ?_ ?_
      | refine LeO.bind ?_ (fun _ => ?_)
set_option maxHeartbeats 8000000 in
set_option maxRecDepth 100000 in
theorem bywashlaw11_awake.calls (k : Nat)  (r : Bool) (w : World) (h : bywashlaw11_awake.f k  = some r) :
    Calls Try.prog 34 #[] w fun e w' => e = .returned (.bool r) ∧ Below w.heap.size w w' := by
  have HB := Aside0.mk (Below.refl w.heap.size w)
  have H : ((scc_Parts.f (([(([1] : List Int)), (([0, 2] : List Int)), []] : List (List Int)))).bind fun t113 => (if (t113.length : Int) = 2 then (if 0 < (t113.length : Int) then ((bywashref01_Ints.f k (rd_L1 t113 0) (([0, 1] : List Int))).bind fun t120 => (if t120 = true then (if 1 < (t113.length : Int) then ((bywashref01_Ints.f k (rd_L1 t113 1) (([2] : List Int))).bind fun t125 => (some t125)) else (none)) else (some false))) else (none)) else (some false))) = some r := h
  clear h
  obtain ⟨y104, hy104⟩ : ∃ y_ : List Int, y_ = (([1] : List Int)) := ⟨_, rfl⟩
  replace H : ((scc_Parts.f (([y104, (([0, 2] : List Int)), []] : List (List Int)))).bind fun t113 => (if (t113.length : Int) = 2 then (if 0 < (t113.length : Int) then ((bywashref01_Ints.f k (rd_L1 t113 0) (([0, 1] : List Int))).bind fun t120 => (if t120 = true then (if 1 < (t113.length : Int) then ((bywashref01_Ints.f k (rd_L1 t113 1) (([2] : List Int))).bind fun t125 => (some t125)) else (none)) else (some false))) else (none)) else (some false))) = some r := by first | (rw [hy104]; with_reducible exact H) | (have H2_ := (Option.bind_some _ _).symm.trans H; rw [hy104]; with_reducible exact H2_) | (have H2_ := (Option.bind_some _ _).symm.trans H; with_reducible exact H2_) | with_reducible exact H | (rw [hy104]; exact H) | exact H
  have Ny104 := Aside0.mk hy104
  clear hy104
  obtain ⟨y107, hy107⟩ : ∃ y_ : List Int, y_ = (([0, 2] : List Int)) := ⟨_, rfl⟩
  replace H : ((scc_Parts.f (([y104, y107, []] : List (List Int)))).bind fun t113 => (if (t113.length : Int) = 2 then (if 0 < (t113.length : Int) then ((bywashref01_Ints.f k (rd_L1 t113 0) (([0, 1] : List Int))).bind fun t120 => (if t120 = true then (if 1 < (t113.length : Int) then ((bywashref01_Ints.f k (rd_L1 t113 1) (([2] : List Int))).bind fun t125 => (some t125)) else (none)) else (some false))) else (none)) else (some false))) = some r := by first | (rw [hy107]; with_reducible exact H) | (have H2_ := (Option.bind_some _ _).symm.trans H; rw [hy107]; with_reducible exact H2_) | (have H2_ := (Option.bind_some _ _).symm.trans H; with_reducible exact H2_) | with_reducible exact H | (rw [hy107]; exact H) | exact H
  have Ny107 := Aside0.mk hy107
  clear hy107
  obtain ⟨y110, hy110⟩ : ∃ y_ : List (List Int), y_ = (([y104, y107, []] : List (List Int))) := ⟨_, rfl⟩
  replace H : ((scc_Parts.f y110).bind fun t113 => (if (t113.length : Int) = 2 then (if 0 < (t113.length : Int) then ((bywashref01_Ints.f k (rd_L1 t113 0) (([0, 1] : List Int))).bind fun t120 => (if t120 = true then (if 1 < (t113.length : Int) then ((bywashref01_Ints.f k (rd_L1 t113 1) (([2] : List Int))).bind fun t125 => (some t125)) else (none)) else (some false))) else (none)) else (some false))) = some r := by first | (rw [hy110]; with_reducible exact H) | (have H2_ := (Option.bind_some _ _).symm.trans H; rw [hy110]; with_reducible exact H2_) | (have H2_ := (Option.bind_some _ _).symm.trans H; with_reducible exact H2_) | with_reducible exact H | (rw [hy110]; exact H) | exact H
  have Ny110 := Aside0.mk hy110
  clear hy110
  replace H := Option.bind_eq_some_iff.mp H
  obtain ⟨t113, A10, H⟩ := H
  replace H : (if (t113.length : Int) = 2 then (if 0 < (t113.length : Int) then ((bywashref01_Ints.f k (rd_L1 t113 0) (([0, 1] : List Int))).bind fun t120 => (if t120 = true then (if 1 < (t113.length : Int) then ((bywashref01_Ints.f k (rd_L1 t113 1) (([2] : List Int))).bind fun t125 => (some t125)) else (none)) else (some false))) else (none)) else (some false)) = some r := H
  have A1 := Aside0.mk A10
  clear A10
  by_cases c2 : (t113.length : Int) = 2
  · rw [if_pos c2] at H
    have c2b0 : ((t113.length : Int) == 2) = true := beq_iff_eq.mpr c2
    have c2b1 : ((t113.length : Int) != 2) = false := bne_eq_false_iff_eq.mpr c2
    clear c2
    by_cases c3 : 0 < (t113.length : Int)
    · rw [if_pos c3] at H
      have c3b0 : decide (0 < (t113.length : Int)) = true := decide_eq_true c3
      have c3b1 : decide (0 < t113.length) = true := decide_eq_true (by omega)
      clear c3
      obtain ⟨y117, hy117⟩ : ∃ y_ : List Int, y_ = (([0, 1] : List Int)) := ⟨_, rfl⟩
      replace H : ((bywashref01_Ints.f k (rd_L1 t113 0) y117).bind fun t120 => (if t120 = true then (if 1 < (t113.length : Int) then ((bywashref01_Ints.f k (rd_L1 t113 1) (([2] : List Int))).bind fun t125 => (some t125)) else (none)) else (some false))) = some r := by first | (rw [hy117]; with_reducible exact H) | (have H2_ := (Option.bind_some _ _).symm.trans H; rw [hy117]; with_reducible exact H2_) | (have H2_ := (Option.bind_some _ _).symm.trans H; with_reducible exact H2_) | with_reducible exact H | (rw [hy117]; exact H) | exact H
      have Ny117 := Aside0.mk hy117
      clear hy117
      replace H := Option.bind_eq_some_iff.mp H
      obtain ⟨t120, A40, H⟩ := H
      replace H : (if t120 = true then (if 1 < (t113.length : Int) then ((bywashref01_Ints.f k (rd_L1 t113 1) (([2] : List Int))).bind fun t125 => (some t125)) else (none)) else (some false)) = some r := H
      have A4 := Aside0.mk A40
      clear A40
      by_cases c5 : t120 = true
      · subst c5
        have H1 : (if 1 < (t113.length : Int) then ((bywashref01_Ints.f k (rd_L1 t113 1) (([2] : List Int))).bind fun t125 => (some t125)) else (none)) = some r := by rw [if_pos rfl] at H; exact H
        clear H
        have H := H1
        clear H1
        by_cases c6 : 1 < (t113.length : Int)
        · rw [if_pos c6] at H
          have c6b0 : decide (1 < (t113.length : Int)) = true := decide_eq_true c6
          have c6b1 : decide (1 < t113.length) = true := decide_eq_true (by omega)
          clear c6
          obtain ⟨y122, hy122⟩ : ∃ y_ : List Int, y_ = (([2] : List Int)) := ⟨_, rfl⟩
          replace H : ((bywashref01_Ints.f k (rd_L1 t113 1) y122).bind fun t125 => (some t125)) = some r := by first | (rw [hy122]; with_reducible exact H) | (have H2_ := (Option.bind_some _ _).symm.trans H; rw [hy122]; with_reducible exact H2_) | (have H2_ := (Option.bind_some _ _).symm.trans H; with_reducible exact H2_) | with_reducible exact H | (rw [hy122]; exact H) | exact H
          have Ny122 := Aside0.mk hy122
          clear hy122
          replace H := Option.bind_eq_some_iff.mp H
          obtain ⟨t125, A70, H⟩ := H
          replace H : (some t125) = some r := H
          have A7 := Aside0.mk A70
          clear A70
          obtain rfl := Option.some.inj H
          go_enter Try.func34, Try.ntmps34
          go_wp2_with (first | ((with_reducible refine gate_dst (N := 2) rfl ?_); (try (refine gate_guard (by rfl) ?_; dsimp only)); refine Kd.R_lit (Kd.int .i64) _ 3 ?hg (N := 2) ?hd (xs := ([1] : List Int)) (inner := [.int .i64 1]) (ok := fun _ => True) (okp := fun _ => True) ?hr ?hp (fun _ hk => hk) trivial (Below.refl _ _) (Nat.le_refl _) (by simp) ?_; (case hd => rfl); (case hg => rfl); (case hr => first | (go_simp; done) | (go_simp; rfl)); (case hp => exact (Reps.one (show Kd.M (Kd.int .i64) _ _ _ 1 [.int .i64 1] from rfl) (Reps.none _ _))); intro v105 w8 ho9 hb hg_ hnew_; clear hg_ hnew_; (first | rw [← Ny104.out] at ho9 | (simp only [Int.reduceToNat] at ho9; rw [← Ny104.out] at ho9)); have n0_ := Aside0.mk (Kd.R_lower ho9 (below_size (by repeat (first | (with_reducible first | exact HB.out | apply below_alloc | apply pw_below_drewN | apply below_drew1) | exact HB.out)))); have n1_ := Aside0.mk (below_step (by repeat (first | (with_reducible first | exact HB.out | apply below_alloc | apply pw_below_drewN | apply below_drew1) | exact HB.out)) hb); clear HB; have HO106 := n0_; have HB := n1_; clear n0_ n1_; clear hb ho9) | ((with_reducible refine gate_dst (N := 3) rfl ?_); (try (refine gate_guard (by rfl) ?_; dsimp only)); refine Kd.R_lit (Kd.int .i64) _ 3 ?hg (N := 3) ?hd (xs := ([0, 2] : List Int)) (inner := [.int .i64 0, .int .i64 2]) (ok := fun _ => True) (okp := fun _ => True) ?hr ?hp (fun _ hk => hk) trivial (Below.refl _ _) (Nat.le_refl _) (by simp) ?_; (case hd => rfl); (case hg => rfl); (case hr => first | (go_simp; done) | (go_simp; rfl)); (case hp => exact (Reps.one (show Kd.M (Kd.int .i64) _ _ _ 0 [.int .i64 0] from rfl) (Reps.one (show Kd.M (Kd.int .i64) _ _ _ 2 [.int .i64 2] from rfl) (Reps.none _ _)))); intro v108 w10 ho11 hb hg_ hnew_; clear hg_ hnew_; (first | rw [← Ny107.out] at ho11 | (simp only [Int.reduceToNat] at ho11; rw [← Ny107.out] at ho11)); have n0_ := Aside0.mk (Kd.R_elder' (by (with_reducible repeat (first | apply Kd.R_alloc | apply Kd.R_drewN | apply Kd.R_drew)); exact HO106.out) (Kd.R_base ho11) hb); have n1_ := Aside0.mk (Kd.R_lower (Kd.R_new' ho11 (Kd.R_lt (by (with_reducible repeat (first | apply Kd.R_alloc | apply Kd.R_drewN | apply Kd.R_drew)); exact HO106.out))) (below_size (by repeat (first | (with_reducible first | exact HB.out | apply below_alloc | apply pw_below_drewN | apply below_drew1) | exact HB.out)))); have n2_ := Aside0.mk (below_step (by repeat (first | (with_reducible first | exact HB.out | apply below_alloc | apply pw_below_drewN | apply below_drew1) | exact HB.out)) hb); clear HO106; clear HB; have HO106 := n0_; have HO109 := n1_; have HB := n2_; clear n0_ n1_ n2_; clear hb ho11; obtain ⟨Ao12, co12, eo12⟩ := Kd.R_slice HO106.out; subst eo12; obtain ⟨Ao13, co13, eo13⟩ := Kd.R_slice HO109.out; subst eo13) | ((with_reducible refine gate_dst (N := 4) rfl ?_); (try (refine gate_guard (by rfl) ?_; dsimp only)); refine Kd.N_lit (Kd.slice 3 (Kd.int .i64)) _ 32 ?hg (N' := 4) ?hd (xs := ([y104, y107, []] : List (List Int))) (inner := [.slice Ao12 y104.length co12, .slice Ao13 y107.length co13, .slice none 0 0]) (ok := (fun _ => True)) (okp := (fun _ => True)) ?hr ?hp (fun _ hk => hk) ((show ∀ k_, w10.heap.size ≤ k_ → (fun _ => True) k_ from fun k_ hk => trivial) _ (Nat.le_refl _)) (Below.refl _ _) (Nat.le_refl _) (by simp) ?_; (case hd => rfl); (case hg => rfl); (case hr => first | (go_simp; done) | (go_simp; rfl)); (case hp => exact (Reps.one (show Kd.FK (Kd.slice 3 (Kd.int .i64)) _ _ y104 [.slice Ao12 y104.length co12] from (Kd.FK_slice_mk (Kd.R_reads' (Kd.R_mono (ok' := (fun _ => True)) (HO106.out) (fun k_ hk => trivial))).2.1 (Kd.R_F (Kd.R_mono (ok' := (fun _ => True)) (HO106.out) (fun k_ hk => trivial))))) (Reps.one (show Kd.FK (Kd.slice 3 (Kd.int .i64)) _ _ y107 [.slice Ao13 y107.length co13] from (Kd.FK_slice_mk (Kd.R_reads' (Kd.R_mono (ok' := (fun _ => True)) (HO109.out) (fun k_ hk => trivial))).2.1 (Kd.R_F (Kd.R_mono (ok' := (fun _ => True)) (HO109.out) (fun k_ hk => trivial))))) (Reps.one (show Kd.FK (Kd.slice 3 (Kd.int .i64)) _ _ [] [.slice none 0 0] from (Kd.FK_slice_mk (Nat.le_refl _) (Kd.F_nil _ _ _))) (Reps.none _ _))))); intro v111 w14 ho15 hb hg_ hnew_; clear hg_ hnew_; (first | rw [← Ny110.out] at ho15 | (simp only [Int.reduceToNat] at ho15; rw [← Ny110.out] at ho15)); have n0_ := Aside0.mk (Kd.N_lower ho15 (below_size (by repeat (first | (with_reducible first | exact HB.out | apply below_alloc | apply pw_below_drewN | apply below_drew1) | exact HB.out)))); have n1_ := Aside0.mk (below_step (by repeat (first | (with_reducible first | exact HB.out | apply below_alloc | apply pw_below_drewN | apply below_drew1) | exact HB.out)) hb); clear HB; clear HO106; clear HO109; have HO112 := n0_; have HB := n1_; clear n0_ n1_; clear hb ho15; obtain ⟨Ao16, co16, eo16⟩ := Kd.N_slice HO112.out; subst eo16) | ((with_reducible refine gate_callee (f := 36) rfl ?_); refine goesL_ (some 5) rfl rfl Try.func36 (by kernel_rfl) rfl #[.slice Ao16 y110.length co16] rfl (by (try simp only [List.map_toArray, List.map_cons, List.map_nil]); first | done | rfl | (simp only [List.length_drop, List.length_take]; rfl)) ?_; (with_reducible refine (scc_Parts.calls _ _ y110 t113 _ ?side1 ?side2 A1.out).mono ?_); (case side1 => repeat (first | exact (Kd.N_reads' HO112.out).2.2 | (with_reducible refine Kd.C_alloc ?_ _) | (with_reducible refine Kd.C_drewN ?_ _) | (with_reducible refine Kd.C_drew ?_))); (case side2 => exact (Kd.N_reads' HO112.out).2.1); rintro e w17 ⟨v114, rfl, ho0, hb⟩; refine ⟨_, rfl, ?_⟩; have n0_ := Aside0.mk (Kd.N_elder' (by (with_reducible repeat (first | apply Kd.N_alloc | apply Kd.N_drewN | apply Kd.N_drew)); exact HO112.out) (Kd.S_base ho0) hb); have n1_ := Aside0.mk (Kd.N_lower (Kd.N_mono (ok' := fun k_ => some k_ ≠ (.slice Ao16 y110.length co16 : Value).ownBlock) (Kd.S_N (Kd.S_bound ho0)) (fun k_ hk_ => (Kd.fresh' (Kd.N_lt (by (with_reducible repeat (first | apply Kd.N_alloc | apply Kd.N_drewN | apply Kd.N_drew)); exact HO112.out)) k_ hk_.2.1))) (below_size (by repeat (first | (with_reducible first | exact HB.out | apply below_alloc | apply pw_below_drewN | apply below_drew1) | exact HB.out)))); have n2_ := Aside0.mk (below_step (by repeat (first | (with_reducible first | exact HB.out | apply below_alloc | apply pw_below_drewN | apply below_drew1) | exact HB.out)) hb); clear HO112; clear HB; have HO112 := n0_; have HO115 := n1_; have HB := n2_; clear n0_ n1_ n2_; (try clear hb); (try clear hb2); (try clear hk); (try clear hi); (try clear ho0); obtain ⟨Ao18, co18, eo18⟩ := Kd.N_slice HO115.out; subst eo18; have p116 : 0 ≤ (0 : Int) := (by omega); have q116 : 0 < (t113.length : Int) := of_decide_eq_true (by first | (with_reducible assumption) | assumption); obtain ⟨ad116, A116_0, c116_0, e116, hx116_0, hl116_0, hi116_0⟩ := at_L1 (Kd.N_reads' HO115.out).2.2 0 p116 q116; cases e116; obtain ⟨ce116, hce116, hMe116, hcc116⟩ := Kd.N_get HO115.out [] 0 p116 (by first | exact q116 | exact of_decide_eq_true (by first | (with_reducible assumption) | assumption) | (have e_ := (Kd.N_reads' HO115.out).1; omega)); obtain ⟨ua116_0, uc116_0, rfl, ul116_0, ge116_0⟩ := Kd.FK_slice_open hMe116; have hv116_0 := hcc116 0 _ rfl; rw [Nat.add_zero, show ((Kd.slice 3 (Kd.int .i64))).sz = 1 from rfl, Nat.mul_one] at hv116_0; replace hv116_0 := Option.some.inj (hv116_0.symm.trans hx116_0); injection hv116_0 with hva_ hvn_ hvc_; rw [hva_] at ge116_0; rw [hvc_] at ul116_0; have HL116_0 := Aside0.mk (show Kd.V (Kd.int .i64) 3 _ w.heap.size _ _ (rd_L1 t113 0) from Kd.V_mk ul116_0 ge116_0); clear hva_ hvn_ hvc_ ge116_0 ul116_0; clear hcc116 hce116; have qi116 : (0 < t113.length) = True := eq_true (by omega); (try rw [show ((0 : Int)).toNat = 0 from rfl] at hx116_0); (try rw [Addr.add_zero'] at hx116_0); have HR116_0 := Aside0.mk hi116_0; have HC116_0 := Aside0.mk hl116_0; clear hi116_0 hl116_0; replace p116 := eq_true p116; replace q116 := eq_true q116) | ((with_reducible refine gate_dst (N := 13) rfl ?_); (try (refine gate_guard (by rfl) ?_; dsimp only)); refine Kd.R_lit (Kd.int .i64) _ 3 ?hg (N := 13) ?hd (xs := ([0, 1] : List Int)) (inner := [.int .i64 0, .int .i64 1]) (ok := fun _ => True) (okp := fun _ => True) ?hr ?hp (fun _ hk => hk) trivial (Below.refl _ _) (Nat.le_refl _) (by simp) ?_; (case hd => rfl); (case hg => rfl); (case hr => first | (go_simp; done) | (go_simp; rfl)); (case hp => exact (Reps.one (show Kd.M (Kd.int .i64) _ _ _ 0 [.int .i64 0] from rfl) (Reps.one (show Kd.M (Kd.int .i64) _ _ _ 1 [.int .i64 1] from rfl) (Reps.none _ _)))); intro v118 w19 ho20 hb hg_ hnew_; clear hg_ hnew_; (first | rw [← Ny117.out] at ho20 | (simp only [Int.reduceToNat] at ho20; rw [← Ny117.out] at ho20)); have n0_ := Aside0.mk (Kd.N_elder' (by (with_reducible repeat (first | apply Kd.N_alloc | apply Kd.N_drewN | apply Kd.N_drew)); exact HO112.out) (Kd.R_base ho20) hb); have n1_ := Aside0.mk (Kd.N_elder' (by (with_reducible repeat (first | apply Kd.N_alloc | apply Kd.N_drewN | apply Kd.N_drew)); exact HO115.out) (Kd.R_base ho20) hb); have n2_ := Aside0.mk (Kd.V_elder' (by (with_reducible repeat (first | apply Kd.V_alloc | apply Kd.V_drewN | apply Kd.V_drew)); exact HL116_0.out) (Kd.R_base ho20) hb); have n3_ := Aside0.mk (Kd.R_lower ho20 (below_size (by repeat (first | (with_reducible first | exact HB.out | apply below_alloc | apply pw_below_drewN | apply below_drew1) | exact HB.out)))); have n4_ := Aside0.mk (Kd.C_below (by repeat (first | (with_reducible exact HR116_0.out) | (with_reducible refine Kd.C_alloc ?_ _) | (with_reducible refine Kd.C_drewN ?_ _) | (with_reducible refine Kd.C_drew ?_) | exact HR116_0.out)) hb); have n5_ := Aside0.mk (below_step (by repeat (first | (with_reducible first | exact HB.out | apply below_alloc | apply pw_below_drewN | apply below_drew1) | exact HB.out)) hb); clear HO112; clear HO115; clear HL116_0; clear HR116_0; clear HB; have HO112 := n0_; have HO115 := n1_; have HL116_0 := n2_; have HO119 := n3_; have HR116_0 := n4_; have HB := n5_; clear n0_ n1_ n2_ n3_ n4_ n5_; clear hb ho20; obtain ⟨Ao21, co21, eo21⟩ := Kd.R_slice HO119.out; subst eo21) | (go_at_call 23; (with_reducible refine (bywashref01_Ints.calls k _ _ (rd_L1 t113 0) _ _ y117 true _ ?side1 ?side2 ?side3 ?side4 A4.out).mono ?_); (case side1 => repeat (first | exact (by repeat (first | (with_reducible exact HR116_0.out) | (with_reducible refine Kd.C_alloc ?_ _) | (with_reducible refine Kd.C_drewN ?_ _) | (with_reducible refine Kd.C_drew ?_) | exact HR116_0.out)) | (with_reducible refine Kd.C_alloc ?_ _) | (with_reducible refine Kd.C_drewN ?_ _) | (with_reducible refine Kd.C_drew ?_))); (case side2 => exact HC116_0.out); (case side3 => repeat (first | exact (Kd.R_reads' HO119.out).2.2 | (with_reducible refine Kd.C_alloc ?_ _) | (with_reducible refine Kd.C_drewN ?_ _) | (with_reducible refine Kd.C_drew ?_))); (case side4 => exact (Kd.R_reads' HO119.out).2.1); rintro e w' ⟨rfl, ⟨nd, rfl⟩⟩; have p121 : 0 ≤ (1 : Int) := (by omega); have q121 : 1 < (t113.length : Int) := of_decide_eq_true (by first | (with_reducible assumption) | assumption); obtain ⟨ad121, A121_0, c121_0, e121, hx121_0, hl121_0, hi121_0⟩ := at_L1 (Kd.N_reads' HO115.out).2.2 1 p121 q121; obtain rfl : ad116 = ad121 := (by injection e121); obtain ⟨ce121, hce121, hMe121, hcc121⟩ := Kd.N_get HO115.out [] 1 p121 (by first | exact q121 | exact of_decide_eq_true (by first | (with_reducible assumption) | assumption) | (have e_ := (Kd.N_reads' HO115.out).1; omega)); obtain ⟨ua121_0, uc121_0, rfl, ul121_0, ge121_0⟩ := Kd.FK_slice_open hMe121; have hv121_0 := hcc121 0 _ rfl; rw [Nat.add_zero, show ((Kd.slice 3 (Kd.int .i64))).sz = 1 from rfl, Nat.mul_one] at hv121_0; replace hv121_0 := Option.some.inj (hv121_0.symm.trans hx121_0); injection hv121_0 with hva_ hvn_ hvc_; rw [hva_] at ge121_0; rw [hvc_] at ul121_0; have HL121_0 := Aside0.mk (show Kd.V (Kd.int .i64) 3 _ w.heap.size _ _ (rd_L1 t113 1) from Kd.V_mk ul121_0 ge121_0); clear hva_ hvn_ hvc_ ge121_0 ul121_0; clear hcc121 hce121; (try simp only [show (1 : Int).toNat = 1 from rfl, Nat.reduceMul, Nat.reduceEqDiff, Go.Addr.add, ↓reduceIte] at hx121_0); have qi121 : (1 < t113.length) = True := eq_true (by omega); (try rw [show ((1 : Int)).toNat = 1 from rfl] at hx121_0); have HR121_0 := Aside0.mk hi121_0; have HC121_0 := Aside0.mk hl121_0; clear hi121_0 hl121_0; replace p121 := eq_true p121; replace q121 := eq_true q121) | ((with_reducible refine gate_dst (N := 20) rfl ?_); (try (refine gate_guard (by rfl) ?_; dsimp only)); refine Kd.R_lit (Kd.int .i64) _ 3 ?hg (N := 20) ?hd (xs := ([2] : List Int)) (inner := [.int .i64 2]) (ok := fun _ => True) (okp := fun _ => True) ?hr ?hp (fun _ hk => hk) trivial (Below.refl _ _) (Nat.le_refl _) (by simp) ?_; (case hd => rfl); (case hg => rfl); (case hr => first | (go_simp; done) | (go_simp; rfl)); (case hp => exact (Reps.one (show Kd.M (Kd.int .i64) _ _ _ 2 [.int .i64 2] from rfl) (Reps.none _ _))); intro v123 w22 ho23 hb hg_ hnew_; clear hg_ hnew_; (first | rw [← Ny122.out] at ho23 | (simp only [Int.reduceToNat] at ho23; rw [← Ny122.out] at ho23)); have n0_ := Aside0.mk (Kd.N_elder' (by (with_reducible repeat (first | apply Kd.N_alloc | apply Kd.N_drewN | apply Kd.N_drew)); exact HO112.out) (Kd.R_base ho23) hb); have n1_ := Aside0.mk (Kd.N_elder' (by (with_reducible repeat (first | apply Kd.N_alloc | apply Kd.N_drewN | apply Kd.N_drew)); exact HO115.out) (Kd.R_base ho23) hb); have n2_ := Aside0.mk (Kd.V_elder' (by (with_reducible repeat (first | apply Kd.V_alloc | apply Kd.V_drewN | apply Kd.V_drew)); exact HL116_0.out) (Kd.R_base ho23) hb); have n3_ := Aside0.mk (Kd.R_elder' (by (with_reducible repeat (first | apply Kd.R_alloc | apply Kd.R_drewN | apply Kd.R_drew)); exact HO119.out) (Kd.R_base ho23) hb); have n4_ := Aside0.mk (Kd.V_elder' (by (with_reducible repeat (first | apply Kd.V_alloc | apply Kd.V_drewN | apply Kd.V_drew)); exact HL121_0.out) (Kd.R_base ho23) hb); have n5_ := Aside0.mk (Kd.R_lower (Kd.R_new' ho23 (Kd.R_lt (by (with_reducible repeat (first | apply Kd.R_alloc | apply Kd.R_drewN | apply Kd.R_drew)); exact HO119.out))) (below_size (by repeat (first | (with_reducible first | exact HB.out | apply below_alloc | apply pw_below_drewN | apply below_drew1) | exact HB.out)))); have n6_ := Aside0.mk (Kd.C_below (by repeat (first | (with_reducible exact HR116_0.out) | (with_reducible refine Kd.C_alloc ?_ _) | (with_reducible refine Kd.C_drewN ?_ _) | (with_reducible refine Kd.C_drew ?_) | exact HR116_0.out)) hb); have n7_ := Aside0.mk (Kd.C_below (by repeat (first | (with_reducible exact HR121_0.out) | (with_reducible refine Kd.C_alloc ?_ _) | (with_reducible refine Kd.C_drewN ?_ _) | (with_reducible refine Kd.C_drew ?_) | exact HR121_0.out)) hb); have n8_ := Aside0.mk (below_step (by repeat (first | (with_reducible first | exact HB.out | apply below_alloc | apply pw_below_drewN | apply below_drew1) | exact HB.out)) hb); clear HO112; clear HO115; clear HL116_0; clear HO119; clear HL121_0; clear HR116_0; clear HR121_0; clear HB; have HO112 := n0_; have HO115 := n1_; have HL116_0 := n2_; have HO119 := n3_; have HL121_0 := n4_; have HO124 := n5_; have HR116_0 := n6_; have HR121_0 := n7_; have HB := n8_; clear n0_ n1_ n2_ n3_ n4_ n5_ n6_ n7_ n8_; clear hb ho23; obtain ⟨Ao24, co24, eo24⟩ := Kd.R_slice HO124.out; subst eo24) | (go_at_call 23; (with_reducible refine (bywashref01_Ints.calls k _ _ (rd_L1 t113 1) _ _ y122 t125 _ ?side1 ?side2 ?side3 ?side4 A7.out).mono ?_); (case side1 => repeat (first | exact (by repeat (first | (with_reducible exact HR121_0.out) | (with_reducible refine Kd.C_alloc ?_ _) | (with_reducible refine Kd.C_drewN ?_ _) | (with_reducible refine Kd.C_drew ?_) | exact HR121_0.out)) | (with_reducible refine Kd.C_alloc ?_ _) | (with_reducible refine Kd.C_drewN ?_ _) | (with_reducible refine Kd.C_drew ?_))); (case side2 => exact HC121_0.out); (case side3 => repeat (first | exact (Kd.R_reads' HO124.out).2.2 | (with_reducible refine Kd.C_alloc ?_ _) | (with_reducible refine Kd.C_drewN ?_ _) | (with_reducible refine Kd.C_drew ?_))); (case side4 => exact (Kd.R_reads' HO124.out).2.1); rintro e w' ⟨rfl, ⟨nd, rfl⟩⟩))
          go_ret
          exact ⟨by first | rfl | (simp [errW_none, errW_some] <;> rfl) | (simp [*, errW_none, errW_some] <;> rfl) | (exfalso; (try simp_all); (try omega); done), by repeat (first | (with_reducible first | exact HB.out | apply below_alloc | apply pw_below_drewN | apply below_drew1) | exact HB.out)⟩
        · rw [if_neg c6] at H
          exact absurd H (by simp)
      · replace c5 := Bool.eq_false_iff.mpr c5
        subst c5
        have H1 : (some false) = some r := by rw [if_neg (show ¬ (false = true) by decide)] at H; exact H
        clear H
        have H := H1
        clear H1
        obtain rfl := Option.some.inj H
        go_enter Try.func34, Try.ntmps34
        go_wp2_with (first | ((with_reducible refine gate_dst (N := 2) rfl ?_); (try (refine gate_guard (by rfl) ?_; dsimp only)); refine Kd.R_lit (Kd.int .i64) _ 3 ?hg (N := 2) ?hd (xs := ([1] : List Int)) (inner := [.int .i64 1]) (ok := fun _ => True) (okp := fun _ => True) ?hr ?hp (fun _ hk => hk) trivial (Below.refl _ _) (Nat.le_refl _) (by simp) ?_; (case hd => rfl); (case hg => rfl); (case hr => first | (go_simp; done) | (go_simp; rfl)); (case hp => exact (Reps.one (show Kd.M (Kd.int .i64) _ _ _ 1 [.int .i64 1] from rfl) (Reps.none _ _))); intro v105 w25 ho26 hb hg_ hnew_; clear hg_ hnew_; (first | rw [← Ny104.out] at ho26 | (simp only [Int.reduceToNat] at ho26; rw [← Ny104.out] at ho26)); have n0_ := Aside0.mk (Kd.R_lower ho26 (below_size (by repeat (first | (with_reducible first | exact HB.out | apply below_alloc | apply pw_below_drewN | apply below_drew1) | exact HB.out)))); have n1_ := Aside0.mk (below_step (by repeat (first | (with_reducible first | exact HB.out | apply below_alloc | apply pw_below_drewN | apply below_drew1) | exact HB.out)) hb); clear HB; have HO106 := n0_; have HB := n1_; clear n0_ n1_; clear hb ho26) | ((with_reducible refine gate_dst (N := 3) rfl ?_); (try (refine gate_guard (by rfl) ?_; dsimp only)); refine Kd.R_lit (Kd.int .i64) _ 3 ?hg (N := 3) ?hd (xs := ([0, 2] : List Int)) (inner := [.int .i64 0, .int .i64 2]) (ok := fun _ => True) (okp := fun _ => True) ?hr ?hp (fun _ hk => hk) trivial (Below.refl _ _) (Nat.le_refl _) (by simp) ?_; (case hd => rfl); (case hg => rfl); (case hr => first | (go_simp; done) | (go_simp; rfl)); (case hp => exact (Reps.one (show Kd.M (Kd.int .i64) _ _ _ 0 [.int .i64 0] from rfl) (Reps.one (show Kd.M (Kd.int .i64) _ _ _ 2 [.int .i64 2] from rfl) (Reps.none _ _)))); intro v108 w27 ho28 hb hg_ hnew_; clear hg_ hnew_; (first | rw [← Ny107.out] at ho28 | (simp only [Int.reduceToNat] at ho28; rw [← Ny107.out] at ho28)); have n0_ := Aside0.mk (Kd.R_elder' (by (with_reducible repeat (first | apply Kd.R_alloc | apply Kd.R_drewN | apply Kd.R_drew)); exact HO106.out) (Kd.R_base ho28) hb); have n1_ := Aside0.mk (Kd.R_lower (Kd.R_new' ho28 (Kd.R_lt (by (with_reducible repeat (first | apply Kd.R_alloc | apply Kd.R_drewN | apply Kd.R_drew)); exact HO106.out))) (below_size (by repeat (first | (with_reducible first | exact HB.out | apply below_alloc | apply pw_below_drewN | apply below_drew1) | exact HB.out)))); have n2_ := Aside0.mk (below_step (by repeat (first | (with_reducible first | exact HB.out | apply below_alloc | apply pw_below_drewN | apply below_drew1) | exact HB.out)) hb); clear HO106; clear HB; have HO106 := n0_; have HO109 := n1_; have HB := n2_; clear n0_ n1_ n2_; clear hb ho28; obtain ⟨Ao29, co29, eo29⟩ := Kd.R_slice HO106.out; subst eo29; obtain ⟨Ao30, co30, eo30⟩ := Kd.R_slice HO109.out; subst eo30) | ((with_reducible refine gate_dst (N := 4) rfl ?_); (try (refine gate_guard (by rfl) ?_; dsimp only)); refine Kd.N_lit (Kd.slice 3 (Kd.int .i64)) _ 32 ?hg (N' := 4) ?hd (xs := ([y104, y107, []] : List (List Int))) (inner := [.slice Ao29 y104.length co29, .slice Ao30 y107.length co30, .slice none 0 0]) (ok := (fun _ => True)) (okp := (fun _ => True)) ?hr ?hp (fun _ hk => hk) ((show ∀ k_, w27.heap.size ≤ k_ → (fun _ => True) k_ from fun k_ hk => trivial) _ (Nat.le_refl _)) (Below.refl _ _) (Nat.le_refl _) (by simp) ?_; (case hd => rfl); (case hg => rfl); (case hr => first | (go_simp; done) | (go_simp; rfl)); (case hp => exact (Reps.one (show Kd.FK (Kd.slice 3 (Kd.int .i64)) _ _ y104 [.slice Ao29 y104.length co29] from (Kd.FK_slice_mk (Kd.R_reads' (Kd.R_mono (ok' := (fun _ => True)) (HO106.out) (fun k_ hk => trivial))).2.1 (Kd.R_F (Kd.R_mono (ok' := (fun _ => True)) (HO106.out) (fun k_ hk => trivial))))) (Reps.one (show Kd.FK (Kd.slice 3 (Kd.int .i64)) _ _ y107 [.slice Ao30 y107.length co30] from (Kd.FK_slice_mk (Kd.R_reads' (Kd.R_mono (ok' := (fun _ => True)) (HO109.out) (fun k_ hk => trivial))).2.1 (Kd.R_F (Kd.R_mono (ok' := (fun _ => True)) (HO109.out) (fun k_ hk => trivial))))) (Reps.one (show Kd.FK (Kd.slice 3 (Kd.int .i64)) _ _ [] [.slice none 0 0] from (Kd.FK_slice_mk (Nat.le_refl _) (Kd.F_nil _ _ _))) (Reps.none _ _))))); intro v111 w31 ho32 hb hg_ hnew_; clear hg_ hnew_; (first | rw [← Ny110.out] at ho32 | (simp only [Int.reduceToNat] at ho32; rw [← Ny110.out] at ho32)); have n0_ := Aside0.mk (Kd.N_lower ho32 (below_size (by repeat (first | (with_reducible first | exact HB.out | apply below_alloc | apply pw_below_drewN | apply below_drew1) | exact HB.out)))); have n1_ := Aside0.mk (below_step (by repeat (first | (with_reducible first | exact HB.out | apply below_alloc | apply pw_below_drewN | apply below_drew1) | exact HB.out)) hb); clear HB; clear HO106; clear HO109; have HO112 := n0_; have HB := n1_; clear n0_ n1_; clear hb ho32; obtain ⟨Ao33, co33, eo33⟩ := Kd.N_slice HO112.out; subst eo33) | ((with_reducible refine gate_callee (f := 36) rfl ?_); refine goesL_ (some 5) rfl rfl Try.func36 (by kernel_rfl) rfl #[.slice Ao33 y110.length co33] rfl (by (try simp only [List.map_toArray, List.map_cons, List.map_nil]); first | done | rfl | (simp only [List.length_drop, List.length_take]; rfl)) ?_; (with_reducible refine (scc_Parts.calls _ _ y110 t113 _ ?side1 ?side2 A1.out).mono ?_); (case side1 => repeat (first | exact (Kd.N_reads' HO112.out).2.2 | (with_reducible refine Kd.C_alloc ?_ _) | (with_reducible refine Kd.C_drewN ?_ _) | (with_reducible refine Kd.C_drew ?_))); (case side2 => exact (Kd.N_reads' HO112.out).2.1); rintro e w34 ⟨v114, rfl, ho0, hb⟩; refine ⟨_, rfl, ?_⟩; have n0_ := Aside0.mk (Kd.N_elder' (by (with_reducible repeat (first | apply Kd.N_alloc | apply Kd.N_drewN | apply Kd.N_drew)); exact HO112.out) (Kd.S_base ho0) hb); have n1_ := Aside0.mk (Kd.N_lower (Kd.N_mono (ok' := fun k_ => some k_ ≠ (.slice Ao33 y110.length co33 : Value).ownBlock) (Kd.S_N (Kd.S_bound ho0)) (fun k_ hk_ => (Kd.fresh' (Kd.N_lt (by (with_reducible repeat (first | apply Kd.N_alloc | apply Kd.N_drewN | apply Kd.N_drew)); exact HO112.out)) k_ hk_.2.1))) (below_size (by repeat (first | (with_reducible first | exact HB.out | apply below_alloc | apply pw_below_drewN | apply below_drew1) | exact HB.out)))); have n2_ := Aside0.mk (below_step (by repeat (first | (with_reducible first | exact HB.out | apply below_alloc | apply pw_below_drewN | apply below_drew1) | exact HB.out)) hb); clear HO112; clear HB; have HO112 := n0_; have HO115 := n1_; have HB := n2_; clear n0_ n1_ n2_; (try clear hb); (try clear hb2); (try clear hk); (try clear hi); (try clear ho0); obtain ⟨Ao35, co35, eo35⟩ := Kd.N_slice HO115.out; subst eo35; have p116 : 0 ≤ (0 : Int) := (by omega); have q116 : 0 < (t113.length : Int) := of_decide_eq_true (by first | (with_reducible assumption) | assumption); obtain ⟨ad116, A116_0, c116_0, e116, hx116_0, hl116_0, hi116_0⟩ := at_L1 (Kd.N_reads' HO115.out).2.2 0 p116 q116; cases e116; obtain ⟨ce116, hce116, hMe116, hcc116⟩ := Kd.N_get HO115.out [] 0 p116 (by first | exact q116 | exact of_decide_eq_true (by first | (with_reducible assumption) | assumption) | (have e_ := (Kd.N_reads' HO115.out).1; omega)); obtain ⟨ua116_0, uc116_0, rfl, ul116_0, ge116_0⟩ := Kd.FK_slice_open hMe116; have hv116_0 := hcc116 0 _ rfl; rw [Nat.add_zero, show ((Kd.slice 3 (Kd.int .i64))).sz = 1 from rfl, Nat.mul_one] at hv116_0; replace hv116_0 := Option.some.inj (hv116_0.symm.trans hx116_0); injection hv116_0 with hva_ hvn_ hvc_; rw [hva_] at ge116_0; rw [hvc_] at ul116_0; have HL116_0 := Aside0.mk (show Kd.V (Kd.int .i64) 3 _ w.heap.size _ _ (rd_L1 t113 0) from Kd.V_mk ul116_0 ge116_0); clear hva_ hvn_ hvc_ ge116_0 ul116_0; clear hcc116 hce116; have qi116 : (0 < t113.length) = True := eq_true (by omega); (try rw [show ((0 : Int)).toNat = 0 from rfl] at hx116_0); (try rw [Addr.add_zero'] at hx116_0); have HR116_0 := Aside0.mk hi116_0; have HC116_0 := Aside0.mk hl116_0; clear hi116_0 hl116_0; replace p116 := eq_true p116; replace q116 := eq_true q116) | ((with_reducible refine gate_dst (N := 13) rfl ?_); (try (refine gate_guard (by rfl) ?_; dsimp only)); refine Kd.R_lit (Kd.int .i64) _ 3 ?hg (N := 13) ?hd (xs := ([0, 1] : List Int)) (inner := [.int .i64 0, .int .i64 1]) (ok := fun _ => True) (okp := fun _ => True) ?hr ?hp (fun _ hk => hk) trivial (Below.refl _ _) (Nat.le_refl _) (by simp) ?_; (case hd => rfl); (case hg => rfl); (case hr => first | (go_simp; done) | (go_simp; rfl)); (case hp => exact (Reps.one (show Kd.M (Kd.int .i64) _ _ _ 0 [.int .i64 0] from rfl) (Reps.one (show Kd.M (Kd.int .i64) _ _ _ 1 [.int .i64 1] from rfl) (Reps.none _ _)))); intro v118 w36 ho37 hb hg_ hnew_; clear hg_ hnew_; (first | rw [← Ny117.out] at ho37 | (simp only [Int.reduceToNat] at ho37; rw [← Ny117.out] at ho37)); have n0_ := Aside0.mk (Kd.N_elder' (by (with_reducible repeat (first | apply Kd.N_alloc | apply Kd.N_drewN | apply Kd.N_drew)); exact HO112.out) (Kd.R_base ho37) hb); have n1_ := Aside0.mk (Kd.N_elder' (by (with_reducible repeat (first | apply Kd.N_alloc | apply Kd.N_drewN | apply Kd.N_drew)); exact HO115.out) (Kd.R_base ho37) hb); have n2_ := Aside0.mk (Kd.V_elder' (by (with_reducible repeat (first | apply Kd.V_alloc | apply Kd.V_drewN | apply Kd.V_drew)); exact HL116_0.out) (Kd.R_base ho37) hb); have n3_ := Aside0.mk (Kd.R_lower ho37 (below_size (by repeat (first | (with_reducible first | exact HB.out | apply below_alloc | apply pw_below_drewN | apply below_drew1) | exact HB.out)))); have n4_ := Aside0.mk (Kd.C_below (by repeat (first | (with_reducible exact HR116_0.out) | (with_reducible refine Kd.C_alloc ?_ _) | (with_reducible refine Kd.C_drewN ?_ _) | (with_reducible refine Kd.C_drew ?_) | exact HR116_0.out)) hb); have n5_ := Aside0.mk (below_step (by repeat (first | (with_reducible first | exact HB.out | apply below_alloc | apply pw_below_drewN | apply below_drew1) | exact HB.out)) hb); clear HO112; clear HO115; clear HL116_0; clear HR116_0; clear HB; have HO112 := n0_; have HO115 := n1_; have HL116_0 := n2_; have HO119 := n3_; have HR116_0 := n4_; have HB := n5_; clear n0_ n1_ n2_ n3_ n4_ n5_; clear hb ho37; obtain ⟨Ao38, co38, eo38⟩ := Kd.R_slice HO119.out; subst eo38) | (go_at_call 23; (with_reducible refine (bywashref01_Ints.calls k _ _ (rd_L1 t113 0) _ _ y117 false _ ?side1 ?side2 ?side3 ?side4 A4.out).mono ?_); (case side1 => repeat (first | exact (by repeat (first | (with_reducible exact HR116_0.out) | (with_reducible refine Kd.C_alloc ?_ _) | (with_reducible refine Kd.C_drewN ?_ _) | (with_reducible refine Kd.C_drew ?_) | exact HR116_0.out)) | (with_reducible refine Kd.C_alloc ?_ _) | (with_reducible refine Kd.C_drewN ?_ _) | (with_reducible refine Kd.C_drew ?_))); (case side2 => exact HC116_0.out); (case side3 => repeat (first | exact (Kd.R_reads' HO119.out).2.2 | (with_reducible refine Kd.C_alloc ?_ _) | (with_reducible refine Kd.C_drewN ?_ _) | (with_reducible refine Kd.C_drew ?_))); (case side4 => exact (Kd.R_reads' HO119.out).2.1); rintro e w' ⟨rfl, ⟨nd, rfl⟩⟩))
        go_ret
        exact ⟨by first | rfl | (simp [errW_none, errW_some] <;> rfl) | (simp [*, errW_none, errW_some] <;> rfl) | (exfalso; (try simp_all); (try omega); done), by repeat (first | (with_reducible first | exact HB.out | apply below_alloc | apply pw_below_drewN | apply below_drew1) | exact HB.out)⟩
    · rw [if_neg c3] at H
      exact absurd H (by simp)
  · rw [if_neg c2] at H
    have c2b0 : ((t113.length : Int) == 2) = false := beq_eq_false_iff_ne.mpr c2
    have c2b1 : ((t113.length : Int) != 2) = true := bne_iff_ne.mpr c2
    obtain rfl := Option.some.inj H
    go_enter Try.func34, Try.ntmps34
    go_wp2_with (first | ((with_reducible refine gate_dst (N := 2) rfl ?_); (try (refine gate_guard (by rfl) ?_; dsimp only)); refine Kd.R_lit (Kd.int .i64) _ 3 ?hg (N := 2) ?hd (xs := ([1] : List Int)) (inner := [.int .i64 1]) (ok := fun _ => True) (okp := fun _ => True) ?hr ?hp (fun _ hk => hk) trivial (Below.refl _ _) (Nat.le_refl _) (by simp) ?_; (case hd => rfl); (case hg => rfl); (case hr => first | (go_simp; done) | (go_simp; rfl)); (case hp => exact (Reps.one (show Kd.M (Kd.int .i64) _ _ _ 1 [.int .i64 1] from rfl) (Reps.none _ _))); intro v105 w39 ho40 hb hg_ hnew_; clear hg_ hnew_; (first | rw [← Ny104.out] at ho40 | (simp only [Int.reduceToNat] at ho40; rw [← Ny104.out] at ho40)); have n0_ := Aside0.mk (Kd.R_lower ho40 (below_size (by repeat (first | (with_reducible first | exact HB.out | apply below_alloc | apply pw_below_drewN | apply below_drew1) | exact HB.out)))); have n1_ := Aside0.mk (below_step (by repeat (first | (with_reducible first | exact HB.out | apply below_alloc | apply pw_below_drewN | apply below_drew1) | exact HB.out)) hb); clear HB; have HO106 := n0_; have HB := n1_; clear n0_ n1_; clear hb ho40) | ((with_reducible refine gate_dst (N := 3) rfl ?_); (try (refine gate_guard (by rfl) ?_; dsimp only)); refine Kd.R_lit (Kd.int .i64) _ 3 ?hg (N := 3) ?hd (xs := ([0, 2] : List Int)) (inner := [.int .i64 0, .int .i64 2]) (ok := fun _ => True) (okp := fun _ => True) ?hr ?hp (fun _ hk => hk) trivial (Below.refl _ _) (Nat.le_refl _) (by simp) ?_; (case hd => rfl); (case hg => rfl); (case hr => first | (go_simp; done) | (go_simp; rfl)); (case hp => exact (Reps.one (show Kd.M (Kd.int .i64) _ _ _ 0 [.int .i64 0] from rfl) (Reps.one (show Kd.M (Kd.int .i64) _ _ _ 2 [.int .i64 2] from rfl) (Reps.none _ _)))); intro v108 w41 ho42 hb hg_ hnew_; clear hg_ hnew_; (first | rw [← Ny107.out] at ho42 | (simp only [Int.reduceToNat] at ho42; rw [← Ny107.out] at ho42)); have n0_ := Aside0.mk (Kd.R_elder' (by (with_reducible repeat (first | apply Kd.R_alloc | apply Kd.R_drewN | apply Kd.R_drew)); exact HO106.out) (Kd.R_base ho42) hb); have n1_ := Aside0.mk (Kd.R_lower (Kd.R_new' ho42 (Kd.R_lt (by (with_reducible repeat (first | apply Kd.R_alloc | apply Kd.R_drewN | apply Kd.R_drew)); exact HO106.out))) (below_size (by repeat (first | (with_reducible first | exact HB.out | apply below_alloc | apply pw_below_drewN | apply below_drew1) | exact HB.out)))); have n2_ := Aside0.mk (below_step (by repeat (first | (with_reducible first | exact HB.out | apply below_alloc | apply pw_below_drewN | apply below_drew1) | exact HB.out)) hb); clear HO106; clear HB; have HO106 := n0_; have HO109 := n1_; have HB := n2_; clear n0_ n1_ n2_; clear hb ho42; obtain ⟨Ao43, co43, eo43⟩ := Kd.R_slice HO106.out; subst eo43; obtain ⟨Ao44, co44, eo44⟩ := Kd.R_slice HO109.out; subst eo44) | ((with_reducible refine gate_dst (N := 4) rfl ?_); (try (refine gate_guard (by rfl) ?_; dsimp only)); refine Kd.N_lit (Kd.slice 3 (Kd.int .i64)) _ 32 ?hg (N' := 4) ?hd (xs := ([y104, y107, []] : List (List Int))) (inner := [.slice Ao43 y104.length co43, .slice Ao44 y107.length co44, .slice none 0 0]) (ok := (fun _ => True)) (okp := (fun _ => True)) ?hr ?hp (fun _ hk => hk) ((show ∀ k_, w41.heap.size ≤ k_ → (fun _ => True) k_ from fun k_ hk => trivial) _ (Nat.le_refl _)) (Below.refl _ _) (Nat.le_refl _) (by simp) ?_; (case hd => rfl); (case hg => rfl); (case hr => first | (go_simp; done) | (go_simp; rfl)); (case hp => exact (Reps.one (show Kd.FK (Kd.slice 3 (Kd.int .i64)) _ _ y104 [.slice Ao43 y104.length co43] from (Kd.FK_slice_mk (Kd.R_reads' (Kd.R_mono (ok' := (fun _ => True)) (HO106.out) (fun k_ hk => trivial))).2.1 (Kd.R_F (Kd.R_mono (ok' := (fun _ => True)) (HO106.out) (fun k_ hk => trivial))))) (Reps.one (show Kd.FK (Kd.slice 3 (Kd.int .i64)) _ _ y107 [.slice Ao44 y107.length co44] from (Kd.FK_slice_mk (Kd.R_reads' (Kd.R_mono (ok' := (fun _ => True)) (HO109.out) (fun k_ hk => trivial))).2.1 (Kd.R_F (Kd.R_mono (ok' := (fun _ => True)) (HO109.out) (fun k_ hk => trivial))))) (Reps.one (show Kd.FK (Kd.slice 3 (Kd.int .i64)) _ _ [] [.slice none 0 0] from (Kd.FK_slice_mk (Nat.le_refl _) (Kd.F_nil _ _ _))) (Reps.none _ _))))); intro v111 w45 ho46 hb hg_ hnew_; clear hg_ hnew_; (first | rw [← Ny110.out] at ho46 | (simp only [Int.reduceToNat] at ho46; rw [← Ny110.out] at ho46)); have n0_ := Aside0.mk (Kd.N_lower ho46 (below_size (by repeat (first | (with_reducible first | exact HB.out | apply below_alloc | apply pw_below_drewN | apply below_drew1) | exact HB.out)))); have n1_ := Aside0.mk (below_step (by repeat (first | (with_reducible first | exact HB.out | apply below_alloc | apply pw_below_drewN | apply below_drew1) | exact HB.out)) hb); clear HB; clear HO106; clear HO109; have HO112 := n0_; have HB := n1_; clear n0_ n1_; clear hb ho46; obtain ⟨Ao47, co47, eo47⟩ := Kd.N_slice HO112.out; subst eo47) | ((with_reducible refine gate_callee (f := 36) rfl ?_); refine goesL_ (some 5) rfl rfl Try.func36 (by kernel_rfl) rfl #[.slice Ao47 y110.length co47] rfl (by (try simp only [List.map_toArray, List.map_cons, List.map_nil]); first | done | rfl | (simp only [List.length_drop, List.length_take]; rfl)) ?_; (with_reducible refine (scc_Parts.calls _ _ y110 t113 _ ?side1 ?side2 A1.out).mono ?_); (case side1 => repeat (first | exact (Kd.N_reads' HO112.out).2.2 | (with_reducible refine Kd.C_alloc ?_ _) | (with_reducible refine Kd.C_drewN ?_ _) | (with_reducible refine Kd.C_drew ?_))); (case side2 => exact (Kd.N_reads' HO112.out).2.1); rintro e w48 ⟨v114, rfl, ho0, hb⟩; refine ⟨_, rfl, ?_⟩; have n0_ := Aside0.mk (Kd.N_elder' (by (with_reducible repeat (first | apply Kd.N_alloc | apply Kd.N_drewN | apply Kd.N_drew)); exact HO112.out) (Kd.S_base ho0) hb); have n1_ := Aside0.mk (Kd.N_lower (Kd.N_mono (ok' := fun k_ => some k_ ≠ (.slice Ao47 y110.length co47 : Value).ownBlock) (Kd.S_N (Kd.S_bound ho0)) (fun k_ hk_ => (Kd.fresh' (Kd.N_lt (by (with_reducible repeat (first | apply Kd.N_alloc | apply Kd.N_drewN | apply Kd.N_drew)); exact HO112.out)) k_ hk_.2.1))) (below_size (by repeat (first | (with_reducible first | exact HB.out | apply below_alloc | apply pw_below_drewN | apply below_drew1) | exact HB.out)))); have n2_ := Aside0.mk (below_step (by repeat (first | (with_reducible first | exact HB.out | apply below_alloc | apply pw_below_drewN | apply below_drew1) | exact HB.out)) hb); clear HO112; clear HB; have HO112 := n0_; have HO115 := n1_; have HB := n2_; clear n0_ n1_ n2_; (try clear hb); (try clear hb2); (try clear hk); (try clear hi); (try clear ho0); obtain ⟨Ao49, co49, eo49⟩ := Kd.N_slice HO115.out; subst eo49))
    go_ret
    exact ⟨by first | rfl | (simp [errW_none, errW_some] <;> rfl) | (simp [*, errW_none, errW_some] <;> rfl) | (exfalso; (try simp_all); (try omega); done), by repeat (first | (with_reducible first | exact HB.out | apply below_alloc | apply pw_below_drewN | apply below_drew1) | exact HB.out)⟩
end Go.Proofs.Ytdknhgbjgdmfkaa.P
namespace Go.Proofs.Ytdknhgbjgdmfkaa.P
open Go.RowKit Go.Lib Go.Proofs.YtdknhgbjgdmfkaaW.PrintWords
def exS : List (List Int) := [[1], [0, 2], []]
theorem exS_clean : clean exS = exS := clean_self (by intro l hl; simp only [exS, List.mem_cons, List.not_mem_nil, or_false] at hl; rcases hl with rfl | rfl | rfl <;> intro b hb <;> simp at hb <;> (try rcases hb with rfl | rfl) <;> (try subst hb) <;> decide) (by decide)
theorem exS_fits : fits exS = true := by decide
theorem exS_parts : partsB exS = [[0, 1], [2]] := by decide
theorem awake11_ev : Ev (fun k => bywashlaw11_awake.f k) true := by
  have h0 : scc_Parts.f exS = some [[0, 1], [2]] := by unfold scc_Parts.f; rw [if_pos exS_fits, exS_clean, exS_parts]
  refine Ev.congr (f := fun k => (bywashref01_Ints.f k [0, 1] [0, 1]).bind fun t120 => if t120 = true then (bywashref01_Ints.f k [2] [2]).bind fun t125 => some t125 else some false) (fun k => ?_) ?_
  · unfold bywashlaw11_awake.f
    rw [show ([([1] : List Int), ([0, 2] : List Int), []] : List (List Int)) = exS from rfl, h0, Option.bind_some]
    rfl
  · refine Ev.bind (ints_ev _ _ (by decide)) ?_
    simp only [decide_true, if_true]
    refine Ev.bind (ints_ev _ _ (by decide)) ?_
    simp only [decide_true]
    exact Ev.now _
theorem parts_now {g : List (List Int)} (h : fits g = true) : scc_Parts.f g = some (partsB (clean g)) := by unfold scc_Parts.f; rw [if_pos h]
theorem leads_now {g : List (List Int)} (h : fits g = true) : scc_Leads.f g = some (leadB (clean g)) := by unfold scc_Leads.f; rw [if_pos h]
theorem loops_now {g : List (List Int)} (h : fits g = true) : scc_Loops.f g = some (loopsB (clean g)) := by unfold scc_Loops.f; rw [if_pos h]
end Go.Proofs.Ytdknhgbjgdmfkaa.P
namespace Go.Proofs.Ytdknhgbjgdmfkaa.P
open Go.RowKit Go.Lib Go.Sort Go.Shelf Go.Proofs.YtdknhgbjgdmfkaaW.PrintWords Go.Proofs.YtdknhgbjgdmfkaaW.PrintLast Go.Proofs.YtdknhgbjgdmfkaaW.PrintMore
def idxF (p : Int → Bool) (xs : List Int) : Int := match xs.findIdx? p with | some i => (i : Int) | none => -1
theorem idxF_any (p : Int → Bool) (xs : List Int) : decide (0 ≤ idxF p xs) = xs.any p := by
  unfold idxF
  cases h : xs.findIdx? p with
  | none =>
    rw [List.findIdx?_eq_none_iff] at h
    have : xs.any p = false := by rw [List.any_eq_false]; exact fun x hx => by rw [h x hx]; simp
    rw [this]
    rfl
  | some i =>
    rw [List.findIdx?_eq_some_iff_getElem] at h
    obtain ⟨hi, hp, _⟩ := h
    have : xs.any p = true := List.any_eq_true.2 ⟨xs[i], List.getElem_mem hi, hp⟩
    rw [this]
    simp
theorem idxF_hit {p : Int → Bool} {xs : List Int} {k : Nat} (hk : k < xs.length) (hp : p xs[k] = true) (hno : ∀ j (hj : j < xs.length), j < k → p xs[j] = false) : idxF p xs = (k : Int) := by
  unfold idxF
  have : xs.findIdx? p = some k := List.findIdx?_eq_some_iff_getElem.2 ⟨hk, hp, fun j hj => by rw [hno j (by omega) hj]; simp⟩
  rw [this]
theorem idxF_miss {p : Int → Bool} {xs : List Int} (hno : ∀ j (hj : j < xs.length), p xs[j] = false) : idxF p xs = -1 := by
  unfold idxF
  have : xs.findIdx? p = none := List.findIdx?_eq_none_iff.2 (fun x hx => by
    obtain ⟨j, hj, e⟩ := List.getElem_of_mem hx
    rw [← e]
    exact hno j hj)
  rw [this]
set_option maxHeartbeats 4000000 in
theorem index_b (g : Nat) (lb : Array Value) (p : Int → Bool) (eg : ∀ args w, (callFunc g args).run Try.prog w = .ok (.enter g args) w) (A : Option Addr) (c : Nat) (xs : List Int) (w : World) (hC : dI.C w A xs.length xs) (hb : xs.length ≤ 1000000)
    (hp : ∀ W x, Below w.heap.size w W → x ∈ xs → Calls Try.prog g (#[.int .i64 x] ++ lb) W fun e w' => e = .returned (.bool (p x)) ∧ Below W.heap.size W w') :
    Calls Try.prog 77 #[.slice A xs.length c, .func (.func g) #[] lb] w fun e w' => e = .returned (.int .i64 (idxF p xs)) ∧ Below w.heap.size w w' := by
  have HP := Aside0.mk hp
  have HC := Aside0.mk hC
  obtain ⟨n, hn⟩ : ∃ n, n = xs.length := ⟨_, rfl⟩
  rw [← hn] at hb ⊢
  have HN := Aside0.mk hn
  clear hp hC hn
  go_enter Try.func77, Try.ntmps77
  go_wp2
  go_loopw [5, 8] (fun _ v8 wr => ∃ k : Nat, v8 = .int .i64 k ∧ k ≤ n ∧ Aside0 (∀ j (hj : j < xs.length), j < k → p xs[j] = false) ∧ Aside0 (Below w.heap.size w wr)) (fun _ v8 _ => n - (intOf v8).toNat)
  case atStart => exact ⟨0, rfl, Nat.zero_le _, ⟨fun j _ hj => absurd hj (Nat.not_lt_zero _)⟩, ⟨Below.refl _ _⟩⟩
  case round =>
    obtain ⟨k, rfl, hk, HNO, HB⟩ := hrel
    by_cases hlt : k < n
    · have hkx : k < xs.length := by have := HN.out; omega
      obtain ⟨b, off, e1, _, hcc⟩ := C_ints (Kd.C_below HC.out HB.out) (by omega)
      subst e1
      have hcell := hcc k hkx
      obtain ⟨y, ey⟩ : ∃ y, y = xs[k] := ⟨_, rfl⟩
      rw [List.getD_eq_getElem?_getD, List.getElem?_eq_getElem hkx, Option.getD_some, ← ey] at hcell
      have HY := Aside0.mk ey
      have hcall := HP.out wr y HB.out (by rw [ey]; exact List.getElem_mem hkx)
      obtain ⟨q, hq⟩ : ∃ q, q = p y := ⟨_, rfl⟩
      rw [← hq] at hcall
      have HQ := Aside0.mk hq
      clear hcc ey hq
      cases q with
      | true =>
        go_wp2_with (go_at_fn g; refine hcall.mono ?_; rintro e w2 ⟨rfl, hb2⟩; have HB2 := Aside0.mk hb2; clear hb2)
        go_ret
        refine ⟨?_, below_step HB.out HB2.out⟩
        rw [idxF_hit (p := p) (xs := xs) (k := k) (by have := HN.out; omega) (by rw [← HY.out]; exact HQ.out.symm) HNO.out]
        rfl
      | false =>
        go_wp2_with (go_at_fn g; refine hcall.mono ?_; rintro e w2 ⟨rfl, hb2⟩; have HB2 := Aside0.mk hb2; clear hb2)
        go_roundw
        case rel =>
          refine ⟨k + 1, by go_num, by omega, ⟨fun j hj hjk => ?_⟩, ⟨below_step HB.out HB2.out⟩⟩
          rcases Nat.lt_or_ge j k with h1 | h1
          · exact HNO.out j hj h1
          · obtain rfl : j = k := by omega
            rw [← HY.out]
            exact HQ.out.symm
        case measure => simp [intOf]; omega
    · obtain rfl : k = n := by omega
      clear hlt
      go_wp2
      go_ret
      refine ⟨?_, HB.out⟩
      rw [idxF_miss (p := p) (xs := xs) (fun j hj => HNO.out j hj (by have := HN.out; omega))]
      rfl
set_option maxHeartbeats 1000000 in
theorem contains_b (g : Nat) (lb : Array Value) (p : Int → Bool) (eg : ∀ args w, (callFunc g args).run Try.prog w = .ok (.enter g args) w) (A : Option Addr) (c : Nat) (xs : List Int) (w : World) (hC : dI.C w A xs.length xs) (hb : xs.length ≤ 1000000)
    (hp : ∀ W x, Below w.heap.size w W → x ∈ xs → Calls Try.prog g (#[.int .i64 x] ++ lb) W fun e w' => e = .returned (.bool (p x)) ∧ Below W.heap.size W w') :
    Calls Try.prog 65 #[.slice A xs.length c, .func (.func g) #[] lb] w fun e w' => e = .returned (.bool (xs.any p)) ∧ Below w.heap.size w w' := by
  have HI := Aside0.mk (index_b g lb p eg A c xs w hC hb hp)
  obtain ⟨r, hr⟩ : ∃ r, r = idxF p xs := ⟨_, rfl⟩
  rw [← hr] at HI
  rw [← idxF_any p xs, ← hr]
  clear hp hC hr
  go_enter Try.func65, Try.ntmps65
  go_wp2_with (go_at_call 77; refine HI.out.mono ?_; rintro e w2 ⟨rfl, hb2⟩; have HB2 := Aside0.mk hb2; clear hb2)
  go_ret
  exact ⟨rfl, HB2.out⟩
set_option maxHeartbeats 4000000 in
theorem pathfn_gives (x b : Int) (Bg Bb : Nat) (A0 : Option Addr) (c0 : Nat) (l0 : List (List Int)) (r : List Bool) (W : World) (hcg : W.cell? ⟨Bg, 0, none⟩ = some (.slice A0 l0.length c0)) (hcb : W.cell? ⟨Bb, 0, none⟩ = some (.int .i64 b)) (hlg : Bg < W.heap.size) (hlb : Bb < W.heap.size)
    (hC : dG.C W A0 l0.length l0) (hc0 : l0.length ≤ c0) (hr : graph_Reach.f l0 x = some r) (hb0 : 0 ≤ b) (hb1 : b < (r.length : Int)) :
    Calls Try.prog 66 (#[.int .i64 x] ++ #[.pointer (some ⟨Bg, 0, none⟩), .pointer (some ⟨Bb, 0, none⟩)]) W fun e w' => e = .returned (.bool (rdOf false r b)) ∧ Below W.heap.size W w' := by
  show Calls Try.prog 66 #[.int .i64 x, .pointer (some ⟨Bg, 0, none⟩), .pointer (some ⟨Bb, 0, none⟩)] W _
  have HRE := Aside0.mk (fun W' (hW : Below W.heap.size W W') => graph_Reach.calls A0 c0 l0 x r W' (Kd.C_below hC hW) hc0 hr)
  have HLG := Aside0.mk (And.intro hlg hlb)
  clear hC hr hc0 hlg hlb
  obtain ⟨q, hq⟩ : ∃ q, q = rdOf false r b := ⟨_, rfl⟩
  rw [← hq]
  have HQ := Aside0.mk hq
  clear hq
  go_enter Try.func66, Try.ntmps66
  go_wp2
  go_region_with
    (first | (go_at_call 21; refine (HRE.out _ (by repeat (first | exact Below.refl _ _ | apply pw_below_drewN | apply below_drew1 | apply below_drew))).mono ?_; rintro e w1 ⟨v, rfl, ho, hbw⟩; (have g1 := cell_later hbw hcg HLG.out.1); (have g2 := cell_later hbw hcb HLG.out.2); obtain ⟨gv, cv, rfl, _⟩ := Kd.R_form ho (by omega); obtain ⟨hcv, hfv⟩ := Kd.R_celln false ho b hb0 hb1; rw [← HQ.out] at hcv; have HBW := Aside0.mk ((by repeat (first | exact Below.refl _ _ | apply pw_below_drewN | apply below_drew1 | apply below_drew) : Below W.heap.size W _).trans hbw); clear ho hbw))
  all_goals
    go_wp2
    go_ret
    exact ⟨rfl, by repeat (first | exact HBW.out | apply pw_below_drewN | apply below_drew1 | apply below_drew)⟩
set_option maxHeartbeats 4000000 in
set_option maxRecDepth 100000 in
theorem graph_Path.calls (A0 : Option Addr) (c0 : Nat) (l0 : List (List Int)) (a1 : Int) (a2 : Int) (r : Bool) (w : World) (hr0 : Kd.C (Kd.slice 3 (Kd.int .i64)) w A0 l0.length l0) (hc0 : l0.length ≤ c0) (h : graph_Path.f l0 a1 a2 = some r) :
    Calls Try.prog 30 #[.slice A0 l0.length c0, .int .i64 a1, .int .i64 a2] w fun e w' => e = .returned (.bool r) ∧ Below w.heap.size w w' := by
  have HR0 := Aside0.mk hr0
  have HC0 := Aside0.mk hc0
  obtain ⟨hfit, hpath⟩ : fits l0 = true ∧ (if isN l0.length a1 = true ∧ isN l0.length a2 = true then (if ((clean l0).getD a1.toNat []).all (fun c => decide ((graph_Reach.f l0 c).isSome = true ∧ ((graph_Reach.f l0 c).getD []).length = l0.length)) = true then some (((clean l0).getD a1.toNat []).any fun c => reachB l0 c a2) else none) else some false) = some r := by
    unfold graph_Path.f at h
    split at h
    · exact ⟨by assumption, h⟩
    · cases h
  have HF := Aside0.mk hfit
  clear hr0 hc0 h hfit
  have HIS : ∀ W, Calls Try.prog 53 #[.slice A0 l0.length c0, .int .i64 a1] W fun e w' => e = .returned (.bool (isN l0.length a1)) ∧ W = w' := fun W => is_c a1 A0 l0.length c0 W
  have HIT : ∀ W, Calls Try.prog 53 #[.slice A0 l0.length c0, .int .i64 a2] W fun e w' => e = .returned (.bool (isN l0.length a2)) ∧ W = w' := fun W => is_c a2 A0 l0.length c0 W
  have hBw : Below w.heap.size w ((w.alloc (.cells #[.slice A0 l0.length c0] 22)).alloc (.cells #[.int .i64 a2] 3)) := below_alloc (below_alloc (Below.refl _ _) _) _
  have HBW := Aside0.mk hBw
  have CL := Aside0.mk (graph_Clean.calls A0 c0 l0 (clean l0) _ (Kd.C_below HR0.out hBw) HC0.out (by unfold graph_Clean.f; rw [if_pos HF.out]))
  clear hBw
  rcases Bool.eq_false_or_eq_true (isN l0.length a1) with hna | hna
  · rcases Bool.eq_false_or_eq_true (isN l0.length a2) with hnb | hnb
    · rw [if_pos ⟨hna, hnb⟩] at hpath
      rw [hna] at HIS
      rw [hnb] at HIT
      obtain ⟨ha0, ha1⟩ := isN_iff.1 hna
      obtain ⟨hb0, hb1⟩ := isN_iff.1 hnb
      obtain ⟨row_, erow⟩ : ∃ row_, row_ = (clean l0).getD a1.toNat [] := ⟨_, rfl⟩
      rw [← erow] at hpath
      split at hpath
      · rename_i hall
        have HER := Aside0.mk erow
        have hr := Option.some.inj hpath
        rw [← hr]
        have HALL : Aside0 (∀ c ∈ row_, ∃ r', graph_Reach.f l0 c = some r' ∧ r'.length = l0.length) := by
          refine ⟨fun c hc => ?_⟩
          have := List.all_eq_true.1 hall c hc
          simp only [decide_eq_true_eq] at this
          obtain ⟨r', hr'⟩ := Option.isSome_iff_exists.1 this.1
          exact ⟨r', hr', by have := this.2; rw [hr'] at this; exact this⟩
        have hmem : row_ ∈ clean l0 := by
          rw [erow, List.getD_eq_getElem?_getD, List.getElem?_eq_getElem (by rw [clean_len]; omega)]
          exact List.getElem_mem _
        have HRW := Aside0.mk (clean_small HF.out _ hmem)
        obtain ⟨q, hq⟩ : ∃ q, q = row_.any fun c => reachB l0 c a2 := ⟨_, rfl⟩
        rw [← hq]
        have HQ := Aside0.mk hq
        clear hna hnb hmem hall hr erow hpath hq
        go_enter Try.func30, Try.ntmps30
        go_wp2_with (first | (go_at_call 16; refine CL.out.mono ?_; rintro e w2 ⟨v2, rfl, ho2, hb2⟩; obtain ⟨A2, c2, e2, _⟩ := Kd.S_reads ho2; rw [clean_len] at e2; subst e2; (obtain ⟨g2, A3, c3, e3, hl3, hst⟩ := row_stays ho2 (S := fun _ => False) (fun _ hk => hk.elim) (k := a1.toNat) (by omega)); subst e3; rw [← HER.out] at hl3 hst; (obtain ⟨hx3, hC3⟩ := hst w2 (Fr.refl _ _)); have HC3 := Aside0.mk hC3; have HB2 := Aside0.mk hb2; clear ho2 hb2 hst hC3 hl3) | (go_at_call 53; (with_reducible refine (HIS _).mono ?_); rintro e w' ⟨rfl, rfl⟩) | (go_at_call 53; (with_reducible refine (HIT _).mono ?_); rintro e w' ⟨rfl, rfl⟩))
        have HPR : Aside0 (∀ W x, Below w2.heap.size w2 W → x ∈ row_ → Calls Try.prog 66 (#[.int .i64 x] ++ #[.pointer (some ⟨w.heap.size, 0, none⟩), .pointer (some ⟨w.heap.size + 1, 0, none⟩)]) W fun e w' => e = .returned (.bool (reachB l0 x a2)) ∧ Below W.heap.size W w') := by
          refine ⟨fun W x hW hx => ?_⟩
          obtain ⟨r', hr', hl'⟩ := HALL.out x hx
          have hs1 : ((w.alloc (.cells #[.slice A0 l0.length c0] 22)).alloc (.cells #[.int .i64 a2] 3)).heap.size = w.heap.size + 2 := by rw [size_alloc1, size_alloc1]
          have hB2 : Below (w.heap.size + 2) ((w.alloc (.cells #[.slice A0 l0.length c0] 22)).alloc (.cells #[.int .i64 a2] 3)) w2 := by rw [← hs1]; exact HB2.out
          have hsz := hB2.size
          rw [hs1] at hsz
          have k1 := cell_later hW (cell_later hB2 (g := w.heap.size) (o := 0) (v := .slice A0 l0.length c0) (by simp) (by omega)) (by omega)
          have k2 := cell_later hW (cell_later hB2 (g := w.heap.size + 1) (o := 0) (v := .int .i64 a2) (by rw [show w.heap.size + 1 = (w.alloc (.cells #[.slice A0 l0.length c0] 22)).heap.size from (size_alloc1 _ _).symm]; simp) (by omega)) (by omega)
          have hBW : Below w.heap.size w W := below_step (below_step HBW.out HB2.out) hW
          have := pathfn_gives x a2 w.heap.size (w.heap.size + 1) A0 c0 l0 r' W k1 k2 (by have := hW.size; omega) (by have := hW.size; omega) (Kd.C_below HR0.out hBW) HC0.out hr' hb0 (by rw [hl']; exact hb1)
          have er : reachB l0 x a2 = rdOf false r' a2 := by unfold reachB rdOf; rw [hr']; rfl
          rw [er]
          exact this
        go_wp2_with (go_at_call 65; refine (contains_b 66 _ (fun c => reachB l0 c a2) (enters_of Try.func66 (by kernel_rfl) rfl) _ _ row_ w2 HC3.out (by have := HRW.out; omega) HPR.out).mono ?_; rintro e w3 ⟨rfl, hb3⟩; rw [← HQ.out]; have HB3 := Aside0.mk hb3; clear hb3)
        go_ret
        exact ⟨rfl, below_step (below_step HBW.out HB2.out) HB3.out⟩
      · cases hpath
    · rw [if_neg (by rw [hnb]; simp)] at hpath
      have HRS := Aside0.mk (Option.some.inj hpath)
      rw [hna] at HIS
      rw [hnb] at HIT
      clear hna hnb hpath
      go_enter Try.func30, Try.ntmps30
      go_wp2_with (first | (go_at_call 53; (with_reducible refine (HIS _).mono ?_); rintro e w' ⟨rfl, rfl⟩) | (go_at_call 53; (with_reducible refine (HIT _).mono ?_); rintro e w' ⟨rfl, rfl⟩))
      go_ret
      exact ⟨by rw [← HRS.out]; rfl, HBW.out⟩
  · rw [if_neg (by rw [hna]; simp)] at hpath
    have HRS := Aside0.mk (Option.some.inj hpath)
    rw [hna] at HIS
    clear hna hpath HIT
    go_enter Try.func30, Try.ntmps30
    go_wp2_with (go_at_call 53; (with_reducible refine (HIS _).mono ?_); rintro e w' ⟨rfl, rfl⟩)
    go_ret
    exact ⟨by rw [← HRS.out]; rfl, HBW.out⟩
end Go.Proofs.Ytdknhgbjgdmfkaa.P
namespace Go.Proofs.Ytdknhgbjgdmfkaa.P
open Go.RowKit Go.Proofs.YtdknhgbjgdmfkaaW.PrintWords Go.Proofs.YtdknhgbjgdmfkaaW.PrintLast Go.Proofs.YtdknhgbjgdmfkaaW.PrintMore
attribute [local go_sem] max2_int min2_int max_two min_two max_three min_three max_four min_four
set_option linter.unusedVariables false
set_option linter.unusedSimpArgs false
mutual
def bywashlaw11_SccShrunk.j0 : Nat → List (List Int) → Int → Int → Bool → List (List Int) → List Int → List Bool → Bool → Option (Bool)
  | 0, _, _, _, _, _, _, _, _ => none
  | k + 1, x0, x1, x2, x7, x8, x9, x10, x37 => if x37 = true then (some false) else (bywashlaw11_SccShrunk.l0 k x0 x1 x2 x7 x8 x9 x10 0)
def bywashlaw11_SccShrunk.l0 : Nat → List (List Int) → Int → Int → Bool → List (List Int) → List Int → List Bool → Int → Option (Bool)
  | 0, _, _, _, _, _, _, _, _ => none
  | k + 1, x0, x1, x2, x7, x8, x9, x10, x11 => if x11 < (x8.length : Int) then (if 0 ≤ x11 then (if x11 < (x10.length : Int) then (if rdOf false x10 x11 = true then (some false) else ((graph_Path.f x8 x11 x11).bind fun t314 => (if t314 = true then (some false) else (bywashlaw11_SccShrunk.l0 k x0 x1 x2 x7 x8 x9 x10 (wrap64 (x11 + 1)))))) else (none)) else (none)) else (if x1 < 0 then (bywashlaw11_SccShrunk.j2 k x0 x1 x2 x7 x8 x9 true) else (if x1 ≥ (x0.length : Int) then (bywashlaw11_SccShrunk.j2 k x0 x1 x2 x7 x8 x9 true) else (if x2 < 0 then (bywashlaw11_SccShrunk.j2 k x0 x1 x2 x7 x8 x9 true) else (bywashlaw11_SccShrunk.j2 k x0 x1 x2 x7 x8 x9 (decide (x2 ≥ (x0.length : Int)))))))
def bywashlaw11_SccShrunk.j2 : Nat → List (List Int) → Int → Int → Bool → List (List Int) → List Int → Bool → Option (Bool)
  | 0, _, _, _, _, _, _, _ => none
  | k + 1, x0, x1, x2, x7, x8, x9, x71 => if x71 = true then (some x7) else ((graph_Reach.f x0 x1).bind fun t315 => (if 0 ≤ x1 then (if x1 < (x9.length : Int) then ((graph_Reach.f x8 (rd x9 x1)).bind fun t319 => (if x7 = true then (if (t315.length : Int) = (x0.length : Int) then (if (t319.length : Int) = (x8.length : Int) then (if 0 ≤ x2 then (if x2 < (t315.length : Int) then (if x2 < (x9.length : Int) then (if 0 ≤ (rd x9 x2) then (if (rd x9 x2) < (t319.length : Int) then (some ((rdOf false t315 x2) == (rdOf false t319 (rd x9 x2)))) else (none)) else (none)) else (none)) else (none)) else (none)) else (some false)) else (some false)) else (some false))) else (none)) else (none)))
end
def bywashlaw11_SccShrunk.f (k : Nat) (l0 : List (List Int)) (a1 : Int) (a2 : Int) : Option (Bool) := (bywashlaw11_awake.f k).bind fun t302 => ((bywashref10_Few.f k l0).bind fun t303 => (if t303 = true then ((scc_Shrink.f l0).bind fun bt304 => ((scc_Loops.f bt304.1).bind fun t310 => (if (bt304.2.length : Int) = (l0.length : Int) then (bywashlaw11_SccShrunk.j0 k l0 a1 a2 t302 bt304.1 bt304.2 t310 ((t310.length : Int) != (bt304.1.length : Int))) else (bywashlaw11_SccShrunk.j0 k l0 a1 a2 t302 bt304.1 bt304.2 t310 true)))) else (some t302)))
set_option maxHeartbeats 8000000 in
set_option maxRecDepth 100000 in
theorem bywashlaw11_SccShrunk.calls (k : Nat) (A0 : Option Addr) (c0 : Nat) (l0 : List (List Int)) (a1 : Int) (a2 : Int) (r : Bool) (w : World) (hr0 : Kd.C (Kd.slice 3 (Kd.int .i64)) w A0 l0.length l0) (hc0 : l0.length ≤ c0) (h : bywashlaw11_SccShrunk.f k l0 a1 a2 = some r) :
    Calls Try.prog 6 #[.slice A0 l0.length c0, .int .i64 a1, .int .i64 a2] w fun e w' => e = .returned (.bool r) ∧ Below w.heap.size w w' := by
  have HR0 := Aside0.mk hr0
  have HC0 := Aside0.mk hc0
  clear hr0 hc0
  have HB := Aside0.mk (Below.refl w.heap.size w)
  have H : ((bywashlaw11_awake.f k).bind fun t302 => ((bywashref10_Few.f k l0).bind fun t303 => (if t303 = true then ((scc_Shrink.f l0).bind fun bt304 => ((scc_Loops.f bt304.1).bind fun t310 => (if (bt304.2.length : Int) = (l0.length : Int) then (bywashlaw11_SccShrunk.j0 k l0 a1 a2 t302 bt304.1 bt304.2 t310 ((t310.length : Int) != (bt304.1.length : Int))) else (bywashlaw11_SccShrunk.j0 k l0 a1 a2 t302 bt304.1 bt304.2 t310 true)))) else (some t302)))) = some r := h
  clear h
  replace H := Option.bind_eq_some_iff.mp H
  obtain ⟨t302, A40, H⟩ := H
  replace H : ((bywashref10_Few.f k l0).bind fun t303 => (if t303 = true then ((scc_Shrink.f l0).bind fun bt304 => ((scc_Loops.f bt304.1).bind fun t310 => (if (bt304.2.length : Int) = (l0.length : Int) then (bywashlaw11_SccShrunk.j0 k l0 a1 a2 t302 bt304.1 bt304.2 t310 ((t310.length : Int) != (bt304.1.length : Int))) else (bywashlaw11_SccShrunk.j0 k l0 a1 a2 t302 bt304.1 bt304.2 t310 true)))) else (some t302))) = some r := H
  have A4 := Aside0.mk A40
  clear A40
  replace H := Option.bind_eq_some_iff.mp H
  obtain ⟨t303, A50, H⟩ := H
  replace H : (if t303 = true then ((scc_Shrink.f l0).bind fun bt304 => ((scc_Loops.f bt304.1).bind fun t310 => (if (bt304.2.length : Int) = (l0.length : Int) then (bywashlaw11_SccShrunk.j0 k l0 a1 a2 t302 bt304.1 bt304.2 t310 ((t310.length : Int) != (bt304.1.length : Int))) else (bywashlaw11_SccShrunk.j0 k l0 a1 a2 t302 bt304.1 bt304.2 t310 true)))) else (some t302)) = some r := H
  have A5 := Aside0.mk A50
  clear A50
  by_cases c6 : t303 = true
  · subst c6
    have H1 : ((scc_Shrink.f l0).bind fun bt304 => ((scc_Loops.f bt304.1).bind fun t310 => (if (bt304.2.length : Int) = (l0.length : Int) then (bywashlaw11_SccShrunk.j0 k l0 a1 a2 t302 bt304.1 bt304.2 t310 ((t310.length : Int) != (bt304.1.length : Int))) else (bywashlaw11_SccShrunk.j0 k l0 a1 a2 t302 bt304.1 bt304.2 t310 true)))) = some r := by rw [if_pos rfl] at H; exact H
    clear H
    have H := H1
    clear H1
    replace H := Option.bind_eq_some_iff.mp H
    obtain ⟨⟨t304, t305⟩, A70, H⟩ := H
    replace H : ((scc_Loops.f t304).bind fun t310 => (if (t305.length : Int) = (l0.length : Int) then (bywashlaw11_SccShrunk.j0 k l0 a1 a2 t302 t304 t305 t310 ((t310.length : Int) != (t304.length : Int))) else (bywashlaw11_SccShrunk.j0 k l0 a1 a2 t302 t304 t305 t310 true))) = some r := H
    have A7 := Aside0.mk A70
    clear A70
    replace H := Option.bind_eq_some_iff.mp H
    obtain ⟨t310, A80, H⟩ := H
    replace H : (if (t305.length : Int) = (l0.length : Int) then (bywashlaw11_SccShrunk.j0 k l0 a1 a2 t302 t304 t305 t310 ((t310.length : Int) != (t304.length : Int))) else (bywashlaw11_SccShrunk.j0 k l0 a1 a2 t302 t304 t305 t310 true)) = some r := H
    have A8 := Aside0.mk A80
    clear A80
    have HC9 := Aside0.mk H
    clear H
    go_enter Try.func6, Try.ntmps6
    go_upto_region 6 with (first | (go_at_call 34; (with_reducible refine (bywashlaw11_awake.calls k  t302 _ A4.out).mono ?_); rintro e w10 ⟨rfl, hb⟩; have n0_ := Aside0.mk (below_step (by repeat (first | (with_reducible first | exact HB.out | apply below_alloc | apply pw_below_drewN | apply below_drew1) | exact HB.out)) hb); clear HB; have HB := n0_; clear n0_; (try clear hb); (try clear hb2); (try clear hk); (try clear hi)) | (go_at_call 14; (with_reducible refine (bywashref10_Few.calls k _ _ l0 true _ ?side1 ?side2 A5.out).mono ?_); (case side1 => repeat (first | exact (Kd.C_below HR0.out HB.out) | (with_reducible refine Kd.C_alloc ?_ _) | (with_reducible refine Kd.C_drewN ?_ _) | (with_reducible refine Kd.C_drew ?_))); (case side2 => exact HC0.out); rintro e w' ⟨rfl, ⟨nd, rfl⟩⟩; (try first | exact ⟨rfl, _, World.drewN_drewN _ _ _⟩ | exact ⟨rfl, _, Eq.trans (World.drewN_drewN _ _ _) (congrArg (World.drewN _) (Nat.add_assoc _ _ _))⟩)) | (go_at_call 37; (with_reducible refine (scc_Shrink.calls _ _ l0 t304 t305 _ ?side1 ?side2 A7.out).mono ?_); (case side1 => repeat (first | exact (Kd.C_below HR0.out (by repeat (first | (with_reducible first | exact HB.out | apply below_alloc | apply pw_below_drewN | apply below_drew1) | exact HB.out))) | (with_reducible refine Kd.C_alloc ?_ _) | (with_reducible refine Kd.C_drewN ?_ _) | (with_reducible refine Kd.C_drew ?_))); (case side2 => exact HC0.out); rintro e w11 ⟨v306, v308, rfl, ho0, ho1, hb⟩; have n0_ := Aside0.mk (Kd.S_lower ho0 (below_size (by repeat (first | (with_reducible first | exact HB.out | apply below_alloc | apply pw_below_drewN | apply below_drew1) | exact HB.out)))); have n1_ := Aside0.mk (Kd.R_lower ho1 (below_size (by repeat (first | (with_reducible first | exact HB.out | apply below_alloc | apply pw_below_drewN | apply below_drew1) | exact HB.out)))); have n2_ := Aside0.mk (below_step (by repeat (first | (with_reducible first | exact HB.out | apply below_alloc | apply pw_below_drewN | apply below_drew1) | exact HB.out)) hb); clear HB; have HO307 := n0_; have HO309 := n1_; have HB := n2_; clear n0_ n1_ n2_; (try clear hb); (try clear hb2); (try clear hk); (try clear hi); (try clear ho0); (try clear ho1); obtain ⟨Ao12, co12, eo12⟩ := Kd.S_slice HO307.out; subst eo12) | (go_at_call 41; (with_reducible refine (scc_Loops.calls _ _ t304 t310 _ ?side1 ?side2 A8.out).mono ?_); (case side1 => repeat (first | exact (Kd.S_reads' HO307.out).2.2 | (with_reducible refine Kd.C_alloc ?_ _) | (with_reducible refine Kd.C_drewN ?_ _) | (with_reducible refine Kd.C_drew ?_))); (case side2 => exact (Kd.S_reads' HO307.out).2.1); rintro e w13 ⟨v311, rfl, ho0, hb⟩; have n0_ := Aside0.mk (Kd.S_below (by (with_reducible repeat (first | apply Kd.S_alloc | apply Kd.S_drewN | apply Kd.S_drew)); exact HO307.out) hb); have n1_ := Aside0.mk (Kd.R_below (by (with_reducible repeat (first | apply Kd.R_alloc | apply Kd.R_drewN | apply Kd.R_drew)); exact HO309.out) hb); have n2_ := Aside0.mk (Kd.R_lower ho0 (below_size (by repeat (first | (with_reducible first | exact HB.out | apply below_alloc | apply pw_below_drewN | apply below_drew1) | exact HB.out)))); have n3_ := Aside0.mk (below_step (by repeat (first | (with_reducible first | exact HB.out | apply below_alloc | apply pw_below_drewN | apply below_drew1) | exact HB.out)) hb); clear HO307; clear HO309; clear HB; have HO307 := n0_; have HO309 := n1_; have HO312 := n2_; have HB := n3_; clear n0_ n1_ n2_ n3_; (try clear hb); (try clear hb2); (try clear hk); (try clear hi); (try clear ho0)))
    repeat (go_quiet (first | (go_at_call 34; (with_reducible refine (bywashlaw11_awake.calls k  t302 _ A4.out).mono ?_); rintro e w10 ⟨rfl, hb⟩; have n0_ := Aside0.mk (below_step (by repeat (first | (with_reducible first | exact HB.out | apply below_alloc | apply pw_below_drewN | apply below_drew1) | exact HB.out)) hb); clear HB; have HB := n0_; clear n0_; (try clear hb); (try clear hb2); (try clear hk); (try clear hi)) | (go_at_call 14; (with_reducible refine (bywashref10_Few.calls k _ _ l0 true _ ?side1 ?side2 A5.out).mono ?_); (case side1 => repeat (first | exact (Kd.C_below HR0.out HB.out) | (with_reducible refine Kd.C_alloc ?_ _) | (with_reducible refine Kd.C_drewN ?_ _) | (with_reducible refine Kd.C_drew ?_))); (case side2 => exact HC0.out); rintro e w' ⟨rfl, ⟨nd, rfl⟩⟩; (try first | exact ⟨rfl, _, World.drewN_drewN _ _ _⟩ | exact ⟨rfl, _, Eq.trans (World.drewN_drewN _ _ _) (congrArg (World.drewN _) (Nat.add_assoc _ _ _))⟩)) | (go_at_call 37; (with_reducible refine (scc_Shrink.calls _ _ l0 t304 t305 _ ?side1 ?side2 A7.out).mono ?_); (case side1 => repeat (first | exact (Kd.C_below HR0.out (by repeat (first | (with_reducible first | exact HB.out | apply below_alloc | apply pw_below_drewN | apply below_drew1) | exact HB.out))) | (with_reducible refine Kd.C_alloc ?_ _) | (with_reducible refine Kd.C_drewN ?_ _) | (with_reducible refine Kd.C_drew ?_))); (case side2 => exact HC0.out); rintro e w11 ⟨v306, v308, rfl, ho0, ho1, hb⟩; have n0_ := Aside0.mk (Kd.S_lower ho0 (below_size (by repeat (first | (with_reducible first | exact HB.out | apply below_alloc | apply pw_below_drewN | apply below_drew1) | exact HB.out)))); have n1_ := Aside0.mk (Kd.R_lower ho1 (below_size (by repeat (first | (with_reducible first | exact HB.out | apply below_alloc | apply pw_below_drewN | apply below_drew1) | exact HB.out)))); have n2_ := Aside0.mk (below_step (by repeat (first | (with_reducible first | exact HB.out | apply below_alloc | apply pw_below_drewN | apply below_drew1) | exact HB.out)) hb); clear HB; have HO307 := n0_; have HO309 := n1_; have HB := n2_; clear n0_ n1_ n2_; (try clear hb); (try clear hb2); (try clear hk); (try clear hi); (try clear ho0); (try clear ho1); obtain ⟨Ao12, co12, eo12⟩ := Kd.S_slice HO307.out; subst eo12) | (go_at_call 41; (with_reducible refine (scc_Loops.calls _ _ t304 t310 _ ?side1 ?side2 A8.out).mono ?_); (case side1 => repeat (first | exact (Kd.S_reads' HO307.out).2.2 | (with_reducible refine Kd.C_alloc ?_ _) | (with_reducible refine Kd.C_drewN ?_ _) | (with_reducible refine Kd.C_drew ?_))); (case side2 => exact (Kd.S_reads' HO307.out).2.1); rintro e w13 ⟨v311, rfl, ho0, hb⟩; have n0_ := Aside0.mk (Kd.S_below (by (with_reducible repeat (first | apply Kd.S_alloc | apply Kd.S_drewN | apply Kd.S_drew)); exact HO307.out) hb); have n1_ := Aside0.mk (Kd.R_below (by (with_reducible repeat (first | apply Kd.R_alloc | apply Kd.R_drewN | apply Kd.R_drew)); exact HO309.out) hb); have n2_ := Aside0.mk (Kd.R_lower ho0 (below_size (by repeat (first | (with_reducible first | exact HB.out | apply below_alloc | apply pw_below_drewN | apply below_drew1) | exact HB.out)))); have n3_ := Aside0.mk (below_step (by repeat (first | (with_reducible first | exact HB.out | apply below_alloc | apply pw_below_drewN | apply below_drew1) | exact HB.out)) hb); clear HO307; clear HO309; clear HB; have HO307 := n0_; have HO309 := n1_; have HO312 := n2_; have HB := n3_; clear n0_ n1_ n2_ n3_; (try clear hb); (try clear hb2); (try clear hk); (try clear hi); (try clear ho0))); go_upto_region 6 with (first | (go_at_call 34; (with_reducible refine (bywashlaw11_awake.calls k  t302 _ A4.out).mono ?_); rintro e w10 ⟨rfl, hb⟩; have n0_ := Aside0.mk (below_step (by repeat (first | (with_reducible first | exact HB.out | apply below_alloc | apply pw_below_drewN | apply below_drew1) | exact HB.out)) hb); clear HB; have HB := n0_; clear n0_; (try clear hb); (try clear hb2); (try clear hk); (try clear hi)) | (go_at_call 14; (with_reducible refine (bywashref10_Few.calls k _ _ l0 true _ ?side1 ?side2 A5.out).mono ?_); (case side1 => repeat (first | exact (Kd.C_below HR0.out HB.out) | (with_reducible refine Kd.C_alloc ?_ _) | (with_reducible refine Kd.C_drewN ?_ _) | (with_reducible refine Kd.C_drew ?_))); (case side2 => exact HC0.out); rintro e w' ⟨rfl, ⟨nd, rfl⟩⟩; (try first | exact ⟨rfl, _, World.drewN_drewN _ _ _⟩ | exact ⟨rfl, _, Eq.trans (World.drewN_drewN _ _ _) (congrArg (World.drewN _) (Nat.add_assoc _ _ _))⟩)) | (go_at_call 37; (with_reducible refine (scc_Shrink.calls _ _ l0 t304 t305 _ ?side1 ?side2 A7.out).mono ?_); (case side1 => repeat (first | exact (Kd.C_below HR0.out (by repeat (first | (with_reducible first | exact HB.out | apply below_alloc | apply pw_below_drewN | apply below_drew1) | exact HB.out))) | (with_reducible refine Kd.C_alloc ?_ _) | (with_reducible refine Kd.C_drewN ?_ _) | (with_reducible refine Kd.C_drew ?_))); (case side2 => exact HC0.out); rintro e w11 ⟨v306, v308, rfl, ho0, ho1, hb⟩; have n0_ := Aside0.mk (Kd.S_lower ho0 (below_size (by repeat (first | (with_reducible first | exact HB.out | apply below_alloc | apply pw_below_drewN | apply below_drew1) | exact HB.out)))); have n1_ := Aside0.mk (Kd.R_lower ho1 (below_size (by repeat (first | (with_reducible first | exact HB.out | apply below_alloc | apply pw_below_drewN | apply below_drew1) | exact HB.out)))); have n2_ := Aside0.mk (below_step (by repeat (first | (with_reducible first | exact HB.out | apply below_alloc | apply pw_below_drewN | apply below_drew1) | exact HB.out)) hb); clear HB; have HO307 := n0_; have HO309 := n1_; have HB := n2_; clear n0_ n1_ n2_; (try clear hb); (try clear hb2); (try clear hk); (try clear hi); (try clear ho0); (try clear ho1); obtain ⟨Ao12, co12, eo12⟩ := Kd.S_slice HO307.out; subst eo12) | (go_at_call 41; (with_reducible refine (scc_Loops.calls _ _ t304 t310 _ ?side1 ?side2 A8.out).mono ?_); (case side1 => repeat (first | exact (Kd.S_reads' HO307.out).2.2 | (with_reducible refine Kd.C_alloc ?_ _) | (with_reducible refine Kd.C_drewN ?_ _) | (with_reducible refine Kd.C_drew ?_))); (case side2 => exact (Kd.S_reads' HO307.out).2.1); rintro e w13 ⟨v311, rfl, ho0, hb⟩; have n0_ := Aside0.mk (Kd.S_below (by (with_reducible repeat (first | apply Kd.S_alloc | apply Kd.S_drewN | apply Kd.S_drew)); exact HO307.out) hb); have n1_ := Aside0.mk (Kd.R_below (by (with_reducible repeat (first | apply Kd.R_alloc | apply Kd.R_drewN | apply Kd.R_drew)); exact HO309.out) hb); have n2_ := Aside0.mk (Kd.R_lower ho0 (below_size (by repeat (first | (with_reducible first | exact HB.out | apply below_alloc | apply pw_below_drewN | apply below_drew1) | exact HB.out)))); have n3_ := Aside0.mk (below_step (by repeat (first | (with_reducible first | exact HB.out | apply below_alloc | apply pw_below_drewN | apply below_drew1) | exact HB.out)) hb); clear HO307; clear HO309; clear HB; have HO307 := n0_; have HO309 := n1_; have HO312 := n2_; have HB := n3_; clear n0_ n1_ n2_ n3_; (try clear hb); (try clear hb2); (try clear hk); (try clear hi); (try clear ho0))))
    (try simp only [Act.put, List.setIfInBounds_toArray, List.set_cons_zero, List.set_cons_succ])
    go_cut [37] (fun v37 wc => ∃ (kq : Nat) (x37_8 : Bool), v37 = .bool x37_8 ∧ Aside0 (bywashlaw11_SccShrunk.j0 kq l0 a1 a2 t302 t304 t305 t310 x37_8 = some r) ∧ Aside0 (kq ≤ k) ∧ Aside0 (Kd.S (Kd.slice 3 (Kd.int .i64)) 32 wc w.heap.size (fun _ => True) (.slice Ao12 t304.length co12) t304) ∧ Aside0 (Kd.R (Kd.int .i64) 3 wc w.heap.size (fun _ => True) v308 t305) ∧ Aside0 (Kd.R Kd.bool 4 wc w.heap.size (fun _ => True) v311 t310) ∧ Aside0 (Below w.heap.size w wc))
    case first =>
      have H := HC9.out
      clear HC9
      by_cases c14 : (t305.length : Int) = (l0.length : Int)
      · rw [if_pos c14] at H
        have c14b0 : ((t305.length : Int) == (l0.length : Int)) = true := beq_iff_eq.mpr c14
        have c14b1 : ((t305.length : Int) != (l0.length : Int)) = false := bne_eq_false_iff_eq.mpr c14
        have c14b2 : (t305.length == l0.length) = true := by first | simpa using c14 | (simp at c14 ⊢; omega)
        clear c14
        (first | rw [c14b0] | (simp only [i64_w, i32_w]; rw [c14b0]) | skip)
        have H' := Aside0.mk H
        clear H
        obtain ⟨Ao15, co15, eo15⟩ := Kd.R_slice HO309.out
        subst eo15
        obtain ⟨Ao16, co16, eo16⟩ := Kd.R_slice HO312.out
        subst eo16
        go_wp2
        repeat (go_quiet (fail); try go_wp2)
        go_meet
        case rel => exact ⟨_, (((t310.length : Int) != (t304.length : Int))), (by first | rfl | (simp; done) | (simp [*]; done)), H', ⟨by first | omega | exact Nat.le_refl _⟩, ⟨by (with_reducible repeat (first | apply Kd.S_alloc | apply Kd.S_drewN | apply Kd.S_drew)); exact HO307.out⟩, ⟨by (with_reducible repeat (first | apply Kd.R_alloc | apply Kd.R_drewN | apply Kd.R_drew)); exact HO309.out⟩, ⟨by (with_reducible repeat (first | apply Kd.R_alloc | apply Kd.R_drewN | apply Kd.R_drew)); exact HO312.out⟩, ⟨by repeat (first | (with_reducible first | exact HB.out | apply below_alloc | apply pw_below_drewN | apply below_drew1) | exact HB.out)⟩⟩
      · rw [if_neg c14] at H
        have c14b0 : ((t305.length : Int) == (l0.length : Int)) = false := beq_eq_false_iff_ne.mpr c14
        have c14b1 : ((t305.length : Int) != (l0.length : Int)) = true := bne_iff_ne.mpr c14
        have c14b2 : (t305.length == l0.length) = false := by first | simpa using c14 | (simp at c14 ⊢; omega)
        (first | rw [c14b0] | (simp only [i64_w, i32_w]; rw [c14b0]) | skip)
        have H' := Aside0.mk H
        clear H
        obtain ⟨Ao17, co17, eo17⟩ := Kd.R_slice HO309.out
        subst eo17
        go_wp2
        repeat (go_quiet (fail); try go_wp2)
        go_meet
        case rel => exact ⟨_, (true), (by first | rfl | (simp; done) | (simp [*]; done)), H', ⟨by first | omega | exact Nat.le_refl _⟩, ⟨by (with_reducible repeat (first | apply Kd.S_alloc | apply Kd.S_drewN | apply Kd.S_drew)); exact HO307.out⟩, ⟨by (with_reducible repeat (first | apply Kd.R_alloc | apply Kd.R_drewN | apply Kd.R_drew)); exact HO309.out⟩, ⟨by (with_reducible repeat (first | apply Kd.R_alloc | apply Kd.R_drewN | apply Kd.R_drew)); exact HO312.out⟩, ⟨by repeat (first | (with_reducible first | exact HB.out | apply below_alloc | apply pw_below_drewN | apply below_drew1) | exact HB.out)⟩⟩
    case rest =>
      clear HC9
      try clear c1
      try clear p2
      try clear c6
      try clear c14
      try clear c14b0
      try clear c14b1
      try clear c14b2
      obtain ⟨kq, x37_8, rfl, HA, HJ8, HO_8, HO_9, HO_10, HB⟩ := hcut
      cases kq with
      | zero => exact absurd HA.out (by simp [bywashlaw11_SccShrunk.j0])
      | succ kj8 =>
        have H := HA.out
        clear HA
        simp only [bywashlaw11_SccShrunk.j0] at H
        by_cases c18 : x37_8 = true
        · subst c18
          have H1 : (some false) = some r := by rw [if_pos rfl] at H; exact H
          clear H
          have H := H1
          clear H1
          obtain rfl := Option.some.inj H
          go_wp2
          repeat (go_quiet (fail); try go_wp2)
          go_ret
          exact ⟨by first | rfl | (simp [errW_none, errW_some] <;> rfl) | (simp [*, errW_none, errW_some] <;> rfl) | (exfalso; (try simp_all); (try omega); done), by repeat (first | (with_reducible first | exact HB.out | apply below_alloc | apply pw_below_drewN | apply below_drew1) | exact HB.out)⟩
        · replace c18 := Bool.eq_false_iff.mpr c18
          subst c18
          have H1 : (bywashlaw11_SccShrunk.l0 kj8 l0 a1 a2 t302 t304 t305 t310 0) = some r := by rw [if_neg (show ¬ (false = true) by decide)] at H; exact H
          clear H
          have H := H1
          clear H1
          have H' := Aside0.mk H
          clear H
          go_wp2
          repeat (go_quiet (fail); try go_wp2)
          go_loopg [11] kj8 (fun kq v11 w' => ∃ (x11_2 : Int), v11 = .int .i64 x11_2 ∧ Aside0 (bywashlaw11_SccShrunk.l0 kq l0 a1 a2 t302 t304 t305 t310 x11_2 = some r) ∧ Aside0 (kq ≤ kj8) ∧ Aside0 (Kd.S (Kd.slice 3 (Kd.int .i64)) 32 w' w.heap.size (fun _ => True) (.slice Ao12 t304.length co12) t304) ∧ Aside0 (Kd.R (Kd.int .i64) 3 w' w.heap.size (fun _ => True) v308 t305) ∧ Aside0 (Kd.R Kd.bool 4 w' w.heap.size (fun _ => True) v311 t310) ∧ Aside0 (Below w.heap.size w w'))
          case atStart => exact ⟨(0), (by first | rfl | (simp; done) | (simp [*]; done)), H', ⟨Nat.le_refl _⟩, ⟨by (with_reducible repeat (first | apply Kd.S_alloc | apply Kd.S_drewN | apply Kd.S_drew)); exact HO_8.out⟩, ⟨by (with_reducible repeat (first | apply Kd.R_alloc | apply Kd.R_drewN | apply Kd.R_drew)); exact HO_9.out⟩, ⟨by (with_reducible repeat (first | apply Kd.R_alloc | apply Kd.R_drewN | apply Kd.R_drew)); exact HO_10.out⟩, ⟨by repeat (first | (with_reducible first | exact HB.out | apply below_alloc | apply pw_below_drewN | apply below_drew1) | exact HB.out)⟩⟩
          case round =>
            clear H'
            try clear c1
            try clear p2
            try clear c6
            try clear c14
            try clear c14b0
            try clear c14b1
            try clear c14b2
            try clear c18
            try clear p2
            obtain ⟨x11_2, rfl, HA, HK2, HO_8, HO_9, HO_10, HB⟩ := hrel
            cases gk with
            | zero => exact absurd HA.out (by simp [bywashlaw11_SccShrunk.l0])
            | succ k2 =>
              have H := HA.out
              clear HA
              simp only [bywashlaw11_SccShrunk.l0] at H
              by_cases c19 : x11_2 < (t304.length : Int)
              · rw [if_pos c19] at H
                have c19b0 : decide (x11_2 < (t304.length : Int)) = true := decide_eq_true c19
                clear c19
                by_cases c20 : 0 ≤ x11_2
                · rw [if_pos c20] at H
                  have c20b0 : decide (0 ≤ x11_2) = true := decide_eq_true c20
                  clear c20
                  by_cases c21 : x11_2 < (t310.length : Int)
                  · rw [if_pos c21] at H
                    have c21b0 : decide (x11_2 < (t310.length : Int)) = true := decide_eq_true c21
                    clear c21
                    obtain ⟨bq22, hbq22⟩ : ∃ b_ : Bool, b_ = (rdOf false t310 x11_2) := ⟨_, rfl⟩
                    replace H : (if bq22 = true then (some false) else ((graph_Path.f t304 x11_2 x11_2).bind fun t314 => (if t314 = true then (some false) else (bywashlaw11_SccShrunk.l0 k2 l0 a1 a2 t302 t304 t305 t310 (wrap64 (x11_2 + 1)))))) = some r := by rw [← hbq22] at H; exact H
                    have Nbq22 := Aside0.mk hbq22
                    clear hbq22
                    by_cases c23 : bq22 = true
                    · subst c23
                      have H1 : (some false) = some r := by rw [if_pos rfl] at H; exact H
                      clear H
                      have H := H1
                      clear H1
                      obtain rfl := Option.some.inj H
                      obtain ⟨Ao24, co24, eo24⟩ := Kd.R_slice HO_10.out
                      subst eo24
                      have p313 : 0 ≤ (x11_2 : Int) := of_decide_eq_true (by first | (with_reducible assumption) | assumption)
                      have q313 : x11_2 < (t310.length : Int) := of_decide_eq_true (by first | (with_reducible assumption) | assumption)
                      obtain ⟨ad313, e313, hx313_0⟩ := Kd.at_bool (Kd.R_reads' HO_10.out).2.2 x11_2 p313 q313
                      (try rw [← Nbq22.out] at hx313_0)
                      cases e313
                      replace p313 := eq_true p313
                      replace q313 := eq_true q313
                      go_wp2
                      repeat (go_quiet (fail); try go_wp2)
                      go_ret
                      exact ⟨by first | rfl | (simp [errW_none, errW_some] <;> rfl) | (simp [*, errW_none, errW_some] <;> rfl) | (exfalso; (try simp_all); (try omega); done), by repeat (first | (with_reducible first | exact HB.out | apply below_alloc | apply pw_below_drewN | apply below_drew1) | exact HB.out)⟩
                    · replace c23 := Bool.eq_false_iff.mpr c23
                      subst c23
                      have H1 : ((graph_Path.f t304 x11_2 x11_2).bind fun t314 => (if t314 = true then (some false) else (bywashlaw11_SccShrunk.l0 k2 l0 a1 a2 t302 t304 t305 t310 (wrap64 (x11_2 + 1))))) = some r := by rw [if_neg (show ¬ (false = true) by decide)] at H; exact H
                      clear H
                      have H := H1
                      clear H1
                      replace H := Option.bind_eq_some_iff.mp H
                      obtain ⟨t314, A250, H⟩ := H
                      replace H : (if t314 = true then (some false) else (bywashlaw11_SccShrunk.l0 k2 l0 a1 a2 t302 t304 t305 t310 (wrap64 (x11_2 + 1)))) = some r := H
                      have A25 := Aside0.mk A250
                      clear A250
                      by_cases c26 : t314 = true
                      · subst c26
                        have H1 : (some false) = some r := by rw [if_pos rfl] at H; exact H
                        clear H
                        have H := H1
                        clear H1
                        obtain rfl := Option.some.inj H
                        obtain ⟨Ao27, co27, eo27⟩ := Kd.R_slice HO_10.out
                        subst eo27
                        have p313 : 0 ≤ (x11_2 : Int) := of_decide_eq_true (by first | (with_reducible assumption) | assumption)
                        have q313 : x11_2 < (t310.length : Int) := of_decide_eq_true (by first | (with_reducible assumption) | assumption)
                        obtain ⟨ad313, e313, hx313_0⟩ := Kd.at_bool (Kd.R_reads' HO_10.out).2.2 x11_2 p313 q313
                        (try rw [← Nbq22.out] at hx313_0)
                        cases e313
                        replace p313 := eq_true p313
                        replace q313 := eq_true q313
                        go_wp2_with (first | (go_at_call 30; (with_reducible refine (graph_Path.calls _ _ t304 x11_2 x11_2 true _ ?side1 ?side2 A25.out).mono ?_); (case side1 => repeat (first | exact (Kd.S_reads' HO_8.out).2.2 | (with_reducible refine Kd.C_alloc ?_ _) | (with_reducible refine Kd.C_drewN ?_ _) | (with_reducible refine Kd.C_drew ?_))); (case side2 => exact (Kd.S_reads' HO_8.out).2.1); rintro e w28 ⟨rfl, hb⟩; have n0_ := Aside0.mk (Kd.S_below (by (with_reducible repeat (first | apply Kd.S_alloc | apply Kd.S_drewN | apply Kd.S_drew)); exact HO_8.out) hb); have n1_ := Aside0.mk (Kd.R_below (by (with_reducible repeat (first | apply Kd.R_alloc | apply Kd.R_drewN | apply Kd.R_drew)); exact HO_9.out) hb); have n2_ := Aside0.mk (Kd.R_below (by (with_reducible repeat (first | apply Kd.R_alloc | apply Kd.R_drewN | apply Kd.R_drew)); exact HO_10.out) hb); have n3_ := Aside0.mk (below_step (by repeat (first | (with_reducible first | exact HB.out | apply below_alloc | apply pw_below_drewN | apply below_drew1) | exact HB.out)) hb); clear HO_8; clear HO_9; clear HO_10; clear HB; have HO_8 := n0_; have HO_9 := n1_; have HO_10 := n2_; have HB := n3_; clear n0_ n1_ n2_ n3_; (try clear hb); (try clear hb2); (try clear hk); (try clear hi)))
                        repeat (go_quiet (first | (go_at_call 30; (with_reducible refine (graph_Path.calls _ _ t304 x11_2 x11_2 true _ ?side1 ?side2 A25.out).mono ?_); (case side1 => repeat (first | exact (Kd.S_reads' HO_8.out).2.2 | (with_reducible refine Kd.C_alloc ?_ _) | (with_reducible refine Kd.C_drewN ?_ _) | (with_reducible refine Kd.C_drew ?_))); (case side2 => exact (Kd.S_reads' HO_8.out).2.1); rintro e w28 ⟨rfl, hb⟩; have n0_ := Aside0.mk (Kd.S_below (by (with_reducible repeat (first | apply Kd.S_alloc | apply Kd.S_drewN | apply Kd.S_drew)); exact HO_8.out) hb); have n1_ := Aside0.mk (Kd.R_below (by (with_reducible repeat (first | apply Kd.R_alloc | apply Kd.R_drewN | apply Kd.R_drew)); exact HO_9.out) hb); have n2_ := Aside0.mk (Kd.R_below (by (with_reducible repeat (first | apply Kd.R_alloc | apply Kd.R_drewN | apply Kd.R_drew)); exact HO_10.out) hb); have n3_ := Aside0.mk (below_step (by repeat (first | (with_reducible first | exact HB.out | apply below_alloc | apply pw_below_drewN | apply below_drew1) | exact HB.out)) hb); clear HO_8; clear HO_9; clear HO_10; clear HB; have HO_8 := n0_; have HO_9 := n1_; have HO_10 := n2_; have HB := n3_; clear n0_ n1_ n2_ n3_; (try clear hb); (try clear hb2); (try clear hk); (try clear hi))); try go_wp2_with (first | (go_at_call 30; (with_reducible refine (graph_Path.calls _ _ t304 x11_2 x11_2 true _ ?side1 ?side2 A25.out).mono ?_); (case side1 => repeat (first | exact (Kd.S_reads' HO_8.out).2.2 | (with_reducible refine Kd.C_alloc ?_ _) | (with_reducible refine Kd.C_drewN ?_ _) | (with_reducible refine Kd.C_drew ?_))); (case side2 => exact (Kd.S_reads' HO_8.out).2.1); rintro e w28 ⟨rfl, hb⟩; have n0_ := Aside0.mk (Kd.S_below (by (with_reducible repeat (first | apply Kd.S_alloc | apply Kd.S_drewN | apply Kd.S_drew)); exact HO_8.out) hb); have n1_ := Aside0.mk (Kd.R_below (by (with_reducible repeat (first | apply Kd.R_alloc | apply Kd.R_drewN | apply Kd.R_drew)); exact HO_9.out) hb); have n2_ := Aside0.mk (Kd.R_below (by (with_reducible repeat (first | apply Kd.R_alloc | apply Kd.R_drewN | apply Kd.R_drew)); exact HO_10.out) hb); have n3_ := Aside0.mk (below_step (by repeat (first | (with_reducible first | exact HB.out | apply below_alloc | apply pw_below_drewN | apply below_drew1) | exact HB.out)) hb); clear HO_8; clear HO_9; clear HO_10; clear HB; have HO_8 := n0_; have HO_9 := n1_; have HO_10 := n2_; have HB := n3_; clear n0_ n1_ n2_ n3_; (try clear hb); (try clear hb2); (try clear hk); (try clear hi))))
                        go_ret
                        exact ⟨by first | rfl | (simp [errW_none, errW_some] <;> rfl) | (simp [*, errW_none, errW_some] <;> rfl) | (exfalso; (try simp_all); (try omega); done), by repeat (first | (with_reducible first | exact HB.out | apply below_alloc | apply pw_below_drewN | apply below_drew1) | exact HB.out)⟩
                      · replace c26 := Bool.eq_false_iff.mpr c26
                        subst c26
                        have H1 : (bywashlaw11_SccShrunk.l0 k2 l0 a1 a2 t302 t304 t305 t310 (wrap64 (x11_2 + 1))) = some r := by rw [if_neg (show ¬ (false = true) by decide)] at H; exact H
                        clear H
                        have H := H1
                        clear H1
                        have H' := Aside0.mk H
                        clear H
                        obtain ⟨Ao29, co29, eo29⟩ := Kd.R_slice HO_10.out
                        subst eo29
                        have p313 : 0 ≤ (x11_2 : Int) := of_decide_eq_true (by first | (with_reducible assumption) | assumption)
                        have q313 : x11_2 < (t310.length : Int) := of_decide_eq_true (by first | (with_reducible assumption) | assumption)
                        obtain ⟨ad313, e313, hx313_0⟩ := Kd.at_bool (Kd.R_reads' HO_10.out).2.2 x11_2 p313 q313
                        (try rw [← Nbq22.out] at hx313_0)
                        cases e313
                        replace p313 := eq_true p313
                        replace q313 := eq_true q313
                        go_wp2_with (first | (go_at_call 30; (with_reducible refine (graph_Path.calls _ _ t304 x11_2 x11_2 false _ ?side1 ?side2 A25.out).mono ?_); (case side1 => repeat (first | exact (Kd.S_reads' HO_8.out).2.2 | (with_reducible refine Kd.C_alloc ?_ _) | (with_reducible refine Kd.C_drewN ?_ _) | (with_reducible refine Kd.C_drew ?_))); (case side2 => exact (Kd.S_reads' HO_8.out).2.1); rintro e w30 ⟨rfl, hb⟩; have n0_ := Aside0.mk (Kd.S_below (by (with_reducible repeat (first | apply Kd.S_alloc | apply Kd.S_drewN | apply Kd.S_drew)); exact HO_8.out) hb); have n1_ := Aside0.mk (Kd.R_below (by (with_reducible repeat (first | apply Kd.R_alloc | apply Kd.R_drewN | apply Kd.R_drew)); exact HO_9.out) hb); have n2_ := Aside0.mk (Kd.R_below (by (with_reducible repeat (first | apply Kd.R_alloc | apply Kd.R_drewN | apply Kd.R_drew)); exact HO_10.out) hb); have n3_ := Aside0.mk (below_step (by repeat (first | (with_reducible first | exact HB.out | apply below_alloc | apply pw_below_drewN | apply below_drew1) | exact HB.out)) hb); clear HO_8; clear HO_9; clear HO_10; clear HB; have HO_8 := n0_; have HO_9 := n1_; have HO_10 := n2_; have HB := n3_; clear n0_ n1_ n2_ n3_; (try clear hb); (try clear hb2); (try clear hk); (try clear hi)))
                        repeat (go_quiet (first | (go_at_call 30; (with_reducible refine (graph_Path.calls _ _ t304 x11_2 x11_2 false _ ?side1 ?side2 A25.out).mono ?_); (case side1 => repeat (first | exact (Kd.S_reads' HO_8.out).2.2 | (with_reducible refine Kd.C_alloc ?_ _) | (with_reducible refine Kd.C_drewN ?_ _) | (with_reducible refine Kd.C_drew ?_))); (case side2 => exact (Kd.S_reads' HO_8.out).2.1); rintro e w30 ⟨rfl, hb⟩; have n0_ := Aside0.mk (Kd.S_below (by (with_reducible repeat (first | apply Kd.S_alloc | apply Kd.S_drewN | apply Kd.S_drew)); exact HO_8.out) hb); have n1_ := Aside0.mk (Kd.R_below (by (with_reducible repeat (first | apply Kd.R_alloc | apply Kd.R_drewN | apply Kd.R_drew)); exact HO_9.out) hb); have n2_ := Aside0.mk (Kd.R_below (by (with_reducible repeat (first | apply Kd.R_alloc | apply Kd.R_drewN | apply Kd.R_drew)); exact HO_10.out) hb); have n3_ := Aside0.mk (below_step (by repeat (first | (with_reducible first | exact HB.out | apply below_alloc | apply pw_below_drewN | apply below_drew1) | exact HB.out)) hb); clear HO_8; clear HO_9; clear HO_10; clear HB; have HO_8 := n0_; have HO_9 := n1_; have HO_10 := n2_; have HB := n3_; clear n0_ n1_ n2_ n3_; (try clear hb); (try clear hb2); (try clear hk); (try clear hi))); try go_wp2_with (first | (go_at_call 30; (with_reducible refine (graph_Path.calls _ _ t304 x11_2 x11_2 false _ ?side1 ?side2 A25.out).mono ?_); (case side1 => repeat (first | exact (Kd.S_reads' HO_8.out).2.2 | (with_reducible refine Kd.C_alloc ?_ _) | (with_reducible refine Kd.C_drewN ?_ _) | (with_reducible refine Kd.C_drew ?_))); (case side2 => exact (Kd.S_reads' HO_8.out).2.1); rintro e w30 ⟨rfl, hb⟩; have n0_ := Aside0.mk (Kd.S_below (by (with_reducible repeat (first | apply Kd.S_alloc | apply Kd.S_drewN | apply Kd.S_drew)); exact HO_8.out) hb); have n1_ := Aside0.mk (Kd.R_below (by (with_reducible repeat (first | apply Kd.R_alloc | apply Kd.R_drewN | apply Kd.R_drew)); exact HO_9.out) hb); have n2_ := Aside0.mk (Kd.R_below (by (with_reducible repeat (first | apply Kd.R_alloc | apply Kd.R_drewN | apply Kd.R_drew)); exact HO_10.out) hb); have n3_ := Aside0.mk (below_step (by repeat (first | (with_reducible first | exact HB.out | apply below_alloc | apply pw_below_drewN | apply below_drew1) | exact HB.out)) hb); clear HO_8; clear HO_9; clear HO_10; clear HB; have HO_8 := n0_; have HO_9 := n1_; have HO_10 := n2_; have HB := n3_; clear n0_ n1_ n2_ n3_; (try clear hb); (try clear hb2); (try clear hk); (try clear hi))))
                        go_roundg k2
                        case measure => have := HJ8.out; have := HK2.out; omega
                        case rel => exact ⟨(wrap64 (x11_2 + 1)), (by first | rfl | (simp; done) | (simp [*]; done)), H', ⟨by have := HJ8.out; have := HK2.out; omega⟩, ⟨by (with_reducible repeat (first | apply Kd.S_alloc | apply Kd.S_drewN | apply Kd.S_drew)); exact HO_8.out⟩, ⟨by (with_reducible repeat (first | apply Kd.R_alloc | apply Kd.R_drewN | apply Kd.R_drew)); exact HO_9.out⟩, ⟨by (with_reducible repeat (first | apply Kd.R_alloc | apply Kd.R_drewN | apply Kd.R_drew)); exact HO_10.out⟩, ⟨by repeat (first | (with_reducible first | exact HB.out | apply below_alloc | apply pw_below_drewN | apply below_drew1) | exact HB.out)⟩⟩
                  · rw [if_neg c21] at H
                    exact absurd H (by simp)
                · rw [if_neg c20] at H
                  exact absurd H (by simp)
              · rw [if_neg c19] at H
                have c19b0 : decide (x11_2 < (t304.length : Int)) = false := decide_eq_false c19
                clear c19
                have HC31 := Aside0.mk H
                clear H
                go_upto_region 13 with (fail)
                repeat (go_quiet (fail); go_upto_region 13 with (fail))
                go_cut [71] (fun v71 wc => ∃ (kq : Nat) (x71_30 : Bool), v71 = .bool x71_30 ∧ Aside0 (bywashlaw11_SccShrunk.j2 kq l0 a1 a2 t302 t304 t305 x71_30 = some r) ∧ Aside0 (kq ≤ k2) ∧ Aside0 (Kd.S (Kd.slice 3 (Kd.int .i64)) 32 wc w.heap.size (fun _ => True) (.slice Ao12 t304.length co12) t304) ∧ Aside0 (Kd.R (Kd.int .i64) 3 wc w.heap.size (fun _ => True) v308 t305) ∧ Aside0 (Below w.heap.size w wc))
                case first =>
                  have H := HC31.out
                  clear HC31
                  by_cases c32 : a1 < 0
                  · rw [if_pos c32] at H
                    have c32b0 : decide (a1 < 0) = true := decide_eq_true c32
                    clear c32
                    (first | rw [c32b0] | (simp only [i64_w, i32_w]; rw [c32b0]) | skip)
                    have H' := Aside0.mk H
                    clear H
                    go_wp2
                    repeat (go_quiet (fail); try go_wp2)
                    go_meet
                    case rel => exact ⟨_, (true), (by first | rfl | (simp; done) | (simp [*]; done)), H', ⟨by have := HJ8.out; have := HK2.out; first | omega | exact Nat.le_refl _⟩, ⟨by (with_reducible repeat (first | apply Kd.S_alloc | apply Kd.S_drewN | apply Kd.S_drew)); exact HO_8.out⟩, ⟨by (with_reducible repeat (first | apply Kd.R_alloc | apply Kd.R_drewN | apply Kd.R_drew)); exact HO_9.out⟩, ⟨by repeat (first | (with_reducible first | exact HB.out | apply below_alloc | apply pw_below_drewN | apply below_drew1) | exact HB.out)⟩⟩
                  · rw [if_neg c32] at H
                    have c32b0 : decide (a1 < 0) = false := decide_eq_false c32
                    clear c32
                    (first | rw [c32b0] | (simp only [i64_w, i32_w]; rw [c32b0]) | skip)
                    by_cases c33 : a1 ≥ (l0.length : Int)
                    · rw [if_pos c33] at H
                      have c33b0 : decide ((l0.length : Int) ≤ a1) = true := decide_eq_true c33
                      clear c33
                      have H' := Aside0.mk H
                      clear H
                      go_wp2
                      repeat (go_quiet (fail); try go_wp2)
                      go_meet
                      case rel => exact ⟨_, (true), (by first | rfl | (simp; done) | (simp [*]; done)), H', ⟨by have := HJ8.out; have := HK2.out; first | omega | exact Nat.le_refl _⟩, ⟨by (with_reducible repeat (first | apply Kd.S_alloc | apply Kd.S_drewN | apply Kd.S_drew)); exact HO_8.out⟩, ⟨by (with_reducible repeat (first | apply Kd.R_alloc | apply Kd.R_drewN | apply Kd.R_drew)); exact HO_9.out⟩, ⟨by repeat (first | (with_reducible first | exact HB.out | apply below_alloc | apply pw_below_drewN | apply below_drew1) | exact HB.out)⟩⟩
                    · rw [if_neg c33] at H
                      have c33b0 : decide ((l0.length : Int) ≤ a1) = false := decide_eq_false c33
                      clear c33
                      by_cases c34 : a2 < 0
                      · rw [if_pos c34] at H
                        have c34b0 : decide (a2 < 0) = true := decide_eq_true c34
                        clear c34
                        have H' := Aside0.mk H
                        clear H
                        go_wp2
                        repeat (go_quiet (fail); try go_wp2)
                        go_meet
                        case rel => exact ⟨_, (true), (by first | rfl | (simp; done) | (simp [*]; done)), H', ⟨by have := HJ8.out; have := HK2.out; first | omega | exact Nat.le_refl _⟩, ⟨by (with_reducible repeat (first | apply Kd.S_alloc | apply Kd.S_drewN | apply Kd.S_drew)); exact HO_8.out⟩, ⟨by (with_reducible repeat (first | apply Kd.R_alloc | apply Kd.R_drewN | apply Kd.R_drew)); exact HO_9.out⟩, ⟨by repeat (first | (with_reducible first | exact HB.out | apply below_alloc | apply pw_below_drewN | apply below_drew1) | exact HB.out)⟩⟩
                      · rw [if_neg c34] at H
                        have c34b0 : decide (a2 < 0) = false := decide_eq_false c34
                        clear c34
                        have H' := Aside0.mk H
                        clear H
                        go_wp2
                        repeat (go_quiet (fail); try go_wp2)
                        go_meet
                        case rel => exact ⟨_, (decide (a2 ≥ (l0.length : Int))), (by first | rfl | (simp; done) | (simp [*]; done)), H', ⟨by have := HJ8.out; have := HK2.out; first | omega | exact Nat.le_refl _⟩, ⟨by (with_reducible repeat (first | apply Kd.S_alloc | apply Kd.S_drewN | apply Kd.S_drew)); exact HO_8.out⟩, ⟨by (with_reducible repeat (first | apply Kd.R_alloc | apply Kd.R_drewN | apply Kd.R_drew)); exact HO_9.out⟩, ⟨by repeat (first | (with_reducible first | exact HB.out | apply below_alloc | apply pw_below_drewN | apply below_drew1) | exact HB.out)⟩⟩
                case rest =>
                  clear HC31
                  try clear c1
                  try clear c2
                  try clear p2
                  try clear q2
                  try clear c3
                  try clear p3
                  try clear q3
                  try clear hx3
                  try clear c6
                  try clear p6
                  try clear c14
                  try clear c14b0
                  try clear c14b1
                  try clear c14b2
                  try clear c18
                  try clear c19
                  try clear c19b0
                  try clear c20
                  try clear c20b0
                  try clear c21
                  try clear c21b0
                  try clear q22
                  try clear c23
                  try clear c26
                  try clear p31
                  try clear q31
                  try clear hx31
                  try clear c32
                  try clear c32b0
                  try clear c33
                  try clear c33b0
                  try clear c34
                  try clear c34b0
                  try clear hx313_0
                  try clear p2
                  try clear p313
                  try clear q313
                  obtain ⟨kq, x71_30, rfl, HA, HJ30, HO_8, HO_9, HB⟩ := hcut
                  cases kq with
                  | zero => exact absurd HA.out (by simp [bywashlaw11_SccShrunk.j2])
                  | succ kj30 =>
                    have H := HA.out
                    clear HA
                    simp only [bywashlaw11_SccShrunk.j2] at H
                    by_cases c35 : x71_30 = true
                    · subst c35
                      have H1 : (some t302) = some r := by rw [if_pos rfl] at H; exact H
                      clear H
                      have H := H1
                      clear H1
                      obtain rfl := Option.some.inj H
                      go_wp2
                      repeat (go_quiet (fail); try go_wp2)
                      go_ret
                      exact ⟨by first | rfl | (simp [errW_none, errW_some] <;> rfl) | (simp [*, errW_none, errW_some] <;> rfl) | (exfalso; (try simp_all); (try omega); done), by repeat (first | (with_reducible first | exact HB.out | apply below_alloc | apply pw_below_drewN | apply below_drew1) | exact HB.out)⟩
                    · replace c35 := Bool.eq_false_iff.mpr c35
                      subst c35
                      have H1 : ((graph_Reach.f l0 a1).bind fun t315 => (if 0 ≤ a1 then (if a1 < (t305.length : Int) then ((graph_Reach.f t304 (rd t305 a1)).bind fun t319 => (if t302 = true then (if (t315.length : Int) = (l0.length : Int) then (if (t319.length : Int) = (t304.length : Int) then (if 0 ≤ a2 then (if a2 < (t315.length : Int) then (if a2 < (t305.length : Int) then (if 0 ≤ (rd t305 a2) then (if (rd t305 a2) < (t319.length : Int) then (some ((rdOf false t315 a2) == (rdOf false t319 (rd t305 a2)))) else (none)) else (none)) else (none)) else (none)) else (none)) else (some false)) else (some false)) else (some false))) else (none)) else (none))) = some r := by rw [if_neg (show ¬ (false = true) by decide)] at H; exact H
                      clear H
                      have H := H1
                      clear H1
                      replace H := Option.bind_eq_some_iff.mp H
                      obtain ⟨t315, A360, H⟩ := H
                      replace H : (if 0 ≤ a1 then (if a1 < (t305.length : Int) then ((graph_Reach.f t304 (rd t305 a1)).bind fun t319 => (if t302 = true then (if (t315.length : Int) = (l0.length : Int) then (if (t319.length : Int) = (t304.length : Int) then (if 0 ≤ a2 then (if a2 < (t315.length : Int) then (if a2 < (t305.length : Int) then (if 0 ≤ (rd t305 a2) then (if (rd t305 a2) < (t319.length : Int) then (some ((rdOf false t315 a2) == (rdOf false t319 (rd t305 a2)))) else (none)) else (none)) else (none)) else (none)) else (none)) else (some false)) else (some false)) else (some false))) else (none)) else (none)) = some r := H
                      have A36 := Aside0.mk A360
                      clear A360
                      by_cases c37 : 0 ≤ a1
                      · rw [if_pos c37] at H
                        have c37b0 : decide (0 ≤ a1) = true := decide_eq_true c37
                        clear c37
                        by_cases c38 : a1 < (t305.length : Int)
                        · rw [if_pos c38] at H
                          have c38b0 : decide (a1 < (t305.length : Int)) = true := decide_eq_true c38
                          clear c38
                          replace H := Option.bind_eq_some_iff.mp H
                          obtain ⟨t319, A390, H⟩ := H
                          replace H : (if t302 = true then (if (t315.length : Int) = (l0.length : Int) then (if (t319.length : Int) = (t304.length : Int) then (if 0 ≤ a2 then (if a2 < (t315.length : Int) then (if a2 < (t305.length : Int) then (if 0 ≤ (rd t305 a2) then (if (rd t305 a2) < (t319.length : Int) then (some ((rdOf false t315 a2) == (rdOf false t319 (rd t305 a2)))) else (none)) else (none)) else (none)) else (none)) else (none)) else (some false)) else (some false)) else (some false)) = some r := H
                          have A39 := Aside0.mk A390
                          clear A390
                          by_cases c40 : t302 = true
                          · subst c40
                            have H1 : (if (t315.length : Int) = (l0.length : Int) then (if (t319.length : Int) = (t304.length : Int) then (if 0 ≤ a2 then (if a2 < (t315.length : Int) then (if a2 < (t305.length : Int) then (if 0 ≤ (rd t305 a2) then (if (rd t305 a2) < (t319.length : Int) then (some ((rdOf false t315 a2) == (rdOf false t319 (rd t305 a2)))) else (none)) else (none)) else (none)) else (none)) else (none)) else (some false)) else (some false)) = some r := by rw [if_pos rfl] at H; exact H
                            clear H
                            have H := H1
                            clear H1
                            by_cases c41 : (t315.length : Int) = (l0.length : Int)
                            · rw [if_pos c41] at H
                              have c41b0 : ((t315.length : Int) == (l0.length : Int)) = true := beq_iff_eq.mpr c41
                              have c41b1 : ((t315.length : Int) != (l0.length : Int)) = false := bne_eq_false_iff_eq.mpr c41
                              have c41b2 : (t315.length == l0.length) = true := by first | simpa using c41 | (simp at c41 ⊢; omega)
                              clear c41
                              by_cases c42 : (t319.length : Int) = (t304.length : Int)
                              · rw [if_pos c42] at H
                                have c42b0 : ((t319.length : Int) == (t304.length : Int)) = true := beq_iff_eq.mpr c42
                                have c42b1 : ((t319.length : Int) != (t304.length : Int)) = false := bne_eq_false_iff_eq.mpr c42
                                have c42b2 : (t319.length == t304.length) = true := by first | simpa using c42 | (simp at c42 ⊢; omega)
                                clear c42
                                by_cases c43 : 0 ≤ a2
                                · rw [if_pos c43] at H
                                  have c43b0 : decide (0 ≤ a2) = true := decide_eq_true c43
                                  clear c43
                                  by_cases c44 : a2 < (t315.length : Int)
                                  · rw [if_pos c44] at H
                                    have c44b0 : decide (a2 < (t315.length : Int)) = true := decide_eq_true c44
                                    clear c44
                                    by_cases c45 : a2 < (t305.length : Int)
                                    · rw [if_pos c45] at H
                                      have c45b0 : decide (a2 < (t305.length : Int)) = true := decide_eq_true c45
                                      clear c45
                                      by_cases c46 : 0 ≤ (rd t305 a2)
                                      · rw [if_pos c46] at H
                                        have c46b0 : decide (0 ≤ (rd t305 a2)) = true := decide_eq_true c46
                                        clear c46
                                        by_cases c47 : (rd t305 a2) < (t319.length : Int)
                                        · rw [if_pos c47] at H
                                          have c47b0 : decide ((rd t305 a2) < (t319.length : Int)) = true := decide_eq_true c47
                                          clear c47
                                          obtain rfl := Option.some.inj H
                                          go_wp2_with (first | (go_at_call 21; (with_reducible refine (graph_Reach.calls _ _ l0 a1 t315 _ ?side1 ?side2 A36.out).mono ?_); (case side1 => repeat (first | exact (Kd.C_below HR0.out HB.out) | (with_reducible refine Kd.C_alloc ?_ _) | (with_reducible refine Kd.C_drewN ?_ _) | (with_reducible refine Kd.C_drew ?_))); (case side2 => exact HC0.out); rintro e w48 ⟨v316, rfl, ho0, hb⟩; have n0_ := Aside0.mk (Kd.S_below (by (with_reducible repeat (first | apply Kd.S_alloc | apply Kd.S_drewN | apply Kd.S_drew)); exact HO_8.out) hb); have n1_ := Aside0.mk (Kd.R_below (by (with_reducible repeat (first | apply Kd.R_alloc | apply Kd.R_drewN | apply Kd.R_drew)); exact HO_9.out) hb); have n2_ := Aside0.mk (Kd.R_lower ho0 (below_size (by repeat (first | (with_reducible first | exact HB.out | apply below_alloc | apply pw_below_drewN | apply below_drew1) | exact HB.out)))); have n3_ := Aside0.mk (below_step (by repeat (first | (with_reducible first | exact HB.out | apply below_alloc | apply pw_below_drewN | apply below_drew1) | exact HB.out)) hb); clear HO_8; clear HO_9; clear HB; have HO_8 := n0_; have HO_9 := n1_; have HO317 := n2_; have HB := n3_; clear n0_ n1_ n2_ n3_; (try clear hb); (try clear hb2); (try clear hk); (try clear hi); (try clear ho0); obtain ⟨Ao49, co49, eo49⟩ := Kd.R_slice HO_9.out; subst eo49; have p318 : 0 ≤ (a1 : Int) := of_decide_eq_true (by first | (with_reducible assumption) | assumption); have q318 : a1 < (t305.length : Int) := of_decide_eq_true (by first | (with_reducible assumption) | assumption); obtain ⟨ad318, e318, hx318_0⟩ := Kd.at_int (Kd.R_reads' HO_9.out).2.2 a1 p318 q318; cases e318; replace p318 := eq_true p318; replace q318 := eq_true q318) | (go_at_call 21; (with_reducible refine (graph_Reach.calls _ _ t304 (rd t305 a1) t319 _ ?side1 ?side2 A39.out).mono ?_); (case side1 => repeat (first | exact (Kd.S_reads' HO_8.out).2.2 | (with_reducible refine Kd.C_alloc ?_ _) | (with_reducible refine Kd.C_drewN ?_ _) | (with_reducible refine Kd.C_drew ?_))); (case side2 => exact (Kd.S_reads' HO_8.out).2.1); rintro e w50 ⟨v320, rfl, ho0, hb⟩; have n0_ := Aside0.mk (Kd.S_below (by (with_reducible repeat (first | apply Kd.S_alloc | apply Kd.S_drewN | apply Kd.S_drew)); exact HO_8.out) hb); have n1_ := Aside0.mk (Kd.R_below (by (with_reducible repeat (first | apply Kd.R_alloc | apply Kd.R_drewN | apply Kd.R_drew)); exact HO_9.out) hb); have n2_ := Aside0.mk (Kd.R_elder' (by (with_reducible repeat (first | apply Kd.R_alloc | apply Kd.R_drewN | apply Kd.R_drew)); exact HO317.out) (Kd.R_base ho0) hb); have n3_ := Aside0.mk (Kd.R_lower (Kd.R_new' ho0 (Kd.R_lt (by (with_reducible repeat (first | apply Kd.R_alloc | apply Kd.R_drewN | apply Kd.R_drew)); exact HO317.out))) (below_size (by repeat (first | (with_reducible first | exact HB.out | apply below_alloc | apply pw_below_drewN | apply below_drew1) | exact HB.out)))); have n4_ := Aside0.mk (below_step (by repeat (first | (with_reducible first | exact HB.out | apply below_alloc | apply pw_below_drewN | apply below_drew1) | exact HB.out)) hb); clear HO_8; clear HO_9; clear HO317; clear HB; have HO_8 := n0_; have HO_9 := n1_; have HO317 := n2_; have HO321 := n3_; have HB := n4_; clear n0_ n1_ n2_ n3_ n4_; (try clear hb); (try clear hb2); (try clear hk); (try clear hi); (try clear ho0); obtain ⟨Ao51, co51, eo51⟩ := Kd.R_slice HO317.out; subst eo51; obtain ⟨Ao52, co52, eo52⟩ := Kd.R_slice HO321.out; subst eo52; have p322 : 0 ≤ (a2 : Int) := of_decide_eq_true (by first | (with_reducible assumption) | assumption); have q322 : a2 < (t315.length : Int) := of_decide_eq_true (by first | (with_reducible assumption) | assumption); obtain ⟨ad322, e322, hx322_0⟩ := Kd.at_bool (Kd.R_reads' HO317.out).2.2 a2 p322 q322; cases e322; replace p322 := eq_true p322; replace q322 := eq_true q322; have p323 : 0 ≤ (a2 : Int) := of_decide_eq_true (by first | (with_reducible assumption) | assumption); have q323 : a2 < (t305.length : Int) := of_decide_eq_true (by first | (with_reducible assumption) | assumption); obtain ⟨ad323, e323, hx323_0⟩ := Kd.at_int (Kd.R_reads' HO_9.out).2.2 a2 p323 q323; obtain rfl : ad318 = ad323 := (by injection e323); replace p323 := eq_true p323; replace q323 := eq_true q323; have p324 : 0 ≤ ((rd t305 a2) : Int) := of_decide_eq_true (by first | (with_reducible assumption) | assumption); have q324 : (rd t305 a2) < (t319.length : Int) := of_decide_eq_true (by first | (with_reducible assumption) | assumption); obtain ⟨ad324, e324, hx324_0⟩ := Kd.at_bool (Kd.R_reads' HO321.out).2.2 (rd t305 a2) p324 q324; cases e324; replace p324 := eq_true p324; replace q324 := eq_true q324))
                                          repeat (go_quiet (first | (go_at_call 21; (with_reducible refine (graph_Reach.calls _ _ l0 a1 t315 _ ?side1 ?side2 A36.out).mono ?_); (case side1 => repeat (first | exact (Kd.C_below HR0.out HB.out) | (with_reducible refine Kd.C_alloc ?_ _) | (with_reducible refine Kd.C_drewN ?_ _) | (with_reducible refine Kd.C_drew ?_))); (case side2 => exact HC0.out); rintro e w48 ⟨v316, rfl, ho0, hb⟩; have n0_ := Aside0.mk (Kd.S_below (by (with_reducible repeat (first | apply Kd.S_alloc | apply Kd.S_drewN | apply Kd.S_drew)); exact HO_8.out) hb); have n1_ := Aside0.mk (Kd.R_below (by (with_reducible repeat (first | apply Kd.R_alloc | apply Kd.R_drewN | apply Kd.R_drew)); exact HO_9.out) hb); have n2_ := Aside0.mk (Kd.R_lower ho0 (below_size (by repeat (first | (with_reducible first | exact HB.out | apply below_alloc | apply pw_below_drewN | apply below_drew1) | exact HB.out)))); have n3_ := Aside0.mk (below_step (by repeat (first | (with_reducible first | exact HB.out | apply below_alloc | apply pw_below_drewN | apply below_drew1) | exact HB.out)) hb); clear HO_8; clear HO_9; clear HB; have HO_8 := n0_; have HO_9 := n1_; have HO317 := n2_; have HB := n3_; clear n0_ n1_ n2_ n3_; (try clear hb); (try clear hb2); (try clear hk); (try clear hi); (try clear ho0); obtain ⟨Ao49, co49, eo49⟩ := Kd.R_slice HO_9.out; subst eo49; have p318 : 0 ≤ (a1 : Int) := of_decide_eq_true (by first | (with_reducible assumption) | assumption); have q318 : a1 < (t305.length : Int) := of_decide_eq_true (by first | (with_reducible assumption) | assumption); obtain ⟨ad318, e318, hx318_0⟩ := Kd.at_int (Kd.R_reads' HO_9.out).2.2 a1 p318 q318; cases e318; replace p318 := eq_true p318; replace q318 := eq_true q318) | (go_at_call 21; (with_reducible refine (graph_Reach.calls _ _ t304 (rd t305 a1) t319 _ ?side1 ?side2 A39.out).mono ?_); (case side1 => repeat (first | exact (Kd.S_reads' HO_8.out).2.2 | (with_reducible refine Kd.C_alloc ?_ _) | (with_reducible refine Kd.C_drewN ?_ _) | (with_reducible refine Kd.C_drew ?_))); (case side2 => exact (Kd.S_reads' HO_8.out).2.1); rintro e w50 ⟨v320, rfl, ho0, hb⟩; have n0_ := Aside0.mk (Kd.S_below (by (with_reducible repeat (first | apply Kd.S_alloc | apply Kd.S_drewN | apply Kd.S_drew)); exact HO_8.out) hb); have n1_ := Aside0.mk (Kd.R_below (by (with_reducible repeat (first | apply Kd.R_alloc | apply Kd.R_drewN | apply Kd.R_drew)); exact HO_9.out) hb); have n2_ := Aside0.mk (Kd.R_elder' (by (with_reducible repeat (first | apply Kd.R_alloc | apply Kd.R_drewN | apply Kd.R_drew)); exact HO317.out) (Kd.R_base ho0) hb); have n3_ := Aside0.mk (Kd.R_lower (Kd.R_new' ho0 (Kd.R_lt (by (with_reducible repeat (first | apply Kd.R_alloc | apply Kd.R_drewN | apply Kd.R_drew)); exact HO317.out))) (below_size (by repeat (first | (with_reducible first | exact HB.out | apply below_alloc | apply pw_below_drewN | apply below_drew1) | exact HB.out)))); have n4_ := Aside0.mk (below_step (by repeat (first | (with_reducible first | exact HB.out | apply below_alloc | apply pw_below_drewN | apply below_drew1) | exact HB.out)) hb); clear HO_8; clear HO_9; clear HO317; clear HB; have HO_8 := n0_; have HO_9 := n1_; have HO317 := n2_; have HO321 := n3_; have HB := n4_; clear n0_ n1_ n2_ n3_ n4_; (try clear hb); (try clear hb2); (try clear hk); (try clear hi); (try clear ho0); obtain ⟨Ao51, co51, eo51⟩ := Kd.R_slice HO317.out; subst eo51; obtain ⟨Ao52, co52, eo52⟩ := Kd.R_slice HO321.out; subst eo52; have p322 : 0 ≤ (a2 : Int) := of_decide_eq_true (by first | (with_reducible assumption) | assumption); have q322 : a2 < (t315.length : Int) := of_decide_eq_true (by first | (with_reducible assumption) | assumption); obtain ⟨ad322, e322, hx322_0⟩ := Kd.at_bool (Kd.R_reads' HO317.out).2.2 a2 p322 q322; cases e322; replace p322 := eq_true p322; replace q322 := eq_true q322; have p323 : 0 ≤ (a2 : Int) := of_decide_eq_true (by first | (with_reducible assumption) | assumption); have q323 : a2 < (t305.length : Int) := of_decide_eq_true (by first | (with_reducible assumption) | assumption); obtain ⟨ad323, e323, hx323_0⟩ := Kd.at_int (Kd.R_reads' HO_9.out).2.2 a2 p323 q323; obtain rfl : ad318 = ad323 := (by injection e323); replace p323 := eq_true p323; replace q323 := eq_true q323; have p324 : 0 ≤ ((rd t305 a2) : Int) := of_decide_eq_true (by first | (with_reducible assumption) | assumption); have q324 : (rd t305 a2) < (t319.length : Int) := of_decide_eq_true (by first | (with_reducible assumption) | assumption); obtain ⟨ad324, e324, hx324_0⟩ := Kd.at_bool (Kd.R_reads' HO321.out).2.2 (rd t305 a2) p324 q324; cases e324; replace p324 := eq_true p324; replace q324 := eq_true q324)); try go_wp2_with (first | (go_at_call 21; (with_reducible refine (graph_Reach.calls _ _ l0 a1 t315 _ ?side1 ?side2 A36.out).mono ?_); (case side1 => repeat (first | exact (Kd.C_below HR0.out HB.out) | (with_reducible refine Kd.C_alloc ?_ _) | (with_reducible refine Kd.C_drewN ?_ _) | (with_reducible refine Kd.C_drew ?_))); (case side2 => exact HC0.out); rintro e w48 ⟨v316, rfl, ho0, hb⟩; have n0_ := Aside0.mk (Kd.S_below (by (with_reducible repeat (first | apply Kd.S_alloc | apply Kd.S_drewN | apply Kd.S_drew)); exact HO_8.out) hb); have n1_ := Aside0.mk (Kd.R_below (by (with_reducible repeat (first | apply Kd.R_alloc | apply Kd.R_drewN | apply Kd.R_drew)); exact HO_9.out) hb); have n2_ := Aside0.mk (Kd.R_lower ho0 (below_size (by repeat (first | (with_reducible first | exact HB.out | apply below_alloc | apply pw_below_drewN | apply below_drew1) | exact HB.out)))); have n3_ := Aside0.mk (below_step (by repeat (first | (with_reducible first | exact HB.out | apply below_alloc | apply pw_below_drewN | apply below_drew1) | exact HB.out)) hb); clear HO_8; clear HO_9; clear HB; have HO_8 := n0_; have HO_9 := n1_; have HO317 := n2_; have HB := n3_; clear n0_ n1_ n2_ n3_; (try clear hb); (try clear hb2); (try clear hk); (try clear hi); (try clear ho0); obtain ⟨Ao49, co49, eo49⟩ := Kd.R_slice HO_9.out; subst eo49; have p318 : 0 ≤ (a1 : Int) := of_decide_eq_true (by first | (with_reducible assumption) | assumption); have q318 : a1 < (t305.length : Int) := of_decide_eq_true (by first | (with_reducible assumption) | assumption); obtain ⟨ad318, e318, hx318_0⟩ := Kd.at_int (Kd.R_reads' HO_9.out).2.2 a1 p318 q318; cases e318; replace p318 := eq_true p318; replace q318 := eq_true q318) | (go_at_call 21; (with_reducible refine (graph_Reach.calls _ _ t304 (rd t305 a1) t319 _ ?side1 ?side2 A39.out).mono ?_); (case side1 => repeat (first | exact (Kd.S_reads' HO_8.out).2.2 | (with_reducible refine Kd.C_alloc ?_ _) | (with_reducible refine Kd.C_drewN ?_ _) | (with_reducible refine Kd.C_drew ?_))); (case side2 => exact (Kd.S_reads' HO_8.out).2.1); rintro e w50 ⟨v320, rfl, ho0, hb⟩; have n0_ := Aside0.mk (Kd.S_below (by (with_reducible repeat (first | apply Kd.S_alloc | apply Kd.S_drewN | apply Kd.S_drew)); exact HO_8.out) hb); have n1_ := Aside0.mk (Kd.R_below (by (with_reducible repeat (first | apply Kd.R_alloc | apply Kd.R_drewN | apply Kd.R_drew)); exact HO_9.out) hb); have n2_ := Aside0.mk (Kd.R_elder' (by (with_reducible repeat (first | apply Kd.R_alloc | apply Kd.R_drewN | apply Kd.R_drew)); exact HO317.out) (Kd.R_base ho0) hb); have n3_ := Aside0.mk (Kd.R_lower (Kd.R_new' ho0 (Kd.R_lt (by (with_reducible repeat (first | apply Kd.R_alloc | apply Kd.R_drewN | apply Kd.R_drew)); exact HO317.out))) (below_size (by repeat (first | (with_reducible first | exact HB.out | apply below_alloc | apply pw_below_drewN | apply below_drew1) | exact HB.out)))); have n4_ := Aside0.mk (below_step (by repeat (first | (with_reducible first | exact HB.out | apply below_alloc | apply pw_below_drewN | apply below_drew1) | exact HB.out)) hb); clear HO_8; clear HO_9; clear HO317; clear HB; have HO_8 := n0_; have HO_9 := n1_; have HO317 := n2_; have HO321 := n3_; have HB := n4_; clear n0_ n1_ n2_ n3_ n4_; (try clear hb); (try clear hb2); (try clear hk); (try clear hi); (try clear ho0); obtain ⟨Ao51, co51, eo51⟩ := Kd.R_slice HO317.out; subst eo51; obtain ⟨Ao52, co52, eo52⟩ := Kd.R_slice HO321.out; subst eo52; have p322 : 0 ≤ (a2 : Int) := of_decide_eq_true (by first | (with_reducible assumption) | assumption); have q322 : a2 < (t315.length : Int) := of_decide_eq_true (by first | (with_reducible assumption) | assumption); obtain ⟨ad322, e322, hx322_0⟩ := Kd.at_bool (Kd.R_reads' HO317.out).2.2 a2 p322 q322; cases e322; replace p322 := eq_true p322; replace q322 := eq_true q322; have p323 : 0 ≤ (a2 : Int) := of_decide_eq_true (by first | (with_reducible assumption) | assumption); have q323 : a2 < (t305.length : Int) := of_decide_eq_true (by first | (with_reducible assumption) | assumption); obtain ⟨ad323, e323, hx323_0⟩ := Kd.at_int (Kd.R_reads' HO_9.out).2.2 a2 p323 q323; obtain rfl : ad318 = ad323 := (by injection e323); replace p323 := eq_true p323; replace q323 := eq_true q323; have p324 : 0 ≤ ((rd t305 a2) : Int) := of_decide_eq_true (by first | (with_reducible assumption) | assumption); have q324 : (rd t305 a2) < (t319.length : Int) := of_decide_eq_true (by first | (with_reducible assumption) | assumption); obtain ⟨ad324, e324, hx324_0⟩ := Kd.at_bool (Kd.R_reads' HO321.out).2.2 (rd t305 a2) p324 q324; cases e324; replace p324 := eq_true p324; replace q324 := eq_true q324)))
                                          go_ret
                                          exact ⟨by first | rfl | (simp [errW_none, errW_some] <;> rfl) | (simp [*, errW_none, errW_some] <;> rfl) | (exfalso; (try simp_all); (try omega); done), by repeat (first | (with_reducible first | exact HB.out | apply below_alloc | apply pw_below_drewN | apply below_drew1) | exact HB.out)⟩
                                        · rw [if_neg c47] at H
                                          exact absurd H (by simp)
                                      · rw [if_neg c46] at H
                                        exact absurd H (by simp)
                                    · rw [if_neg c45] at H
                                      exact absurd H (by simp)
                                  · rw [if_neg c44] at H
                                    exact absurd H (by simp)
                                · rw [if_neg c43] at H
                                  exact absurd H (by simp)
                              · rw [if_neg c42] at H
                                have c42b0 : ((t319.length : Int) == (t304.length : Int)) = false := beq_eq_false_iff_ne.mpr c42
                                have c42b1 : ((t319.length : Int) != (t304.length : Int)) = true := bne_iff_ne.mpr c42
                                have c42b2 : (t319.length == t304.length) = false := by first | simpa using c42 | (simp at c42 ⊢; omega)
                                obtain rfl := Option.some.inj H
                                go_wp2_with (first | (go_at_call 21; (with_reducible refine (graph_Reach.calls _ _ l0 a1 t315 _ ?side1 ?side2 A36.out).mono ?_); (case side1 => repeat (first | exact (Kd.C_below HR0.out HB.out) | (with_reducible refine Kd.C_alloc ?_ _) | (with_reducible refine Kd.C_drewN ?_ _) | (with_reducible refine Kd.C_drew ?_))); (case side2 => exact HC0.out); rintro e w53 ⟨v316, rfl, ho0, hb⟩; have n0_ := Aside0.mk (Kd.S_below (by (with_reducible repeat (first | apply Kd.S_alloc | apply Kd.S_drewN | apply Kd.S_drew)); exact HO_8.out) hb); have n1_ := Aside0.mk (Kd.R_below (by (with_reducible repeat (first | apply Kd.R_alloc | apply Kd.R_drewN | apply Kd.R_drew)); exact HO_9.out) hb); have n2_ := Aside0.mk (Kd.R_lower ho0 (below_size (by repeat (first | (with_reducible first | exact HB.out | apply below_alloc | apply pw_below_drewN | apply below_drew1) | exact HB.out)))); have n3_ := Aside0.mk (below_step (by repeat (first | (with_reducible first | exact HB.out | apply below_alloc | apply pw_below_drewN | apply below_drew1) | exact HB.out)) hb); clear HO_8; clear HO_9; clear HB; have HO_8 := n0_; have HO_9 := n1_; have HO317 := n2_; have HB := n3_; clear n0_ n1_ n2_ n3_; (try clear hb); (try clear hb2); (try clear hk); (try clear hi); (try clear ho0); obtain ⟨Ao54, co54, eo54⟩ := Kd.R_slice HO_9.out; subst eo54; have p318 : 0 ≤ (a1 : Int) := of_decide_eq_true (by first | (with_reducible assumption) | assumption); have q318 : a1 < (t305.length : Int) := of_decide_eq_true (by first | (with_reducible assumption) | assumption); obtain ⟨ad318, e318, hx318_0⟩ := Kd.at_int (Kd.R_reads' HO_9.out).2.2 a1 p318 q318; cases e318; replace p318 := eq_true p318; replace q318 := eq_true q318) | (go_at_call 21; (with_reducible refine (graph_Reach.calls _ _ t304 (rd t305 a1) t319 _ ?side1 ?side2 A39.out).mono ?_); (case side1 => repeat (first | exact (Kd.S_reads' HO_8.out).2.2 | (with_reducible refine Kd.C_alloc ?_ _) | (with_reducible refine Kd.C_drewN ?_ _) | (with_reducible refine Kd.C_drew ?_))); (case side2 => exact (Kd.S_reads' HO_8.out).2.1); rintro e w55 ⟨v320, rfl, ho0, hb⟩; have n0_ := Aside0.mk (Kd.S_below (by (with_reducible repeat (first | apply Kd.S_alloc | apply Kd.S_drewN | apply Kd.S_drew)); exact HO_8.out) hb); have n1_ := Aside0.mk (Kd.R_below (by (with_reducible repeat (first | apply Kd.R_alloc | apply Kd.R_drewN | apply Kd.R_drew)); exact HO_9.out) hb); have n2_ := Aside0.mk (Kd.R_elder' (by (with_reducible repeat (first | apply Kd.R_alloc | apply Kd.R_drewN | apply Kd.R_drew)); exact HO317.out) (Kd.R_base ho0) hb); have n3_ := Aside0.mk (Kd.R_lower (Kd.R_new' ho0 (Kd.R_lt (by (with_reducible repeat (first | apply Kd.R_alloc | apply Kd.R_drewN | apply Kd.R_drew)); exact HO317.out))) (below_size (by repeat (first | (with_reducible first | exact HB.out | apply below_alloc | apply pw_below_drewN | apply below_drew1) | exact HB.out)))); have n4_ := Aside0.mk (below_step (by repeat (first | (with_reducible first | exact HB.out | apply below_alloc | apply pw_below_drewN | apply below_drew1) | exact HB.out)) hb); clear HO_8; clear HO_9; clear HO317; clear HB; have HO_8 := n0_; have HO_9 := n1_; have HO317 := n2_; have HO321 := n3_; have HB := n4_; clear n0_ n1_ n2_ n3_ n4_; (try clear hb); (try clear hb2); (try clear hk); (try clear hi); (try clear ho0); obtain ⟨Ao56, co56, eo56⟩ := Kd.R_slice HO317.out; subst eo56; obtain ⟨Ao57, co57, eo57⟩ := Kd.R_slice HO321.out; subst eo57))
                                repeat (go_quiet (first | (go_at_call 21; (with_reducible refine (graph_Reach.calls _ _ l0 a1 t315 _ ?side1 ?side2 A36.out).mono ?_); (case side1 => repeat (first | exact (Kd.C_below HR0.out HB.out) | (with_reducible refine Kd.C_alloc ?_ _) | (with_reducible refine Kd.C_drewN ?_ _) | (with_reducible refine Kd.C_drew ?_))); (case side2 => exact HC0.out); rintro e w53 ⟨v316, rfl, ho0, hb⟩; have n0_ := Aside0.mk (Kd.S_below (by (with_reducible repeat (first | apply Kd.S_alloc | apply Kd.S_drewN | apply Kd.S_drew)); exact HO_8.out) hb); have n1_ := Aside0.mk (Kd.R_below (by (with_reducible repeat (first | apply Kd.R_alloc | apply Kd.R_drewN | apply Kd.R_drew)); exact HO_9.out) hb); have n2_ := Aside0.mk (Kd.R_lower ho0 (below_size (by repeat (first | (with_reducible first | exact HB.out | apply below_alloc | apply pw_below_drewN | apply below_drew1) | exact HB.out)))); have n3_ := Aside0.mk (below_step (by repeat (first | (with_reducible first | exact HB.out | apply below_alloc | apply pw_below_drewN | apply below_drew1) | exact HB.out)) hb); clear HO_8; clear HO_9; clear HB; have HO_8 := n0_; have HO_9 := n1_; have HO317 := n2_; have HB := n3_; clear n0_ n1_ n2_ n3_; (try clear hb); (try clear hb2); (try clear hk); (try clear hi); (try clear ho0); obtain ⟨Ao54, co54, eo54⟩ := Kd.R_slice HO_9.out; subst eo54; have p318 : 0 ≤ (a1 : Int) := of_decide_eq_true (by first | (with_reducible assumption) | assumption); have q318 : a1 < (t305.length : Int) := of_decide_eq_true (by first | (with_reducible assumption) | assumption); obtain ⟨ad318, e318, hx318_0⟩ := Kd.at_int (Kd.R_reads' HO_9.out).2.2 a1 p318 q318; cases e318; replace p318 := eq_true p318; replace q318 := eq_true q318) | (go_at_call 21; (with_reducible refine (graph_Reach.calls _ _ t304 (rd t305 a1) t319 _ ?side1 ?side2 A39.out).mono ?_); (case side1 => repeat (first | exact (Kd.S_reads' HO_8.out).2.2 | (with_reducible refine Kd.C_alloc ?_ _) | (with_reducible refine Kd.C_drewN ?_ _) | (with_reducible refine Kd.C_drew ?_))); (case side2 => exact (Kd.S_reads' HO_8.out).2.1); rintro e w55 ⟨v320, rfl, ho0, hb⟩; have n0_ := Aside0.mk (Kd.S_below (by (with_reducible repeat (first | apply Kd.S_alloc | apply Kd.S_drewN | apply Kd.S_drew)); exact HO_8.out) hb); have n1_ := Aside0.mk (Kd.R_below (by (with_reducible repeat (first | apply Kd.R_alloc | apply Kd.R_drewN | apply Kd.R_drew)); exact HO_9.out) hb); have n2_ := Aside0.mk (Kd.R_elder' (by (with_reducible repeat (first | apply Kd.R_alloc | apply Kd.R_drewN | apply Kd.R_drew)); exact HO317.out) (Kd.R_base ho0) hb); have n3_ := Aside0.mk (Kd.R_lower (Kd.R_new' ho0 (Kd.R_lt (by (with_reducible repeat (first | apply Kd.R_alloc | apply Kd.R_drewN | apply Kd.R_drew)); exact HO317.out))) (below_size (by repeat (first | (with_reducible first | exact HB.out | apply below_alloc | apply pw_below_drewN | apply below_drew1) | exact HB.out)))); have n4_ := Aside0.mk (below_step (by repeat (first | (with_reducible first | exact HB.out | apply below_alloc | apply pw_below_drewN | apply below_drew1) | exact HB.out)) hb); clear HO_8; clear HO_9; clear HO317; clear HB; have HO_8 := n0_; have HO_9 := n1_; have HO317 := n2_; have HO321 := n3_; have HB := n4_; clear n0_ n1_ n2_ n3_ n4_; (try clear hb); (try clear hb2); (try clear hk); (try clear hi); (try clear ho0); obtain ⟨Ao56, co56, eo56⟩ := Kd.R_slice HO317.out; subst eo56; obtain ⟨Ao57, co57, eo57⟩ := Kd.R_slice HO321.out; subst eo57)); try go_wp2_with (first | (go_at_call 21; (with_reducible refine (graph_Reach.calls _ _ l0 a1 t315 _ ?side1 ?side2 A36.out).mono ?_); (case side1 => repeat (first | exact (Kd.C_below HR0.out HB.out) | (with_reducible refine Kd.C_alloc ?_ _) | (with_reducible refine Kd.C_drewN ?_ _) | (with_reducible refine Kd.C_drew ?_))); (case side2 => exact HC0.out); rintro e w53 ⟨v316, rfl, ho0, hb⟩; have n0_ := Aside0.mk (Kd.S_below (by (with_reducible repeat (first | apply Kd.S_alloc | apply Kd.S_drewN | apply Kd.S_drew)); exact HO_8.out) hb); have n1_ := Aside0.mk (Kd.R_below (by (with_reducible repeat (first | apply Kd.R_alloc | apply Kd.R_drewN | apply Kd.R_drew)); exact HO_9.out) hb); have n2_ := Aside0.mk (Kd.R_lower ho0 (below_size (by repeat (first | (with_reducible first | exact HB.out | apply below_alloc | apply pw_below_drewN | apply below_drew1) | exact HB.out)))); have n3_ := Aside0.mk (below_step (by repeat (first | (with_reducible first | exact HB.out | apply below_alloc | apply pw_below_drewN | apply below_drew1) | exact HB.out)) hb); clear HO_8; clear HO_9; clear HB; have HO_8 := n0_; have HO_9 := n1_; have HO317 := n2_; have HB := n3_; clear n0_ n1_ n2_ n3_; (try clear hb); (try clear hb2); (try clear hk); (try clear hi); (try clear ho0); obtain ⟨Ao54, co54, eo54⟩ := Kd.R_slice HO_9.out; subst eo54; have p318 : 0 ≤ (a1 : Int) := of_decide_eq_true (by first | (with_reducible assumption) | assumption); have q318 : a1 < (t305.length : Int) := of_decide_eq_true (by first | (with_reducible assumption) | assumption); obtain ⟨ad318, e318, hx318_0⟩ := Kd.at_int (Kd.R_reads' HO_9.out).2.2 a1 p318 q318; cases e318; replace p318 := eq_true p318; replace q318 := eq_true q318) | (go_at_call 21; (with_reducible refine (graph_Reach.calls _ _ t304 (rd t305 a1) t319 _ ?side1 ?side2 A39.out).mono ?_); (case side1 => repeat (first | exact (Kd.S_reads' HO_8.out).2.2 | (with_reducible refine Kd.C_alloc ?_ _) | (with_reducible refine Kd.C_drewN ?_ _) | (with_reducible refine Kd.C_drew ?_))); (case side2 => exact (Kd.S_reads' HO_8.out).2.1); rintro e w55 ⟨v320, rfl, ho0, hb⟩; have n0_ := Aside0.mk (Kd.S_below (by (with_reducible repeat (first | apply Kd.S_alloc | apply Kd.S_drewN | apply Kd.S_drew)); exact HO_8.out) hb); have n1_ := Aside0.mk (Kd.R_below (by (with_reducible repeat (first | apply Kd.R_alloc | apply Kd.R_drewN | apply Kd.R_drew)); exact HO_9.out) hb); have n2_ := Aside0.mk (Kd.R_elder' (by (with_reducible repeat (first | apply Kd.R_alloc | apply Kd.R_drewN | apply Kd.R_drew)); exact HO317.out) (Kd.R_base ho0) hb); have n3_ := Aside0.mk (Kd.R_lower (Kd.R_new' ho0 (Kd.R_lt (by (with_reducible repeat (first | apply Kd.R_alloc | apply Kd.R_drewN | apply Kd.R_drew)); exact HO317.out))) (below_size (by repeat (first | (with_reducible first | exact HB.out | apply below_alloc | apply pw_below_drewN | apply below_drew1) | exact HB.out)))); have n4_ := Aside0.mk (below_step (by repeat (first | (with_reducible first | exact HB.out | apply below_alloc | apply pw_below_drewN | apply below_drew1) | exact HB.out)) hb); clear HO_8; clear HO_9; clear HO317; clear HB; have HO_8 := n0_; have HO_9 := n1_; have HO317 := n2_; have HO321 := n3_; have HB := n4_; clear n0_ n1_ n2_ n3_ n4_; (try clear hb); (try clear hb2); (try clear hk); (try clear hi); (try clear ho0); obtain ⟨Ao56, co56, eo56⟩ := Kd.R_slice HO317.out; subst eo56; obtain ⟨Ao57, co57, eo57⟩ := Kd.R_slice HO321.out; subst eo57)))
                                go_ret
                                exact ⟨by first | rfl | (simp [errW_none, errW_some] <;> rfl) | (simp [*, errW_none, errW_some] <;> rfl) | (exfalso; (try simp_all); (try omega); done), by repeat (first | (with_reducible first | exact HB.out | apply below_alloc | apply pw_below_drewN | apply below_drew1) | exact HB.out)⟩
                            · rw [if_neg c41] at H
                              have c41b0 : ((t315.length : Int) == (l0.length : Int)) = false := beq_eq_false_iff_ne.mpr c41
                              have c41b1 : ((t315.length : Int) != (l0.length : Int)) = true := bne_iff_ne.mpr c41
                              have c41b2 : (t315.length == l0.length) = false := by first | simpa using c41 | (simp at c41 ⊢; omega)
                              obtain rfl := Option.some.inj H
                              go_wp2_with (first | (go_at_call 21; (with_reducible refine (graph_Reach.calls _ _ l0 a1 t315 _ ?side1 ?side2 A36.out).mono ?_); (case side1 => repeat (first | exact (Kd.C_below HR0.out HB.out) | (with_reducible refine Kd.C_alloc ?_ _) | (with_reducible refine Kd.C_drewN ?_ _) | (with_reducible refine Kd.C_drew ?_))); (case side2 => exact HC0.out); rintro e w58 ⟨v316, rfl, ho0, hb⟩; have n0_ := Aside0.mk (Kd.S_below (by (with_reducible repeat (first | apply Kd.S_alloc | apply Kd.S_drewN | apply Kd.S_drew)); exact HO_8.out) hb); have n1_ := Aside0.mk (Kd.R_below (by (with_reducible repeat (first | apply Kd.R_alloc | apply Kd.R_drewN | apply Kd.R_drew)); exact HO_9.out) hb); have n2_ := Aside0.mk (Kd.R_lower ho0 (below_size (by repeat (first | (with_reducible first | exact HB.out | apply below_alloc | apply pw_below_drewN | apply below_drew1) | exact HB.out)))); have n3_ := Aside0.mk (below_step (by repeat (first | (with_reducible first | exact HB.out | apply below_alloc | apply pw_below_drewN | apply below_drew1) | exact HB.out)) hb); clear HO_8; clear HO_9; clear HB; have HO_8 := n0_; have HO_9 := n1_; have HO317 := n2_; have HB := n3_; clear n0_ n1_ n2_ n3_; (try clear hb); (try clear hb2); (try clear hk); (try clear hi); (try clear ho0); obtain ⟨Ao59, co59, eo59⟩ := Kd.R_slice HO_9.out; subst eo59; have p318 : 0 ≤ (a1 : Int) := of_decide_eq_true (by first | (with_reducible assumption) | assumption); have q318 : a1 < (t305.length : Int) := of_decide_eq_true (by first | (with_reducible assumption) | assumption); obtain ⟨ad318, e318, hx318_0⟩ := Kd.at_int (Kd.R_reads' HO_9.out).2.2 a1 p318 q318; cases e318; replace p318 := eq_true p318; replace q318 := eq_true q318) | (go_at_call 21; (with_reducible refine (graph_Reach.calls _ _ t304 (rd t305 a1) t319 _ ?side1 ?side2 A39.out).mono ?_); (case side1 => repeat (first | exact (Kd.S_reads' HO_8.out).2.2 | (with_reducible refine Kd.C_alloc ?_ _) | (with_reducible refine Kd.C_drewN ?_ _) | (with_reducible refine Kd.C_drew ?_))); (case side2 => exact (Kd.S_reads' HO_8.out).2.1); rintro e w60 ⟨v320, rfl, ho0, hb⟩; have n0_ := Aside0.mk (Kd.S_below (by (with_reducible repeat (first | apply Kd.S_alloc | apply Kd.S_drewN | apply Kd.S_drew)); exact HO_8.out) hb); have n1_ := Aside0.mk (Kd.R_below (by (with_reducible repeat (first | apply Kd.R_alloc | apply Kd.R_drewN | apply Kd.R_drew)); exact HO_9.out) hb); have n2_ := Aside0.mk (Kd.R_elder' (by (with_reducible repeat (first | apply Kd.R_alloc | apply Kd.R_drewN | apply Kd.R_drew)); exact HO317.out) (Kd.R_base ho0) hb); have n3_ := Aside0.mk (Kd.R_lower (Kd.R_new' ho0 (Kd.R_lt (by (with_reducible repeat (first | apply Kd.R_alloc | apply Kd.R_drewN | apply Kd.R_drew)); exact HO317.out))) (below_size (by repeat (first | (with_reducible first | exact HB.out | apply below_alloc | apply pw_below_drewN | apply below_drew1) | exact HB.out)))); have n4_ := Aside0.mk (below_step (by repeat (first | (with_reducible first | exact HB.out | apply below_alloc | apply pw_below_drewN | apply below_drew1) | exact HB.out)) hb); clear HO_8; clear HO_9; clear HO317; clear HB; have HO_8 := n0_; have HO_9 := n1_; have HO317 := n2_; have HO321 := n3_; have HB := n4_; clear n0_ n1_ n2_ n3_ n4_; (try clear hb); (try clear hb2); (try clear hk); (try clear hi); (try clear ho0); obtain ⟨Ao61, co61, eo61⟩ := Kd.R_slice HO317.out; subst eo61))
                              repeat (go_quiet (first | (go_at_call 21; (with_reducible refine (graph_Reach.calls _ _ l0 a1 t315 _ ?side1 ?side2 A36.out).mono ?_); (case side1 => repeat (first | exact (Kd.C_below HR0.out HB.out) | (with_reducible refine Kd.C_alloc ?_ _) | (with_reducible refine Kd.C_drewN ?_ _) | (with_reducible refine Kd.C_drew ?_))); (case side2 => exact HC0.out); rintro e w58 ⟨v316, rfl, ho0, hb⟩; have n0_ := Aside0.mk (Kd.S_below (by (with_reducible repeat (first | apply Kd.S_alloc | apply Kd.S_drewN | apply Kd.S_drew)); exact HO_8.out) hb); have n1_ := Aside0.mk (Kd.R_below (by (with_reducible repeat (first | apply Kd.R_alloc | apply Kd.R_drewN | apply Kd.R_drew)); exact HO_9.out) hb); have n2_ := Aside0.mk (Kd.R_lower ho0 (below_size (by repeat (first | (with_reducible first | exact HB.out | apply below_alloc | apply pw_below_drewN | apply below_drew1) | exact HB.out)))); have n3_ := Aside0.mk (below_step (by repeat (first | (with_reducible first | exact HB.out | apply below_alloc | apply pw_below_drewN | apply below_drew1) | exact HB.out)) hb); clear HO_8; clear HO_9; clear HB; have HO_8 := n0_; have HO_9 := n1_; have HO317 := n2_; have HB := n3_; clear n0_ n1_ n2_ n3_; (try clear hb); (try clear hb2); (try clear hk); (try clear hi); (try clear ho0); obtain ⟨Ao59, co59, eo59⟩ := Kd.R_slice HO_9.out; subst eo59; have p318 : 0 ≤ (a1 : Int) := of_decide_eq_true (by first | (with_reducible assumption) | assumption); have q318 : a1 < (t305.length : Int) := of_decide_eq_true (by first | (with_reducible assumption) | assumption); obtain ⟨ad318, e318, hx318_0⟩ := Kd.at_int (Kd.R_reads' HO_9.out).2.2 a1 p318 q318; cases e318; replace p318 := eq_true p318; replace q318 := eq_true q318) | (go_at_call 21; (with_reducible refine (graph_Reach.calls _ _ t304 (rd t305 a1) t319 _ ?side1 ?side2 A39.out).mono ?_); (case side1 => repeat (first | exact (Kd.S_reads' HO_8.out).2.2 | (with_reducible refine Kd.C_alloc ?_ _) | (with_reducible refine Kd.C_drewN ?_ _) | (with_reducible refine Kd.C_drew ?_))); (case side2 => exact (Kd.S_reads' HO_8.out).2.1); rintro e w60 ⟨v320, rfl, ho0, hb⟩; have n0_ := Aside0.mk (Kd.S_below (by (with_reducible repeat (first | apply Kd.S_alloc | apply Kd.S_drewN | apply Kd.S_drew)); exact HO_8.out) hb); have n1_ := Aside0.mk (Kd.R_below (by (with_reducible repeat (first | apply Kd.R_alloc | apply Kd.R_drewN | apply Kd.R_drew)); exact HO_9.out) hb); have n2_ := Aside0.mk (Kd.R_elder' (by (with_reducible repeat (first | apply Kd.R_alloc | apply Kd.R_drewN | apply Kd.R_drew)); exact HO317.out) (Kd.R_base ho0) hb); have n3_ := Aside0.mk (Kd.R_lower (Kd.R_new' ho0 (Kd.R_lt (by (with_reducible repeat (first | apply Kd.R_alloc | apply Kd.R_drewN | apply Kd.R_drew)); exact HO317.out))) (below_size (by repeat (first | (with_reducible first | exact HB.out | apply below_alloc | apply pw_below_drewN | apply below_drew1) | exact HB.out)))); have n4_ := Aside0.mk (below_step (by repeat (first | (with_reducible first | exact HB.out | apply below_alloc | apply pw_below_drewN | apply below_drew1) | exact HB.out)) hb); clear HO_8; clear HO_9; clear HO317; clear HB; have HO_8 := n0_; have HO_9 := n1_; have HO317 := n2_; have HO321 := n3_; have HB := n4_; clear n0_ n1_ n2_ n3_ n4_; (try clear hb); (try clear hb2); (try clear hk); (try clear hi); (try clear ho0); obtain ⟨Ao61, co61, eo61⟩ := Kd.R_slice HO317.out; subst eo61)); try go_wp2_with (first | (go_at_call 21; (with_reducible refine (graph_Reach.calls _ _ l0 a1 t315 _ ?side1 ?side2 A36.out).mono ?_); (case side1 => repeat (first | exact (Kd.C_below HR0.out HB.out) | (with_reducible refine Kd.C_alloc ?_ _) | (with_reducible refine Kd.C_drewN ?_ _) | (with_reducible refine Kd.C_drew ?_))); (case side2 => exact HC0.out); rintro e w58 ⟨v316, rfl, ho0, hb⟩; have n0_ := Aside0.mk (Kd.S_below (by (with_reducible repeat (first | apply Kd.S_alloc | apply Kd.S_drewN | apply Kd.S_drew)); exact HO_8.out) hb); have n1_ := Aside0.mk (Kd.R_below (by (with_reducible repeat (first | apply Kd.R_alloc | apply Kd.R_drewN | apply Kd.R_drew)); exact HO_9.out) hb); have n2_ := Aside0.mk (Kd.R_lower ho0 (below_size (by repeat (first | (with_reducible first | exact HB.out | apply below_alloc | apply pw_below_drewN | apply below_drew1) | exact HB.out)))); have n3_ := Aside0.mk (below_step (by repeat (first | (with_reducible first | exact HB.out | apply below_alloc | apply pw_below_drewN | apply below_drew1) | exact HB.out)) hb); clear HO_8; clear HO_9; clear HB; have HO_8 := n0_; have HO_9 := n1_; have HO317 := n2_; have HB := n3_; clear n0_ n1_ n2_ n3_; (try clear hb); (try clear hb2); (try clear hk); (try clear hi); (try clear ho0); obtain ⟨Ao59, co59, eo59⟩ := Kd.R_slice HO_9.out; subst eo59; have p318 : 0 ≤ (a1 : Int) := of_decide_eq_true (by first | (with_reducible assumption) | assumption); have q318 : a1 < (t305.length : Int) := of_decide_eq_true (by first | (with_reducible assumption) | assumption); obtain ⟨ad318, e318, hx318_0⟩ := Kd.at_int (Kd.R_reads' HO_9.out).2.2 a1 p318 q318; cases e318; replace p318 := eq_true p318; replace q318 := eq_true q318) | (go_at_call 21; (with_reducible refine (graph_Reach.calls _ _ t304 (rd t305 a1) t319 _ ?side1 ?side2 A39.out).mono ?_); (case side1 => repeat (first | exact (Kd.S_reads' HO_8.out).2.2 | (with_reducible refine Kd.C_alloc ?_ _) | (with_reducible refine Kd.C_drewN ?_ _) | (with_reducible refine Kd.C_drew ?_))); (case side2 => exact (Kd.S_reads' HO_8.out).2.1); rintro e w60 ⟨v320, rfl, ho0, hb⟩; have n0_ := Aside0.mk (Kd.S_below (by (with_reducible repeat (first | apply Kd.S_alloc | apply Kd.S_drewN | apply Kd.S_drew)); exact HO_8.out) hb); have n1_ := Aside0.mk (Kd.R_below (by (with_reducible repeat (first | apply Kd.R_alloc | apply Kd.R_drewN | apply Kd.R_drew)); exact HO_9.out) hb); have n2_ := Aside0.mk (Kd.R_elder' (by (with_reducible repeat (first | apply Kd.R_alloc | apply Kd.R_drewN | apply Kd.R_drew)); exact HO317.out) (Kd.R_base ho0) hb); have n3_ := Aside0.mk (Kd.R_lower (Kd.R_new' ho0 (Kd.R_lt (by (with_reducible repeat (first | apply Kd.R_alloc | apply Kd.R_drewN | apply Kd.R_drew)); exact HO317.out))) (below_size (by repeat (first | (with_reducible first | exact HB.out | apply below_alloc | apply pw_below_drewN | apply below_drew1) | exact HB.out)))); have n4_ := Aside0.mk (below_step (by repeat (first | (with_reducible first | exact HB.out | apply below_alloc | apply pw_below_drewN | apply below_drew1) | exact HB.out)) hb); clear HO_8; clear HO_9; clear HO317; clear HB; have HO_8 := n0_; have HO_9 := n1_; have HO317 := n2_; have HO321 := n3_; have HB := n4_; clear n0_ n1_ n2_ n3_ n4_; (try clear hb); (try clear hb2); (try clear hk); (try clear hi); (try clear ho0); obtain ⟨Ao61, co61, eo61⟩ := Kd.R_slice HO317.out; subst eo61)))
                              go_ret
                              exact ⟨by first | rfl | (simp [errW_none, errW_some] <;> rfl) | (simp [*, errW_none, errW_some] <;> rfl) | (exfalso; (try simp_all); (try omega); done), by repeat (first | (with_reducible first | exact HB.out | apply below_alloc | apply pw_below_drewN | apply below_drew1) | exact HB.out)⟩
                          · replace c40 := Bool.eq_false_iff.mpr c40
                            subst c40
                            have H1 : (some false) = some r := by rw [if_neg (show ¬ (false = true) by decide)] at H; exact H
                            clear H
                            have H := H1
                            clear H1
                            obtain rfl := Option.some.inj H
                            go_wp2_with (first | (go_at_call 21; (with_reducible refine (graph_Reach.calls _ _ l0 a1 t315 _ ?side1 ?side2 A36.out).mono ?_); (case side1 => repeat (first | exact (Kd.C_below HR0.out HB.out) | (with_reducible refine Kd.C_alloc ?_ _) | (with_reducible refine Kd.C_drewN ?_ _) | (with_reducible refine Kd.C_drew ?_))); (case side2 => exact HC0.out); rintro e w62 ⟨v316, rfl, ho0, hb⟩; have n0_ := Aside0.mk (Kd.S_below (by (with_reducible repeat (first | apply Kd.S_alloc | apply Kd.S_drewN | apply Kd.S_drew)); exact HO_8.out) hb); have n1_ := Aside0.mk (Kd.R_below (by (with_reducible repeat (first | apply Kd.R_alloc | apply Kd.R_drewN | apply Kd.R_drew)); exact HO_9.out) hb); have n2_ := Aside0.mk (Kd.R_lower ho0 (below_size (by repeat (first | (with_reducible first | exact HB.out | apply below_alloc | apply pw_below_drewN | apply below_drew1) | exact HB.out)))); have n3_ := Aside0.mk (below_step (by repeat (first | (with_reducible first | exact HB.out | apply below_alloc | apply pw_below_drewN | apply below_drew1) | exact HB.out)) hb); clear HO_8; clear HO_9; clear HB; have HO_8 := n0_; have HO_9 := n1_; have HO317 := n2_; have HB := n3_; clear n0_ n1_ n2_ n3_; (try clear hb); (try clear hb2); (try clear hk); (try clear hi); (try clear ho0); obtain ⟨Ao63, co63, eo63⟩ := Kd.R_slice HO_9.out; subst eo63; have p318 : 0 ≤ (a1 : Int) := of_decide_eq_true (by first | (with_reducible assumption) | assumption); have q318 : a1 < (t305.length : Int) := of_decide_eq_true (by first | (with_reducible assumption) | assumption); obtain ⟨ad318, e318, hx318_0⟩ := Kd.at_int (Kd.R_reads' HO_9.out).2.2 a1 p318 q318; cases e318; replace p318 := eq_true p318; replace q318 := eq_true q318) | (go_at_call 21; (with_reducible refine (graph_Reach.calls _ _ t304 (rd t305 a1) t319 _ ?side1 ?side2 A39.out).mono ?_); (case side1 => repeat (first | exact (Kd.S_reads' HO_8.out).2.2 | (with_reducible refine Kd.C_alloc ?_ _) | (with_reducible refine Kd.C_drewN ?_ _) | (with_reducible refine Kd.C_drew ?_))); (case side2 => exact (Kd.S_reads' HO_8.out).2.1); rintro e w64 ⟨v320, rfl, ho0, hb⟩; have n0_ := Aside0.mk (Kd.S_below (by (with_reducible repeat (first | apply Kd.S_alloc | apply Kd.S_drewN | apply Kd.S_drew)); exact HO_8.out) hb); have n1_ := Aside0.mk (Kd.R_below (by (with_reducible repeat (first | apply Kd.R_alloc | apply Kd.R_drewN | apply Kd.R_drew)); exact HO_9.out) hb); have n2_ := Aside0.mk (Kd.R_elder' (by (with_reducible repeat (first | apply Kd.R_alloc | apply Kd.R_drewN | apply Kd.R_drew)); exact HO317.out) (Kd.R_base ho0) hb); have n3_ := Aside0.mk (Kd.R_lower (Kd.R_new' ho0 (Kd.R_lt (by (with_reducible repeat (first | apply Kd.R_alloc | apply Kd.R_drewN | apply Kd.R_drew)); exact HO317.out))) (below_size (by repeat (first | (with_reducible first | exact HB.out | apply below_alloc | apply pw_below_drewN | apply below_drew1) | exact HB.out)))); have n4_ := Aside0.mk (below_step (by repeat (first | (with_reducible first | exact HB.out | apply below_alloc | apply pw_below_drewN | apply below_drew1) | exact HB.out)) hb); clear HO_8; clear HO_9; clear HO317; clear HB; have HO_8 := n0_; have HO_9 := n1_; have HO317 := n2_; have HO321 := n3_; have HB := n4_; clear n0_ n1_ n2_ n3_ n4_; (try clear hb); (try clear hb2); (try clear hk); (try clear hi); (try clear ho0)))
                            repeat (go_quiet (first | (go_at_call 21; (with_reducible refine (graph_Reach.calls _ _ l0 a1 t315 _ ?side1 ?side2 A36.out).mono ?_); (case side1 => repeat (first | exact (Kd.C_below HR0.out HB.out) | (with_reducible refine Kd.C_alloc ?_ _) | (with_reducible refine Kd.C_drewN ?_ _) | (with_reducible refine Kd.C_drew ?_))); (case side2 => exact HC0.out); rintro e w62 ⟨v316, rfl, ho0, hb⟩; have n0_ := Aside0.mk (Kd.S_below (by (with_reducible repeat (first | apply Kd.S_alloc | apply Kd.S_drewN | apply Kd.S_drew)); exact HO_8.out) hb); have n1_ := Aside0.mk (Kd.R_below (by (with_reducible repeat (first | apply Kd.R_alloc | apply Kd.R_drewN | apply Kd.R_drew)); exact HO_9.out) hb); have n2_ := Aside0.mk (Kd.R_lower ho0 (below_size (by repeat (first | (with_reducible first | exact HB.out | apply below_alloc | apply pw_below_drewN | apply below_drew1) | exact HB.out)))); have n3_ := Aside0.mk (below_step (by repeat (first | (with_reducible first | exact HB.out | apply below_alloc | apply pw_below_drewN | apply below_drew1) | exact HB.out)) hb); clear HO_8; clear HO_9; clear HB; have HO_8 := n0_; have HO_9 := n1_; have HO317 := n2_; have HB := n3_; clear n0_ n1_ n2_ n3_; (try clear hb); (try clear hb2); (try clear hk); (try clear hi); (try clear ho0); obtain ⟨Ao63, co63, eo63⟩ := Kd.R_slice HO_9.out; subst eo63; have p318 : 0 ≤ (a1 : Int) := of_decide_eq_true (by first | (with_reducible assumption) | assumption); have q318 : a1 < (t305.length : Int) := of_decide_eq_true (by first | (with_reducible assumption) | assumption); obtain ⟨ad318, e318, hx318_0⟩ := Kd.at_int (Kd.R_reads' HO_9.out).2.2 a1 p318 q318; cases e318; replace p318 := eq_true p318; replace q318 := eq_true q318) | (go_at_call 21; (with_reducible refine (graph_Reach.calls _ _ t304 (rd t305 a1) t319 _ ?side1 ?side2 A39.out).mono ?_); (case side1 => repeat (first | exact (Kd.S_reads' HO_8.out).2.2 | (with_reducible refine Kd.C_alloc ?_ _) | (with_reducible refine Kd.C_drewN ?_ _) | (with_reducible refine Kd.C_drew ?_))); (case side2 => exact (Kd.S_reads' HO_8.out).2.1); rintro e w64 ⟨v320, rfl, ho0, hb⟩; have n0_ := Aside0.mk (Kd.S_below (by (with_reducible repeat (first | apply Kd.S_alloc | apply Kd.S_drewN | apply Kd.S_drew)); exact HO_8.out) hb); have n1_ := Aside0.mk (Kd.R_below (by (with_reducible repeat (first | apply Kd.R_alloc | apply Kd.R_drewN | apply Kd.R_drew)); exact HO_9.out) hb); have n2_ := Aside0.mk (Kd.R_elder' (by (with_reducible repeat (first | apply Kd.R_alloc | apply Kd.R_drewN | apply Kd.R_drew)); exact HO317.out) (Kd.R_base ho0) hb); have n3_ := Aside0.mk (Kd.R_lower (Kd.R_new' ho0 (Kd.R_lt (by (with_reducible repeat (first | apply Kd.R_alloc | apply Kd.R_drewN | apply Kd.R_drew)); exact HO317.out))) (below_size (by repeat (first | (with_reducible first | exact HB.out | apply below_alloc | apply pw_below_drewN | apply below_drew1) | exact HB.out)))); have n4_ := Aside0.mk (below_step (by repeat (first | (with_reducible first | exact HB.out | apply below_alloc | apply pw_below_drewN | apply below_drew1) | exact HB.out)) hb); clear HO_8; clear HO_9; clear HO317; clear HB; have HO_8 := n0_; have HO_9 := n1_; have HO317 := n2_; have HO321 := n3_; have HB := n4_; clear n0_ n1_ n2_ n3_ n4_; (try clear hb); (try clear hb2); (try clear hk); (try clear hi); (try clear ho0))); try go_wp2_with (first | (go_at_call 21; (with_reducible refine (graph_Reach.calls _ _ l0 a1 t315 _ ?side1 ?side2 A36.out).mono ?_); (case side1 => repeat (first | exact (Kd.C_below HR0.out HB.out) | (with_reducible refine Kd.C_alloc ?_ _) | (with_reducible refine Kd.C_drewN ?_ _) | (with_reducible refine Kd.C_drew ?_))); (case side2 => exact HC0.out); rintro e w62 ⟨v316, rfl, ho0, hb⟩; have n0_ := Aside0.mk (Kd.S_below (by (with_reducible repeat (first | apply Kd.S_alloc | apply Kd.S_drewN | apply Kd.S_drew)); exact HO_8.out) hb); have n1_ := Aside0.mk (Kd.R_below (by (with_reducible repeat (first | apply Kd.R_alloc | apply Kd.R_drewN | apply Kd.R_drew)); exact HO_9.out) hb); have n2_ := Aside0.mk (Kd.R_lower ho0 (below_size (by repeat (first | (with_reducible first | exact HB.out | apply below_alloc | apply pw_below_drewN | apply below_drew1) | exact HB.out)))); have n3_ := Aside0.mk (below_step (by repeat (first | (with_reducible first | exact HB.out | apply below_alloc | apply pw_below_drewN | apply below_drew1) | exact HB.out)) hb); clear HO_8; clear HO_9; clear HB; have HO_8 := n0_; have HO_9 := n1_; have HO317 := n2_; have HB := n3_; clear n0_ n1_ n2_ n3_; (try clear hb); (try clear hb2); (try clear hk); (try clear hi); (try clear ho0); obtain ⟨Ao63, co63, eo63⟩ := Kd.R_slice HO_9.out; subst eo63; have p318 : 0 ≤ (a1 : Int) := of_decide_eq_true (by first | (with_reducible assumption) | assumption); have q318 : a1 < (t305.length : Int) := of_decide_eq_true (by first | (with_reducible assumption) | assumption); obtain ⟨ad318, e318, hx318_0⟩ := Kd.at_int (Kd.R_reads' HO_9.out).2.2 a1 p318 q318; cases e318; replace p318 := eq_true p318; replace q318 := eq_true q318) | (go_at_call 21; (with_reducible refine (graph_Reach.calls _ _ t304 (rd t305 a1) t319 _ ?side1 ?side2 A39.out).mono ?_); (case side1 => repeat (first | exact (Kd.S_reads' HO_8.out).2.2 | (with_reducible refine Kd.C_alloc ?_ _) | (with_reducible refine Kd.C_drewN ?_ _) | (with_reducible refine Kd.C_drew ?_))); (case side2 => exact (Kd.S_reads' HO_8.out).2.1); rintro e w64 ⟨v320, rfl, ho0, hb⟩; have n0_ := Aside0.mk (Kd.S_below (by (with_reducible repeat (first | apply Kd.S_alloc | apply Kd.S_drewN | apply Kd.S_drew)); exact HO_8.out) hb); have n1_ := Aside0.mk (Kd.R_below (by (with_reducible repeat (first | apply Kd.R_alloc | apply Kd.R_drewN | apply Kd.R_drew)); exact HO_9.out) hb); have n2_ := Aside0.mk (Kd.R_elder' (by (with_reducible repeat (first | apply Kd.R_alloc | apply Kd.R_drewN | apply Kd.R_drew)); exact HO317.out) (Kd.R_base ho0) hb); have n3_ := Aside0.mk (Kd.R_lower (Kd.R_new' ho0 (Kd.R_lt (by (with_reducible repeat (first | apply Kd.R_alloc | apply Kd.R_drewN | apply Kd.R_drew)); exact HO317.out))) (below_size (by repeat (first | (with_reducible first | exact HB.out | apply below_alloc | apply pw_below_drewN | apply below_drew1) | exact HB.out)))); have n4_ := Aside0.mk (below_step (by repeat (first | (with_reducible first | exact HB.out | apply below_alloc | apply pw_below_drewN | apply below_drew1) | exact HB.out)) hb); clear HO_8; clear HO_9; clear HO317; clear HB; have HO_8 := n0_; have HO_9 := n1_; have HO317 := n2_; have HO321 := n3_; have HB := n4_; clear n0_ n1_ n2_ n3_ n4_; (try clear hb); (try clear hb2); (try clear hk); (try clear hi); (try clear ho0))))
                            go_ret
                            exact ⟨by first | rfl | (simp [errW_none, errW_some] <;> rfl) | (simp [*, errW_none, errW_some] <;> rfl) | (exfalso; (try simp_all); (try omega); done), by repeat (first | (with_reducible first | exact HB.out | apply below_alloc | apply pw_below_drewN | apply below_drew1) | exact HB.out)⟩
                        · rw [if_neg c38] at H
                          exact absurd H (by simp)
                      · rw [if_neg c37] at H
                        exact absurd H (by simp)
  · replace c6 := Bool.eq_false_iff.mpr c6
    subst c6
    have H1 : (some t302) = some r := by rw [if_neg (show ¬ (false = true) by decide)] at H; exact H
    clear H
    have H := H1
    clear H1
    obtain rfl := Option.some.inj H
    go_enter Try.func6, Try.ntmps6
    go_wp2_with (first | (go_at_call 34; (with_reducible refine (bywashlaw11_awake.calls k  t302 _ A4.out).mono ?_); rintro e w65 ⟨rfl, hb⟩; have n0_ := Aside0.mk (below_step (by repeat (first | (with_reducible first | exact HB.out | apply below_alloc | apply pw_below_drewN | apply below_drew1) | exact HB.out)) hb); clear HB; have HB := n0_; clear n0_; (try clear hb); (try clear hb2); (try clear hk); (try clear hi)) | (go_at_call 14; (with_reducible refine (bywashref10_Few.calls k _ _ l0 false _ ?side1 ?side2 A5.out).mono ?_); (case side1 => repeat (first | exact (Kd.C_below HR0.out HB.out) | (with_reducible refine Kd.C_alloc ?_ _) | (with_reducible refine Kd.C_drewN ?_ _) | (with_reducible refine Kd.C_drew ?_))); (case side2 => exact HC0.out); rintro e w' ⟨rfl, ⟨nd, rfl⟩⟩; (try first | exact ⟨rfl, _, World.drewN_drewN _ _ _⟩ | exact ⟨rfl, _, Eq.trans (World.drewN_drewN _ _ _) (congrArg (World.drewN _) (Nat.add_assoc _ _ _))⟩)))
    repeat (go_quiet (first | (go_at_call 34; (with_reducible refine (bywashlaw11_awake.calls k  t302 _ A4.out).mono ?_); rintro e w65 ⟨rfl, hb⟩; have n0_ := Aside0.mk (below_step (by repeat (first | (with_reducible first | exact HB.out | apply below_alloc | apply pw_below_drewN | apply below_drew1) | exact HB.out)) hb); clear HB; have HB := n0_; clear n0_; (try clear hb); (try clear hb2); (try clear hk); (try clear hi)) | (go_at_call 14; (with_reducible refine (bywashref10_Few.calls k _ _ l0 false _ ?side1 ?side2 A5.out).mono ?_); (case side1 => repeat (first | exact (Kd.C_below HR0.out HB.out) | (with_reducible refine Kd.C_alloc ?_ _) | (with_reducible refine Kd.C_drewN ?_ _) | (with_reducible refine Kd.C_drew ?_))); (case side2 => exact HC0.out); rintro e w' ⟨rfl, ⟨nd, rfl⟩⟩; (try first | exact ⟨rfl, _, World.drewN_drewN _ _ _⟩ | exact ⟨rfl, _, Eq.trans (World.drewN_drewN _ _ _) (congrArg (World.drewN _) (Nat.add_assoc _ _ _))⟩))); try go_wp2_with (first | (go_at_call 34; (with_reducible refine (bywashlaw11_awake.calls k  t302 _ A4.out).mono ?_); rintro e w65 ⟨rfl, hb⟩; have n0_ := Aside0.mk (below_step (by repeat (first | (with_reducible first | exact HB.out | apply below_alloc | apply pw_below_drewN | apply below_drew1) | exact HB.out)) hb); clear HB; have HB := n0_; clear n0_; (try clear hb); (try clear hb2); (try clear hk); (try clear hi)) | (go_at_call 14; (with_reducible refine (bywashref10_Few.calls k _ _ l0 false _ ?side1 ?side2 A5.out).mono ?_); (case side1 => repeat (first | exact (Kd.C_below HR0.out HB.out) | (with_reducible refine Kd.C_alloc ?_ _) | (with_reducible refine Kd.C_drewN ?_ _) | (with_reducible refine Kd.C_drew ?_))); (case side2 => exact HC0.out); rintro e w' ⟨rfl, ⟨nd, rfl⟩⟩; (try first | exact ⟨rfl, _, World.drewN_drewN _ _ _⟩ | exact ⟨rfl, _, Eq.trans (World.drewN_drewN _ _ _) (congrArg (World.drewN _) (Nat.add_assoc _ _ _))⟩))))
    go_ret
    exact ⟨by first | rfl | (simp [errW_none, errW_some] <;> rfl) | (simp [*, errW_none, errW_some] <;> rfl) | (exfalso; (try simp_all); (try omega); done), by repeat (first | (with_reducible first | exact HB.out | apply below_alloc | apply pw_below_drewN | apply below_drew1) | exact HB.out)⟩
end Go.Proofs.Ytdknhgbjgdmfkaa.P
namespace Go.Proofs.Ytdknhgbjgdmfkaa.P
open Go.RowKit Go.Lib Go.Proofs.YtdknhgbjgdmfkaaW.PrintWords
theorem shrRow_longer {inn : List Int} {a : Int} {L : Nat} : ∀ (l : List Int) (o : List (List Int)) (b : Nat), l.length ≤ L → NoLonger o b → NoLonger (l.foldl (shrStep inn a) o) (b + l.length) := by
  intro l
  induction l with
  | nil => intro o b _ h; exact h
  | cons x l ih =>
    intro o b hl h
    rw [List.foldl_cons, List.length_cons]
    have := ih (shrStep inn a o x) (b + 1) (by rw [List.length_cons] at hl; omega) h.shr
    rwa [show b + 1 + l.length = b + (l.length + 1) by omega] at this
theorem shrSo_longer {m L : Nat} {inn : List Int} {c : List (List Int)} (hL : ∀ l ∈ c, l.length ≤ L) : ∀ k, k ≤ c.length → NoLonger (shrSo m inn c k) (k * L)
  | 0, _ => fun j => by
    rw [shrSo]
    simp [List.getD_eq_getElem?_getD, List.getElem?_replicate]
    split <;> simp
  | k + 1, hk => by
    have hg : (c.getD k []).length ≤ L := by
      rw [List.getD_eq_getElem?_getD, List.getElem?_eq_getElem (by omega)]
      exact hL _ (List.getElem_mem _)
    intro j
    rw [shrSo]
    have := shrRow_longer (inn := inn) (a := (k : Int)) (c.getD k []) _ _ hg (shrSo_longer (m := m) (inn := inn) hL k (by omega)) j
    rw [Nat.succ_mul]
    omega
theorem shrink_now {g : List (List Int)} (h : few g = true) : scc_Shrink.f g = some (shr (clean g), inB (clean g)) := by
  have hf := few_fits h
  have hl := (few_iff.1 h).2
  have h2 : fits (shrB (clean g)) = true := by
    have hs : (shrB (clean g)).length ≤ 40 := by
      unfold shrB
      rw [shrSo_len]
      have := (parts_small hf).2.2.2.1
      omega
    unfold fits
    rw [Bool.and_eq_true, decide_eq_true_iff, List.all_eq_true]
    refine ⟨by omega, fun l hl' => decide_eq_true ?_⟩
    obtain ⟨j, hj, rfl⟩ := List.getElem_of_mem hl'
    have := shrSo_longer (m := (partsB (clean g)).length) (inn := inB (clean g)) (c := clean g) (L := 40) (fun l hl => by have := clean_row_le l hl; omega) (clean g).length (Nat.le_refl _) j
    rw [clean_len] at this
    have e : ((shrB (clean g)).getD j []) = (shrB (clean g))[j] := by rw [List.getD_eq_getElem?_getD, List.getElem?_eq_getElem hj]; rfl
    rw [← e]
    have h3 : (shrSo (partsB (clean g)).length (inB (clean g)) (clean g) g.length) = shrB (clean g) := by unfold shrB; rw [clean_len]
    rw [h3] at this
    have h4 : g.length * 40 ≤ 1600 := Nat.mul_le_mul_right 40 hl
    omega
  unfold scc_Shrink.f
  rw [if_pos hf, if_pos h2]
  rfl
theorem shr_small {g : List (List Int)} (h : few g = true) : Small (shr (clean g)) ∧ (shr (clean g)).length ≤ g.length := by
  have hf := few_fits h
  have hl := (few_iff.1 h).2
  have := (parts_small hf).2.2.2.1
  refine ⟨small_of shr_Valid shr_rises (by rw [shr_len]; omega), by rw [shr_len]; exact this⟩
theorem inB_len {c : List (List Int)} : (inB c).length = c.length := by unfold inB; rw [inSo_len]
theorem shrunk_l0 (x0 s : List (List Int)) (a1 a2 : Int) (x9 : List Int) (hs : Small s) (hv : Valid s) (hc : clean s = s) (hno : ∀ x y, 0 ≤ x → y ∈ row s x → ¬ Way s y x)
    (hend : Ev (fun k => bywashlaw11_SccShrunk.l0 k x0 a1 a2 true s x9 (loopsB s) (s.length : Int)) true) : ∀ d i : Nat, i + d = s.length → Ev (fun k => bywashlaw11_SccShrunk.l0 k x0 a1 a2 true s x9 (loopsB s) (i : Int)) true
  | 0, i, hi => by
    obtain rfl : i = s.length := by omega
    exact hend
  | d + 1, i, hi => by
    have hil : i < s.length := by omega
    have hN : Node s (i : Int) := ⟨by omega, by omega⟩
    have h1 : rdOf false (loopsB s) (i : Int) = false := by
      rw [loopsB_get hN]
      rcases Bool.eq_false_or_eq_true (loopB s (i : Int)) with e | e
      · obtain ⟨x, hx, hw⟩ := (loopB_iff hv hN).1 e
        exact absurd hw (hno _ _ hN.1 hx)
      · exact e
    obtain ⟨p, hp, hpi⟩ := path_now hs (i : Int) (i : Int)
    have h2 : p = false := by
      rcases Bool.eq_false_or_eq_true p with e | e
      · obtain ⟨_, _, x, hx, hw⟩ := hpi.1 e
        rw [hc] at hx hw
        exact absurd hw (hno _ _ hN.1 hx)
      · exact e
    have hs9 := hs.2
    refine Ev.step (f := fun k => bywashlaw11_SccShrunk.l0 k x0 a1 a2 true s x9 (loopsB s) ((i + 1 : Nat) : Int)) (fun k => ?_) (shrunk_l0 x0 s a1 a2 x9 hs hv hc hno hend d (i + 1) (by omega))
    rw [bywashlaw11_SccShrunk.l0, if_pos (by omega), if_pos (by omega), if_pos (by rw [loopsB_len]; omega), if_neg (by rw [h1]; decide), hp, Option.bind_some, h2, if_neg (by decide), wrap_succ (by omega)]
theorem SccShrunk_pure (l0 : List (List Int)) (a1 a2 : Int) (hm : l0.length ≤ 9223372036854775807) (_hw : ∀ r ∈ l0, r.length ≤ 9223372036854775807 ∧ ∀ y ∈ r, (Lit.int .i64 y).wf = true) (_h1 : (Lit.int .i64 a1).wf = true) (_h2 : (Lit.int .i64 a2).wf = true) : ∃ k, bywashlaw11_SccShrunk.f k l0 a1 a2 = some true := by
  refine Ev.rounds (g := fun k => bywashlaw11_SccShrunk.f k l0 a1 a2) ?_
  unfold bywashlaw11_SccShrunk.f
  refine Ev.bind awake11_ev ?_
  refine Ev.bind (few_ev l0 hm) ?_
  by_cases hf : few l0 = true
  · simp only [hf, if_true]
    have hs := few_small hf
    have hv := clean_Valid l0
    obtain ⟨hss, hsl⟩ := shr_small hf
    have hcs : clean (shr (clean l0)) = shr (clean l0) := shr_clean
    rw [shrink_now hf]
    simp only [Option.bind_some]
    rw [loops_now hss.1, hcs]
    simp only [Option.bind_some]
    have e1 : ((inB (clean l0)).length : Int) = (l0.length : Int) := by rw [inB_len, clean_len]
    simp only [e1, if_true]
    have e2 : (((loopsB (shr (clean l0))).length : Int) != ((shr (clean l0)).length : Int)) = false := by rw [loopsB_len]; simp
    rw [e2]
    refine Ev.step (f := fun k => bywashlaw11_SccShrunk.l0 k l0 a1 a2 true (shr (clean l0)) (inB (clean l0)) (loopsB (shr (clean l0))) ((0 : Nat) : Int)) (fun k => by rw [bywashlaw11_SccShrunk.j0, if_neg (by decide)]; rfl) ?_
    refine shrunk_l0 l0 _ a1 a2 _ hss shr_Valid hcs (fun x y hx hy => shr_none hv hx hy) ?_ (shr (clean l0)).length 0 (by omega)
    by_cases hin : (0 ≤ a1 ∧ a1 < (l0.length : Int)) ∧ (0 ≤ a2 ∧ a2 < (l0.length : Int))
    · obtain ⟨⟨p1, p2⟩, p3, p4⟩ := hin
      have hNa : Node (clean l0) a1 := clean_node.2 ⟨p1, p2⟩
      have hNb : Node (clean l0) a2 := clean_node.2 ⟨p3, p4⟩
      have ra := inB_range hv hNa
      have rb := inB_range hv hNb
      rw [← shr_len] at ra rb
      obtain ⟨x, hx1, hx2, hx3⟩ := reach_now hs a1
      obtain ⟨y, hy1, hy2, hy3⟩ := reach_now hss (rd (inB (clean l0)) a1)
      rw [hcs] at hy3
      refine Ev.step (f := fun k => bywashlaw11_SccShrunk.j2 k l0 a1 a2 true (shr (clean l0)) (inB (clean l0)) false) (fun k => ?_) ?_
      · rw [bywashlaw11_SccShrunk.l0, if_neg (by omega), if_neg (by omega), if_neg (by omega), if_neg (by omega), decide_eq_false (by omega)]
      · refine Ev.step (f := fun _ => some true) (fun k => ?_) (Ev.now _)
        rw [bywashlaw11_SccShrunk.j2, if_neg (by decide), hx1, Option.bind_some, if_pos p1, if_pos (by omega), hy1, Option.bind_some, if_pos rfl, if_pos (by omega), if_pos (by omega), if_pos p3, if_pos (by omega), if_pos (by omega), if_pos rb.1, if_pos (by omega)]
        have h5 := hx3 a2 p3 p4
        have h6 := hy3 (rd (inB (clean l0)) a2) rb.1 rb.2
        have h7 := way_shr_iff hv hNa hNb
        have : rdOf false x a2 = rdOf false y (rd (inB (clean l0)) a2) := by
          rw [Bool.eq_iff_iff, h5, h6, h7]
          exact ⟨fun h => ⟨ra, h.2⟩, fun h => ⟨⟨p1, p2⟩, h.2⟩⟩
        rw [this]
        simp
    · refine Ev.step (f := fun k => bywashlaw11_SccShrunk.j2 k l0 a1 a2 true (shr (clean l0)) (inB (clean l0)) true) (fun k => ?_) ?_
      · rw [bywashlaw11_SccShrunk.l0, if_neg (by omega)]
        by_cases p1 : a1 < 0
        · rw [if_pos p1]
        · rw [if_neg p1]
          by_cases p2 : a1 ≥ (l0.length : Int)
          · rw [if_pos p2]
          · rw [if_neg p2]
            by_cases p3 : a2 < 0
            · rw [if_pos p3]
            · rw [if_neg p3, decide_eq_true (by omega)]
      · exact Ev.step (f := fun _ => some true) (fun k => by rw [bywashlaw11_SccShrunk.j2, if_pos rfl]) (Ev.now _)
  · rw [Bool.not_eq_true] at hf
    simp only [hf, Bool.false_eq_true, if_false]
    exact Ev.now _
end Go.Proofs.Ytdknhgbjgdmfkaa.P
namespace Go.Proofs.Ytdknhgbjgdmfkaa.P
open Go.RowKit Go.Lib Go.Sort Go.Shelf Go.Proofs.YtdknhgbjgdmfkaaW.PrintWords Go.Proofs.YtdknhgbjgdmfkaaW.PrintLast Go.Proofs.YtdknhgbjgdmfkaaW.PrintMore
theorem setCell_block {w : World} {g t : Nat} {cur : Array Value} (h : w.heap[g]? = some (.cells cur t (0, 0))) (b o : Nat) (u : Value) :
    ∃ cur', (w.setCell ⟨b, o, none⟩ u).heap[g]? = some (.cells cur' t (0, 0)) ∧ cur'.size = cur.size := by
  simp only [World.setCell, Array.getElem?_modify]
  by_cases e : b = g
  · subst e
    rw [if_pos rfl, h]
    exact ⟨_, rfl, by simp⟩
  · rw [if_neg e]
    exact ⟨cur, h, rfl⟩
theorem setCells_block {g t : Nat} (b : Nat) : ∀ (vs : List Value) (o : Nat) (w : World) (cur : Array Value), w.heap[g]? = some (.cells cur t (0, 0)) → ∃ cur', (w.setCells b o vs).heap[g]? = some (.cells cur' t (0, 0)) ∧ cur'.size = cur.size
  | [], _, _, cur, h => ⟨cur, h, rfl⟩
  | v :: vs, o, w, cur, h => by
    obtain ⟨c1, h1, e1⟩ := setCell_block h b o v
    obtain ⟨c2, h2, e2⟩ := setCells_block b vs (o + 1) _ c1 h1
    exact ⟨c2, h2, e2.trans e1⟩
theorem fr_setCells (g : Nat) : ∀ (vs : List Value) (o : Nat) (w : World), Fr (fun k => k = g) w (w.setCells g o vs)
  | [], _, w => Fr.refl _ w
  | v :: vs, o, w => ((Fr.refl (fun k => k = g) w).setCell (p := ⟨g, o, none⟩) (.inl rfl) v).trans (fr_setCells g vs (o + 1) _) (fun _ h => .inl h)
theorem own_of_cells {w : World} {base g t cap : Nat} {cur : Array Value} {ys : List Value} (hh : w.heap[g]? = some (.cells cur t (0, 0))) (hs : cur.size = cap) (hc : cap ≤ maxLen) (hb : base ≤ g) (hl : ys.length ≤ cap) (h : ∀ j (hj : j < ys.length), w.cell? ⟨g, j, none⟩ = some ys[j]) :
    w.ownsRow base t 1 (.slice (some ⟨g, 0, none⟩) ys.length cap) ys.length ys := by
  refine ⟨by omega, .inr ⟨g, cap, cur, rfl, hb, hh, hl, hc, by omega, ?_⟩⟩
  apply List.ext_getElem?
  intro j
  rw [Nat.mul_one, List.getElem?_take]
  by_cases hj : j < ys.length
  · rw [if_pos hj, List.getElem?_eq_getElem hj, Array.getElem?_toList]
    have := h j hj
    simp only [World.cell?, hh] at this
    simpa using this
  · rw [if_neg hj, List.getElem?_eq_none (by omega)]
section
variable {xs : List Int} {x : Int} {i : Nat}
theorem ins_len (hi : i ≤ xs.length) : ((xs.take i ++ x :: xs.drop i).map (Value.int .i64)).length = xs.length + 1 := by simp; omega
theorem ins_get (hi : i ≤ xs.length) (j : Nat) (hj : j < ((xs.take i ++ x :: xs.drop i).map (Value.int .i64)).length) :
    ((xs.take i ++ x :: xs.drop i).map (Value.int .i64))[j] = .int .i64 (if j < i then xs.getD j 0 else if j = i then x else xs.getD (j - 1) 0) := by
  rw [ins_len hi] at hj
  rw [List.getElem_map]
  congr 1
  have hl : (xs.take i).length = i := by rw [List.length_take]; omega
  by_cases h1 : j < i
  · rw [if_pos h1, List.getElem_append_left (by omega), List.getElem_take, List.getD_eq_getElem?_getD, List.getElem?_eq_getElem (by omega)]
    rfl
  · rw [if_neg h1, List.getElem_append_right (by omega)]
    by_cases h2 : j = i
    · subst h2
      rw [if_pos rfl]
      simp only [hl, Nat.sub_self, List.getElem_cons_zero]
    · rw [if_neg h2]
      obtain ⟨m, hm⟩ : ∃ m, j - i = m + 1 := ⟨j - i - 1, by omega⟩
      simp only [hl, hm, List.getElem_cons_succ, List.getElem_drop]
      rw [List.getD_eq_getElem?_getD, List.getElem?_eq_getElem (by omega), Option.getD_some]
      congr 1
      omega
end
theorem zero_cells (n : Nat) : (Builtin.zeroCells (Value.int .i64 0).cells n).size = n := by
  unfold Builtin.zeroCells
  simp [Value.cells]
theorem own_alloc_lit (W : World) (base t cap : Nat) (ys : List Value) (Z : Array Value) (hs : ys.length + Z.size = cap) (hc : cap ≤ maxLen) (hb : base ≤ W.heap.size) :
    (W.alloc (.cells (ys.toArray ++ Z) t)).ownsRow base t 1 (.slice (some ⟨W.heap.size, 0, none⟩) ys.length cap) ys.length ys :=
  ⟨by omega, .inr ⟨W.heap.size, cap, _, rfl, hb, heap_alloc_new W _, by omega, hc, by simp; omega, by simp⟩⟩
theorem ins_end_grow (a : Option Addr) (n c vb : Nat) (cs vs : List Value) (w : World) (hnc : n ≤ c) (hroom : c < n + 1) (hbig : (n + 1) * 8 ≤ 140737488355328) (hcl : cs.length = n) (hvl : vs.length = 1) (hnil : a = none → n = 0)
    (hcs : ∀ b, a = some b → ∀ j v, cs[j]? = some v → w.cell? (b.add j) = some v) (hvs : ∀ j v, vs[j]? = some v → w.cell? ⟨vb, 0 + j, none⟩ = some v) (h1v : ∀ v ∈ vs, v.oneCell' = true) :
    Calls Try.prog 63 #[.slice a n c, .int .i64 n, .slice (some ⟨vb, 0, none⟩) 1 1] w fun e w' => e = .returned (.slice (some ⟨w.heap.size, 0, none⟩) (n + 1) (grownCap w (n + 1) c 3)) ∧
      w' = w.drew.alloc (.cells ((cs ++ vs).toArray ++ Builtin.zeroCells (Value.int .i64 0).cells (grownCap w (n + 1) c 3 - (n + 1))) 3) :=
  Any2.slices_Insert_int_end_grow Try.laysIns a n c vb 0 1 1 cs vs w Nat.one_pos hnc hroom hbig hcl hvl hnil hcs hvs h1v
theorem ins_grow (g n c i vb : Nat) (cs vs : List Value) (w : World) (hi : i < n) (hnc : n ≤ c) (hroom : c < n + 1) (hbig : (n + 1) * 8 ≤ 140737488355328) (hcl : cs.length = n) (hvl : vs.length = 1)
    (hcs : ∀ j v, cs[j]? = some v → w.cell? ⟨g, 0 + j, none⟩ = some v) (hvs : ∀ j v, vs[j]? = some v → w.cell? ⟨vb, 0 + j, none⟩ = some v) (h1c : ∀ v ∈ cs, v.oneCell' = true) (h1v : ∀ v ∈ vs, v.oneCell' = true) :
    Calls Try.prog 63 #[.slice (some ⟨g, 0, none⟩) n c, .int .i64 i, .slice (some ⟨vb, 0, none⟩) 1 1] w fun e w' => e = .returned (.slice (some ⟨w.heap.size, 0, none⟩) (n + 1) (grownCap w (n + 1) c 3)) ∧
      w' = (((w.alloc (.cells ((cs.take i).toArray ++ Builtin.zeroCells (Value.int .i64 0).cells (n + 1 - i) ++ Builtin.zeroCells (Value.int .i64 0).cells (grownCap w (n + 1) c 3 - (n + 1))) 3)).drew.setCells w.heap.size i vs).drew).setCells w.heap.size (i + 1) (cs.drop i) :=
  Any2.slices_Insert_int_grow Try.laysIns g 0 n c i vb 0 1 1 cs vs w hi Nat.one_pos hnc hroom hbig hcl hvl hcs hvs h1c h1v
theorem ins_shift (g n c i vb : Nat) (cs vs : List Value) (w : World) (hi : i < n) (hroom : n + 1 ≤ c) (hc63 : c ≤ 9223372036854775807) (hvb : vb ≠ g) (hcl : cs.length = n) (hvl : vs.length = 1)
    (hcs : ∀ j v, cs[j]? = some v → w.cell? ⟨g, 0 + j, none⟩ = some v) (hsp : ∀ j, j < n + 1 → (w.cell? ⟨g, 0 + j, none⟩).isSome = true) (hfz : ∀ j, j < n + 1 → w.frozen? ⟨g, 0 + j, none⟩ = false)
    (hvs : ∀ j v, vs[j]? = some v → w.cell? ⟨vb, 0 + j, none⟩ = some v) (h1c : ∀ v ∈ cs, v.oneCell' = true) (h1v : ∀ v ∈ vs, v.oneCell' = true)
    (tA tB : TypeId) (kA kB : Nat) (hsa : w.shape? vb = some (tA, kA)) (hsb : w.shape? g = some (tB, kB)) (hkB : kB ≠ 0) (hfa : w.frozen? ⟨vb, 0, none⟩ = false) (hfe : w.frozen? ⟨vb, kA, none⟩ = false) :
    Calls Try.prog 63 #[.slice (some ⟨g, 0, none⟩) n c, .int .i64 i, .slice (some ⟨vb, 0, none⟩) 1 1] w fun e w' => e = .returned (.slice (some ⟨g, 0, none⟩) (n + 1) c) ∧ w' = (w.drew.setCells g (0 + (i + 1)) (cs.drop i)).setCells g (0 + i) vs :=
  Any2.slices_Insert_int_shift Try.laysIns g 0 n c i vb 0 1 1 cs vs w hi Nat.one_pos hroom hc63 hvb hcl hvl hcs hsp hfz hvs h1c h1v tA tB kA kB hsa hsb hkB hfa hfe
theorem ins_end_room (g n c vb : Nat) (vs : List Value) (w : World) (hroom : n + 1 ≤ c) (hc63 : c ≤ 9223372036854775807) (hvl : vs.length = 1) (hsp : ∀ j, j < 1 → (w.cell? ⟨g, 0 + n + j, none⟩).isSome = true) (hfz : ∀ j, j < 1 → w.frozen? ⟨g, 0 + n + j, none⟩ = false)
    (hvs : ∀ j v, vs[j]? = some v → w.cell? ⟨vb, 0 + j, none⟩ = some v) (h1v : ∀ v ∈ vs, v.oneCell' = true) :
    Calls Try.prog 63 #[.slice (some ⟨g, 0, none⟩) n c, .int .i64 n, .slice (some ⟨vb, 0, none⟩) 1 1] w fun e w' => e = .returned (.slice (some ⟨g, 0, none⟩) (n + 1) c) ∧ w' = w.setCells g (0 + n) vs :=
  Any2.slices_Insert_int_end_room Try.laysIns g 0 n c vb 0 1 1 vs w Nat.one_pos hroom hc63 hvl hsp hfz hvs h1v
theorem insert_c (v : Value) (xs : List Int) (x : Int) (i base : Nat) (ok : Nat → Prop) (w : World) (vb : Nat) (h : dI.R 3 w base ok v xs) (hi : i ≤ xs.length) (hsm : xs.length ≤ 1000000) (hvb : w.heap[vb]? = some (.cells #[.int .i64 x] 3 (0, 0))) (hne : v.ownBlock ≠ some vb) (hbase : base ≤ w.heap.size) :
    Calls Try.prog 63 #[v, .int .i64 i, .slice (some ⟨vb, 0, none⟩) 1 1] w fun e w' => ∃ v', e = .returned v' ∧ w'.ownsRow base 3 1 v' (xs.length + 1) ((xs.take i ++ x :: xs.drop i).map (Value.int .i64)) ∧ Fr (fun k => v.ownBlock = some k) w w' ∧ (v'.ownBlock = v.ownBlock ∨ ∃ b, v'.ownBlock = some b ∧ w.heap.size ≤ b) := by
  have hvs : ∀ (j : Nat) (u : Value), [Value.int .i64 x][j]? = some u → w.cell? ⟨vb, 0 + j, none⟩ = some u := by
    intro j u hu
    match j, hu with
    | 0, hu => injection hu with hu; subst hu; simp [World.cell?, hvb]
    | j + 1, hu => simp at hu
  have h1v : ∀ u ∈ [Value.int .i64 x], u.oneCell' = true := by intro u hu; simp at hu; subst hu; rfl
  have hc1 : ∀ u ∈ xs.map (Value.int .i64), u.oneCell' = true := by
    intro u hu
    obtain ⟨y, _, rfl⟩ := List.mem_map.1 hu
    rfl
  rcases R_ints_form h with ⟨rfl, rfl⟩ | ⟨g, cap, rfl, hbg, hlt, hn, hH⟩
  ·
    obtain rfl : i = 0 := by simpa using hi
    refine (ins_end_grow none 0 0 vb [] [.int .i64 x] w (by omega) (by omega) (by omega) rfl rfl (fun _ => rfl) (fun a ha => by cases ha) hvs h1v).mono ?_
    rintro e w' ⟨rfl, rfl⟩
    have hg1 := grownCap_ge w 1 0 3
    refine ⟨_, rfl, ?_, (Fr.drewN _ w 1).alloc _, .inr ⟨w.heap.size, rfl, Nat.le_refl _⟩⟩
    exact own_alloc_lit w.drew base 3 (grownCap w 1 0 3) [Value.int .i64 x] _ (by rw [zero_cells]; simp; omega) (grownCap_le_maxLen _ _ _ _ (by decide)) hbase
  · have hown := R_ints h
    obtain ⟨cur, hcur, hcs, hcm⟩ : ∃ cur, w.heap[g]? = some (.cells cur 3 (0, 0)) ∧ cur.size = cap ∧ cap ≤ maxLen := by
      rcases hown.2 with ⟨e0, _⟩ | ⟨g', cap', cur, e0, _, hh, _, hm, hs, _⟩
      · cases e0
      · injection e0 with e1 _ e3
        injection e1 with e1
        injection e1 with e1
        subst e1; subst e3
        exact ⟨cur, hh, by omega, hm⟩
    have hcap63 : cap ≤ 9223372036854775807 := hcm
    have hgv : vb ≠ g := fun e => hne (by simp [Value.ownBlock, e])
    have hcell : ∀ j, j < xs.length → w.cell? ⟨g, j, none⟩ = some (.int .i64 (xs.getD j 0)) := by
      intro j hj
      rw [hown.cellAt j (by omega), List.getElem?_map, List.getElem?_eq_getElem hj, List.getD_eq_getElem?_getD, List.getElem?_eq_getElem hj]
      rfl
    have hcx : ∀ (j : Nat) (u : Value), (xs.map (Value.int .i64))[j]? = some u → w.cell? ⟨g, 0 + j, none⟩ = some u := by
      intro j u hu
      rw [Nat.zero_add]
      have hj : j < xs.length := by simpa using (List.getElem?_eq_some_iff.1 hu).1
      rw [hown.cellAt j (by omega)]
      exact hu
    have hsome : ∀ j, j < cap → (w.cell? ⟨g, j, none⟩).isSome = true := by
      intro j hj
      simp only [World.cell?, hcur]
      simp [Array.getElem?_eq_getElem (show j < cur.size by omega)]
    have hfz : ∀ j, w.frozen? ⟨g, j, none⟩ = false := fun j => hown.frozenAt j
    by_cases hroom : xs.length + 1 ≤ cap
    · by_cases hil : i < xs.length
      ·
        refine (ins_shift g xs.length cap i vb (xs.map (Value.int .i64)) [.int .i64 x] w hil hroom hcap63 hgv (by simp) rfl hcx (fun j hj => by rw [Nat.zero_add]; exact hsome j (by omega)) (fun j hj => hfz _) hvs hc1 h1v
          3 3 1 cap (by simp [World.shape?, hvb]) (by simp [World.shape?, hcur, hcs]) (by omega) (by simp [World.frozen?, hvb]) (by simp [World.frozen?, hvb])).mono ?_
        rintro e w' ⟨rfl, rfl⟩
        have hcur' : (w.drew).heap[g]? = some (.cells cur 3 (0, 0)) := hcur
        obtain ⟨c1, hc1', e1⟩ := setCells_block (t := 3) g ((xs.map (Value.int .i64)).drop i) (0 + (i + 1)) w.drew cur hcur'
        obtain ⟨c2, hc2', e2⟩ := setCells_block (t := 3) g [Value.int .i64 x] (0 + i) _ c1 hc1'
        refine ⟨_, rfl, ?_, ?_, .inl rfl⟩
        · have hl := ins_len (x := x) hi
          have := own_of_cells (base := base) (ys := (xs.take i ++ x :: xs.drop i).map (Value.int .i64)) hc2' (by omega) hcm hbg (by rw [hl]; omega) (fun j hj => by
            rw [ins_get hi j hj]
            rw [hl] at hj
            have hs1 : ∀ k, k < ((xs.map (Value.int .i64)).drop i).length → ((w.drew).cell? ⟨g, 0 + (i + 1) + k, none⟩).isSome = true := fun k hk => by
              rw [List.length_drop, List.length_map] at hk
              exact hsome _ (by omega)
            have hin : ∀ k (hk : k < ((xs.map (Value.int .i64)).drop i).length), ((w.drew).setCells g (0 + (i + 1)) ((xs.map (Value.int .i64)).drop i)).cell? ⟨g, 0 + (i + 1) + k, none⟩ = some ((xs.map (Value.int .i64)).drop i)[k] := World.cell?_setCells_in g _ _ _ hs1
            by_cases h1 : j < i
            · rw [if_pos h1, World.cell?_setCells_out g _ _ _ _ (fun _ _ => .inl (by show j < 0 + i; omega)), World.cell?_setCells_out g _ _ _ _ (fun _ _ => .inl (by show j < 0 + (i + 1); omega))]
              exact hcell j (by omega)
            · rw [if_neg h1]
              by_cases h2 : j = i
              · subst h2
                rw [if_pos rfl]
                have := World.cell?_setCells_in g [Value.int .i64 x] (0 + j) ((w.drew).setCells g (0 + (j + 1)) ((xs.map (Value.int .i64)).drop j)) (fun k hk => by
                  obtain rfl : k = 0 := by simpa using hk
                  rw [World.cell?_setCells_out g _ _ _ _ (fun _ _ => .inl (by show 0 + j + 0 < 0 + (j + 1); omega))]
                  exact hsome _ (by omega)) 0 (by simp)
                simpa using this
              · rw [if_neg h2, World.cell?_setCells_out g _ _ _ _ (fun _ _ => .inr (by show 0 + i + 1 ≤ j; omega))]
                have := hin (j - i - 1) (by rw [List.length_drop, List.length_map]; omega)
                rw [show 0 + (i + 1) + (j - i - 1) = j by omega] at this
                rw [this, List.getElem_drop, List.getElem_map, List.getD_eq_getElem?_getD, List.getElem?_eq_getElem (by omega), Option.getD_some]
                congr 3
                omega)
          rw [hl] at this
          exact this
        · have := ((Fr.drewN (fun k => k = g) w 1).trans (fr_setCells g ((xs.map (Value.int .i64)).drop i) (0 + (i + 1)) (w.drewN 1)) (fun _ hh => .inl hh)).trans (fr_setCells g [Value.int .i64 x] (0 + i) _) (fun _ hh => .inl hh)
          exact ⟨this.os, this.tape, this.output, this.size, fun k hk hn' => this.block k hk (fun e => hn' (by simp [Value.ownBlock, e]))⟩
      ·
        obtain rfl : i = xs.length := by omega
        refine (ins_end_room g xs.length cap vb [.int .i64 x] w hroom hcap63 rfl (fun j hj => by rw [Nat.zero_add]; exact hsome _ (by omega)) (fun j hj => hfz _) hvs h1v).mono ?_
        rintro e w' ⟨rfl, rfl⟩
        obtain ⟨c2, hc2', e2⟩ := setCells_block (t := 3) g [Value.int .i64 x] (0 + xs.length) w cur hcur
        refine ⟨_, rfl, ?_, ?_, .inl rfl⟩
        · have hl := ins_len (x := x) (Nat.le_refl xs.length)
          have := own_of_cells (base := base) (ys := (xs.take xs.length ++ x :: xs.drop xs.length).map (Value.int .i64)) hc2' (by omega) hcm hbg (by rw [hl]; omega) (fun j hj => by
            rw [ins_get (Nat.le_refl _) j hj]
            rw [hl] at hj
            by_cases h1 : j < xs.length
            · rw [if_pos h1, World.cell?_setCells_out g _ _ _ _ (fun _ _ => .inl (by show j < 0 + xs.length; omega))]
              exact hcell j h1
            · obtain rfl : j = xs.length := by omega
              rw [if_neg h1, if_pos rfl]
              have := World.cell?_setCells_in g [Value.int .i64 x] (0 + xs.length) w (fun k hk => by
                obtain rfl : k = 0 := by simpa using hk
                exact hsome _ (by omega)) 0 (by simp)
              simpa using this)
          rw [hl] at this
          exact this
        · have := fr_setCells g [Value.int .i64 x] (0 + xs.length) w
          exact ⟨this.os, this.tape, this.output, this.size, fun k hk hn' => this.block k hk (fun e => hn' (by simp [Value.ownBlock, e]))⟩
    · have hg1 := grownCap_ge w (xs.length + 1) cap 3
      have hg2 := grownCap_le_maxLen w (xs.length + 1) cap 3 (by unfold maxLen; omega)
      by_cases hil : i < xs.length
      ·
        refine (ins_grow g xs.length cap i vb (xs.map (Value.int .i64)) [.int .i64 x] w hil hn (by omega) (by omega) (by simp) rfl hcx hvs hc1 h1v).mono ?_
        rintro e w' ⟨rfl, hw'⟩
        obtain ⟨nb, enb⟩ : ∃ nb, nb = w.alloc (.cells (((xs.map (Value.int .i64)).take i).toArray ++ Builtin.zeroCells (Value.int .i64 0).cells (xs.length + 1 - i) ++ Builtin.zeroCells (Value.int .i64 0).cells (grownCap w (xs.length + 1) cap 3 - (xs.length + 1))) 3) := ⟨_, rfl⟩
        have hnb : nb.heap[w.heap.size]? = some (.cells (((xs.map (Value.int .i64)).take i).toArray ++ Builtin.zeroCells (Value.int .i64 0).cells (xs.length + 1 - i) ++ Builtin.zeroCells (Value.int .i64 0).cells (grownCap w (xs.length + 1) cap 3 - (xs.length + 1))) 3 (0, 0)) := by rw [enb]; exact heap_alloc_new w _
        have hnsz : (((xs.map (Value.int .i64)).take i).toArray ++ Builtin.zeroCells (Value.int .i64 0).cells (xs.length + 1 - i) ++ Builtin.zeroCells (Value.int .i64 0).cells (grownCap w (xs.length + 1) cap 3 - (xs.length + 1))).size = grownCap w (xs.length + 1) cap 3 := by
          simp only [Array.size_append, List.size_toArray, List.length_take, List.length_map, zero_cells]
          omega
        have hnsome : ∀ j, j < grownCap w (xs.length + 1) cap 3 → (nb.cell? ⟨w.heap.size, j, none⟩).isSome = true := by
          intro j hj
          simp only [World.cell?, hnb]
          rw [Array.getElem?_eq_getElem (by rw [hnsz]; exact hj)]
          rfl
        have hfn : Fr (fun k => (Value.slice (some ⟨g, 0, none⟩) xs.length cap).ownBlock = some k) w nb := by rw [enb]; exact (Fr.refl _ w).alloc _
        rw [← enb] at hw'
        subst hw'
        obtain ⟨c1, hc1', e1⟩ := setCells_block (t := 3) w.heap.size [Value.int .i64 x] i nb.drew _ hnb
        obtain ⟨c2, hc2', e2⟩ := setCells_block (t := 3) w.heap.size ((xs.map (Value.int .i64)).drop i) (i + 1) ((nb.drew.setCells w.heap.size i [Value.int .i64 x]).drew) c1 hc1'
        refine ⟨_, rfl, ?_, ?_, .inr ⟨w.heap.size, rfl, Nat.le_refl _⟩⟩
        · have hl := ins_len (x := x) hi
          have := own_of_cells (base := base) (ys := (xs.take i ++ x :: xs.drop i).map (Value.int .i64)) hc2' (by omega) hg2 hbase (by rw [hl]; exact hg1) (fun j hj => by
            rw [ins_get hi j hj]
            rw [hl] at hj
            by_cases h1 : j < i
            · rw [if_pos h1, World.cell?_setCells_out _ _ _ _ _ (fun _ _ => .inl (by show j < i + 1; omega))]
              show (nb.drew.setCells w.heap.size i [Value.int .i64 x]).cell? _ = _
              rw [World.cell?_setCells_out _ _ _ _ _ (fun _ _ => .inl (by show j < i; omega))]
              show nb.cell? _ = _
              simp only [World.cell?, hnb]
              rw [Array.append_assoc, Array.getElem?_append_left (by simp; omega)]
              simp [h1, List.getElem?_eq_getElem (show j < xs.length by omega)]
            · rw [if_neg h1]
              by_cases h2 : j = i
              · subst h2
                rw [if_pos rfl, World.cell?_setCells_out _ _ _ _ _ (fun _ _ => .inl (by show j < j + 1; omega))]
                have := World.cell?_setCells_in w.heap.size [Value.int .i64 x] j nb.drew (fun k hk => by
                  obtain rfl : k = 0 := by simpa using hk
                  exact hnsome _ (by omega)) 0 (by simp)
                simpa using this
              · rw [if_neg h2]
                have := World.cell?_setCells_in w.heap.size ((xs.map (Value.int .i64)).drop i) (i + 1) ((nb.drew.setCells w.heap.size i [Value.int .i64 x]).drew) (fun k hk => by
                  rw [List.length_drop, List.length_map] at hk
                  show ((nb.drew.setCells w.heap.size i [Value.int .i64 x]).cell? _).isSome = true
                  rw [World.cell?_setCells_out _ _ _ _ _ (fun _ _ => .inr (by show i + 1 ≤ i + 1 + k; omega))]
                  exact hnsome _ (by omega)) (j - i - 1) (by rw [List.length_drop, List.length_map]; omega)
                rw [show i + 1 + (j - i - 1) = j by omega] at this
                rw [this, List.getElem_drop, List.getElem_map, List.getD_eq_getElem?_getD, List.getElem?_eq_getElem (by omega), Option.getD_some]
                congr 3
                omega)
          rw [hl] at this
          exact this
        · have f1 := hfn.trans (Fr.drewN (fun k => k = w.heap.size) nb 1) (fun k e => .inr (by omega))
          have f2 := f1.trans (fr_setCells w.heap.size [Value.int .i64 x] i (nb.drewN 1)) (fun k e => .inr (by omega))
          have f3 := f2.trans (Fr.drewN (fun k => k = w.heap.size) _ 1) (fun k e => .inr (by omega))
          exact f3.trans (fr_setCells w.heap.size ((xs.map (Value.int .i64)).drop i) (i + 1) _) (fun k e => .inr (by omega))
      ·
        obtain rfl : i = xs.length := by omega
        refine (ins_end_grow (some ⟨g, 0, none⟩) xs.length cap vb (xs.map (Value.int .i64)) [.int .i64 x] w hn (by omega) (by omega) (by simp) rfl (fun e => by cases e) (fun a ha j u hu => by
          injection ha with ha
          subst ha
          rw [Go.WideShapes.add_plain]
          exact hcx j u hu) hvs h1v).mono ?_
        rintro e w' ⟨rfl, rfl⟩
        refine ⟨_, rfl, ?_, (Fr.drewN _ w 1).alloc _, .inr ⟨w.heap.size, rfl, Nat.le_refl _⟩⟩
        have hl : (xs.map (Value.int .i64) ++ [Value.int .i64 x]).length = xs.length + 1 := by simp
        have e1 : (xs.take xs.length ++ x :: xs.drop xs.length).map (Value.int .i64) = xs.map (Value.int .i64) ++ [Value.int .i64 x] := by simp
        rw [e1]
        have := own_alloc_lit w.drew base 3 (grownCap w (xs.length + 1) cap 3) (xs.map (Value.int .i64) ++ [Value.int .i64 x]) (Builtin.zeroCells (Value.int .i64 0).cells (grownCap w (xs.length + 1) cap 3 - (xs.length + 1))) (by rw [zero_cells, hl]; omega) hg2 hbase
        rw [hl] at this
        exact this
end Go.Proofs.Ytdknhgbjgdmfkaa.P
namespace Go.Proofs.Ytdknhgbjgdmfkaa.P
open Go.RowKit Go.Lib Go.Sort Go.Shelf Go.Proofs.YtdknhgbjgdmfkaaW.PrintWords Go.Proofs.YtdknhgbjgdmfkaaW.PrintLast Go.Proofs.YtdknhgbjgdmfkaaW.PrintMore
theorem S_newelem {w : World} {base go n cap j : Nat} {xs : List (List Int)} {ok : Nat → Prop} (h : Kd.S dG 32 w base ok (.slice (some ⟨go, 0, none⟩) n cap) xs) (hnew : ∀ k, w.heap.size ≤ k → ok k) (hj : j < n) :
    ∃ A c, w.cell? ⟨go, j, none⟩ = some (.slice A (xs.getD j []).length c) ∧ dI.R 3 w base (fun k => ok k ∧ k ≠ go) (.slice A (xs.getD j []).length c) (xs.getD j []) ∧ ok go ∧
      ∀ w2 v2 ys, w2.ownsRow base 3 1 v2 ys.length (ys.map (Value.int .i64)) → Fr (fun k => (Value.slice A (xs.getD j []).length c).ownBlock = some k) w w2 →
        (v2.ownBlock = (Value.slice A (xs.getD j []).length c).ownBlock ∨ ∃ b, v2.ownBlock = some b ∧ w.heap.size ≤ b) →
        (∃ u, w2.cell? ⟨go, j, none⟩ = some u ∧ w2.frozen? ⟨go, j, none⟩ = false) ∧ Kd.S dG 32 (w2.setCell ⟨go, j, none⟩ v2) base ok (.slice (some ⟨go, 0, none⟩) n cap) (xs.set j ys) := by
  have hgo : go < w.heap.size := Kd.S_lt h go (by simp [Value.ownBlock])
  have hgb : base ≤ go := Kd.S_base h go (by simp [Value.ownBlock])
  have h2 : Kd.S dG 32 w base (fun k => ok k ∧ ¬ (w.heap.size ≤ k)) (.slice (some ⟨go, 0, none⟩) n cap) xs := Kd.S_mono (Kd.S_bound h) (fun k hk => ⟨hk.1, by have := hk.2.2.1; omega⟩)
  obtain ⟨oki, c, hcl, hM, hcc, hfr, hoki, hH⟩ := Kd.S_elem h2 [] (j : Int) (by omega) (by omega)
  have hs1 : dG.sz = 1 := rfl
  obtain ⟨u, rfl⟩ : ∃ u, c = [u] := List.length_eq_one_iff.1 (hcl.trans hs1)
  have hu := hcc 0 u rfl
  have hf := hfr 0
  rw [hs1, Int.toNat_natCast, Nat.mul_one, Nat.add_zero] at hu
  rw [Int.toNat_natCast] at hM
  obtain ⟨u', e, hR⟩ := hM
  injection e with e
  subst e
  obtain ⟨A, cc, rfl⟩ := Kd.R_slice hR
  refine ⟨A, cc, hu, Kd.R_mono hR (fun k hk => ⟨(hoki k hk).1.1, (hoki k hk).2⟩), (Kd.S_R h).1 go (by simp [Value.ownBlock]), fun w2 v2 ys ho hf2 hat => ?_⟩
  have hb : ∀ k, (Value.slice A (xs.getD j []).length cc).ownBlock = some k → oki k := fun k hk => hR.1 k hk
  have hg : w.grownBy w2 (Value.slice A (xs.getD j []).length cc).ownBlock := ⟨hf2.os, hf2.tape, hf2.output, hf2.size, fun k hk hne => hf2.block k hk (fun e => hne e.symm)⟩
  have hH2 := Kd.H_grown hH hg hb
  have hs2 := hf2.size
  have hne : (Value.slice A (xs.getD j []).length cc).ownBlock ≠ some go := fun e => (hoki go (hb go e)).2 rfl
  have hbk : w2.heap[go]? = w.heap[go]? := hf2.block go hgo hne
  have hcell : ∀ p : Nat, w2.cell? ⟨go, p, none⟩ = w.cell? ⟨go, p, none⟩ := fun p => by simp only [World.cell?, hbk]
  have hfrz : ∀ p : Nat, w2.frozen? ⟨go, p, none⟩ = w.frozen? ⟨go, p, none⟩ := fun p => by simp only [World.frozen?, hbk]
  refine ⟨⟨_, (hcell j).trans hu, (hfrz j).trans (by rw [hs1, Int.toNat_natCast, Nat.mul_one, Nat.add_zero] at hf; exact hf)⟩, ?_⟩
  have hR2 : dI.R 3 w2 base (fun k => oki k ∨ w.heap.size ≤ k) v2 ys := by
    refine ints_R ho (fun k hk => ?_)
    rcases hat with e | ⟨b, e, hbs⟩
    · exact .inl (hb k (by rw [← e]; exact hk))
    · rw [e] at hk
      injection hk with hk
      exact .inr (by omega)
  have hP := Kd.S_seg (okg := fun k => w.heap.size ≤ k) hH2 (by omega) (by omega) (seg := [v2]) (j := 0) (show 0 + 1 ≤ 1 from Nat.le_refl _) (x' := ys) (okp := fun k => oki k ∨ w.heap.size ≤ k)
    ⟨v2, rfl, hR2⟩ (fun k hk => hk) (fun k hk => ⟨hnew k hk, by omega⟩)
  have hP1 := hP.1
  rw [hs1, Int.toNat_natCast, Nat.mul_one, Nat.add_zero] at hP1
  exact hP1
theorem bs_c (A : Option Addr) (c : Nat) (xs : List Int) (x : Int) (w : World) (h : dI.C w A xs.length xs) (hb : xs.length ≤ 1000000) (hs : xs.Pairwise (· ≤ ·)) :
    Calls Try.prog 62 #[.slice A xs.length c, .int .i64 x] w fun e w' => e = .returned (.tuple #[.int .i64 (xs.countP (fun y => decide (y < x)) : Nat), .bool (xs.contains x)]) ∧ ∃ q, w' = w.drewN q := by
  rcases Nat.eq_zero_or_pos xs.length with h0 | h0
  · obtain rfl := List.eq_nil_of_length_eq_zero h0
    refine (Try.slices_BinarySearch_int_empty A c x w).mono ?_
    rintro e w' ⟨rfl, hw⟩
    exact ⟨rfl, 0, by rw [hw]; rfl⟩
  · obtain ⟨b, off, he, _, hc⟩ := C_ints h h0
    subst he
    have := Try.slices_BinarySearch_int b off xs.length c xs x w (Nat.le_refl _) (by omega) hc (by rw [List.take_length]; exact hs)
    rw [List.take_length] at this
    exact this
set_option maxHeartbeats 4000000 in
set_option maxRecDepth 100000 in
theorem graph_With.calls (A0 : Option Addr) (c0 : Nat) (l0 : List (List Int)) (a1 : Int) (a2 : Int) (r : List (List Int)) (w : World) (hr0 : Kd.C (Kd.slice 3 (Kd.int .i64)) w A0 l0.length l0) (hc0 : l0.length ≤ c0) (h : graph_With.f l0 a1 a2 = some r) :
    Calls Try.prog 26 #[.slice A0 l0.length c0, .int .i64 a1, .int .i64 a2] w fun e w' => ∃ v0_ : Value, e = .returned v0_ ∧ Kd.S (Kd.slice 3 (Kd.int .i64)) 32 w' w.heap.size (fun _ => True) v0_ r ∧ Below w.heap.size w w' := by
  have HR0 := Aside0.mk hr0
  have HC0 := Aside0.mk hc0
  have HF : Aside0 (fits l0 = true ∧ r = withE (clean l0) a1 a2) := by
    unfold graph_With.f at h
    split at h
    · exact ⟨⟨by assumption, (Option.some.inj h).symm⟩⟩
    · cases h
  clear hr0 hc0 h
  have HCL' : Aside0 (∀ W, Below w.heap.size w W → Calls Try.prog 16 #[.slice A0 l0.length c0] W fun e w' => ∃ v0_ : Value, e = .returned v0_ ∧ Kd.S (Kd.slice 3 (Kd.int .i64)) 32 w' W.heap.size (fun _ => True) v0_ (clean l0) ∧ Below W.heap.size W w') :=
    ⟨fun W hW => graph_Clean.calls A0 c0 l0 (clean l0) W (Kd.C_below HR0.out hW) HC0.out (by unfold graph_Clean.f; rw [if_pos HF.out.1])⟩
  have HIS : ∀ W, Calls Try.prog 53 #[.slice A0 l0.length c0, .int .i64 a1] W fun e w' => e = .returned (.bool (isN l0.length a1)) ∧ W = w' := fun W => is_c a1 A0 l0.length c0 W
  have HIT : ∀ W, Calls Try.prog 53 #[.slice A0 l0.length c0, .int .i64 a2] W fun e w' => e = .returned (.bool (isN l0.length a2)) ∧ W = w' := fun W => is_c a2 A0 l0.length c0 W
  have hno : ∀ (hx : ¬ (isN l0.length a1 = true ∧ isN l0.length a2 = true)), Aside0 (r = clean l0) := by
    intro hx
    have := HF.out.2
    unfold withE at this
    rw [clean_len, if_neg (fun hh => hx ⟨hh.1, hh.2.1⟩)] at this
    exact ⟨this⟩
  have HNO := Aside0.mk hno
  clear hno
  have CLN := HCL'.out w (Below.refl _ _)
  have CL := Aside0.mk CLN
  clear CLN HCL'
  rcases Bool.eq_false_or_eq_true (isN l0.length a1) with hna | hna
  · rw [hna] at HIS
    rcases Bool.eq_false_or_eq_true (isN l0.length a2) with hnb | hnb
    · rw [hnb] at HIT
      obtain ⟨ha0, ha1⟩ := isN_iff.1 hna
      obtain ⟨row_, erow⟩ : ∃ row_, row_ = (clean l0).getD a1.toNat [] := ⟨_, rfl⟩
      have hmem : row_ ∈ clean l0 := by
        rw [erow, List.getD_eq_getElem?_getD, List.getElem?_eq_getElem (by rw [clean_len]; omega)]
        exact List.getElem_mem _
      have HRW : Aside0 (row_.length ≤ 100000 ∧ row_.Pairwise (· ≤ ·) ∧ row_ = (clean l0).getD a1.toNat []) := by
        refine ⟨clean_small HF.out.1 _ hmem, ?_, erow⟩
        obtain ⟨q, _, e⟩ := List.mem_map.1 hmem
        rw [← e]
        exact (cleanRow_rises _ _).imp (fun h => by omega)
      have HRS : Aside0 ((row_.contains a2 = true → r = clean l0) ∧ (row_.contains a2 = false → r = (clean l0).set a1.toNat (row_.take (row_.countP (fun y => decide (y < a2))) ++ a2 :: row_.drop (row_.countP (fun y => decide (y < a2)))))) := by
        have hr := HF.out.2
        unfold withE at hr
        rw [clean_len, ← erow] at hr
        refine ⟨fun hc => ?_, fun hc => ?_⟩
        · rw [if_neg (fun hh => hh.2.2 (by simpa using hc))] at hr
          exact hr
        · rw [if_pos ⟨hna, hnb, by simpa using hc⟩] at hr
          exact hr
      clear hna hnb hmem HNO erow
      obtain ⟨con, hcon⟩ : ∃ con, con = row_.contains a2 := ⟨_, rfl⟩
      rw [← hcon] at HRS
      have HCON := Aside0.mk hcon
      clear hcon
      cases con with
      | true =>
        have HRT := Aside0.mk (HRS.out.1 rfl)
        have HBS : Aside0 (∀ W A c, dI.C W A row_.length row_ → Calls Try.prog 62 #[.slice A row_.length c, .int .i64 a2] W fun e w' => (∃ kk : Nat, e = .returned (.tuple #[.int .i64 kk, .bool true])) ∧ ∃ q, w' = W.drewN q) :=
          ⟨fun W A c hC => (bs_c A c row_ a2 W hC (by have := HRW.out.1; omega) HRW.out.2.1).mono fun e w' hh => ⟨⟨_, by rw [HCON.out]; exact hh.1⟩, hh.2⟩⟩
        go_enter Try.func26, Try.ntmps26
        go_wp2_with (first | (go_at_call 16; refine CL.out.mono ?_; rintro e w2 ⟨v2, rfl, ho2, hb2⟩; obtain ⟨go, cap, e2, hgo1, hgo2, _⟩ := Kd.S_form ho2 (by rw [clean_len]; omega); rw [clean_len] at e2; subst e2; have HO2 := Aside0.mk ho2; have HB2 := Aside0.mk hb2; have HGO := Aside0.mk (And.intro hgo1 hgo2); (obtain ⟨Au, cu, hcu, hRu, _, hnx⟩ := S_newelem ho2 (fun _ _ => trivial) (j := a1.toNat) (by omega)); rw [← HRW.out.2.2] at hcu hRu hnx; have HRU := Aside0.mk hRu; have HNX := Aside0.mk hnx; clear ho2 hb2 hgo1 hgo2 hRu hnx) | (go_at_call 53; (with_reducible refine (HIS _).mono ?_); rintro e w' ⟨rfl, rfl⟩) | (go_at_call 53; (with_reducible refine (HIT _).mono ?_); rintro e w' ⟨rfl, rfl⟩))
        go_wp2_with (go_at_call 62; refine (HBS.out _ _ _ (Kd.R_reads' HRU.out).2.2).mono ?_; rintro e w3 ⟨⟨kk, rfl⟩, q, rfl⟩)
        go_ret
        refine ⟨_, rfl, ?_, by repeat (first | exact HB2.out | apply pw_below_drewN | apply below_drew1)⟩
        rw [HRT.out]
        exact Kd.S_drewN HO2.out _
      | false =>
        obtain ⟨kk, hkk⟩ : ∃ kk, kk = row_.countP (fun y => decide (y < a2)) := ⟨_, rfl⟩
        rw [← hkk] at HRS
        obtain ⟨ys, hys⟩ : ∃ ys, ys = row_.take kk ++ a2 :: row_.drop kk := ⟨_, rfl⟩
        rw [← hys] at HRS
        have HRT := Aside0.mk (HRS.out.2 rfl)
        have HYS := Aside0.mk hys
        have HBS : Aside0 (∀ W A c, dI.C W A row_.length row_ → Calls Try.prog 62 #[.slice A row_.length c, .int .i64 a2] W fun e w' => e = .returned (.tuple #[.int .i64 kk, .bool false]) ∧ ∃ q, w' = W.drewN q) :=
          ⟨fun W A c hC => (bs_c A c row_ a2 W hC (by have := HRW.out.1; omega) HRW.out.2.1).mono fun e w' hh => ⟨by rw [HCON.out, hkk]; exact hh.1, hh.2⟩⟩
        have HKK : Aside0 (kk ≤ row_.length) := by
          rw [hkk]
          exact ⟨List.countP_le_length⟩
        have hyl : Aside0 (ys.length = row_.length + 1) := by
          have := HKK.out
          refine ⟨?_⟩
          rw [hys]
          simp
          omega
        clear hkk hys
        go_enter Try.func26, Try.ntmps26
        go_wp2_with (first | (go_at_call 16; refine CL.out.mono ?_; rintro e w2 ⟨v2, rfl, ho2, hb2⟩; obtain ⟨go, cap, e2, hgo1, hgo2, _⟩ := Kd.S_form ho2 (by rw [clean_len]; omega); rw [clean_len] at e2; subst e2; have HO2 := Aside0.mk ho2; have HB2 := Aside0.mk hb2; have HGO := Aside0.mk (And.intro hgo1 hgo2); (obtain ⟨Au, cu, hcu, hRu, _, hnx⟩ := S_newelem ho2 (fun _ _ => trivial) (j := a1.toNat) (by omega)); rw [← HRW.out.2.2] at hcu hRu hnx; have HRU := Aside0.mk hRu; have HNX := Aside0.mk hnx; clear ho2 hb2 hgo1 hgo2 hRu hnx) | (go_at_call 53; (with_reducible refine (HIS _).mono ?_); rintro e w' ⟨rfl, rfl⟩) | (go_at_call 53; (with_reducible refine (HIT _).mono ?_); rintro e w' ⟨rfl, rfl⟩))
        go_wp2_with (go_at_call 62; refine (HBS.out _ _ _ (Kd.R_reads' HRU.out).2.2).mono ?_; rintro e w3 ⟨rfl, q, rfl⟩)
        go_wp2_with (go_at_call 63; refine (insert_c _ row_ a2 kk (w.heap.size) (fun k => True ∧ k ≠ go) _ _ (Kd.R_alloc (Kd.R_drewN HRU.out q) _) HKK.out (by have := HRW.out.1; omega) (heap_alloc_new (w2.drewN q) _) (fun e => absurd (show w2.heap.size < w2.heap.size from own_lt (R_ints HRU.out) _ e) (Nat.lt_irrefl _)) (by rw [size_alloc1]; have := HB2.out.size; show w.heap.size ≤ w2.heap.size + 1; omega)).mono ?_; rintro e w4 ⟨v4, rfl, ho4, hf4, hat4⟩; rw [← HYS.out, ← hyl.out] at ho4; (have hf5 := (((Fr.drewN (fun k => (Value.slice Au row_.length cu).ownBlock = some k) w2 q).alloc (.cells #[.int .i64 a2] 3)).trans hf4 (fun _ hh => .inl hh))); (obtain ⟨⟨u5, hu5, hf6⟩, hs5⟩ := HNX.out w4 v4 _ ho4 hf5 (hat4.imp id (fun ⟨b, h1, h2⟩ => ⟨b, h1, by rw [size_alloc1] at h2; exact Nat.le_trans (Nat.le_succ _) h2⟩))); have HS5 := Aside0.mk hs5; have HF5 := Aside0.mk hf5; obtain ⟨A4, c4, rfl⟩ := own_slice ho4; clear ho4 hf4 hat4 hf5 hs5)
        go_ret
        refine ⟨_, rfl, ?_, ?_⟩
        · rw [HRT.out]
          exact HS5.out
        · have h3 := below_fr HB2.out HF5.out (fun k hk => own_base (R_ints HRU.out) k hk) HB2.out.size
          exact h3.setCell (by have := HGO.out.1; show w.heap.size ≤ go; omega) _
    · rw [hnb] at HIT
      have HRS := HNO.out (by rw [hnb]; simp)
      clear hna hnb HNO
      go_enter Try.func26, Try.ntmps26
      go_wp2_with (first | (go_at_call 16; refine CL.out.mono ?_; rintro e w2 ⟨v2, rfl, ho2, hb2⟩; have HO2 := Aside0.mk ho2; have HB2 := Aside0.mk hb2; clear ho2 hb2) | (go_at_call 53; (with_reducible refine (HIS _).mono ?_); rintro e w' ⟨rfl, rfl⟩) | (go_at_call 53; (with_reducible refine (HIT _).mono ?_); rintro e w' ⟨rfl, rfl⟩))
      go_ret
      exact ⟨_, rfl, by rw [HRS.out]; exact HO2.out, HB2.out⟩
  · rw [hna] at HIS
    have HRS := HNO.out (by rw [hna]; simp)
    clear hna HNO
    go_enter Try.func26, Try.ntmps26
    go_wp2_with (first | (go_at_call 16; refine CL.out.mono ?_; rintro e w2 ⟨v2, rfl, ho2, hb2⟩; have HO2 := Aside0.mk ho2; have HB2 := Aside0.mk hb2; clear ho2 hb2) | (go_at_call 53; (with_reducible refine (HIS _).mono ?_); rintro e w' ⟨rfl, rfl⟩))
    go_ret
    exact ⟨_, rfl, by rw [HRS.out]; exact HO2.out, HB2.out⟩
end Go.Proofs.Ytdknhgbjgdmfkaa.P
