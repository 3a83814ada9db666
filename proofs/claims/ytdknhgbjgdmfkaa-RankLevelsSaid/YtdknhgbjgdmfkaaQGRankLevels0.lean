/- What the claim uses of: PlawRankLevels PureRankLevels -/
import Derived.Test.YtdknhgbjgdmfkaaQG4
namespace Go.Proofs.Ytdknhgbjgdmfkaa.P
open Go.RowKit Go.Proofs.YtdknhgbjgdmfkaaW.PrintWords Go.Proofs.YtdknhgbjgdmfkaaW.PrintLast Go.Proofs.YtdknhgbjgdmfkaaW.PrintMore
attribute [local go_sem] max2_int min2_int max_two min_two max_three min_three max_four min_four
set_option linter.unusedVariables false
set_option linter.unusedSimpArgs false
mutual
def bywashlaw12_RankLevels.l0 : Nat → List (List Int) → Bool → List (List Int) → List Int → Int → Int → Option (Bool)
  | 0, _, _, _, _, _, _ => none
  | k + 1, x0, x3, x4, x5, x6, x7 => if x7 < (x4.length : Int) then (if 0 ≤ x7 then (if ((rd_L1 x4 x7).length : Int) = 0 then (some false) else (bywashlaw12_RankLevels.l1 k x0 x3 x4 x5 (wrap64 (x6 + ((rd_L1 x4 x7).length : Int))) x7 0)) else (none)) else (if x3 = true then (some (x6 == (x0.length : Int))) else (some false))
def bywashlaw12_RankLevels.l1 : Nat → List (List Int) → Bool → List (List Int) → List Int → Int → Int → Int → Option (Bool)
  | 0, _, _, _, _, _, _, _ => none
  | k + 1, x0, x3, x4, x5, x6, x7, x8 => if 0 ≤ x7 then (if x7 < (x4.length : Int) then (if x8 < ((rd_L1 x4 x7).length : Int) then (if 0 ≤ x8 then (if (rd (rd_L1 x4 x7) x8) < 0 then (some false) else (if (rd (rd_L1 x4 x7) x8) ≥ (x5.length : Int) then (some false) else (if 0 ≤ (rd (rd_L1 x4 x7) x8) then (if (rd (rd_L1 x4 x7) x8) < (x5.length : Int) then (if (rd x5 (rd (rd_L1 x4 x7) x8)) = x7 then (if x8 > 0 then (if 0 ≤ (wrap64 (x8 - 1)) then (if (wrap64 (x8 - 1)) < ((rd_L1 x4 x7).length : Int) then (if (rd (rd_L1 x4 x7) x8) ≤ (rd (rd_L1 x4 x7) (wrap64 (x8 - 1))) then (some false) else (bywashlaw12_RankLevels.l1 k x0 x3 x4 x5 x6 x7 (wrap64 (x8 + 1)))) else (none)) else (none)) else (bywashlaw12_RankLevels.l1 k x0 x3 x4 x5 x6 x7 (wrap64 (x8 + 1)))) else (some false)) else (none)) else (none)))) else (none)) else (bywashlaw12_RankLevels.l0 k x0 x3 x4 x5 x6 (wrap64 (x7 + 1)))) else (none)) else (none)
end
def bywashlaw12_RankLevels.f (k : Nat) (l0 : List (List Int)) : Option (Bool) := (bywashlaw12_awake.f k).bind fun t495 => ((bywashref10_Few.f k l0).bind fun t496 => (if t496 = true then ((rank_Levels.f k l0).bind fun t497 => ((rank_Ranks.f k l0).bind fun t500 => (bywashlaw12_RankLevels.l0 k l0 t495 t497 t500 0 0))) else (some t495)))
set_option maxHeartbeats 8000000 in
set_option maxRecDepth 100000 in
theorem bywashlaw12_RankLevels.calls (k : Nat) (A0 : Option Addr) (c0 : Nat) (l0 : List (List Int)) (r : Bool) (w : World) (hr0 : Kd.C (Kd.slice 3 (Kd.int .i64)) w A0 l0.length l0) (hc0 : l0.length ≤ c0) (h : bywashlaw12_RankLevels.f k l0 = some r) :
    Calls Try.prog 10 #[.slice A0 l0.length c0] w fun e w' => e = .returned (.bool r) ∧ Below w.heap.size w w' := by
  have HR0 := Aside0.mk hr0
  have HC0 := Aside0.mk hc0
  clear hr0 hc0
  have HB := Aside0.mk (Below.refl w.heap.size w)
  have H : ((bywashlaw12_awake.f k).bind fun t495 => ((bywashref10_Few.f k l0).bind fun t496 => (if t496 = true then ((rank_Levels.f k l0).bind fun t497 => ((rank_Ranks.f k l0).bind fun t500 => (bywashlaw12_RankLevels.l0 k l0 t495 t497 t500 0 0))) else (some t495)))) = some r := h
  clear h
  replace H := Option.bind_eq_some_iff.mp H
  obtain ⟨t495, A20, H⟩ := H
  replace H : ((bywashref10_Few.f k l0).bind fun t496 => (if t496 = true then ((rank_Levels.f k l0).bind fun t497 => ((rank_Ranks.f k l0).bind fun t500 => (bywashlaw12_RankLevels.l0 k l0 t495 t497 t500 0 0))) else (some t495))) = some r := H
  have A2 := Aside0.mk A20
  clear A20
  replace H := Option.bind_eq_some_iff.mp H
  obtain ⟨t496, A30, H⟩ := H
  replace H : (if t496 = true then ((rank_Levels.f k l0).bind fun t497 => ((rank_Ranks.f k l0).bind fun t500 => (bywashlaw12_RankLevels.l0 k l0 t495 t497 t500 0 0))) else (some t495)) = some r := H
  have A3 := Aside0.mk A30
  clear A30
  by_cases c4 : t496 = true
  · subst c4
    have H1 : ((rank_Levels.f k l0).bind fun t497 => ((rank_Ranks.f k l0).bind fun t500 => (bywashlaw12_RankLevels.l0 k l0 t495 t497 t500 0 0))) = some r := by rw [if_pos rfl] at H; exact H
    clear H
    have H := H1
    clear H1
    replace H := Option.bind_eq_some_iff.mp H
    obtain ⟨t497, A50, H⟩ := H
    replace H : ((rank_Ranks.f k l0).bind fun t500 => (bywashlaw12_RankLevels.l0 k l0 t495 t497 t500 0 0)) = some r := H
    have A5 := Aside0.mk A50
    clear A50
    replace H := Option.bind_eq_some_iff.mp H
    obtain ⟨t500, A60, H⟩ := H
    replace H : (bywashlaw12_RankLevels.l0 k l0 t495 t497 t500 0 0) = some r := H
    have A6 := Aside0.mk A60
    clear A60
    have H' := Aside0.mk H
    clear H
    go_enter Try.func10, Try.ntmps10
    go_wp2_with (first | ((with_reducible refine gate_callee (f := 44) rfl ?_); refine goesL_ (some 10) rfl rfl Try.func44 (by kernel_rfl) rfl #[] rfl (by (try simp only [List.map_toArray, List.map_cons, List.map_nil]); first | done | rfl | (simp only [List.length_drop, List.length_take]; rfl)) ?_; (with_reducible refine (bywashlaw12_awake.calls k  t495 _ A2.out).mono ?_); rintro e w7 ⟨rfl, hb⟩; refine ⟨_, rfl, ?_⟩; have n0_ := Aside0.mk (below_step (by repeat (first | (with_reducible first | exact HB.out | apply below_alloc | apply pw_below_drewN | apply below_drew1) | exact HB.out)) hb); clear HB; have HB := n0_; clear n0_; (try clear hb); (try clear hb2); (try clear hk); (try clear hi)) | ((with_reducible refine gate_callee (f := 14) rfl ?_); refine goesL_ (some 12) rfl rfl Try.func14 (by kernel_rfl) rfl #[.slice A0 l0.length c0] rfl (by (try simp only [List.map_toArray, List.map_cons, List.map_nil]); first | done | rfl | (simp only [List.length_drop, List.length_take]; rfl)) ?_; (with_reducible refine (bywashref10_Few.calls k _ _ l0 true _ ?side1 ?side2 A3.out).mono ?_); (case side1 => repeat (first | exact (Kd.C_below HR0.out HB.out) | (with_reducible refine Kd.C_alloc ?_ _) | (with_reducible refine Kd.C_drewN ?_ _) | (with_reducible refine Kd.C_drew ?_))); (case side2 => exact HC0.out); rintro e w' ⟨rfl, ⟨nd, rfl⟩⟩; refine ⟨_, rfl, ?_⟩) | ((with_reducible refine gate_callee (f := 48) rfl ?_); refine goesL_ (some 16) rfl rfl Try.func48 (by kernel_rfl) rfl #[.slice A0 l0.length c0] rfl (by (try simp only [List.map_toArray, List.map_cons, List.map_nil]); first | done | rfl | (simp only [List.length_drop, List.length_take]; rfl)) ?_; (with_reducible refine (rank_Levels.calls k _ _ l0 t497 _ ?side1 ?side2 A5.out).mono ?_); (case side1 => repeat (first | exact (Kd.C_below HR0.out (by repeat (first | (with_reducible first | exact HB.out | apply below_alloc | apply pw_below_drewN | apply below_drew1) | exact HB.out))) | (with_reducible refine Kd.C_alloc ?_ _) | (with_reducible refine Kd.C_drewN ?_ _) | (with_reducible refine Kd.C_drew ?_))); (case side2 => exact HC0.out); rintro e w8 ⟨v498, rfl, ho0, hb⟩; refine ⟨_, rfl, ?_⟩; have n0_ := Aside0.mk (Kd.S_lower ho0 (below_size (by repeat (first | (with_reducible first | exact HB.out | apply below_alloc | apply pw_below_drewN | apply below_drew1) | exact HB.out)))); have n1_ := Aside0.mk (below_step (by repeat (first | (with_reducible first | exact HB.out | apply below_alloc | apply pw_below_drewN | apply below_drew1) | exact HB.out)) hb); clear HB; have HO499 := n0_; have HB := n1_; clear n0_ n1_; (try clear hb); (try clear hb2); (try clear hk); (try clear hi); (try clear ho0)) | ((with_reducible refine gate_callee (f := 46) rfl ?_); refine goesL_ (some 18) rfl rfl Try.func46 (by kernel_rfl) rfl #[.slice A0 l0.length c0] rfl (by (try simp only [List.map_toArray, List.map_cons, List.map_nil]); first | done | rfl | (simp only [List.length_drop, List.length_take]; rfl)) ?_; (with_reducible refine (rank_Ranks.calls k _ _ l0 t500 _ ?side1 ?side2 A6.out).mono ?_); (case side1 => repeat (first | exact (Kd.C_below HR0.out HB.out) | (with_reducible refine Kd.C_alloc ?_ _) | (with_reducible refine Kd.C_drewN ?_ _) | (with_reducible refine Kd.C_drew ?_))); (case side2 => exact HC0.out); rintro e w9 ⟨v501, rfl, ho0, hb⟩; refine ⟨_, rfl, ?_⟩; have n0_ := Aside0.mk (Kd.S_elder' (by (with_reducible repeat (first | apply Kd.S_alloc | apply Kd.S_drewN | apply Kd.S_drew)); exact HO499.out) (Kd.R_base ho0) hb); have n1_ := Aside0.mk (Kd.R_lower ho0 (below_size (by repeat (first | (with_reducible first | exact HB.out | apply below_alloc | apply pw_below_drewN | apply below_drew1) | exact HB.out)))); have n2_ := Aside0.mk (below_step (by repeat (first | (with_reducible first | exact HB.out | apply below_alloc | apply pw_below_drewN | apply below_drew1) | exact HB.out)) hb); clear HO499; clear HB; have HO499 := n0_; have HO502 := n1_; have HB := n2_; clear n0_ n1_ n2_; (try clear hb); (try clear hb2); (try clear hk); (try clear hi); (try clear ho0)))
    go_loopg [6, 7] k (fun kq v6 v7 w' => ∃ (x6_1 : Int) (x7_1 : Int), v6 = .int .i64 x6_1 ∧ v7 = .int .i64 x7_1 ∧ Aside0 (bywashlaw12_RankLevels.l0 kq l0 t495 t497 t500 x6_1 x7_1 = some r) ∧ Aside0 (kq ≤ k) ∧ Aside0 (Kd.S (Kd.slice 3 (Kd.int .i64)) 32 w' w.heap.size (fun k_ => some k_ ≠ (v501 : Value).ownBlock) v498 t497) ∧ Aside0 (Kd.R (Kd.int .i64) 3 w' w.heap.size (fun _ => True) v501 t500) ∧ Aside0 (Below w.heap.size w w'))
    case atStart => exact ⟨(0), (0), (by first | rfl | (simp; done) | (simp [*]; done)), (by first | rfl | (simp; done) | (simp [*]; done)), H', ⟨Nat.le_refl _⟩, ⟨by (with_reducible repeat (first | apply Kd.S_alloc | apply Kd.S_drewN | apply Kd.S_drew)); exact Kd.S_mono HO499.out (fun _ hk => hk.2)⟩, ⟨by (with_reducible repeat (first | apply Kd.R_alloc | apply Kd.R_drewN | apply Kd.R_drew)); exact HO502.out⟩, ⟨by repeat (first | (with_reducible first | exact HB.out | apply below_alloc | apply pw_below_drewN | apply below_drew1) | exact HB.out)⟩⟩
    case round =>
      clear H'
      try clear c1
      try clear p2
      try clear c4
      obtain ⟨x6_1, x7_1, rfl, rfl, HA, HK1, HO_4, HO_5, HB⟩ := hrel
      cases gk with
      | zero => exact absurd HA.out (by simp [bywashlaw12_RankLevels.l0])
      | succ k1 =>
        have H := HA.out
        clear HA
        simp only [bywashlaw12_RankLevels.l0] at H
        by_cases c10 : x7_1 < (t497.length : Int)
        · rw [if_pos c10] at H
          have c10b0 : decide (x7_1 < (t497.length : Int)) = true := decide_eq_true c10
          clear c10
          by_cases c11 : 0 ≤ x7_1
          · rw [if_pos c11] at H
            have c11b0 : decide (0 ≤ x7_1) = true := decide_eq_true c11
            clear c11
            by_cases c12 : ((rd_L1 t497 x7_1).length : Int) = 0
            · rw [if_pos c12] at H
              have c12b0 : (((rd_L1 t497 x7_1).length : Int) == 0) = true := beq_iff_eq.mpr c12
              have c12b1 : (((rd_L1 t497 x7_1).length : Int) != 0) = false := bne_eq_false_iff_eq.mpr c12
              clear c12
              obtain rfl := Option.some.inj H
              obtain ⟨Ao13, co13, eo13⟩ := Kd.S_slice HO_4.out
              subst eo13
              have p503 : 0 ≤ (x7_1 : Int) := of_decide_eq_true (by first | (with_reducible assumption) | assumption)
              have q503 : x7_1 < (t497.length : Int) := of_decide_eq_true (by first | (with_reducible assumption) | assumption)
              obtain ⟨ad503, A503_0, c503_0, e503, hx503_0, hl503_0, hi503_0⟩ := at_L1 (Kd.S_reads' HO_4.out).2.2 x7_1 p503 q503
              cases e503
              obtain ⟨ce503, hce503, hMe503, hcc503⟩ := Kd.S_get HO_4.out [] x7_1 p503 (by first | exact q503 | exact of_decide_eq_true (by first | (with_reducible assumption) | assumption) | (have e_ := (Kd.S_reads' HO_4.out).1; omega))
              obtain ⟨ve503_0, rfl, ge503_0⟩ := hMe503
              have hv503_0 := hcc503 0 _ rfl
              rw [Nat.add_zero, show ((Kd.slice 3 (Kd.int .i64))).sz = 1 from rfl, Nat.mul_one] at hv503_0
              replace hv503_0 := Option.some.inj (hv503_0.symm.trans hx503_0)
              rw [hv503_0] at ge503_0
              have HL503_0 := Aside0.mk (show Kd.R (Kd.int .i64) 3 _ _ _ _ (rd_L1 t497 x7_1) from ge503_0)
              clear hv503_0 ge503_0
              clear hcc503 hce503
              have HR503_0 := Aside0.mk hi503_0
              have HC503_0 := Aside0.mk hl503_0
              clear hi503_0 hl503_0
              replace p503 := eq_true p503
              replace q503 := eq_true q503
              go_wp2
              go_ret
              exact ⟨by first | rfl | (simp [errW_none, errW_some] <;> rfl) | (simp [*, errW_none, errW_some] <;> rfl) | (exfalso; (try simp_all); (try omega); done), by repeat (first | (with_reducible first | exact HB.out | apply below_alloc | apply pw_below_drewN | apply below_drew1) | exact HB.out)⟩
            · rw [if_neg c12] at H
              have c12b0 : (((rd_L1 t497 x7_1).length : Int) == 0) = false := beq_eq_false_iff_ne.mpr c12
              have c12b1 : (((rd_L1 t497 x7_1).length : Int) != 0) = true := bne_iff_ne.mpr c12
              have c12b2 : ¬ ((rd_L1 t497 x7_1) = []) := fun h_ => c12 (by rw [h_]; rfl)
              have H' := Aside0.mk H
              clear H
              obtain ⟨Ao14, co14, eo14⟩ := Kd.S_slice HO_4.out
              subst eo14
              have p503 : 0 ≤ (x7_1 : Int) := of_decide_eq_true (by first | (with_reducible assumption) | assumption)
              have q503 : x7_1 < (t497.length : Int) := of_decide_eq_true (by first | (with_reducible assumption) | assumption)
              obtain ⟨ad503, A503_0, c503_0, e503, hx503_0, hl503_0, hi503_0⟩ := at_L1 (Kd.S_reads' HO_4.out).2.2 x7_1 p503 q503
              cases e503
              obtain ⟨ce503, hce503, hMe503, hcc503⟩ := Kd.S_get HO_4.out [] x7_1 p503 (by first | exact q503 | exact of_decide_eq_true (by first | (with_reducible assumption) | assumption) | (have e_ := (Kd.S_reads' HO_4.out).1; omega))
              obtain ⟨ve503_0, rfl, ge503_0⟩ := hMe503
              have hv503_0 := hcc503 0 _ rfl
              rw [Nat.add_zero, show ((Kd.slice 3 (Kd.int .i64))).sz = 1 from rfl, Nat.mul_one] at hv503_0
              replace hv503_0 := Option.some.inj (hv503_0.symm.trans hx503_0)
              rw [hv503_0] at ge503_0
              have HL503_0 := Aside0.mk (show Kd.R (Kd.int .i64) 3 _ _ _ _ (rd_L1 t497 x7_1) from ge503_0)
              clear hv503_0 ge503_0
              clear hcc503 hce503
              have HR503_0 := Aside0.mk hi503_0
              have HC503_0 := Aside0.mk hl503_0
              clear hi503_0 hl503_0
              replace p503 := eq_true p503
              replace q503 := eq_true q503
              have p504 : 0 ≤ (x7_1 : Int) := of_decide_eq_true (by first | (with_reducible assumption) | assumption)
              have q504 : x7_1 < (t497.length : Int) := of_decide_eq_true (by first | (with_reducible assumption) | assumption)
              obtain ⟨ad504, A504_0, c504_0, e504, hx504_0, hl504_0, hi504_0⟩ := at_L1 (Kd.S_reads' HO_4.out).2.2 x7_1 p504 q504
              obtain rfl : ad503 = ad504 := (by injection e504)
              obtain ⟨ce504, hce504, hMe504, hcc504⟩ := Kd.S_get HO_4.out [] x7_1 p504 (by first | exact q504 | exact of_decide_eq_true (by first | (with_reducible assumption) | assumption) | (have e_ := (Kd.S_reads' HO_4.out).1; omega))
              obtain ⟨ve504_0, rfl, ge504_0⟩ := hMe504
              have hv504_0 := hcc504 0 _ rfl
              rw [Nat.add_zero, show ((Kd.slice 3 (Kd.int .i64))).sz = 1 from rfl, Nat.mul_one] at hv504_0
              replace hv504_0 := Option.some.inj (hv504_0.symm.trans hx504_0)
              rw [hv504_0] at ge504_0
              have HL504_0 := Aside0.mk (show Kd.R (Kd.int .i64) 3 _ _ _ _ (rd_L1 t497 x7_1) from ge504_0)
              clear hv504_0 ge504_0
              clear hcc504 hce504
              have HR504_0 := Aside0.mk hi504_0
              have HC504_0 := Aside0.mk hl504_0
              clear hi504_0 hl504_0
              replace p504 := eq_true p504
              replace q504 := eq_true q504
              have ea_ := Option.some.inj (hx503_0.symm.trans hx504_0)
              injection ea_ with ea_ en_ ec_
              subst ea_
              subst ec_
              clear en_
              go_wp2
              go_loopg [8] k1 (fun kq v8 w' => ∃ (x8_2 : Int), v8 = .int .i64 x8_2 ∧ Aside0 (bywashlaw12_RankLevels.l1 kq l0 t495 t497 t500 (wrap64 (x6_1 + ((rd_L1 t497 x7_1).length : Int))) x7_1 x8_2 = some r) ∧ Aside0 (kq ≤ k1) ∧ Aside0 (Kd.S (Kd.slice 3 (Kd.int .i64)) 32 w' w.heap.size (fun k_ => some k_ ≠ (v501 : Value).ownBlock) (.slice (some ad503) t497.length co14) t497) ∧ Aside0 (Kd.R (Kd.int .i64) 3 w' w.heap.size (fun _ => True) v501 t500) ∧ Aside0 (Kd.C (Kd.int .i64) w' A503_0 (rd_L1 t497 x7_1).length (rd_L1 t497 x7_1)) ∧ Aside0 (Kd.C (Kd.int .i64) w' A503_0 (rd_L1 t497 x7_1).length (rd_L1 t497 x7_1)) ∧ Aside0 (Below w.heap.size w w'))
              case atStart => exact ⟨(0), (by first | rfl | (simp; done) | (simp [*]; done)), H', ⟨Nat.le_refl _⟩, ⟨by (with_reducible repeat (first | apply Kd.S_alloc | apply Kd.S_drewN | apply Kd.S_drew)); exact HO_4.out⟩, ⟨by (with_reducible repeat (first | apply Kd.R_alloc | apply Kd.R_drewN | apply Kd.R_drew)); exact HO_5.out⟩, ⟨by repeat (first | (with_reducible exact HR503_0.out) | (with_reducible refine Kd.C_alloc ?_ _) | (with_reducible refine Kd.C_drewN ?_ _) | (with_reducible refine Kd.C_drew ?_) | exact HR503_0.out)⟩, ⟨by repeat (first | (with_reducible exact HR504_0.out) | (with_reducible refine Kd.C_alloc ?_ _) | (with_reducible refine Kd.C_drewN ?_ _) | (with_reducible refine Kd.C_drew ?_) | exact HR504_0.out)⟩, ⟨by repeat (first | (with_reducible first | exact HB.out | apply below_alloc | apply pw_below_drewN | apply below_drew1) | exact HB.out)⟩⟩
              case round =>
                clear H'
                try clear c1
                try clear p2
                try clear c4
                try clear c5
                try clear p5
                try clear q5
                try clear hx5
                try clear p6
                try clear c10
                try clear c10b0
                try clear c11
                try clear c11b0
                try clear c12
                try clear c12b0
                try clear c12b1
                try clear c12b2
                try clear c14
                try clear hx503_0
                try clear hx504_0
                try clear p2
                try clear p503
                try clear p504
                try clear q503
                try clear q504
                obtain ⟨x8_2, rfl, HA, HK2, HO_4, HO_5, HR503_0, HR504_0, HB⟩ := hrel
                cases gk with
                | zero => exact absurd HA.out (by simp [bywashlaw12_RankLevels.l1])
                | succ k2 =>
                  have H := HA.out
                  clear HA
                  simp only [bywashlaw12_RankLevels.l1] at H
                  by_cases c15 : 0 ≤ x7_1
                  · rw [if_pos c15] at H
                    have c15b0 : decide (0 ≤ x7_1) = true := decide_eq_true c15
                    clear c15
                    by_cases c16 : x7_1 < (t497.length : Int)
                    · rw [if_pos c16] at H
                      have c16b0 : decide (x7_1 < (t497.length : Int)) = true := decide_eq_true c16
                      clear c16
                      by_cases c17 : x8_2 < ((rd_L1 t497 x7_1).length : Int)
                      · rw [if_pos c17] at H
                        have c17b0 : decide (x8_2 < ((rd_L1 t497 x7_1).length : Int)) = true := decide_eq_true c17
                        clear c17
                        by_cases c18 : 0 ≤ x8_2
                        · rw [if_pos c18] at H
                          have c18b0 : decide (0 ≤ x8_2) = true := decide_eq_true c18
                          clear c18
                          by_cases c19 : (rd (rd_L1 t497 x7_1) x8_2) < 0
                          · rw [if_pos c19] at H
                            have c19b0 : decide ((rd (rd_L1 t497 x7_1) x8_2) < 0) = true := decide_eq_true c19
                            clear c19
                            obtain rfl := Option.some.inj H
                            have p505 : 0 ≤ (x7_1 : Int) := of_decide_eq_true (by first | (with_reducible assumption) | assumption)
                            have q505 : x7_1 < (t497.length : Int) := of_decide_eq_true (by first | (with_reducible assumption) | assumption)
                            obtain ⟨ad505, A505_0, c505_0, e505, hx505_0, hl505_0, hi505_0⟩ := at_L1 (Kd.S_reads' HO_4.out).2.2 x7_1 p505 q505
                            obtain rfl : ad503 = ad505 := (by injection e505)
                            obtain ⟨ce505, hce505, hMe505, hcc505⟩ := Kd.S_get HO_4.out [] x7_1 p505 (by first | exact q505 | exact of_decide_eq_true (by first | (with_reducible assumption) | assumption) | (have e_ := (Kd.S_reads' HO_4.out).1; omega))
                            obtain ⟨ve505_0, rfl, ge505_0⟩ := hMe505
                            have hv505_0 := hcc505 0 _ rfl
                            rw [Nat.add_zero, show ((Kd.slice 3 (Kd.int .i64))).sz = 1 from rfl, Nat.mul_one] at hv505_0
                            replace hv505_0 := Option.some.inj (hv505_0.symm.trans hx505_0)
                            rw [hv505_0] at ge505_0
                            have HL505_0 := Aside0.mk (show Kd.R (Kd.int .i64) 3 _ _ _ _ (rd_L1 t497 x7_1) from ge505_0)
                            clear hv505_0 ge505_0
                            clear hcc505 hce505
                            have HR505_0 := Aside0.mk hi505_0
                            have HC505_0 := Aside0.mk hl505_0
                            clear hi505_0 hl505_0
                            replace p505 := eq_true p505
                            replace q505 := eq_true q505
                            have p506 : 0 ≤ (x7_1 : Int) := of_decide_eq_true (by first | (with_reducible assumption) | assumption)
                            have q506 : x7_1 < (t497.length : Int) := of_decide_eq_true (by first | (with_reducible assumption) | assumption)
                            obtain ⟨ad506, A506_0, c506_0, e506, hx506_0, hl506_0, hi506_0⟩ := at_L1 (Kd.S_reads' HO_4.out).2.2 x7_1 p506 q506
                            obtain rfl : ad503 = ad506 := (by injection e506)
                            obtain ⟨ce506, hce506, hMe506, hcc506⟩ := Kd.S_get HO_4.out [] x7_1 p506 (by first | exact q506 | exact of_decide_eq_true (by first | (with_reducible assumption) | assumption) | (have e_ := (Kd.S_reads' HO_4.out).1; omega))
                            obtain ⟨ve506_0, rfl, ge506_0⟩ := hMe506
                            have hv506_0 := hcc506 0 _ rfl
                            rw [Nat.add_zero, show ((Kd.slice 3 (Kd.int .i64))).sz = 1 from rfl, Nat.mul_one] at hv506_0
                            replace hv506_0 := Option.some.inj (hv506_0.symm.trans hx506_0)
                            rw [hv506_0] at ge506_0
                            have HL506_0 := Aside0.mk (show Kd.R (Kd.int .i64) 3 _ _ _ _ (rd_L1 t497 x7_1) from ge506_0)
                            clear hv506_0 ge506_0
                            clear hcc506 hce506
                            have HR506_0 := Aside0.mk hi506_0
                            have HC506_0 := Aside0.mk hl506_0
                            clear hi506_0 hl506_0
                            replace p506 := eq_true p506
                            replace q506 := eq_true q506
                            have ea_ := Option.some.inj (hx505_0.symm.trans hx506_0)
                            injection ea_ with ea_ en_ ec_
                            subst ea_
                            subst ec_
                            clear en_
                            have p507 : 0 ≤ (x8_2 : Int) := of_decide_eq_true (by first | (with_reducible assumption) | assumption)
                            have q507 : x8_2 < ((rd_L1 t497 x7_1).length : Int) := of_decide_eq_true (by first | (with_reducible assumption) | assumption)
                            obtain ⟨ad507, e507, hx507_0⟩ := Kd.at_int (by repeat (first | (with_reducible exact HR506_0.out) | (with_reducible refine Kd.C_alloc ?_ _) | (with_reducible refine Kd.C_drewN ?_ _) | (with_reducible refine Kd.C_drew ?_) | exact HR506_0.out)) x8_2 p507 q507
                            cases e507
                            replace p507 := eq_true p507
                            replace q507 := eq_true q507
                            go_wp2
                            go_ret
                            exact ⟨by first | rfl | (simp [errW_none, errW_some] <;> rfl) | (simp [*, errW_none, errW_some] <;> rfl) | (exfalso; (try simp_all); (try omega); done), by repeat (first | (with_reducible first | exact HB.out | apply below_alloc | apply pw_below_drewN | apply below_drew1) | exact HB.out)⟩
                          · rw [if_neg c19] at H
                            have c19b0 : decide ((rd (rd_L1 t497 x7_1) x8_2) < 0) = false := decide_eq_false c19
                            clear c19
                            by_cases c20 : (rd (rd_L1 t497 x7_1) x8_2) ≥ (t500.length : Int)
                            · rw [if_pos c20] at H
                              have c20b0 : decide ((t500.length : Int) ≤ (rd (rd_L1 t497 x7_1) x8_2)) = true := decide_eq_true c20
                              clear c20
                              obtain rfl := Option.some.inj H
                              have p505 : 0 ≤ (x7_1 : Int) := of_decide_eq_true (by first | (with_reducible assumption) | assumption)
                              have q505 : x7_1 < (t497.length : Int) := of_decide_eq_true (by first | (with_reducible assumption) | assumption)
                              obtain ⟨ad505, A505_0, c505_0, e505, hx505_0, hl505_0, hi505_0⟩ := at_L1 (Kd.S_reads' HO_4.out).2.2 x7_1 p505 q505
                              obtain rfl : ad503 = ad505 := (by injection e505)
                              obtain ⟨ce505, hce505, hMe505, hcc505⟩ := Kd.S_get HO_4.out [] x7_1 p505 (by first | exact q505 | exact of_decide_eq_true (by first | (with_reducible assumption) | assumption) | (have e_ := (Kd.S_reads' HO_4.out).1; omega))
                              obtain ⟨ve505_0, rfl, ge505_0⟩ := hMe505
                              have hv505_0 := hcc505 0 _ rfl
                              rw [Nat.add_zero, show ((Kd.slice 3 (Kd.int .i64))).sz = 1 from rfl, Nat.mul_one] at hv505_0
                              replace hv505_0 := Option.some.inj (hv505_0.symm.trans hx505_0)
                              rw [hv505_0] at ge505_0
                              have HL505_0 := Aside0.mk (show Kd.R (Kd.int .i64) 3 _ _ _ _ (rd_L1 t497 x7_1) from ge505_0)
                              clear hv505_0 ge505_0
                              clear hcc505 hce505
                              have HR505_0 := Aside0.mk hi505_0
                              have HC505_0 := Aside0.mk hl505_0
                              clear hi505_0 hl505_0
                              replace p505 := eq_true p505
                              replace q505 := eq_true q505
                              have p506 : 0 ≤ (x7_1 : Int) := of_decide_eq_true (by first | (with_reducible assumption) | assumption)
                              have q506 : x7_1 < (t497.length : Int) := of_decide_eq_true (by first | (with_reducible assumption) | assumption)
                              obtain ⟨ad506, A506_0, c506_0, e506, hx506_0, hl506_0, hi506_0⟩ := at_L1 (Kd.S_reads' HO_4.out).2.2 x7_1 p506 q506
                              obtain rfl : ad503 = ad506 := (by injection e506)
                              obtain ⟨ce506, hce506, hMe506, hcc506⟩ := Kd.S_get HO_4.out [] x7_1 p506 (by first | exact q506 | exact of_decide_eq_true (by first | (with_reducible assumption) | assumption) | (have e_ := (Kd.S_reads' HO_4.out).1; omega))
                              obtain ⟨ve506_0, rfl, ge506_0⟩ := hMe506
                              have hv506_0 := hcc506 0 _ rfl
                              rw [Nat.add_zero, show ((Kd.slice 3 (Kd.int .i64))).sz = 1 from rfl, Nat.mul_one] at hv506_0
                              replace hv506_0 := Option.some.inj (hv506_0.symm.trans hx506_0)
                              rw [hv506_0] at ge506_0
                              have HL506_0 := Aside0.mk (show Kd.R (Kd.int .i64) 3 _ _ _ _ (rd_L1 t497 x7_1) from ge506_0)
                              clear hv506_0 ge506_0
                              clear hcc506 hce506
                              have HR506_0 := Aside0.mk hi506_0
                              have HC506_0 := Aside0.mk hl506_0
                              clear hi506_0 hl506_0
                              replace p506 := eq_true p506
                              replace q506 := eq_true q506
                              have ea_ := Option.some.inj (hx505_0.symm.trans hx506_0)
                              injection ea_ with ea_ en_ ec_
                              subst ea_
                              subst ec_
                              clear en_
                              have p507 : 0 ≤ (x8_2 : Int) := of_decide_eq_true (by first | (with_reducible assumption) | assumption)
                              have q507 : x8_2 < ((rd_L1 t497 x7_1).length : Int) := of_decide_eq_true (by first | (with_reducible assumption) | assumption)
                              obtain ⟨ad507, e507, hx507_0⟩ := Kd.at_int (by repeat (first | (with_reducible exact HR506_0.out) | (with_reducible refine Kd.C_alloc ?_ _) | (with_reducible refine Kd.C_drewN ?_ _) | (with_reducible refine Kd.C_drew ?_) | exact HR506_0.out)) x8_2 p507 q507
                              cases e507
                              replace p507 := eq_true p507
                              replace q507 := eq_true q507
                              obtain ⟨Ao21, co21, eo21⟩ := Kd.R_slice HO_5.out
                              subst eo21
                              go_wp2
                              go_ret
                              exact ⟨by first | rfl | (simp [errW_none, errW_some] <;> rfl) | (simp [*, errW_none, errW_some] <;> rfl) | (exfalso; (try simp_all); (try omega); done), by repeat (first | (with_reducible first | exact HB.out | apply below_alloc | apply pw_below_drewN | apply below_drew1) | exact HB.out)⟩
                            · rw [if_neg c20] at H
                              have c20b0 : decide ((t500.length : Int) ≤ (rd (rd_L1 t497 x7_1) x8_2)) = false := decide_eq_false c20
                              clear c20
                              by_cases c22 : 0 ≤ (rd (rd_L1 t497 x7_1) x8_2)
                              · rw [if_pos c22] at H
                                have c22b0 : decide (0 ≤ (rd (rd_L1 t497 x7_1) x8_2)) = true := decide_eq_true c22
                                clear c22
                                by_cases c23 : (rd (rd_L1 t497 x7_1) x8_2) < (t500.length : Int)
                                · rw [if_pos c23] at H
                                  have c23b0 : decide ((rd (rd_L1 t497 x7_1) x8_2) < (t500.length : Int)) = true := decide_eq_true c23
                                  clear c23
                                  by_cases c24 : (rd t500 (rd (rd_L1 t497 x7_1) x8_2)) = x7_1
                                  · rw [if_pos c24] at H
                                    have c24b0 : ((rd t500 (rd (rd_L1 t497 x7_1) x8_2)) == x7_1) = true := beq_iff_eq.mpr c24
                                    have c24b1 : ((rd t500 (rd (rd_L1 t497 x7_1) x8_2)) != x7_1) = false := bne_eq_false_iff_eq.mpr c24
                                    clear c24
                                    by_cases c25 : x8_2 > 0
                                    · rw [if_pos c25] at H
                                      have c25b0 : decide (0 < x8_2) = true := decide_eq_true c25
                                      clear c25
                                      obtain ⟨ji26, hji26⟩ : ∃ j_ : Int, (wrap64 (x8_2 - 1)) = j_ := ⟨_, rfl⟩
                                      replace H : (if 0 ≤ (ji26) then (if (ji26) < ((rd_L1 t497 x7_1).length : Int) then (if (rd (rd_L1 t497 x7_1) x8_2) ≤ (rd (rd_L1 t497 x7_1) (ji26)) then (some false) else (bywashlaw12_RankLevels.l1 k2 l0 t495 t497 t500 (wrap64 (x6_1 + ((rd_L1 t497 x7_1).length : Int))) x7_1 (wrap64 (x8_2 + 1)))) else (none)) else (none)) = some r := by first | (rw [hji26] at H; exact H) | (simp only [hji26] at H ⊢; exact H)
                                      have hji26w : (IntKind.i64.wrap (x8_2 - 1)) = ji26 := (i64_w _).trans hji26
                                      by_cases c27 : 0 ≤ (ji26)
                                      · rw [if_pos c27] at H
                                        have c27b0 : decide (0 ≤ (ji26)) = true := decide_eq_true c27
                                        clear c27
                                        by_cases c28 : (ji26) < ((rd_L1 t497 x7_1).length : Int)
                                        · rw [if_pos c28] at H
                                          have c28b0 : decide ((ji26) < ((rd_L1 t497 x7_1).length : Int)) = true := decide_eq_true c28
                                          clear c28
                                          by_cases c29 : (rd (rd_L1 t497 x7_1) x8_2) ≤ (rd (rd_L1 t497 x7_1) (ji26))
                                          · rw [if_pos c29] at H
                                            have c29b0 : decide ((rd (rd_L1 t497 x7_1) x8_2) ≤ (rd (rd_L1 t497 x7_1) (ji26))) = true := decide_eq_true c29
                                            clear c29
                                            obtain rfl := Option.some.inj H
                                            have p505 : 0 ≤ (x7_1 : Int) := of_decide_eq_true (by first | (with_reducible assumption) | assumption)
                                            have q505 : x7_1 < (t497.length : Int) := of_decide_eq_true (by first | (with_reducible assumption) | assumption)
                                            obtain ⟨ad505, A505_0, c505_0, e505, hx505_0, hl505_0, hi505_0⟩ := at_L1 (Kd.S_reads' HO_4.out).2.2 x7_1 p505 q505
                                            obtain rfl : ad503 = ad505 := (by injection e505)
                                            obtain ⟨ce505, hce505, hMe505, hcc505⟩ := Kd.S_get HO_4.out [] x7_1 p505 (by first | exact q505 | exact of_decide_eq_true (by first | (with_reducible assumption) | assumption) | (have e_ := (Kd.S_reads' HO_4.out).1; omega))
                                            obtain ⟨ve505_0, rfl, ge505_0⟩ := hMe505
                                            have hv505_0 := hcc505 0 _ rfl
                                            rw [Nat.add_zero, show ((Kd.slice 3 (Kd.int .i64))).sz = 1 from rfl, Nat.mul_one] at hv505_0
                                            replace hv505_0 := Option.some.inj (hv505_0.symm.trans hx505_0)
                                            rw [hv505_0] at ge505_0
                                            have HL505_0 := Aside0.mk (show Kd.R (Kd.int .i64) 3 _ _ _ _ (rd_L1 t497 x7_1) from ge505_0)
                                            clear hv505_0 ge505_0
                                            clear hcc505 hce505
                                            have HR505_0 := Aside0.mk hi505_0
                                            have HC505_0 := Aside0.mk hl505_0
                                            clear hi505_0 hl505_0
                                            replace p505 := eq_true p505
                                            replace q505 := eq_true q505
                                            have p506 : 0 ≤ (x7_1 : Int) := of_decide_eq_true (by first | (with_reducible assumption) | assumption)
                                            have q506 : x7_1 < (t497.length : Int) := of_decide_eq_true (by first | (with_reducible assumption) | assumption)
                                            obtain ⟨ad506, A506_0, c506_0, e506, hx506_0, hl506_0, hi506_0⟩ := at_L1 (Kd.S_reads' HO_4.out).2.2 x7_1 p506 q506
                                            obtain rfl : ad503 = ad506 := (by injection e506)
                                            obtain ⟨ce506, hce506, hMe506, hcc506⟩ := Kd.S_get HO_4.out [] x7_1 p506 (by first | exact q506 | exact of_decide_eq_true (by first | (with_reducible assumption) | assumption) | (have e_ := (Kd.S_reads' HO_4.out).1; omega))
                                            obtain ⟨ve506_0, rfl, ge506_0⟩ := hMe506
                                            have hv506_0 := hcc506 0 _ rfl
                                            rw [Nat.add_zero, show ((Kd.slice 3 (Kd.int .i64))).sz = 1 from rfl, Nat.mul_one] at hv506_0
                                            replace hv506_0 := Option.some.inj (hv506_0.symm.trans hx506_0)
                                            rw [hv506_0] at ge506_0
                                            have HL506_0 := Aside0.mk (show Kd.R (Kd.int .i64) 3 _ _ _ _ (rd_L1 t497 x7_1) from ge506_0)
                                            clear hv506_0 ge506_0
                                            clear hcc506 hce506
                                            have HR506_0 := Aside0.mk hi506_0
                                            have HC506_0 := Aside0.mk hl506_0
                                            clear hi506_0 hl506_0
                                            replace p506 := eq_true p506
                                            replace q506 := eq_true q506
                                            have ea_ := Option.some.inj (hx505_0.symm.trans hx506_0)
                                            injection ea_ with ea_ en_ ec_
                                            subst ea_
                                            subst ec_
                                            clear en_
                                            have p507 : 0 ≤ (x8_2 : Int) := of_decide_eq_true (by first | (with_reducible assumption) | assumption)
                                            have q507 : x8_2 < ((rd_L1 t497 x7_1).length : Int) := of_decide_eq_true (by first | (with_reducible assumption) | assumption)
                                            obtain ⟨ad507, e507, hx507_0⟩ := Kd.at_int (by repeat (first | (with_reducible exact HR506_0.out) | (with_reducible refine Kd.C_alloc ?_ _) | (with_reducible refine Kd.C_drewN ?_ _) | (with_reducible refine Kd.C_drew ?_) | exact HR506_0.out)) x8_2 p507 q507
                                            cases e507
                                            replace p507 := eq_true p507
                                            replace q507 := eq_true q507
                                            obtain ⟨Ao30, co30, eo30⟩ := Kd.R_slice HO_5.out
                                            subst eo30
                                            have p508 : 0 ≤ ((rd (rd_L1 t497 x7_1) x8_2) : Int) := of_decide_eq_true (by first | (with_reducible assumption) | assumption)
                                            have q508 : (rd (rd_L1 t497 x7_1) x8_2) < (t500.length : Int) := of_decide_eq_true (by first | (with_reducible assumption) | assumption)
                                            obtain ⟨ad508, e508, hx508_0⟩ := Kd.at_int (Kd.R_reads' HO_5.out).2.2 (rd (rd_L1 t497 x7_1) x8_2) p508 q508
                                            cases e508
                                            replace p508 := eq_true p508
                                            replace q508 := eq_true q508
                                            have p509 : 0 ≤ (x7_1 : Int) := of_decide_eq_true (by first | (with_reducible assumption) | assumption)
                                            have q509 : x7_1 < (t497.length : Int) := of_decide_eq_true (by first | (with_reducible assumption) | assumption)
                                            obtain ⟨ad509, A509_0, c509_0, e509, hx509_0, hl509_0, hi509_0⟩ := at_L1 (Kd.S_reads' HO_4.out).2.2 x7_1 p509 q509
                                            obtain rfl : ad503 = ad509 := (by injection e509)
                                            obtain ⟨ce509, hce509, hMe509, hcc509⟩ := Kd.S_get HO_4.out [] x7_1 p509 (by first | exact q509 | exact of_decide_eq_true (by first | (with_reducible assumption) | assumption) | (have e_ := (Kd.S_reads' HO_4.out).1; omega))
                                            obtain ⟨ve509_0, rfl, ge509_0⟩ := hMe509
                                            have hv509_0 := hcc509 0 _ rfl
                                            rw [Nat.add_zero, show ((Kd.slice 3 (Kd.int .i64))).sz = 1 from rfl, Nat.mul_one] at hv509_0
                                            replace hv509_0 := Option.some.inj (hv509_0.symm.trans hx509_0)
                                            rw [hv509_0] at ge509_0
                                            have HL509_0 := Aside0.mk (show Kd.R (Kd.int .i64) 3 _ _ _ _ (rd_L1 t497 x7_1) from ge509_0)
                                            clear hv509_0 ge509_0
                                            clear hcc509 hce509
                                            have HR509_0 := Aside0.mk hi509_0
                                            have HC509_0 := Aside0.mk hl509_0
                                            clear hi509_0 hl509_0
                                            replace p509 := eq_true p509
                                            replace q509 := eq_true q509
                                            have ea_ := Option.some.inj (hx505_0.symm.trans hx509_0)
                                            injection ea_ with ea_ en_ ec_
                                            subst ea_
                                            subst ec_
                                            clear en_
                                            have p510 : 0 ≤ ((ji26) : Int) := of_decide_eq_true (by first | (with_reducible assumption) | assumption)
                                            have q510 : (ji26) < ((rd_L1 t497 x7_1).length : Int) := of_decide_eq_true (by first | (with_reducible assumption) | assumption)
                                            obtain ⟨ad510, e510, hx510_0⟩ := Kd.at_int (by repeat (first | (with_reducible exact HR509_0.out) | (with_reducible refine Kd.C_alloc ?_ _) | (with_reducible refine Kd.C_drewN ?_ _) | (with_reducible refine Kd.C_drew ?_) | exact HR509_0.out)) (ji26) p510 q510
                                            cases e510
                                            replace p510 := eq_true p510
                                            replace q510 := eq_true q510
                                            go_wp2
                                            go_ret
                                            exact ⟨by first | rfl | (simp [errW_none, errW_some] <;> rfl) | (simp only [← hji26]; first | rfl | (simp [errW_none, errW_some] <;> rfl)) | (simp [*, errW_none, errW_some] <;> rfl) | (exfalso; (try simp_all); (try omega); done), by repeat (first | (with_reducible first | exact HB.out | apply below_alloc | apply pw_below_drewN | apply below_drew1) | exact HB.out)⟩
                                          · rw [if_neg c29] at H
                                            have c29b0 : decide ((rd (rd_L1 t497 x7_1) x8_2) ≤ (rd (rd_L1 t497 x7_1) (ji26))) = false := decide_eq_false c29
                                            clear c29
                                            have H' := Aside0.mk H
                                            clear H
                                            have p505 : 0 ≤ (x7_1 : Int) := of_decide_eq_true (by first | (with_reducible assumption) | assumption)
                                            have q505 : x7_1 < (t497.length : Int) := of_decide_eq_true (by first | (with_reducible assumption) | assumption)
                                            obtain ⟨ad505, A505_0, c505_0, e505, hx505_0, hl505_0, hi505_0⟩ := at_L1 (Kd.S_reads' HO_4.out).2.2 x7_1 p505 q505
                                            obtain rfl : ad503 = ad505 := (by injection e505)
                                            obtain ⟨ce505, hce505, hMe505, hcc505⟩ := Kd.S_get HO_4.out [] x7_1 p505 (by first | exact q505 | exact of_decide_eq_true (by first | (with_reducible assumption) | assumption) | (have e_ := (Kd.S_reads' HO_4.out).1; omega))
                                            obtain ⟨ve505_0, rfl, ge505_0⟩ := hMe505
                                            have hv505_0 := hcc505 0 _ rfl
                                            rw [Nat.add_zero, show ((Kd.slice 3 (Kd.int .i64))).sz = 1 from rfl, Nat.mul_one] at hv505_0
                                            replace hv505_0 := Option.some.inj (hv505_0.symm.trans hx505_0)
                                            rw [hv505_0] at ge505_0
                                            have HL505_0 := Aside0.mk (show Kd.R (Kd.int .i64) 3 _ _ _ _ (rd_L1 t497 x7_1) from ge505_0)
                                            clear hv505_0 ge505_0
                                            clear hcc505 hce505
                                            have HR505_0 := Aside0.mk hi505_0
                                            have HC505_0 := Aside0.mk hl505_0
                                            clear hi505_0 hl505_0
                                            replace p505 := eq_true p505
                                            replace q505 := eq_true q505
                                            have p506 : 0 ≤ (x7_1 : Int) := of_decide_eq_true (by first | (with_reducible assumption) | assumption)
                                            have q506 : x7_1 < (t497.length : Int) := of_decide_eq_true (by first | (with_reducible assumption) | assumption)
                                            obtain ⟨ad506, A506_0, c506_0, e506, hx506_0, hl506_0, hi506_0⟩ := at_L1 (Kd.S_reads' HO_4.out).2.2 x7_1 p506 q506
                                            obtain rfl : ad503 = ad506 := (by injection e506)
                                            obtain ⟨ce506, hce506, hMe506, hcc506⟩ := Kd.S_get HO_4.out [] x7_1 p506 (by first | exact q506 | exact of_decide_eq_true (by first | (with_reducible assumption) | assumption) | (have e_ := (Kd.S_reads' HO_4.out).1; omega))
                                            obtain ⟨ve506_0, rfl, ge506_0⟩ := hMe506
                                            have hv506_0 := hcc506 0 _ rfl
                                            rw [Nat.add_zero, show ((Kd.slice 3 (Kd.int .i64))).sz = 1 from rfl, Nat.mul_one] at hv506_0
                                            replace hv506_0 := Option.some.inj (hv506_0.symm.trans hx506_0)
                                            rw [hv506_0] at ge506_0
                                            have HL506_0 := Aside0.mk (show Kd.R (Kd.int .i64) 3 _ _ _ _ (rd_L1 t497 x7_1) from ge506_0)
                                            clear hv506_0 ge506_0
                                            clear hcc506 hce506
                                            have HR506_0 := Aside0.mk hi506_0
                                            have HC506_0 := Aside0.mk hl506_0
                                            clear hi506_0 hl506_0
                                            replace p506 := eq_true p506
                                            replace q506 := eq_true q506
                                            have ea_ := Option.some.inj (hx505_0.symm.trans hx506_0)
                                            injection ea_ with ea_ en_ ec_
                                            subst ea_
                                            subst ec_
                                            clear en_
                                            have p507 : 0 ≤ (x8_2 : Int) := of_decide_eq_true (by first | (with_reducible assumption) | assumption)
                                            have q507 : x8_2 < ((rd_L1 t497 x7_1).length : Int) := of_decide_eq_true (by first | (with_reducible assumption) | assumption)
                                            obtain ⟨ad507, e507, hx507_0⟩ := Kd.at_int (by repeat (first | (with_reducible exact HR506_0.out) | (with_reducible refine Kd.C_alloc ?_ _) | (with_reducible refine Kd.C_drewN ?_ _) | (with_reducible refine Kd.C_drew ?_) | exact HR506_0.out)) x8_2 p507 q507
                                            cases e507
                                            replace p507 := eq_true p507
                                            replace q507 := eq_true q507
                                            obtain ⟨Ao31, co31, eo31⟩ := Kd.R_slice HO_5.out
                                            subst eo31
                                            have p508 : 0 ≤ ((rd (rd_L1 t497 x7_1) x8_2) : Int) := of_decide_eq_true (by first | (with_reducible assumption) | assumption)
                                            have q508 : (rd (rd_L1 t497 x7_1) x8_2) < (t500.length : Int) := of_decide_eq_true (by first | (with_reducible assumption) | assumption)
                                            obtain ⟨ad508, e508, hx508_0⟩ := Kd.at_int (Kd.R_reads' HO_5.out).2.2 (rd (rd_L1 t497 x7_1) x8_2) p508 q508
                                            cases e508
                                            replace p508 := eq_true p508
                                            replace q508 := eq_true q508
                                            have p509 : 0 ≤ (x7_1 : Int) := of_decide_eq_true (by first | (with_reducible assumption) | assumption)
                                            have q509 : x7_1 < (t497.length : Int) := of_decide_eq_true (by first | (with_reducible assumption) | assumption)
                                            obtain ⟨ad509, A509_0, c509_0, e509, hx509_0, hl509_0, hi509_0⟩ := at_L1 (Kd.S_reads' HO_4.out).2.2 x7_1 p509 q509
                                            obtain rfl : ad503 = ad509 := (by injection e509)
                                            obtain ⟨ce509, hce509, hMe509, hcc509⟩ := Kd.S_get HO_4.out [] x7_1 p509 (by first | exact q509 | exact of_decide_eq_true (by first | (with_reducible assumption) | assumption) | (have e_ := (Kd.S_reads' HO_4.out).1; omega))
                                            obtain ⟨ve509_0, rfl, ge509_0⟩ := hMe509
                                            have hv509_0 := hcc509 0 _ rfl
                                            rw [Nat.add_zero, show ((Kd.slice 3 (Kd.int .i64))).sz = 1 from rfl, Nat.mul_one] at hv509_0
                                            replace hv509_0 := Option.some.inj (hv509_0.symm.trans hx509_0)
                                            rw [hv509_0] at ge509_0
                                            have HL509_0 := Aside0.mk (show Kd.R (Kd.int .i64) 3 _ _ _ _ (rd_L1 t497 x7_1) from ge509_0)
                                            clear hv509_0 ge509_0
                                            clear hcc509 hce509
                                            have HR509_0 := Aside0.mk hi509_0
                                            have HC509_0 := Aside0.mk hl509_0
                                            clear hi509_0 hl509_0
                                            replace p509 := eq_true p509
                                            replace q509 := eq_true q509
                                            have ea_ := Option.some.inj (hx505_0.symm.trans hx509_0)
                                            injection ea_ with ea_ en_ ec_
                                            subst ea_
                                            subst ec_
                                            clear en_
                                            have p510 : 0 ≤ ((ji26) : Int) := of_decide_eq_true (by first | (with_reducible assumption) | assumption)
                                            have q510 : (ji26) < ((rd_L1 t497 x7_1).length : Int) := of_decide_eq_true (by first | (with_reducible assumption) | assumption)
                                            obtain ⟨ad510, e510, hx510_0⟩ := Kd.at_int (by repeat (first | (with_reducible exact HR509_0.out) | (with_reducible refine Kd.C_alloc ?_ _) | (with_reducible refine Kd.C_drewN ?_ _) | (with_reducible refine Kd.C_drew ?_) | exact HR509_0.out)) (ji26) p510 q510
                                            cases e510
                                            replace p510 := eq_true p510
                                            replace q510 := eq_true q510
                                            go_wp2
                                            go_roundg k2
                                            case measure => have := HK1.out; have := HK2.out; omega
                                            case rel => exact ⟨(wrap64 (x8_2 + 1)), (by first | rfl | (simp; done) | (simp [*]; done)), H', ⟨by have := HK1.out; have := HK2.out; omega⟩, ⟨by (with_reducible repeat (first | apply Kd.S_alloc | apply Kd.S_drewN | apply Kd.S_drew)); exact HO_4.out⟩, ⟨by (with_reducible repeat (first | apply Kd.R_alloc | apply Kd.R_drewN | apply Kd.R_drew)); exact HO_5.out⟩, ⟨by repeat (first | (with_reducible exact HR503_0.out) | (with_reducible refine Kd.C_alloc ?_ _) | (with_reducible refine Kd.C_drewN ?_ _) | (with_reducible refine Kd.C_drew ?_) | exact HR503_0.out)⟩, ⟨by repeat (first | (with_reducible exact HR504_0.out) | (with_reducible refine Kd.C_alloc ?_ _) | (with_reducible refine Kd.C_drewN ?_ _) | (with_reducible refine Kd.C_drew ?_) | exact HR504_0.out)⟩, ⟨by repeat (first | (with_reducible first | exact HB.out | apply below_alloc | apply pw_below_drewN | apply below_drew1) | exact HB.out)⟩⟩
                                        · rw [if_neg c28] at H
                                          exact absurd H (by simp)
                                      · rw [if_neg c27] at H
                                        exact absurd H (by simp)
                                    · rw [if_neg c25] at H
                                      have c25b0 : decide (0 < x8_2) = false := decide_eq_false c25
                                      clear c25
                                      have H' := Aside0.mk H
                                      clear H
                                      have p505 : 0 ≤ (x7_1 : Int) := of_decide_eq_true (by first | (with_reducible assumption) | assumption)
                                      have q505 : x7_1 < (t497.length : Int) := of_decide_eq_true (by first | (with_reducible assumption) | assumption)
                                      obtain ⟨ad505, A505_0, c505_0, e505, hx505_0, hl505_0, hi505_0⟩ := at_L1 (Kd.S_reads' HO_4.out).2.2 x7_1 p505 q505
                                      obtain rfl : ad503 = ad505 := (by injection e505)
                                      obtain ⟨ce505, hce505, hMe505, hcc505⟩ := Kd.S_get HO_4.out [] x7_1 p505 (by first | exact q505 | exact of_decide_eq_true (by first | (with_reducible assumption) | assumption) | (have e_ := (Kd.S_reads' HO_4.out).1; omega))
                                      obtain ⟨ve505_0, rfl, ge505_0⟩ := hMe505
                                      have hv505_0 := hcc505 0 _ rfl
                                      rw [Nat.add_zero, show ((Kd.slice 3 (Kd.int .i64))).sz = 1 from rfl, Nat.mul_one] at hv505_0
                                      replace hv505_0 := Option.some.inj (hv505_0.symm.trans hx505_0)
                                      rw [hv505_0] at ge505_0
                                      have HL505_0 := Aside0.mk (show Kd.R (Kd.int .i64) 3 _ _ _ _ (rd_L1 t497 x7_1) from ge505_0)
                                      clear hv505_0 ge505_0
                                      clear hcc505 hce505
                                      have HR505_0 := Aside0.mk hi505_0
                                      have HC505_0 := Aside0.mk hl505_0
                                      clear hi505_0 hl505_0
                                      replace p505 := eq_true p505
                                      replace q505 := eq_true q505
                                      have p506 : 0 ≤ (x7_1 : Int) := of_decide_eq_true (by first | (with_reducible assumption) | assumption)
                                      have q506 : x7_1 < (t497.length : Int) := of_decide_eq_true (by first | (with_reducible assumption) | assumption)
                                      obtain ⟨ad506, A506_0, c506_0, e506, hx506_0, hl506_0, hi506_0⟩ := at_L1 (Kd.S_reads' HO_4.out).2.2 x7_1 p506 q506
                                      obtain rfl : ad503 = ad506 := (by injection e506)
                                      obtain ⟨ce506, hce506, hMe506, hcc506⟩ := Kd.S_get HO_4.out [] x7_1 p506 (by first | exact q506 | exact of_decide_eq_true (by first | (with_reducible assumption) | assumption) | (have e_ := (Kd.S_reads' HO_4.out).1; omega))
                                      obtain ⟨ve506_0, rfl, ge506_0⟩ := hMe506
                                      have hv506_0 := hcc506 0 _ rfl
                                      rw [Nat.add_zero, show ((Kd.slice 3 (Kd.int .i64))).sz = 1 from rfl, Nat.mul_one] at hv506_0
                                      replace hv506_0 := Option.some.inj (hv506_0.symm.trans hx506_0)
                                      rw [hv506_0] at ge506_0
                                      have HL506_0 := Aside0.mk (show Kd.R (Kd.int .i64) 3 _ _ _ _ (rd_L1 t497 x7_1) from ge506_0)
                                      clear hv506_0 ge506_0
                                      clear hcc506 hce506
                                      have HR506_0 := Aside0.mk hi506_0
                                      have HC506_0 := Aside0.mk hl506_0
                                      clear hi506_0 hl506_0
                                      replace p506 := eq_true p506
                                      replace q506 := eq_true q506
                                      have ea_ := Option.some.inj (hx505_0.symm.trans hx506_0)
                                      injection ea_ with ea_ en_ ec_
                                      subst ea_
                                      subst ec_
                                      clear en_
                                      have p507 : 0 ≤ (x8_2 : Int) := of_decide_eq_true (by first | (with_reducible assumption) | assumption)
                                      have q507 : x8_2 < ((rd_L1 t497 x7_1).length : Int) := of_decide_eq_true (by first | (with_reducible assumption) | assumption)
                                      obtain ⟨ad507, e507, hx507_0⟩ := Kd.at_int (by repeat (first | (with_reducible exact HR506_0.out) | (with_reducible refine Kd.C_alloc ?_ _) | (with_reducible refine Kd.C_drewN ?_ _) | (with_reducible refine Kd.C_drew ?_) | exact HR506_0.out)) x8_2 p507 q507
                                      cases e507
                                      replace p507 := eq_true p507
                                      replace q507 := eq_true q507
                                      obtain ⟨Ao32, co32, eo32⟩ := Kd.R_slice HO_5.out
                                      subst eo32
                                      have p508 : 0 ≤ ((rd (rd_L1 t497 x7_1) x8_2) : Int) := of_decide_eq_true (by first | (with_reducible assumption) | assumption)
                                      have q508 : (rd (rd_L1 t497 x7_1) x8_2) < (t500.length : Int) := of_decide_eq_true (by first | (with_reducible assumption) | assumption)
                                      obtain ⟨ad508, e508, hx508_0⟩ := Kd.at_int (Kd.R_reads' HO_5.out).2.2 (rd (rd_L1 t497 x7_1) x8_2) p508 q508
                                      cases e508
                                      replace p508 := eq_true p508
                                      replace q508 := eq_true q508
                                      go_wp2
                                      go_roundg k2
                                      case measure => have := HK1.out; have := HK2.out; omega
                                      case rel => exact ⟨(wrap64 (x8_2 + 1)), (by first | rfl | (simp; done) | (simp [*]; done)), H', ⟨by have := HK1.out; have := HK2.out; omega⟩, ⟨by (with_reducible repeat (first | apply Kd.S_alloc | apply Kd.S_drewN | apply Kd.S_drew)); exact HO_4.out⟩, ⟨by (with_reducible repeat (first | apply Kd.R_alloc | apply Kd.R_drewN | apply Kd.R_drew)); exact HO_5.out⟩, ⟨by repeat (first | (with_reducible exact HR503_0.out) | (with_reducible refine Kd.C_alloc ?_ _) | (with_reducible refine Kd.C_drewN ?_ _) | (with_reducible refine Kd.C_drew ?_) | exact HR503_0.out)⟩, ⟨by repeat (first | (with_reducible exact HR504_0.out) | (with_reducible refine Kd.C_alloc ?_ _) | (with_reducible refine Kd.C_drewN ?_ _) | (with_reducible refine Kd.C_drew ?_) | exact HR504_0.out)⟩, ⟨by repeat (first | (with_reducible first | exact HB.out | apply below_alloc | apply pw_below_drewN | apply below_drew1) | exact HB.out)⟩⟩
                                  · rw [if_neg c24] at H
                                    have c24b0 : ((rd t500 (rd (rd_L1 t497 x7_1) x8_2)) == x7_1) = false := beq_eq_false_iff_ne.mpr c24
                                    have c24b1 : ((rd t500 (rd (rd_L1 t497 x7_1) x8_2)) != x7_1) = true := bne_iff_ne.mpr c24
                                    obtain rfl := Option.some.inj H
                                    have p505 : 0 ≤ (x7_1 : Int) := of_decide_eq_true (by first | (with_reducible assumption) | assumption)
                                    have q505 : x7_1 < (t497.length : Int) := of_decide_eq_true (by first | (with_reducible assumption) | assumption)
                                    obtain ⟨ad505, A505_0, c505_0, e505, hx505_0, hl505_0, hi505_0⟩ := at_L1 (Kd.S_reads' HO_4.out).2.2 x7_1 p505 q505
                                    obtain rfl : ad503 = ad505 := (by injection e505)
                                    obtain ⟨ce505, hce505, hMe505, hcc505⟩ := Kd.S_get HO_4.out [] x7_1 p505 (by first | exact q505 | exact of_decide_eq_true (by first | (with_reducible assumption) | assumption) | (have e_ := (Kd.S_reads' HO_4.out).1; omega))
                                    obtain ⟨ve505_0, rfl, ge505_0⟩ := hMe505
                                    have hv505_0 := hcc505 0 _ rfl
                                    rw [Nat.add_zero, show ((Kd.slice 3 (Kd.int .i64))).sz = 1 from rfl, Nat.mul_one] at hv505_0
                                    replace hv505_0 := Option.some.inj (hv505_0.symm.trans hx505_0)
                                    rw [hv505_0] at ge505_0
                                    have HL505_0 := Aside0.mk (show Kd.R (Kd.int .i64) 3 _ _ _ _ (rd_L1 t497 x7_1) from ge505_0)
                                    clear hv505_0 ge505_0
                                    clear hcc505 hce505
                                    have HR505_0 := Aside0.mk hi505_0
                                    have HC505_0 := Aside0.mk hl505_0
                                    clear hi505_0 hl505_0
                                    replace p505 := eq_true p505
                                    replace q505 := eq_true q505
                                    have p506 : 0 ≤ (x7_1 : Int) := of_decide_eq_true (by first | (with_reducible assumption) | assumption)
                                    have q506 : x7_1 < (t497.length : Int) := of_decide_eq_true (by first | (with_reducible assumption) | assumption)
                                    obtain ⟨ad506, A506_0, c506_0, e506, hx506_0, hl506_0, hi506_0⟩ := at_L1 (Kd.S_reads' HO_4.out).2.2 x7_1 p506 q506
                                    obtain rfl : ad503 = ad506 := (by injection e506)
                                    obtain ⟨ce506, hce506, hMe506, hcc506⟩ := Kd.S_get HO_4.out [] x7_1 p506 (by first | exact q506 | exact of_decide_eq_true (by first | (with_reducible assumption) | assumption) | (have e_ := (Kd.S_reads' HO_4.out).1; omega))
                                    obtain ⟨ve506_0, rfl, ge506_0⟩ := hMe506
                                    have hv506_0 := hcc506 0 _ rfl
                                    rw [Nat.add_zero, show ((Kd.slice 3 (Kd.int .i64))).sz = 1 from rfl, Nat.mul_one] at hv506_0
                                    replace hv506_0 := Option.some.inj (hv506_0.symm.trans hx506_0)
                                    rw [hv506_0] at ge506_0
                                    have HL506_0 := Aside0.mk (show Kd.R (Kd.int .i64) 3 _ _ _ _ (rd_L1 t497 x7_1) from ge506_0)
                                    clear hv506_0 ge506_0
                                    clear hcc506 hce506
                                    have HR506_0 := Aside0.mk hi506_0
                                    have HC506_0 := Aside0.mk hl506_0
                                    clear hi506_0 hl506_0
                                    replace p506 := eq_true p506
                                    replace q506 := eq_true q506
                                    have ea_ := Option.some.inj (hx505_0.symm.trans hx506_0)
                                    injection ea_ with ea_ en_ ec_
                                    subst ea_
                                    subst ec_
                                    clear en_
                                    have p507 : 0 ≤ (x8_2 : Int) := of_decide_eq_true (by first | (with_reducible assumption) | assumption)
                                    have q507 : x8_2 < ((rd_L1 t497 x7_1).length : Int) := of_decide_eq_true (by first | (with_reducible assumption) | assumption)
                                    obtain ⟨ad507, e507, hx507_0⟩ := Kd.at_int (by repeat (first | (with_reducible exact HR506_0.out) | (with_reducible refine Kd.C_alloc ?_ _) | (with_reducible refine Kd.C_drewN ?_ _) | (with_reducible refine Kd.C_drew ?_) | exact HR506_0.out)) x8_2 p507 q507
                                    cases e507
                                    replace p507 := eq_true p507
                                    replace q507 := eq_true q507
                                    obtain ⟨Ao33, co33, eo33⟩ := Kd.R_slice HO_5.out
                                    subst eo33
                                    have p508 : 0 ≤ ((rd (rd_L1 t497 x7_1) x8_2) : Int) := of_decide_eq_true (by first | (with_reducible assumption) | assumption)
                                    have q508 : (rd (rd_L1 t497 x7_1) x8_2) < (t500.length : Int) := of_decide_eq_true (by first | (with_reducible assumption) | assumption)
                                    obtain ⟨ad508, e508, hx508_0⟩ := Kd.at_int (Kd.R_reads' HO_5.out).2.2 (rd (rd_L1 t497 x7_1) x8_2) p508 q508
                                    cases e508
                                    replace p508 := eq_true p508
                                    replace q508 := eq_true q508
                                    go_wp2
                                    go_ret
                                    exact ⟨by first | rfl | (simp [errW_none, errW_some] <;> rfl) | (simp [*, errW_none, errW_some] <;> rfl) | (exfalso; (try simp_all); (try omega); done), by repeat (first | (with_reducible first | exact HB.out | apply below_alloc | apply pw_below_drewN | apply below_drew1) | exact HB.out)⟩
                                · rw [if_neg c23] at H
                                  exact absurd H (by simp)
                              · rw [if_neg c22] at H
                                exact absurd H (by simp)
                        · rw [if_neg c18] at H
                          exact absurd H (by simp)
                      · rw [if_neg c17] at H
                        have c17b0 : decide (x8_2 < ((rd_L1 t497 x7_1).length : Int)) = false := decide_eq_false c17
                        clear c17
                        have H' := Aside0.mk H
                        clear H
                        have p505 : 0 ≤ (x7_1 : Int) := of_decide_eq_true (by first | (with_reducible assumption) | assumption)
                        have q505 : x7_1 < (t497.length : Int) := of_decide_eq_true (by first | (with_reducible assumption) | assumption)
                        obtain ⟨ad505, A505_0, c505_0, e505, hx505_0, hl505_0, hi505_0⟩ := at_L1 (Kd.S_reads' HO_4.out).2.2 x7_1 p505 q505
                        obtain rfl : ad503 = ad505 := (by injection e505)
                        obtain ⟨ce505, hce505, hMe505, hcc505⟩ := Kd.S_get HO_4.out [] x7_1 p505 (by first | exact q505 | exact of_decide_eq_true (by first | (with_reducible assumption) | assumption) | (have e_ := (Kd.S_reads' HO_4.out).1; omega))
                        obtain ⟨ve505_0, rfl, ge505_0⟩ := hMe505
                        have hv505_0 := hcc505 0 _ rfl
                        rw [Nat.add_zero, show ((Kd.slice 3 (Kd.int .i64))).sz = 1 from rfl, Nat.mul_one] at hv505_0
                        replace hv505_0 := Option.some.inj (hv505_0.symm.trans hx505_0)
                        rw [hv505_0] at ge505_0
                        have HL505_0 := Aside0.mk (show Kd.R (Kd.int .i64) 3 _ _ _ _ (rd_L1 t497 x7_1) from ge505_0)
                        clear hv505_0 ge505_0
                        clear hcc505 hce505
                        have HR505_0 := Aside0.mk hi505_0
                        have HC505_0 := Aside0.mk hl505_0
                        clear hi505_0 hl505_0
                        replace p505 := eq_true p505
                        replace q505 := eq_true q505
                        go_wp2
                        go_roundg k2
                        case measure => have := HK1.out; have := HK2.out; omega
                        case rel => exact ⟨((wrap64 (x6_1 + ((rd_L1 t497 x7_1).length : Int)))), (wrap64 (x7_1 + 1)), (by first | rfl | (simp; done) | (simp [*]; done)), (by first | rfl | (simp; done) | (simp [*]; done)), H', ⟨by have := HK1.out; have := HK2.out; omega⟩, ⟨by (with_reducible repeat (first | apply Kd.S_alloc | apply Kd.S_drewN | apply Kd.S_drew)); exact HO_4.out⟩, ⟨by (with_reducible repeat (first | apply Kd.R_alloc | apply Kd.R_drewN | apply Kd.R_drew)); exact HO_5.out⟩, ⟨by repeat (first | (with_reducible first | exact HB.out | apply below_alloc | apply pw_below_drewN | apply below_drew1) | exact HB.out)⟩⟩
                    · rw [if_neg c16] at H
                      exact absurd H (by simp)
                  · rw [if_neg c15] at H
                    exact absurd H (by simp)
          · rw [if_neg c11] at H
            exact absurd H (by simp)
        · rw [if_neg c10] at H
          have c10b0 : decide (x7_1 < (t497.length : Int)) = false := decide_eq_false c10
          clear c10
          by_cases c34 : t495 = true
          · subst c34
            have H1 : (some (x6_1 == (l0.length : Int))) = some r := by rw [if_pos rfl] at H; exact H
            clear H
            have H := H1
            clear H1
            obtain rfl := Option.some.inj H
            obtain ⟨Ao35, co35, eo35⟩ := Kd.S_slice HO_4.out
            subst eo35
            go_wp2
            go_ret
            exact ⟨by first | rfl | (simp [errW_none, errW_some] <;> rfl) | (simp [*, errW_none, errW_some] <;> rfl) | (exfalso; (try simp_all); (try omega); done), by repeat (first | (with_reducible first | exact HB.out | apply below_alloc | apply pw_below_drewN | apply below_drew1) | exact HB.out)⟩
          · replace c34 := Bool.eq_false_iff.mpr c34
            subst c34
            have H1 : (some false) = some r := by rw [if_neg (show ¬ (false = true) by decide)] at H; exact H
            clear H
            have H := H1
            clear H1
            obtain rfl := Option.some.inj H
            obtain ⟨Ao36, co36, eo36⟩ := Kd.S_slice HO_4.out
            subst eo36
            go_wp2
            go_ret
            exact ⟨by first | rfl | (simp [errW_none, errW_some] <;> rfl) | (simp [*, errW_none, errW_some] <;> rfl) | (exfalso; (try simp_all); (try omega); done), by repeat (first | (with_reducible first | exact HB.out | apply below_alloc | apply pw_below_drewN | apply below_drew1) | exact HB.out)⟩
  · replace c4 := Bool.eq_false_iff.mpr c4
    subst c4
    have H1 : (some t495) = some r := by rw [if_neg (show ¬ (false = true) by decide)] at H; exact H
    clear H
    have H := H1
    clear H1
    obtain rfl := Option.some.inj H
    go_enter Try.func10, Try.ntmps10
    go_wp2_with (first | ((with_reducible refine gate_callee (f := 44) rfl ?_); refine goesL_ (some 10) rfl rfl Try.func44 (by kernel_rfl) rfl #[] rfl (by (try simp only [List.map_toArray, List.map_cons, List.map_nil]); first | done | rfl | (simp only [List.length_drop, List.length_take]; rfl)) ?_; (with_reducible refine (bywashlaw12_awake.calls k  t495 _ A2.out).mono ?_); rintro e w37 ⟨rfl, hb⟩; refine ⟨_, rfl, ?_⟩; have n0_ := Aside0.mk (below_step (by repeat (first | (with_reducible first | exact HB.out | apply below_alloc | apply pw_below_drewN | apply below_drew1) | exact HB.out)) hb); clear HB; have HB := n0_; clear n0_; (try clear hb); (try clear hb2); (try clear hk); (try clear hi)) | ((with_reducible refine gate_callee (f := 14) rfl ?_); refine goesL_ (some 12) rfl rfl Try.func14 (by kernel_rfl) rfl #[.slice A0 l0.length c0] rfl (by (try simp only [List.map_toArray, List.map_cons, List.map_nil]); first | done | rfl | (simp only [List.length_drop, List.length_take]; rfl)) ?_; (with_reducible refine (bywashref10_Few.calls k _ _ l0 false _ ?side1 ?side2 A3.out).mono ?_); (case side1 => repeat (first | exact (Kd.C_below HR0.out HB.out) | (with_reducible refine Kd.C_alloc ?_ _) | (with_reducible refine Kd.C_drewN ?_ _) | (with_reducible refine Kd.C_drew ?_))); (case side2 => exact HC0.out); rintro e w' ⟨rfl, ⟨nd, rfl⟩⟩; refine ⟨_, rfl, ?_⟩))
    go_ret
    exact ⟨by first | rfl | (simp [errW_none, errW_some] <;> rfl) | (simp [*, errW_none, errW_some] <;> rfl) | (exfalso; (try simp_all); (try omega); done), by repeat (first | (with_reducible first | exact HB.out | apply below_alloc | apply pw_below_drewN | apply below_drew1) | exact HB.out)⟩
end Go.Proofs.Ytdknhgbjgdmfkaa.P
namespace Go.Proofs.Ytdknhgbjgdmfkaa.P
open Go.RowKit Go.Lib Go.Proofs.YtdknhgbjgdmfkaaW.PrintWords Go.Proofs.YtdknhgbjgdmfkaaW.PrintMore
def lvl (r : List Int) (n q : Nat) : List Int := (nodes n).filter fun a => decide (rd r a = (q : Int))
theorem lvl_succ (r : List Int) (i q : Nat) : lvl r (i + 1) q = lvl r i q ++ if rd r (i : Int) = (q : Int) then [(i : Int)] else [] := by
  unfold lvl
  rw [nodes_snoc, List.filter_append, List.filter_cons, List.filter_nil]
  by_cases e : rd r (i : Int) = (q : Int) <;> simp [e]
theorem mem_lvl {r : List Int} {n q : Nat} {a : Int} : a ∈ lvl r n q ↔ (0 ≤ a ∧ a < (n : Int)) ∧ rd r a = (q : Int) := by
  unfold lvl
  rw [List.mem_filter, mem_nodes, decide_eq_true_iff]
theorem lvl_len (r : List Int) (n q : Nat) : (lvl r n q).length ≤ n := by
  unfold lvl
  refine Nat.le_trans (List.length_filter_le _ _) ?_
  rw [nodes_len]
  exact Nat.le_refl _
structure LvP (r : List Int) (i m : Nat) (out : List (List Int)) : Prop where
  len : out.length = m
  get : ∀ q, q < m → out.getD q [] = lvl r i q
  lt : ∀ a, 0 ≤ a → a < (i : Int) → rd r a < (m : Int)
def LvTop (r : List Int) (i m : Nat) : Prop := m = 0 ∨ ∃ a, 0 ≤ a ∧ a < (i : Int) ∧ rd r a + 1 = (m : Int)
def LevQ (r : List Int) (n : Nat) (F : Nat → Option (List (List Int))) : Prop := ∃ out m, LvP r n m out ∧ LvTop r n m ∧ Ev F out
section
variable {r : List Int} {n : Nat}
theorem LevQ.step {g f : Nat → Option (List (List Int))} (h : ∀ k, g (k + 1) = f k) (q : LevQ r n f) : LevQ r n g := by
  obtain ⟨o, m, h1, h2, h3⟩ := q
  exact ⟨o, m, h1, h2, Ev.step h h3⟩
theorem LvP.more {i m : Nat} {out : List (List Int)} (h : LvP r i m out) : LvP r i (m + 1) (out ++ [[]]) := by
  refine ⟨by rw [List.length_append, h.len]; rfl, fun q hq => ?_, fun a h0 h1 => by have := h.lt a h0 h1; omega⟩
  have hl := h.len
  rw [List.getD_eq_getElem?_getD]
  by_cases e : q < m
  · rw [List.getElem?_append_left (by omega), ← List.getD_eq_getElem?_getD]
    exact h.get q e
  · obtain rfl : q = m := by omega
    rw [List.getElem?_append_right (by omega), hl, Nat.sub_self]
    refine (List.eq_nil_iff_forall_not_mem.2 fun a ha => ?_).symm
    have h2 := mem_lvl.1 ha
    have := h.lt a h2.1.1 h2.1.2
    omega
theorem LvP.put {i m R : Nat} {out : List (List Int)} (h : LvP r i m out) (hR : rd r (i : Int) = (R : Int)) (hm : R < m) : LvP r (i + 1) m (out.set R (out.getD R [] ++ [(i : Int)])) := by
  have hl := h.len
  refine ⟨by rw [List.length_set]; exact hl, fun q hq => ?_, fun a h0 h1 => ?_⟩
  · rw [List.getD_eq_getElem?_getD, List.getElem?_set, lvl_succ, hR]
    by_cases e : R = q
    · subst e
      rw [if_pos rfl, if_pos (by omega), if_pos rfl, h.get R hq]
      rfl
    · rw [if_neg e, ← List.getD_eq_getElem?_getD, h.get q hq, if_neg (by omega), List.append_nil]
  · by_cases e : a = (i : Int)
    · rw [e, hR]
      omega
    · exact h.lt a h0 (by omega)
theorem levels_l1 (hn : n ≤ 900) {i R : Nat} (hi : i < n) (hR : rd r (i : Int) = (R : Int)) (hRn : R ≤ 900) (hend : ∀ m out, LvP r (i + 1) m out → LvTop r (i + 1) m → m ≤ 2000 → LevQ r n (fun k => rank_Levels.l0 k out r (n : Int) ((i + 1 : Nat) : Int))) :
    (∀ m out, LvP r i m out → R < m → m ≤ 2000 → (m = R + 1 ∨ LvTop r i m) → LevQ r n (fun k => rank_Levels.l1 k out (i : Int) (R : Int) r (n : Int) (i : Int))) ∧
    ∀ d m out, m + d = R + 1 → LvP r i m out → LevQ r n (fun k => rank_Levels.l1 k out (i : Int) (R : Int) r (n : Int) (i : Int)) := by
  have base : ∀ m out, LvP r i m out → R < m → m ≤ 2000 → (m = R + 1 ∨ LvTop r i m) → LevQ r n (fun k => rank_Levels.l1 k out (i : Int) (R : Int) r (n : Int) (i : Int)) := fun m out h hm hm2 ht => by
    have hl := h.len
    have hg : rd_L1 out (R : Int) = out.getD R [] := by
      unfold rd_L1
      rw [Int.toNat_natCast]
    have hlen : (out.getD R []).length ≤ 900 := by
      rw [h.get R hm]
      have := lvl_len r i R
      omega
    have htop : LvTop r (i + 1) m := by
      rcases ht with e | e | ⟨a, h0, h1, h2⟩
      · exact .inr ⟨(i : Int), by omega, by omega, by rw [hR]; omega⟩
      · omega
      · exact .inr ⟨a, h0, by omega, h2⟩
    refine LevQ.step (fun k => ?_) (hend m _ (h.put hR hm) htop hm2)
    rw [rank_Levels.l1, if_neg (by omega), if_pos (by omega), if_pos (by omega), hg, if_pos (by omega), wrap_succ (by omega), Int.toNat_natCast]
  refine ⟨base, ?_⟩
  intro d
  induction d with
  | zero => exact fun m out hm h => base m out h (by omega) (by omega) (.inl (by omega))
  | succ d ih =>
    intro m out hm h
    have hl := h.len
    refine LevQ.step (fun k => ?_) (ih (m + 1) _ (by omega) h.more)
    rw [rank_Levels.l1, if_pos (by omega), if_pos (by omega)]
theorem levels_l0 (hn : n ≤ 900) (hl : r.length = n) (hr : ∀ a, 0 ≤ a → a < (n : Int) → 0 ≤ rd r a ∧ rd r a ≤ 900) : ∀ d i : Nat, i + d = n → ∀ m out, LvP r i m out → LvTop r i m → m ≤ 2000 → LevQ r n (fun k => rank_Levels.l0 k out r (n : Int) (i : Int))
  | 0, i, hd, m, out, h, ht, _ => by
    obtain rfl : i = n := by omega
    refine LevQ.step (f := fun _ => some out) (fun k => by rw [rank_Levels.l0, if_neg (by omega)]) ⟨out, m, h, ht, Ev.now _⟩
  | d + 1, i, hd, m, out, h, ht, hm => by
    have hr1 := hr (i : Int) (by omega) (by omega)
    obtain ⟨R, eR⟩ : ∃ R : Nat, rd r (i : Int) = (R : Int) := ⟨(rd r (i : Int)).toNat, by omega⟩
    have key := levels_l1 hn (i := i) (R := R) (by omega) eR (by omega) (fun m out h1 h2 h3 => levels_l0 hn hl hr d (i + 1) (by omega) m out h1 h2 h3)
    have : LevQ r n (fun k => rank_Levels.l1 k out (i : Int) (R : Int) r (n : Int) (i : Int)) := by
      by_cases e : R < m
      · exact key.1 m out h e hm (.inr ht)
      · exact key.2 (R + 1 - m) m out (by omega) h
    refine LevQ.step (fun k => ?_) this
    rw [rank_Levels.l0, if_pos (by omega), if_pos (by omega), if_pos (by omega), eR]
end
theorem levels_ev {g : List (List Int)} {rk : List Int} (hg : g.length ≤ 900) (hv : Valid (clean g)) (hrk : Ev (fun k => rank_Ranks.f k g) rk) (h : Rk (clean g) rk) : LevQ rk g.length (fun k => rank_Levels.f k g) := by
  have hl : rk.length = g.length := by rw [h.len, clean_len]
  obtain ⟨out, m, h1, h2, h3⟩ := levels_l0 (n := g.length) (r := rk) hg hl (fun a h0 h1 => by
    have := h.bound hv (a := a) ⟨h0, by rw [clean_len]; exact h1⟩
    rw [clean_len] at this
    omega) g.length 0 (by omega) 0 [] ⟨rfl, fun q hq => by omega, fun a h0 h1 => by omega⟩ (.inl rfl) (by omega)
  refine ⟨out, m, h1, h2, ?_⟩
  unfold rank_Levels.f
  refine Ev.bind hrk ?_
  rw [hl]
  exact h3
section
variable {r : List Int} {n m : Nat} {L : List (List Int)}
theorem cnt_succ (r : List Int) (n q : Nat) : (nodes n).countP (fun a => decide (rd r a < ((q + 1 : Nat) : Int))) = (nodes n).countP (fun a => decide (rd r a < (q : Int))) + (lvl r n q).length := by
  unfold lvl
  rw [← List.countP_eq_length_filter]
  induction nodes n with
  | nil => rfl
  | cons x l ih =>
    rw [List.countP_cons, List.countP_cons, List.countP_cons, ih]
    simp only [decide_eq_true_eq]
    split <;> split <;> split <;> omega
theorem wrap_pred' {n : Nat} (h0 : 0 < n) (h : n ≤ 9223372036854775807) : wrap64 ((n : Int) - 1) = ((n - 1 : Nat) : Int) := by
  unfold wrap64
  omega
theorem nodes_rises (n : Nat) : (nodes n).Pairwise (· < ·) := by
  unfold nodes
  exact List.Pairwise.map _ (fun a b h => by omega) (List.pairwise_lt_range (n := n))
theorem lvl_rises (r : List Int) (n q : Nat) : (lvl r n q).Pairwise (· < ·) := (nodes_rises n).filter _
theorem ranklevels_l1 (x0 : List (List Int)) (hl : r.length = n) (hn : n ≤ 900) (hL : L.length = m) (hm : m ≤ 2000) {q : Nat} (hq : q < m) (hget : L.getD q [] = lvl r n q) (x6 : Int) (hend : Ev (fun k => bywashlaw12_RankLevels.l0 k x0 true L r x6 ((q + 1 : Nat) : Int)) true) :
    ∀ d j : Nat, j + d = (lvl r n q).length → Ev (fun k => bywashlaw12_RankLevels.l1 k x0 true L r x6 (q : Int) (j : Int)) true
  | 0, j, hd => by
    have hg : rd_L1 L (q : Int) = lvl r n q := by
      unfold rd_L1
      rw [Int.toNat_natCast, hget]
    refine Ev.step (fun k => ?_) hend
    rw [bywashlaw12_RankLevels.l1, if_pos (by omega), if_pos (by omega), hg, if_neg (by omega), wrap_succ (by omega)]
  | d + 1, j, hd => by
    have hg : rd_L1 L (q : Int) = lvl r n q := by
      unfold rd_L1
      rw [Int.toNat_natCast, hget]
    have hjl : j < (lvl r n q).length := by omega
    have hlen := lvl_len r n q
    have hmem := mem_lvl.1 (List.getElem_mem hjl)
    obtain ⟨a, ea⟩ : ∃ a, a = (lvl r n q)[j] := ⟨_, rfl⟩
    rw [← ea] at hmem
    have h1 := hmem.1.1
    have h2 := hmem.1.2
    have h3 := hmem.2
    have hrd : rd (lvl r n q) (j : Int) = a := by rw [rd_nat' hjl, ea]
    have ih := ranklevels_l1 x0 hl hn hL hm hq hget x6 hend d (j + 1) (by omega)
    by_cases hj : j = 0
    · refine Ev.step (fun k => ?_) ih
      rw [bywashlaw12_RankLevels.l1, if_pos (by omega), if_pos (by omega), hg, if_pos (by omega), if_pos (by omega), hrd, if_neg (by omega), if_neg (by omega), if_pos h1, if_pos (by omega), if_pos h3, if_neg (by omega), wrap_succ (by omega)]
    · have hjl' : j - 1 < (lvl r n q).length := by omega
      have hp : (lvl r n q)[j - 1] < a := by
        rw [ea]
        exact List.pairwise_iff_getElem.1 (lvl_rises r n q) (j - 1) j hjl' hjl (by omega)
      refine Ev.step (fun k => ?_) ih
      rw [bywashlaw12_RankLevels.l1, if_pos (by omega), if_pos (by omega), hg, if_pos (by omega), if_pos (by omega), hrd, if_neg (by omega), if_neg (by omega), if_pos h1, if_pos (by omega), if_pos h3, if_pos (by omega), wrap_pred' (by omega) (by omega), if_pos (by omega), if_pos (by omega), rd_nat' hjl', if_neg (by omega), wrap_succ (by omega)]
theorem ranklevels_l0 (x0 : List (List Int)) (hx : x0.length = n) (hl : r.length = n) (hn : n ≤ 900) (hP : LvP r n m L) (hm : m ≤ 2000) (hne : ∀ q, q < m → (lvl r n q).length ≠ 0) :
    ∀ d q : Nat, q + d = m → Ev (fun k => bywashlaw12_RankLevels.l0 k x0 true L r (((nodes n).countP (fun a => decide (rd r a < (q : Int))) : Nat) : Int) (q : Int)) true
  | 0, q, hd => by
    obtain rfl : q = m := by omega
    have hall : (nodes n).countP (fun a => decide (rd r a < (q : Int))) = n := by
      have : (nodes n).countP (fun a => decide (rd r a < (q : Int))) = (nodes n).length := List.countP_eq_length.2 (fun a ha => decide_eq_true (hP.lt a (mem_nodes.1 ha).1 (mem_nodes.1 ha).2))
      rw [this, nodes_len]
    have hlen := hP.len
    refine Ev.step (f := fun _ => some true) (fun k => ?_) (Ev.now _)
    rw [bywashlaw12_RankLevels.l0, if_neg (by omega), if_pos rfl, hall, hx, beq_self_eq_true]
  | d + 1, q, hd => by
    have hg : rd_L1 L (q : Int) = lvl r n q := by
      unfold rd_L1
      rw [Int.toNat_natCast, hP.get q (by omega)]
    have hlen := hP.len
    have ih := ranklevels_l0 x0 hx hl hn hP hm hne d (q + 1) (by omega)
    have h1 := ranklevels_l1 x0 hl hn hP.len hm (q := q) (by omega) (hP.get q (by omega)) _ ih (lvl r n q).length 0 (by omega)
    rw [cnt_succ] at h1
    have hc := countP_nodes_le n (fun a => decide (rd r a < (q : Int)))
    have hl2 := lvl_len r n q
    have hne' := hne q (by omega)
    refine Ev.step (fun k => ?_) h1
    rw [bywashlaw12_RankLevels.l0, if_pos (by omega), if_pos (by omega), hg, if_neg (by omega), wrap_small (by omega)]
    rfl
end
theorem RankLevels_pure (l0 : List (List Int)) (hb : l0.length ≤ 9223372036854775807) (_hw : ∀ r ∈ l0, r.length ≤ 9223372036854775807 ∧ ∀ y ∈ r, (Lit.int .i64 y).wf = true) :
    ∃ k, bywashlaw12_RankLevels.f k l0 = some true := by
  refine Ev.rounds (g := fun k => bywashlaw12_RankLevels.f k l0) ?_
  unfold bywashlaw12_RankLevels.f
  refine Ev.bind awake12_ev ?_
  refine Ev.bind (few_ev l0 hb) ?_
  by_cases hf : few l0 = true
  · simp only [hf, if_true]
    obtain ⟨rk, h1, h2, h3⟩ := ranks_ev hf
    have hv := clean_Valid l0
    have hn := (few_iff.1 hf).2
    obtain ⟨L, m, hP, ht, hL⟩ := levels_ev (by omega) hv h1 h2
    have hbd : ∀ a, 0 ≤ a → a < (l0.length : Int) → 0 ≤ rd rk a ∧ rd rk a ≤ (l0.length : Int) := fun a h0 h4 => by
      have := h2.bound hv (a := a) ⟨h0, by rw [clean_len]; exact h4⟩
      rwa [clean_len] at this
    have hm : m ≤ 2000 := by
      rcases ht with e | ⟨a, h0, h4, e⟩
      · omega
      · have := hbd a h0 h4
        omega
    refine Ev.bind hL ?_
    refine Ev.bind h1 ?_
    have h5 := ranklevels_l0 (n := l0.length) l0 rfl h3 (by omega) hP hm (fun q hq => by
      rcases ht with e | ⟨a, h0, h4, e⟩
      · omega
      · obtain ⟨b, hb1, hb2⟩ := h2.below hv (k := q) (m := m - 1) (b := a) ⟨h0, by rw [clean_len]; exact h4⟩ (by omega) (by omega)
        have hbm : b ∈ lvl rk l0.length q := mem_lvl.2 ⟨⟨hb1.1, by have := hb1.2; rwa [clean_len] at this⟩, hb2⟩
        intro e0
        rw [List.eq_nil_of_length_eq_zero e0] at hbm
        simp at hbm) m 0 (by omega)
    have h0 : (nodes l0.length).countP (fun a => decide (rd rk a < ((0 : Nat) : Int))) = 0 := List.countP_eq_zero.2 (fun a ha => by
      have := hbd a (mem_nodes.1 ha).1 (mem_nodes.1 ha).2
      simp
      omega)
    rw [h0] at h5
    exact h5
  · simp only [hf]
    exact Ev.now _
end Go.Proofs.Ytdknhgbjgdmfkaa.P
