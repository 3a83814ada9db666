/- What the claim uses of: PlawSccPartsT PureSccParts Hopen -/
import Derived.Deep.Matrix
import Derived.ChangeOld
import Derived.Test.YtdknhgbjgdmfkaaQF2
namespace Go.Proofs.Ytdknhgbjgdmfkaa.P
open Go.RowKit Go.Proofs.YtdknhgbjgdmfkaaW.PrintWords Go.Proofs.YtdknhgbjgdmfkaaW.PrintLast Go.Proofs.YtdknhgbjgdmfkaaW.PrintMore
attribute [local go_sem] max2_int min2_int max_two min_two max_three min_three max_four min_four
set_option linter.unusedVariables false
set_option linter.unusedSimpArgs false
set_option maxHeartbeats 8000000 in
set_option maxRecDepth 100000 in
theorem SccParts_t (k : Nat) (A0 : Option Addr) (c0 : Nat) (l0 : List (List Int)) (a1 : Int) (a2 : Int) (r : Bool) (w : World) (hr0 : Kd.C (Kd.slice 3 (Kd.int .i64)) w A0 l0.length l0) (hc0 : l0.length ≤ c0) (hrt : r = true) (h : bywashlaw11_SccParts.f k l0 a1 a2 = some r) :
  Calls Try.prog 4 #[.slice A0 l0.length c0, .int .i64 a1, .int .i64 a2] w fun e w' => e = .returned (.bool r) ∧ Below w.heap.size w w' := by
 have HRT := Aside0.mk hrt
 clear hrt
 have HR0 := Aside0.mk hr0
 have HC0 := Aside0.mk hc0
 clear hr0 hc0
 have HB := Aside0.mk (Below.refl w.heap.size w)
 have H : ((bywashlaw11_awake.f k).bind fun t126 => ((bywashref10_Few.f k l0).bind fun t127 => (if t127 = true then ((scc_Leads.f l0).bind fun t128 => ((scc_Parts.f l0).bind fun t131 => (bywashlaw11_SccParts.l0 k l0 a1 a2 t126 t128 t131 0 0))) else (some t126)))) = some r := h
 clear h
 replace H := Option.bind_eq_some_iff.mp H
 obtain ⟨t126, A40, H⟩ := H
 replace H : ((bywashref10_Few.f k l0).bind fun t127 => (if t127 = true then ((scc_Leads.f l0).bind fun t128 => ((scc_Parts.f l0).bind fun t131 => (bywashlaw11_SccParts.l0 k l0 a1 a2 t126 t128 t131 0 0))) else (some t126))) = some r := H
 have A4 := Aside0.mk A40
 clear A40
 replace H := Option.bind_eq_some_iff.mp H
 obtain ⟨t127, A50, H⟩ := H
 replace H : (if t127 = true then ((scc_Leads.f l0).bind fun t128 => ((scc_Parts.f l0).bind fun t131 => (bywashlaw11_SccParts.l0 k l0 a1 a2 t126 t128 t131 0 0))) else (some t126)) = some r := H
 have A5 := Aside0.mk A50
 clear A50
 by_cases c6 : t127 = true
 ·
  subst c6
  have H1 : ((scc_Leads.f l0).bind fun t128 => ((scc_Parts.f l0).bind fun t131 => (bywashlaw11_SccParts.l0 k l0 a1 a2 t126 t128 t131 0 0))) = some r := by rw [if_pos rfl] at H; exact H
  clear H
  have H := H1
  clear H1
  replace H := Option.bind_eq_some_iff.mp H
  obtain ⟨t128, A70, H⟩ := H
  replace H : ((scc_Parts.f l0).bind fun t131 => (bywashlaw11_SccParts.l0 k l0 a1 a2 t126 t128 t131 0 0)) = some r := H
  have A7 := Aside0.mk A70
  clear A70
  replace H := Option.bind_eq_some_iff.mp H
  obtain ⟨t131, A80, H⟩ := H
  replace H : (bywashlaw11_SccParts.l0 k l0 a1 a2 t126 t128 t131 0 0) = some r := H
  have A8 := Aside0.mk A80
  clear A80
  have H' := Aside0.mk H
  clear H
  go_enter Try.func4, Try.ntmps4
  go_wp2_with (first | (go_at_call 34; (with_reducible refine (bywashlaw11_awake.calls k  t126 _ A4.out).mono ?_); rintro e w9 ⟨rfl, hb⟩; have n0_ := Aside0.mk (below_step (by repeat (first | (with_reducible first | exact HB.out | apply below_alloc | apply pw_below_drewN | apply below_drew1) | exact HB.out)) hb); clear HB; have HB := n0_; clear n0_; (try clear hb); (try clear hb2); (try clear hk); (try clear hi)) | (go_at_call 14; (with_reducible refine (bywashref10_Few.calls k _ _ l0 true _ ?side1 ?side2 A5.out).mono ?_); (case side1 => repeat (first | exact (Kd.C_below HR0.out HB.out) | (with_reducible refine Kd.C_alloc ?_ _) | (with_reducible refine Kd.C_drewN ?_ _) | (with_reducible refine Kd.C_drew ?_))); (case side2 => exact HC0.out); rintro e w' ⟨rfl, ⟨nd, rfl⟩⟩; (try first | exact ⟨rfl, _, World.drewN_drewN _ _ _⟩ | exact ⟨rfl, _, Eq.trans (World.drewN_drewN _ _ _) (congrArg (World.drewN _) (Nat.add_assoc _ _ _))⟩)) | (go_at_call 35; (with_reducible refine (scc_Leads.calls _ _ l0 t128 _ ?side1 ?side2 A7.out).mono ?_); (case side1 => repeat (first | exact (Kd.C_below HR0.out (by repeat (first | (with_reducible first | exact HB.out | apply below_alloc | apply pw_below_drewN | apply below_drew1) | exact HB.out))) | (with_reducible refine Kd.C_alloc ?_ _) | (with_reducible refine Kd.C_drewN ?_ _) | (with_reducible refine Kd.C_drew ?_))); (case side2 => exact HC0.out); rintro e w10 ⟨v129, rfl, ho0, hb⟩; have n0_ := Aside0.mk (Kd.R_lower ho0 (below_size (by repeat (first | (with_reducible first | exact HB.out | apply below_alloc | apply pw_below_drewN | apply below_drew1) | exact HB.out)))); have n1_ := Aside0.mk (below_step (by repeat (first | (with_reducible first | exact HB.out | apply below_alloc | apply pw_below_drewN | apply below_drew1) | exact HB.out)) hb); clear HB; have HO130 := n0_; have HB := n1_; clear n0_ n1_; (try clear hb); (try clear hb2); (try clear hk); (try clear hi); (try clear ho0)) | (go_at_call 36; (with_reducible refine (scc_Parts.calls _ _ l0 t131 _ ?side1 ?side2 A8.out).mono ?_); (case side1 => repeat (first | exact (Kd.C_below HR0.out HB.out) | (with_reducible refine Kd.C_alloc ?_ _) | (with_reducible refine Kd.C_drewN ?_ _) | (with_reducible refine Kd.C_drew ?_))); (case side2 => exact HC0.out); rintro e w11 ⟨v132, rfl, ho0, hb⟩; have n0_ := Aside0.mk (Kd.R_below (by (with_reducible repeat (first | apply Kd.R_alloc | apply Kd.R_drewN | apply Kd.R_drew)); exact HO130.out) hb); have n1_ := Aside0.mk (Kd.S_lower (Kd.S_new' ho0 (Kd.R_lt (by (with_reducible repeat (first | apply Kd.R_alloc | apply Kd.R_drewN | apply Kd.R_drew)); exact HO130.out))) (below_size (by repeat (first | (with_reducible first | exact HB.out | apply below_alloc | apply pw_below_drewN | apply below_drew1) | exact HB.out)))); have n2_ := Aside0.mk (below_step (by repeat (first | (with_reducible first | exact HB.out | apply below_alloc | apply pw_below_drewN | apply below_drew1) | exact HB.out)) hb); clear HO130; clear HB; have HO130 := n0_; have HO133 := n1_; have HB := n2_; clear n0_ n1_ n2_; (try clear hb); (try clear hb2); (try clear hk); (try clear hi); (try clear ho0)))
  repeat (go_quiet (first | (go_at_call 34; (with_reducible refine (bywashlaw11_awake.calls k  t126 _ A4.out).mono ?_); rintro e w9 ⟨rfl, hb⟩; have n0_ := Aside0.mk (below_step (by repeat (first | (with_reducible first | exact HB.out | apply below_alloc | apply pw_below_drewN | apply below_drew1) | exact HB.out)) hb); clear HB; have HB := n0_; clear n0_; (try clear hb); (try clear hb2); (try clear hk); (try clear hi)) | (go_at_call 14; (with_reducible refine (bywashref10_Few.calls k _ _ l0 true _ ?side1 ?side2 A5.out).mono ?_); (case side1 => repeat (first | exact (Kd.C_below HR0.out HB.out) | (with_reducible refine Kd.C_alloc ?_ _) | (with_reducible refine Kd.C_drewN ?_ _) | (with_reducible refine Kd.C_drew ?_))); (case side2 => exact HC0.out); rintro e w' ⟨rfl, ⟨nd, rfl⟩⟩; (try first | exact ⟨rfl, _, World.drewN_drewN _ _ _⟩ | exact ⟨rfl, _, Eq.trans (World.drewN_drewN _ _ _) (congrArg (World.drewN _) (Nat.add_assoc _ _ _))⟩)) | (go_at_call 35; (with_reducible refine (scc_Leads.calls _ _ l0 t128 _ ?side1 ?side2 A7.out).mono ?_); (case side1 => repeat (first | exact (Kd.C_below HR0.out (by repeat (first | (with_reducible first | exact HB.out | apply below_alloc | apply pw_below_drewN | apply below_drew1) | exact HB.out))) | (with_reducible refine Kd.C_alloc ?_ _) | (with_reducible refine Kd.C_drewN ?_ _) | (with_reducible refine Kd.C_drew ?_))); (case side2 => exact HC0.out); rintro e w10 ⟨v129, rfl, ho0, hb⟩; have n0_ := Aside0.mk (Kd.R_lower ho0 (below_size (by repeat (first | (with_reducible first | exact HB.out | apply below_alloc | apply pw_below_drewN | apply below_drew1) | exact HB.out)))); have n1_ := Aside0.mk (below_step (by repeat (first | (with_reducible first | exact HB.out | apply below_alloc | apply pw_below_drewN | apply below_drew1) | exact HB.out)) hb); clear HB; have HO130 := n0_; have HB := n1_; clear n0_ n1_; (try clear hb); (try clear hb2); (try clear hk); (try clear hi); (try clear ho0)) | (go_at_call 36; (with_reducible refine (scc_Parts.calls _ _ l0 t131 _ ?side1 ?side2 A8.out).mono ?_); (case side1 => repeat (first | exact (Kd.C_below HR0.out HB.out) | (with_reducible refine Kd.C_alloc ?_ _) | (with_reducible refine Kd.C_drewN ?_ _) | (with_reducible refine Kd.C_drew ?_))); (case side2 => exact HC0.out); rintro e w11 ⟨v132, rfl, ho0, hb⟩; have n0_ := Aside0.mk (Kd.R_below (by (with_reducible repeat (first | apply Kd.R_alloc | apply Kd.R_drewN | apply Kd.R_drew)); exact HO130.out) hb); have n1_ := Aside0.mk (Kd.S_lower (Kd.S_new' ho0 (Kd.R_lt (by (with_reducible repeat (first | apply Kd.R_alloc | apply Kd.R_drewN | apply Kd.R_drew)); exact HO130.out))) (below_size (by repeat (first | (with_reducible first | exact HB.out | apply below_alloc | apply pw_below_drewN | apply below_drew1) | exact HB.out)))); have n2_ := Aside0.mk (below_step (by repeat (first | (with_reducible first | exact HB.out | apply below_alloc | apply pw_below_drewN | apply below_drew1) | exact HB.out)) hb); clear HO130; clear HB; have HO130 := n0_; have HO133 := n1_; have HB := n2_; clear n0_ n1_ n2_; (try clear hb); (try clear hb2); (try clear hk); (try clear hi); (try clear ho0))); try go_wp2_with (first | (go_at_call 34; (with_reducible refine (bywashlaw11_awake.calls k  t126 _ A4.out).mono ?_); rintro e w9 ⟨rfl, hb⟩; have n0_ := Aside0.mk (below_step (by repeat (first | (with_reducible first | exact HB.out | apply below_alloc | apply pw_below_drewN | apply below_drew1) | exact HB.out)) hb); clear HB; have HB := n0_; clear n0_; (try clear hb); (try clear hb2); (try clear hk); (try clear hi)) | (go_at_call 14; (with_reducible refine (bywashref10_Few.calls k _ _ l0 true _ ?side1 ?side2 A5.out).mono ?_); (case side1 => repeat (first | exact (Kd.C_below HR0.out HB.out) | (with_reducible refine Kd.C_alloc ?_ _) | (with_reducible refine Kd.C_drewN ?_ _) | (with_reducible refine Kd.C_drew ?_))); (case side2 => exact HC0.out); rintro e w' ⟨rfl, ⟨nd, rfl⟩⟩; (try first | exact ⟨rfl, _, World.drewN_drewN _ _ _⟩ | exact ⟨rfl, _, Eq.trans (World.drewN_drewN _ _ _) (congrArg (World.drewN _) (Nat.add_assoc _ _ _))⟩)) | (go_at_call 35; (with_reducible refine (scc_Leads.calls _ _ l0 t128 _ ?side1 ?side2 A7.out).mono ?_); (case side1 => repeat (first | exact (Kd.C_below HR0.out (by repeat (first | (with_reducible first | exact HB.out | apply below_alloc | apply pw_below_drewN | apply below_drew1) | exact HB.out))) | (with_reducible refine Kd.C_alloc ?_ _) | (with_reducible refine Kd.C_drewN ?_ _) | (with_reducible refine Kd.C_drew ?_))); (case side2 => exact HC0.out); rintro e w10 ⟨v129, rfl, ho0, hb⟩; have n0_ := Aside0.mk (Kd.R_lower ho0 (below_size (by repeat (first | (with_reducible first | exact HB.out | apply below_alloc | apply pw_below_drewN | apply below_drew1) | exact HB.out)))); have n1_ := Aside0.mk (below_step (by repeat (first | (with_reducible first | exact HB.out | apply below_alloc | apply pw_below_drewN | apply below_drew1) | exact HB.out)) hb); clear HB; have HO130 := n0_; have HB := n1_; clear n0_ n1_; (try clear hb); (try clear hb2); (try clear hk); (try clear hi); (try clear ho0)) | (go_at_call 36; (with_reducible refine (scc_Parts.calls _ _ l0 t131 _ ?side1 ?side2 A8.out).mono ?_); (case side1 => repeat (first | exact (Kd.C_below HR0.out HB.out) | (with_reducible refine Kd.C_alloc ?_ _) | (with_reducible refine Kd.C_drewN ?_ _) | (with_reducible refine Kd.C_drew ?_))); (case side2 => exact HC0.out); rintro e w11 ⟨v132, rfl, ho0, hb⟩; have n0_ := Aside0.mk (Kd.R_below (by (with_reducible repeat (first | apply Kd.R_alloc | apply Kd.R_drewN | apply Kd.R_drew)); exact HO130.out) hb); have n1_ := Aside0.mk (Kd.S_lower (Kd.S_new' ho0 (Kd.R_lt (by (with_reducible repeat (first | apply Kd.R_alloc | apply Kd.R_drewN | apply Kd.R_drew)); exact HO130.out))) (below_size (by repeat (first | (with_reducible first | exact HB.out | apply below_alloc | apply pw_below_drewN | apply below_drew1) | exact HB.out)))); have n2_ := Aside0.mk (below_step (by repeat (first | (with_reducible first | exact HB.out | apply below_alloc | apply pw_below_drewN | apply below_drew1) | exact HB.out)) hb); clear HO130; clear HB; have HO130 := n0_; have HO133 := n1_; have HB := n2_; clear n0_ n1_ n2_; (try clear hb); (try clear hb2); (try clear hk); (try clear hi); (try clear ho0))))
  go_loopg [10, 11] k (fun kq v10 v11 w' => ∃ (x10_1 : Int) (x11_1 : Int), v10 = .int .i64 x10_1 ∧ v11 = .int .i64 x11_1 ∧ Aside0 (bywashlaw11_SccParts.l0 kq l0 a1 a2 t126 t128 t131 x10_1 x11_1 = some r) ∧ Aside0 (kq ≤ k) ∧ Aside0 (Kd.R (Kd.int .i64) 3 w' w.heap.size (fun _ => True) v129 t128) ∧ Aside0 (Kd.S (Kd.slice 3 (Kd.int .i64)) 32 w' w.heap.size (fun k_ => some k_ ≠ (v129 : Value).ownBlock) v132 t131) ∧ Aside0 (Below w.heap.size w w'))
  case atStart => exact ⟨(0), (0), (by first | rfl | (simp; done) | (simp [*]; done)), (by first | rfl | (simp; done) | (simp [*]; done)), H', ⟨Nat.le_refl _⟩, ⟨by (with_reducible repeat (first | apply Kd.R_alloc | apply Kd.R_drewN | apply Kd.R_drew)); exact HO130.out⟩, ⟨by (with_reducible repeat (first | apply Kd.S_alloc | apply Kd.S_drewN | apply Kd.S_drew)); exact Kd.S_mono HO133.out (fun _ hk => hk.2)⟩, ⟨by repeat (first | (with_reducible first | exact HB.out | apply below_alloc | apply pw_below_drewN | apply below_drew1) | exact HB.out)⟩⟩
  case round => as_aux_lemma =>
   clear H'
   try clear p2
   try clear c4
   try clear c6
   obtain ⟨x10_1, x11_1, rfl, rfl, HA, HK1, HO_8, HO_9, HB⟩ := hrel
   cases gk with
   | zero => exact absurd HA.out (by simp [bywashlaw11_SccParts.l0])
   | succ k1 =>
    have H := HA.out
    clear HA
    simp only [bywashlaw11_SccParts.l0] at H
    by_cases c12 : x11_1 < (t131.length : Int)
    ·
     rw [if_pos c12] at H
     have c12b0 : decide (x11_1 < (t131.length : Int)) = true := decide_eq_true c12
     clear c12
     by_cases c13 : 0 ≤ x11_1
     ·
      rw [if_pos c13] at H
      have c13b0 : decide (0 ≤ x11_1) = true := decide_eq_true c13
      clear c13
      have H' := Aside0.mk H
      clear H
      obtain ⟨Ao14, co14, eo14⟩ := Kd.S_slice HO_9.out
      subst eo14
      have p134 : 0 ≤ (x11_1 : Int) := of_decide_eq_true (by first | (with_reducible assumption) | assumption)
      have q134 : x11_1 < (t131.length : Int) := of_decide_eq_true (by first | (with_reducible assumption) | assumption)
      obtain ⟨ad134, A134_0, c134_0, e134, hx134_0, hl134_0, hi134_0⟩ := at_L1 (Kd.S_reads' HO_9.out).2.2 x11_1 p134 q134
      cases e134
      obtain ⟨ce134, hce134, hMe134, hcc134⟩ := Kd.S_get HO_9.out [] x11_1 p134 (by first | exact q134 | exact of_decide_eq_true (by first | (with_reducible assumption) | assumption) | (have e_ := (Kd.S_reads' HO_9.out).1; ((try clear hji27 hji27w); (try clear hji33 hji33w); (try clear hji42 hji42w); omega)))
      obtain ⟨ve134_0, rfl, ge134_0⟩ := hMe134
      have hv134_0 := hcc134 0 _ rfl
      rw [Nat.add_zero, show ((Kd.slice 3 (Kd.int .i64))).sz = 1 from rfl, Nat.mul_one] at hv134_0
      replace hv134_0 := Option.some.inj (hv134_0.symm.trans hx134_0)
      rw [hv134_0] at ge134_0
      have HL134_0 := Aside0.mk (show Kd.R (Kd.int .i64) 3 _ _ _ _ (rd_L1 t131 x11_1) from ge134_0)
      clear hv134_0 ge134_0
      clear hcc134 hce134
      have HR134_0 := Aside0.mk hi134_0
      have HC134_0 := Aside0.mk hl134_0
      clear hi134_0 hl134_0
      replace p134 := eq_true p134
      replace q134 := eq_true q134
      go_wp2
      repeat (go_quiet (fail); try go_wp2)
      go_loopg [12] k1 (fun kq v12 w' => ∃ (x12_2 : Int), v12 = .int .i64 x12_2 ∧ Aside0 (bywashlaw11_SccParts.l1 kq l0 a1 a2 t126 t128 t131 (wrap64 (x10_1 + ((rd_L1 t131 x11_1).length : Int))) x11_1 x12_2 = some r) ∧ Aside0 (kq ≤ k1) ∧ Aside0 (Kd.R (Kd.int .i64) 3 w' w.heap.size (fun _ => True) v129 t128) ∧ Aside0 (Kd.S (Kd.slice 3 (Kd.int .i64)) 32 w' w.heap.size (fun k_ => some k_ ≠ (v129 : Value).ownBlock) (.slice (some ad134) t131.length co14) t131) ∧ Aside0 (Kd.C (Kd.int .i64) w' A134_0 (rd_L1 t131 x11_1).length (rd_L1 t131 x11_1)) ∧ Aside0 (Below w.heap.size w w'))
      case atStart => exact ⟨(0), (by first | rfl | (simp; done) | (simp [*]; done)), H', ⟨Nat.le_refl _⟩, ⟨by (with_reducible repeat (first | apply Kd.R_alloc | apply Kd.R_drewN | apply Kd.R_drew)); exact HO_8.out⟩, ⟨by (with_reducible repeat (first | apply Kd.S_alloc | apply Kd.S_drewN | apply Kd.S_drew)); exact HO_9.out⟩, ⟨by repeat (first | (with_reducible exact HR134_0.out) | (with_reducible refine Kd.C_alloc ?_ _) | (with_reducible refine Kd.C_drewN ?_ _) | (with_reducible refine Kd.C_drew ?_) | exact HR134_0.out)⟩, ⟨by repeat (first | (with_reducible first | exact HB.out | apply below_alloc | apply pw_below_drewN | apply below_drew1) | exact HB.out)⟩⟩
      case round => as_aux_lemma =>
       clear H'
       try clear c1
       try clear p1
       try clear q1
       try clear hx1
       try clear p2
       try clear c4
       try clear c6
       try clear p6
       try clear c12
       try clear c12b0
       try clear c13
       try clear c13b0
       try clear p13
       try clear q13
       try clear hx13
       try clear hx134_0
       try clear p134
       try clear p2
       try clear q134
       obtain ⟨x12_2, rfl, HA, HK2, HO_8, HO_9, HR134_0, HB⟩ := hrel
       cases gk with
       | zero => exact absurd HA.out (by simp [bywashlaw11_SccParts.l1])
       | succ k2 =>
        have H := HA.out
        clear HA
        simp only [bywashlaw11_SccParts.l1] at H
        by_cases c15 : 0 ≤ x11_1
        ·
         rw [if_pos c15] at H
         have c15b0 : decide (0 ≤ x11_1) = true := decide_eq_true c15
         clear c15
         by_cases c16 : x11_1 < (t131.length : Int)
         ·
          rw [if_pos c16] at H
          have c16b0 : decide (x11_1 < (t131.length : Int)) = true := decide_eq_true c16
          clear c16
          by_cases c17 : x12_2 < ((rd_L1 t131 x11_1).length : Int)
          ·
           rw [if_pos c17] at H
           have c17b0 : decide (x12_2 < ((rd_L1 t131 x11_1).length : Int)) = true := decide_eq_true c17
           clear c17
           by_cases c18 : 0 ≤ x12_2
           ·
            rw [if_pos c18] at H
            have c18b0 : decide (0 ≤ x12_2) = true := decide_eq_true c18
            clear c18
            by_cases c19 : (rd (rd_L1 t131 x11_1) x12_2) < 0
            ·
             rw [if_pos c19] at H
             exact absurd (Option.some.inj H) (by rw [HRT.out]; decide)
            ·
             rw [if_neg c19] at H
             have c19b0 : decide ((rd (rd_L1 t131 x11_1) x12_2) < 0) = false := decide_eq_false c19
             clear c19
             by_cases c20 : (rd (rd_L1 t131 x11_1) x12_2) ≥ (t128.length : Int)
             ·
              rw [if_pos c20] at H
              exact absurd (Option.some.inj H) (by rw [HRT.out]; decide)
             ·
              rw [if_neg c20] at H
              have c20b0 : decide ((t128.length : Int) ≤ (rd (rd_L1 t131 x11_1) x12_2)) = false := decide_eq_false c20
              clear c20
              by_cases c22 : 0 ≤ (rd (rd_L1 t131 x11_1) x12_2)
              ·
               rw [if_pos c22] at H
               have c22b0 : decide (0 ≤ (rd (rd_L1 t131 x11_1) x12_2)) = true := decide_eq_true c22
               clear c22
               by_cases c23 : (rd (rd_L1 t131 x11_1) x12_2) < (t128.length : Int)
               ·
                rw [if_pos c23] at H
                have c23b0 : decide ((rd (rd_L1 t131 x11_1) x12_2) < (t128.length : Int)) = true := decide_eq_true c23
                clear c23
                by_cases c24 : 0 < ((rd_L1 t131 x11_1).length : Int)
                ·
                 rw [if_pos c24] at H
                 have c24b0 : decide (0 < ((rd_L1 t131 x11_1).length : Int)) = true := decide_eq_true c24
                 have c24b1 : decide (0 < (rd_L1 t131 x11_1).length) = true := decide_eq_true (by ((try clear hji27 hji27w); (try clear hji33 hji33w); (try clear hji42 hji42w); omega))
                 clear c24
                 by_cases c25 : (rd t128 (rd (rd_L1 t131 x11_1) x12_2)) = (rd (rd_L1 t131 x11_1) 0)
                 ·
                  rw [if_pos c25] at H
                  have c25b0 : ((rd t128 (rd (rd_L1 t131 x11_1) x12_2)) == (rd (rd_L1 t131 x11_1) 0)) = true := beq_iff_eq.mpr c25
                  have c25b1 : ((rd t128 (rd (rd_L1 t131 x11_1) x12_2)) != (rd (rd_L1 t131 x11_1) 0)) = false := bne_eq_false_iff_eq.mpr c25
                  clear c25
                  by_cases c26 : x12_2 > 0
                  ·
                   as_aux_lemma =>
                   rw [if_pos c26] at H
                   have c26b0 : decide (0 < x12_2) = true := decide_eq_true c26
                   clear c26
                   obtain ⟨ji27, hji27⟩ : ∃ j_ : Int, (wrap64 (x12_2 - 1)) = j_ := ⟨_, rfl⟩
                   replace H : (if 0 ≤ (ji27) then (if (ji27) < ((rd_L1 t131 x11_1).length : Int) then (if (rd (rd_L1 t131 x11_1) x12_2) ≤ (rd (rd_L1 t131 x11_1) (ji27)) then (some false) else (if x11_1 > 0 then (if 0 ≤ (wrap64 (x11_1 - 1)) then (if (wrap64 (x11_1 - 1)) < (t131.length : Int) then (if 0 < ((rd_L1 t131 (wrap64 (x11_1 - 1))).length : Int) then (if (rd (rd_L1 t131 x11_1) 0) ≤ (rd (rd_L1 t131 (wrap64 (x11_1 - 1))) 0) then (some false) else (bywashlaw11_SccParts.l1 k2 l0 a1 a2 t126 t128 t131 (wrap64 (x10_1 + ((rd_L1 t131 x11_1).length : Int))) x11_1 (wrap64 (x12_2 + 1)))) else (none)) else (none)) else (none)) else (bywashlaw11_SccParts.l1 k2 l0 a1 a2 t126 t128 t131 (wrap64 (x10_1 + ((rd_L1 t131 x11_1).length : Int))) x11_1 (wrap64 (x12_2 + 1))))) else (none)) else (none)) = some r := by first | (rw [hji27] at H; exact H) | (simp only [hji27] at H ⊢; exact H)
                   have hji27w : (IntKind.i64.wrap (x12_2 - 1)) = ji27 := (i64_w _).trans hji27
                   by_cases c28 : 0 ≤ (ji27)
                   ·
                    rw [if_pos c28] at H
                    have c28b0 : decide (0 ≤ (ji27)) = true := decide_eq_true c28
                    clear c28
                    by_cases c29 : (ji27) < ((rd_L1 t131 x11_1).length : Int)
                    ·
                     rw [if_pos c29] at H
                     have c29b0 : decide ((ji27) < ((rd_L1 t131 x11_1).length : Int)) = true := decide_eq_true c29
                     clear c29
                     by_cases c30 : (rd (rd_L1 t131 x11_1) x12_2) ≤ (rd (rd_L1 t131 x11_1) (ji27))
                     ·
                      rw [if_pos c30] at H
                      exact absurd (Option.some.inj H) (by rw [HRT.out]; decide)
                     ·
                      rw [if_neg c30] at H
                      have c30b0 : decide ((rd (rd_L1 t131 x11_1) x12_2) ≤ (rd (rd_L1 t131 x11_1) (ji27))) = false := decide_eq_false c30
                      clear c30
                      by_cases c32 : x11_1 > 0
                      ·
                       as_aux_lemma =>
                       rw [if_pos c32] at H
                       have c32b0 : decide (0 < x11_1) = true := decide_eq_true c32
                       clear c32
                       obtain ⟨ji33, hji33⟩ : ∃ j_ : Int, (wrap64 (x11_1 - 1)) = j_ := ⟨_, rfl⟩
                       replace H : (if 0 ≤ (ji33) then (if (ji33) < (t131.length : Int) then (if 0 < ((rd_L1 t131 (ji33)).length : Int) then (if (rd (rd_L1 t131 x11_1) 0) ≤ (rd (rd_L1 t131 (ji33)) 0) then (some false) else (bywashlaw11_SccParts.l1 k2 l0 a1 a2 t126 t128 t131 (wrap64 (x10_1 + ((rd_L1 t131 x11_1).length : Int))) x11_1 (wrap64 (x12_2 + 1)))) else (none)) else (none)) else (none)) = some r := by first | (rw [hji33] at H; exact H) | (simp only [hji33] at H ⊢; exact H)
                       have hji33w : (IntKind.i64.wrap (x11_1 - 1)) = ji33 := (i64_w _).trans hji33
                       by_cases c34 : 0 ≤ (ji33)
                       ·
                        rw [if_pos c34] at H
                        have c34b0 : decide (0 ≤ (ji33)) = true := decide_eq_true c34
                        clear c34
                        by_cases c35 : (ji33) < (t131.length : Int)
                        ·
                         rw [if_pos c35] at H
                         have c35b0 : decide ((ji33) < (t131.length : Int)) = true := decide_eq_true c35
                         clear c35
                         by_cases c36 : 0 < ((rd_L1 t131 (ji33)).length : Int)
                         ·
                          rw [if_pos c36] at H
                          have c36b0 : decide (0 < ((rd_L1 t131 (ji33)).length : Int)) = true := decide_eq_true c36
                          have c36b1 : decide (0 < (rd_L1 t131 (ji33)).length) = true := decide_eq_true (by ((try clear hji27 hji27w); (try clear hji33 hji33w); (try clear hji42 hji42w); omega))
                          clear c36
                          by_cases c37 : (rd (rd_L1 t131 x11_1) 0) ≤ (rd (rd_L1 t131 (ji33)) 0)
                          ·
                           rw [if_pos c37] at H
                           exact absurd (Option.some.inj H) (by rw [HRT.out]; decide)
                          ·
                           rw [if_neg c37] at H
                           have c37b0 : decide ((rd (rd_L1 t131 x11_1) 0) ≤ (rd (rd_L1 t131 (ji33)) 0)) = false := decide_eq_false c37
                           clear c37
                           have H' := Aside0.mk H
                           clear H
                           have p135 : 0 ≤ (x11_1 : Int) := of_decide_eq_true (by first | (with_reducible assumption) | assumption)
                           have q135 : x11_1 < (t131.length : Int) := of_decide_eq_true (by first | (with_reducible assumption) | assumption)
                           obtain ⟨ad135, A135_0, c135_0, e135, hx135_0, hl135_0, hi135_0⟩ := at_L1 (Kd.S_reads' HO_9.out).2.2 x11_1 p135 q135
                           obtain rfl : ad134 = ad135 := (by injection e135)
                           obtain ⟨ce135, hce135, hMe135, hcc135⟩ := Kd.S_get HO_9.out [] x11_1 p135 (by first | exact q135 | exact of_decide_eq_true (by first | (with_reducible assumption) | assumption) | (have e_ := (Kd.S_reads' HO_9.out).1; ((try clear hji27 hji27w); (try clear hji33 hji33w); (try clear hji42 hji42w); omega)))
                           obtain ⟨ve135_0, rfl, ge135_0⟩ := hMe135
                           have hv135_0 := hcc135 0 _ rfl
                           rw [Nat.add_zero, show ((Kd.slice 3 (Kd.int .i64))).sz = 1 from rfl, Nat.mul_one] at hv135_0
                           replace hv135_0 := Option.some.inj (hv135_0.symm.trans hx135_0)
                           rw [hv135_0] at ge135_0
                           have HL135_0 := Aside0.mk (show Kd.R (Kd.int .i64) 3 _ _ _ _ (rd_L1 t131 x11_1) from ge135_0)
                           clear hv135_0 ge135_0
                           clear hcc135 hce135
                           have HR135_0 := Aside0.mk hi135_0
                           have HC135_0 := Aside0.mk hl135_0
                           clear hi135_0 hl135_0
                           replace p135 := eq_true p135
                           replace q135 := eq_true q135
                           have p136 : 0 ≤ (x11_1 : Int) := of_decide_eq_true (by first | (with_reducible assumption) | assumption)
                           have q136 : x11_1 < (t131.length : Int) := of_decide_eq_true (by first | (with_reducible assumption) | assumption)
                           obtain ⟨ad136, A136_0, c136_0, e136, hx136_0, hl136_0, hi136_0⟩ := at_L1 (Kd.S_reads' HO_9.out).2.2 x11_1 p136 q136
                           obtain rfl : ad134 = ad136 := (by injection e136)
                           obtain ⟨ce136, hce136, hMe136, hcc136⟩ := Kd.S_get HO_9.out [] x11_1 p136 (by first | exact q136 | exact of_decide_eq_true (by first | (with_reducible assumption) | assumption) | (have e_ := (Kd.S_reads' HO_9.out).1; ((try clear hji27 hji27w); (try clear hji33 hji33w); (try clear hji42 hji42w); omega)))
                           obtain ⟨ve136_0, rfl, ge136_0⟩ := hMe136
                           have hv136_0 := hcc136 0 _ rfl
                           rw [Nat.add_zero, show ((Kd.slice 3 (Kd.int .i64))).sz = 1 from rfl, Nat.mul_one] at hv136_0
                           replace hv136_0 := Option.some.inj (hv136_0.symm.trans hx136_0)
                           rw [hv136_0] at ge136_0
                           have HL136_0 := Aside0.mk (show Kd.R (Kd.int .i64) 3 _ _ _ _ (rd_L1 t131 x11_1) from ge136_0)
                           clear hv136_0 ge136_0
                           clear hcc136 hce136
                           have HR136_0 := Aside0.mk hi136_0
                           have HC136_0 := Aside0.mk hl136_0
                           clear hi136_0 hl136_0
                           replace p136 := eq_true p136
                           replace q136 := eq_true q136
                           have ea_ := Option.some.inj (hx135_0.symm.trans hx136_0)
                           injection ea_ with ea_ en_ ec_
                           subst ea_
                           subst ec_
                           clear en_
                           have p137 : 0 ≤ (x12_2 : Int) := of_decide_eq_true (by first | (with_reducible assumption) | assumption)
                           have q137 : x12_2 < ((rd_L1 t131 x11_1).length : Int) := of_decide_eq_true (by first | (with_reducible assumption) | assumption)
                           obtain ⟨ad137, e137, hx137_0⟩ := Kd.at_int (by repeat (first | (with_reducible exact HR136_0.out) | (with_reducible refine Kd.C_alloc ?_ _) | (with_reducible refine Kd.C_drewN ?_ _) | (with_reducible refine Kd.C_drew ?_) | exact HR136_0.out)) x12_2 p137 q137
                           cases e137
                           replace p137 := eq_true p137
                           replace q137 := eq_true q137
                           have p138 : 0 ≤ (x11_1 : Int) := of_decide_eq_true (by first | (with_reducible assumption) | assumption)
                           have q138 : x11_1 < (t131.length : Int) := of_decide_eq_true (by first | (with_reducible assumption) | assumption)
                           obtain ⟨ad138, A138_0, c138_0, e138, hx138_0, hl138_0, hi138_0⟩ := at_L1 (Kd.S_reads' HO_9.out).2.2 x11_1 p138 q138
                           obtain rfl : ad134 = ad138 := (by injection e138)
                           obtain ⟨ce138, hce138, hMe138, hcc138⟩ := Kd.S_get HO_9.out [] x11_1 p138 (by first | exact q138 | exact of_decide_eq_true (by first | (with_reducible assumption) | assumption) | (have e_ := (Kd.S_reads' HO_9.out).1; ((try clear hji27 hji27w); (try clear hji33 hji33w); (try clear hji42 hji42w); omega)))
                           obtain ⟨ve138_0, rfl, ge138_0⟩ := hMe138
                           have hv138_0 := hcc138 0 _ rfl
                           rw [Nat.add_zero, show ((Kd.slice 3 (Kd.int .i64))).sz = 1 from rfl, Nat.mul_one] at hv138_0
                           replace hv138_0 := Option.some.inj (hv138_0.symm.trans hx138_0)
                           rw [hv138_0] at ge138_0
                           have HL138_0 := Aside0.mk (show Kd.R (Kd.int .i64) 3 _ _ _ _ (rd_L1 t131 x11_1) from ge138_0)
                           clear hv138_0 ge138_0
                           clear hcc138 hce138
                           have HR138_0 := Aside0.mk hi138_0
                           have HC138_0 := Aside0.mk hl138_0
                           clear hi138_0 hl138_0
                           replace p138 := eq_true p138
                           replace q138 := eq_true q138
                           have ea_ := Option.some.inj (hx135_0.symm.trans hx138_0)
                           injection ea_ with ea_ en_ ec_
                           subst ea_
                           subst ec_
                           clear en_
                           have p139 : 0 ≤ (x12_2 : Int) := of_decide_eq_true (by first | (with_reducible assumption) | assumption)
                           have q139 : x12_2 < ((rd_L1 t131 x11_1).length : Int) := of_decide_eq_true (by first | (with_reducible assumption) | assumption)
                           obtain ⟨ad139, e139, hx139_0⟩ := Kd.at_int (by repeat (first | (with_reducible exact HR138_0.out) | (with_reducible refine Kd.C_alloc ?_ _) | (with_reducible refine Kd.C_drewN ?_ _) | (with_reducible refine Kd.C_drew ?_) | exact HR138_0.out)) x12_2 p139 q139
                           cases e139
                           replace p139 := eq_true p139
                           replace q139 := eq_true q139
                           obtain ⟨Ao39, co39, eo39⟩ := Kd.R_slice HO_8.out
                           subst eo39
                           have p140 : 0 ≤ (x11_1 : Int) := of_decide_eq_true (by first | (with_reducible assumption) | assumption)
                           have q140 : x11_1 < (t131.length : Int) := of_decide_eq_true (by first | (with_reducible assumption) | assumption)
                           obtain ⟨ad140, A140_0, c140_0, e140, hx140_0, hl140_0, hi140_0⟩ := at_L1 (Kd.S_reads' HO_9.out).2.2 x11_1 p140 q140
                           obtain rfl : ad134 = ad140 := (by injection e140)
                           obtain ⟨ce140, hce140, hMe140, hcc140⟩ := Kd.S_get HO_9.out [] x11_1 p140 (by first | exact q140 | exact of_decide_eq_true (by first | (with_reducible assumption) | assumption) | (have e_ := (Kd.S_reads' HO_9.out).1; ((try clear hji27 hji27w); (try clear hji33 hji33w); (try clear hji42 hji42w); omega)))
                           obtain ⟨ve140_0, rfl, ge140_0⟩ := hMe140
                           have hv140_0 := hcc140 0 _ rfl
                           rw [Nat.add_zero, show ((Kd.slice 3 (Kd.int .i64))).sz = 1 from rfl, Nat.mul_one] at hv140_0
                           replace hv140_0 := Option.some.inj (hv140_0.symm.trans hx140_0)
                           rw [hv140_0] at ge140_0
                           have HL140_0 := Aside0.mk (show Kd.R (Kd.int .i64) 3 _ _ _ _ (rd_L1 t131 x11_1) from ge140_0)
                           clear hv140_0 ge140_0
                           clear hcc140 hce140
                           have HR140_0 := Aside0.mk hi140_0
                           have HC140_0 := Aside0.mk hl140_0
                           clear hi140_0 hl140_0
                           replace p140 := eq_true p140
                           replace q140 := eq_true q140
                           have ea_ := Option.some.inj (hx135_0.symm.trans hx140_0)
                           injection ea_ with ea_ en_ ec_
                           subst ea_
                           subst ec_
                           clear en_
                           have p141 : 0 ≤ (x12_2 : Int) := of_decide_eq_true (by first | (with_reducible assumption) | assumption)
                           have q141 : x12_2 < ((rd_L1 t131 x11_1).length : Int) := of_decide_eq_true (by first | (with_reducible assumption) | assumption)
                           obtain ⟨ad141, e141, hx141_0⟩ := Kd.at_int (by repeat (first | (with_reducible exact HR140_0.out) | (with_reducible refine Kd.C_alloc ?_ _) | (with_reducible refine Kd.C_drewN ?_ _) | (with_reducible refine Kd.C_drew ?_) | exact HR140_0.out)) x12_2 p141 q141
                           cases e141
                           replace p141 := eq_true p141
                           replace q141 := eq_true q141
                           have p142 : 0 ≤ ((rd (rd_L1 t131 x11_1) x12_2) : Int) := of_decide_eq_true (by first | (with_reducible assumption) | assumption)
                           have q142 : (rd (rd_L1 t131 x11_1) x12_2) < (t128.length : Int) := of_decide_eq_true (by first | (with_reducible assumption) | assumption)
                           obtain ⟨ad142, e142, hx142_0⟩ := Kd.at_int (Kd.R_reads' HO_8.out).2.2 (rd (rd_L1 t131 x11_1) x12_2) p142 q142
                           cases e142
                           replace p142 := eq_true p142
                           replace q142 := eq_true q142
                           have p143 : 0 ≤ (x11_1 : Int) := of_decide_eq_true (by first | (with_reducible assumption) | assumption)
                           have q143 : x11_1 < (t131.length : Int) := of_decide_eq_true (by first | (with_reducible assumption) | assumption)
                           obtain ⟨ad143, A143_0, c143_0, e143, hx143_0, hl143_0, hi143_0⟩ := at_L1 (Kd.S_reads' HO_9.out).2.2 x11_1 p143 q143
                           obtain rfl : ad134 = ad143 := (by injection e143)
                           obtain ⟨ce143, hce143, hMe143, hcc143⟩ := Kd.S_get HO_9.out [] x11_1 p143 (by first | exact q143 | exact of_decide_eq_true (by first | (with_reducible assumption) | assumption) | (have e_ := (Kd.S_reads' HO_9.out).1; ((try clear hji27 hji27w); (try clear hji33 hji33w); (try clear hji42 hji42w); omega)))
                           obtain ⟨ve143_0, rfl, ge143_0⟩ := hMe143
                           have hv143_0 := hcc143 0 _ rfl
                           rw [Nat.add_zero, show ((Kd.slice 3 (Kd.int .i64))).sz = 1 from rfl, Nat.mul_one] at hv143_0
                           replace hv143_0 := Option.some.inj (hv143_0.symm.trans hx143_0)
                           rw [hv143_0] at ge143_0
                           have HL143_0 := Aside0.mk (show Kd.R (Kd.int .i64) 3 _ _ _ _ (rd_L1 t131 x11_1) from ge143_0)
                           clear hv143_0 ge143_0
                           clear hcc143 hce143
                           have HR143_0 := Aside0.mk hi143_0
                           have HC143_0 := Aside0.mk hl143_0
                           clear hi143_0 hl143_0
                           replace p143 := eq_true p143
                           replace q143 := eq_true q143
                           have ea_ := Option.some.inj (hx135_0.symm.trans hx143_0)
                           injection ea_ with ea_ en_ ec_
                           subst ea_
                           subst ec_
                           clear en_
                           have p144 : 0 ≤ (0 : Int) := (by ((try clear hji27 hji27w); (try clear hji33 hji33w); (try clear hji42 hji42w); omega))
                           have q144 : 0 < ((rd_L1 t131 x11_1).length : Int) := of_decide_eq_true (by first | (with_reducible assumption) | assumption)
                           obtain ⟨ad144, e144, hx144_0⟩ := Kd.at_int (by repeat (first | (with_reducible exact HR143_0.out) | (with_reducible refine Kd.C_alloc ?_ _) | (with_reducible refine Kd.C_drewN ?_ _) | (with_reducible refine Kd.C_drew ?_) | exact HR143_0.out)) 0 p144 q144
                           cases e144
                           have qi144 : (0 < (rd_L1 t131 x11_1).length) = True := eq_true (by ((try clear hji27 hji27w); (try clear hji33 hji33w); (try clear hji42 hji42w); omega))
                           (try rw [show ((0 : Int)).toNat = 0 from rfl] at hx144_0)
                           (try rw [Addr.add_zero'] at hx144_0)
                           replace p144 := eq_true p144
                           replace q144 := eq_true q144
                           have p145 : 0 ≤ (x11_1 : Int) := of_decide_eq_true (by first | (with_reducible assumption) | assumption)
                           have q145 : x11_1 < (t131.length : Int) := of_decide_eq_true (by first | (with_reducible assumption) | assumption)
                           obtain ⟨ad145, A145_0, c145_0, e145, hx145_0, hl145_0, hi145_0⟩ := at_L1 (Kd.S_reads' HO_9.out).2.2 x11_1 p145 q145
                           obtain rfl : ad134 = ad145 := (by injection e145)
                           obtain ⟨ce145, hce145, hMe145, hcc145⟩ := Kd.S_get HO_9.out [] x11_1 p145 (by first | exact q145 | exact of_decide_eq_true (by first | (with_reducible assumption) | assumption) | (have e_ := (Kd.S_reads' HO_9.out).1; ((try clear hji27 hji27w); (try clear hji33 hji33w); (try clear hji42 hji42w); omega)))
                           obtain ⟨ve145_0, rfl, ge145_0⟩ := hMe145
                           have hv145_0 := hcc145 0 _ rfl
                           rw [Nat.add_zero, show ((Kd.slice 3 (Kd.int .i64))).sz = 1 from rfl, Nat.mul_one] at hv145_0
                           replace hv145_0 := Option.some.inj (hv145_0.symm.trans hx145_0)
                           rw [hv145_0] at ge145_0
                           have HL145_0 := Aside0.mk (show Kd.R (Kd.int .i64) 3 _ _ _ _ (rd_L1 t131 x11_1) from ge145_0)
                           clear hv145_0 ge145_0
                           clear hcc145 hce145
                           have HR145_0 := Aside0.mk hi145_0
                           have HC145_0 := Aside0.mk hl145_0
                           clear hi145_0 hl145_0
                           replace p145 := eq_true p145
                           replace q145 := eq_true q145
                           have ea_ := Option.some.inj (hx135_0.symm.trans hx145_0)
                           injection ea_ with ea_ en_ ec_
                           subst ea_
                           subst ec_
                           clear en_
                           have p146 : 0 ≤ (x12_2 : Int) := of_decide_eq_true (by first | (with_reducible assumption) | assumption)
                           have q146 : x12_2 < ((rd_L1 t131 x11_1).length : Int) := of_decide_eq_true (by first | (with_reducible assumption) | assumption)
                           obtain ⟨ad146, e146, hx146_0⟩ := Kd.at_int (by repeat (first | (with_reducible exact HR145_0.out) | (with_reducible refine Kd.C_alloc ?_ _) | (with_reducible refine Kd.C_drewN ?_ _) | (with_reducible refine Kd.C_drew ?_) | exact HR145_0.out)) x12_2 p146 q146
                           cases e146
                           replace p146 := eq_true p146
                           replace q146 := eq_true q146
                           have p147 : 0 ≤ (x11_1 : Int) := of_decide_eq_true (by first | (with_reducible assumption) | assumption)
                           have q147 : x11_1 < (t131.length : Int) := of_decide_eq_true (by first | (with_reducible assumption) | assumption)
                           obtain ⟨ad147, A147_0, c147_0, e147, hx147_0, hl147_0, hi147_0⟩ := at_L1 (Kd.S_reads' HO_9.out).2.2 x11_1 p147 q147
                           obtain rfl : ad134 = ad147 := (by injection e147)
                           obtain ⟨ce147, hce147, hMe147, hcc147⟩ := Kd.S_get HO_9.out [] x11_1 p147 (by first | exact q147 | exact of_decide_eq_true (by first | (with_reducible assumption) | assumption) | (have e_ := (Kd.S_reads' HO_9.out).1; ((try clear hji27 hji27w); (try clear hji33 hji33w); (try clear hji42 hji42w); omega)))
                           obtain ⟨ve147_0, rfl, ge147_0⟩ := hMe147
                           have hv147_0 := hcc147 0 _ rfl
                           rw [Nat.add_zero, show ((Kd.slice 3 (Kd.int .i64))).sz = 1 from rfl, Nat.mul_one] at hv147_0
                           replace hv147_0 := Option.some.inj (hv147_0.symm.trans hx147_0)
                           rw [hv147_0] at ge147_0
                           have HL147_0 := Aside0.mk (show Kd.R (Kd.int .i64) 3 _ _ _ _ (rd_L1 t131 x11_1) from ge147_0)
                           clear hv147_0 ge147_0
                           clear hcc147 hce147
                           have HR147_0 := Aside0.mk hi147_0
                           have HC147_0 := Aside0.mk hl147_0
                           clear hi147_0 hl147_0
                           replace p147 := eq_true p147
                           replace q147 := eq_true q147
                           have ea_ := Option.some.inj (hx135_0.symm.trans hx147_0)
                           injection ea_ with ea_ en_ ec_
                           subst ea_
                           subst ec_
                           clear en_
                           have p148 : 0 ≤ ((ji27) : Int) := of_decide_eq_true (by first | (with_reducible assumption) | assumption)
                           have q148 : (ji27) < ((rd_L1 t131 x11_1).length : Int) := of_decide_eq_true (by first | (with_reducible assumption) | assumption)
                           obtain ⟨ad148, e148, hx148_0⟩ := Kd.at_int (by repeat (first | (with_reducible exact HR147_0.out) | (with_reducible refine Kd.C_alloc ?_ _) | (with_reducible refine Kd.C_drewN ?_ _) | (with_reducible refine Kd.C_drew ?_) | exact HR147_0.out)) (ji27) p148 q148
                           cases e148
                           replace p148 := eq_true p148
                           replace q148 := eq_true q148
                           have p149 : 0 ≤ (x11_1 : Int) := of_decide_eq_true (by first | (with_reducible assumption) | assumption)
                           have q149 : x11_1 < (t131.length : Int) := of_decide_eq_true (by first | (with_reducible assumption) | assumption)
                           obtain ⟨ad149, A149_0, c149_0, e149, hx149_0, hl149_0, hi149_0⟩ := at_L1 (Kd.S_reads' HO_9.out).2.2 x11_1 p149 q149
                           obtain rfl : ad134 = ad149 := (by injection e149)
                           obtain ⟨ce149, hce149, hMe149, hcc149⟩ := Kd.S_get HO_9.out [] x11_1 p149 (by first | exact q149 | exact of_decide_eq_true (by first | (with_reducible assumption) | assumption) | (have e_ := (Kd.S_reads' HO_9.out).1; ((try clear hji27 hji27w); (try clear hji33 hji33w); (try clear hji42 hji42w); omega)))
                           obtain ⟨ve149_0, rfl, ge149_0⟩ := hMe149
                           have hv149_0 := hcc149 0 _ rfl
                           rw [Nat.add_zero, show ((Kd.slice 3 (Kd.int .i64))).sz = 1 from rfl, Nat.mul_one] at hv149_0
                           replace hv149_0 := Option.some.inj (hv149_0.symm.trans hx149_0)
                           rw [hv149_0] at ge149_0
                           have HL149_0 := Aside0.mk (show Kd.R (Kd.int .i64) 3 _ _ _ _ (rd_L1 t131 x11_1) from ge149_0)
                           clear hv149_0 ge149_0
                           clear hcc149 hce149
                           have HR149_0 := Aside0.mk hi149_0
                           have HC149_0 := Aside0.mk hl149_0
                           clear hi149_0 hl149_0
                           replace p149 := eq_true p149
                           replace q149 := eq_true q149
                           have ea_ := Option.some.inj (hx135_0.symm.trans hx149_0)
                           injection ea_ with ea_ en_ ec_
                           subst ea_
                           subst ec_
                           clear en_
                           have p150 : 0 ≤ (0 : Int) := (by ((try clear hji27 hji27w); (try clear hji33 hji33w); (try clear hji42 hji42w); omega))
                           have q150 : 0 < ((rd_L1 t131 x11_1).length : Int) := of_decide_eq_true (by first | (with_reducible assumption) | assumption)
                           obtain ⟨ad150, e150, hx150_0⟩ := Kd.at_int (by repeat (first | (with_reducible exact HR149_0.out) | (with_reducible refine Kd.C_alloc ?_ _) | (with_reducible refine Kd.C_drewN ?_ _) | (with_reducible refine Kd.C_drew ?_) | exact HR149_0.out)) 0 p150 q150
                           cases e150
                           have qi150 : (0 < (rd_L1 t131 x11_1).length) = True := eq_true (by ((try clear hji27 hji27w); (try clear hji33 hji33w); (try clear hji42 hji42w); omega))
                           (try rw [show ((0 : Int)).toNat = 0 from rfl] at hx150_0)
                           (try rw [Addr.add_zero'] at hx150_0)
                           replace p150 := eq_true p150
                           replace q150 := eq_true q150
                           have p151 : 0 ≤ ((ji33) : Int) := of_decide_eq_true (by first | (with_reducible assumption) | assumption)
                           have q151 : (ji33) < (t131.length : Int) := of_decide_eq_true (by first | (with_reducible assumption) | assumption)
                           obtain ⟨ad151, A151_0, c151_0, e151, hx151_0, hl151_0, hi151_0⟩ := at_L1 (Kd.S_reads' HO_9.out).2.2 (ji33) p151 q151
                           obtain rfl : ad134 = ad151 := (by injection e151)
                           obtain ⟨ce151, hce151, hMe151, hcc151⟩ := Kd.S_get HO_9.out [] (ji33) p151 (by first | exact q151 | exact of_decide_eq_true (by first | (with_reducible assumption) | assumption) | (have e_ := (Kd.S_reads' HO_9.out).1; ((try clear hji27 hji27w); (try clear hji33 hji33w); (try clear hji42 hji42w); omega)))
                           obtain ⟨ve151_0, rfl, ge151_0⟩ := hMe151
                           have hv151_0 := hcc151 0 _ rfl
                           rw [Nat.add_zero, show ((Kd.slice 3 (Kd.int .i64))).sz = 1 from rfl, Nat.mul_one] at hv151_0
                           replace hv151_0 := Option.some.inj (hv151_0.symm.trans hx151_0)
                           rw [hv151_0] at ge151_0
                           have HL151_0 := Aside0.mk (show Kd.R (Kd.int .i64) 3 _ _ _ _ (rd_L1 t131 (ji33)) from ge151_0)
                           clear hv151_0 ge151_0
                           clear hcc151 hce151
                           have HR151_0 := Aside0.mk hi151_0
                           have HC151_0 := Aside0.mk hl151_0
                           clear hi151_0 hl151_0
                           replace p151 := eq_true p151
                           replace q151 := eq_true q151
                           have p152 : 0 ≤ (0 : Int) := (by ((try clear hji27 hji27w); (try clear hji33 hji33w); (try clear hji42 hji42w); omega))
                           have q152 : 0 < ((rd_L1 t131 (ji33)).length : Int) := of_decide_eq_true (by first | (with_reducible assumption) | assumption)
                           obtain ⟨ad152, e152, hx152_0⟩ := Kd.at_int (by repeat (first | (with_reducible exact HR151_0.out) | (with_reducible refine Kd.C_alloc ?_ _) | (with_reducible refine Kd.C_drewN ?_ _) | (with_reducible refine Kd.C_drew ?_) | exact HR151_0.out)) 0 p152 q152
                           cases e152
                           have qi152 : (0 < (rd_L1 t131 (ji33)).length) = True := eq_true (by ((try clear hji27 hji27w); (try clear hji33 hji33w); (try clear hji42 hji42w); omega))
                           (try rw [show ((0 : Int)).toNat = 0 from rfl] at hx152_0)
                           (try rw [Addr.add_zero'] at hx152_0)
                           replace p152 := eq_true p152
                           replace q152 := eq_true q152
                           go_wp2
                           repeat (go_quiet (fail); try go_wp2)
                           go_roundg k2
                           case measure => have := HK1.out; have := HK2.out; ((try clear hji27 hji27w); (try clear hji33 hji33w); (try clear hji42 hji42w); omega)
                           case rel => exact ⟨(wrap64 (x12_2 + 1)), (by first | rfl | (simp; done) | (simp [*]; done)), H', ⟨by have := HK1.out; have := HK2.out; ((try clear hji27 hji27w); (try clear hji33 hji33w); (try clear hji42 hji42w); omega)⟩, ⟨by (with_reducible repeat (first | apply Kd.R_alloc | apply Kd.R_drewN | apply Kd.R_drew)); exact HO_8.out⟩, ⟨by (with_reducible repeat (first | apply Kd.S_alloc | apply Kd.S_drewN | apply Kd.S_drew)); exact HO_9.out⟩, ⟨by repeat (first | (with_reducible exact HR134_0.out) | (with_reducible refine Kd.C_alloc ?_ _) | (with_reducible refine Kd.C_drewN ?_ _) | (with_reducible refine Kd.C_drew ?_) | exact HR134_0.out)⟩, ⟨by repeat (first | (with_reducible first | exact HB.out | apply below_alloc | apply pw_below_drewN | apply below_drew1) | exact HB.out)⟩⟩
                         ·
                          rw [if_neg c36] at H
                          exact absurd H (by simp)
                        ·
                         rw [if_neg c35] at H
                         exact absurd H (by simp)
                       ·
                        rw [if_neg c34] at H
                        exact absurd H (by simp)
                      ·
                       as_aux_lemma =>
                       rw [if_neg c32] at H
                       have c32b0 : decide (0 < x11_1) = false := decide_eq_false c32
                       clear c32
                       have H' := Aside0.mk H
                       clear H
                       have p135 : 0 ≤ (x11_1 : Int) := of_decide_eq_true (by first | (with_reducible assumption) | assumption)
                       have q135 : x11_1 < (t131.length : Int) := of_decide_eq_true (by first | (with_reducible assumption) | assumption)
                       obtain ⟨ad135, A135_0, c135_0, e135, hx135_0, hl135_0, hi135_0⟩ := at_L1 (Kd.S_reads' HO_9.out).2.2 x11_1 p135 q135
                       obtain rfl : ad134 = ad135 := (by injection e135)
                       obtain ⟨ce135, hce135, hMe135, hcc135⟩ := Kd.S_get HO_9.out [] x11_1 p135 (by first | exact q135 | exact of_decide_eq_true (by first | (with_reducible assumption) | assumption) | (have e_ := (Kd.S_reads' HO_9.out).1; ((try clear hji27 hji27w); (try clear hji33 hji33w); (try clear hji42 hji42w); omega)))
                       obtain ⟨ve135_0, rfl, ge135_0⟩ := hMe135
                       have hv135_0 := hcc135 0 _ rfl
                       rw [Nat.add_zero, show ((Kd.slice 3 (Kd.int .i64))).sz = 1 from rfl, Nat.mul_one] at hv135_0
                       replace hv135_0 := Option.some.inj (hv135_0.symm.trans hx135_0)
                       rw [hv135_0] at ge135_0
                       have HL135_0 := Aside0.mk (show Kd.R (Kd.int .i64) 3 _ _ _ _ (rd_L1 t131 x11_1) from ge135_0)
                       clear hv135_0 ge135_0
                       clear hcc135 hce135
                       have HR135_0 := Aside0.mk hi135_0
                       have HC135_0 := Aside0.mk hl135_0
                       clear hi135_0 hl135_0
                       replace p135 := eq_true p135
                       replace q135 := eq_true q135
                       have p136 : 0 ≤ (x11_1 : Int) := of_decide_eq_true (by first | (with_reducible assumption) | assumption)
                       have q136 : x11_1 < (t131.length : Int) := of_decide_eq_true (by first | (with_reducible assumption) | assumption)
                       obtain ⟨ad136, A136_0, c136_0, e136, hx136_0, hl136_0, hi136_0⟩ := at_L1 (Kd.S_reads' HO_9.out).2.2 x11_1 p136 q136
                       obtain rfl : ad134 = ad136 := (by injection e136)
                       obtain ⟨ce136, hce136, hMe136, hcc136⟩ := Kd.S_get HO_9.out [] x11_1 p136 (by first | exact q136 | exact of_decide_eq_true (by first | (with_reducible assumption) | assumption) | (have e_ := (Kd.S_reads' HO_9.out).1; ((try clear hji27 hji27w); (try clear hji33 hji33w); (try clear hji42 hji42w); omega)))
                       obtain ⟨ve136_0, rfl, ge136_0⟩ := hMe136
                       have hv136_0 := hcc136 0 _ rfl
                       rw [Nat.add_zero, show ((Kd.slice 3 (Kd.int .i64))).sz = 1 from rfl, Nat.mul_one] at hv136_0
                       replace hv136_0 := Option.some.inj (hv136_0.symm.trans hx136_0)
                       rw [hv136_0] at ge136_0
                       have HL136_0 := Aside0.mk (show Kd.R (Kd.int .i64) 3 _ _ _ _ (rd_L1 t131 x11_1) from ge136_0)
                       clear hv136_0 ge136_0
                       clear hcc136 hce136
                       have HR136_0 := Aside0.mk hi136_0
                       have HC136_0 := Aside0.mk hl136_0
                       clear hi136_0 hl136_0
                       replace p136 := eq_true p136
                       replace q136 := eq_true q136
                       have ea_ := Option.some.inj (hx135_0.symm.trans hx136_0)
                       injection ea_ with ea_ en_ ec_
                       subst ea_
                       subst ec_
                       clear en_
                       have p137 : 0 ≤ (x12_2 : Int) := of_decide_eq_true (by first | (with_reducible assumption) | assumption)
                       have q137 : x12_2 < ((rd_L1 t131 x11_1).length : Int) := of_decide_eq_true (by first | (with_reducible assumption) | assumption)
                       obtain ⟨ad137, e137, hx137_0⟩ := Kd.at_int (by repeat (first | (with_reducible exact HR136_0.out) | (with_reducible refine Kd.C_alloc ?_ _) | (with_reducible refine Kd.C_drewN ?_ _) | (with_reducible refine Kd.C_drew ?_) | exact HR136_0.out)) x12_2 p137 q137
                       cases e137
                       replace p137 := eq_true p137
                       replace q137 := eq_true q137
                       have p138 : 0 ≤ (x11_1 : Int) := of_decide_eq_true (by first | (with_reducible assumption) | assumption)
                       have q138 : x11_1 < (t131.length : Int) := of_decide_eq_true (by first | (with_reducible assumption) | assumption)
                       obtain ⟨ad138, A138_0, c138_0, e138, hx138_0, hl138_0, hi138_0⟩ := at_L1 (Kd.S_reads' HO_9.out).2.2 x11_1 p138 q138
                       obtain rfl : ad134 = ad138 := (by injection e138)
                       obtain ⟨ce138, hce138, hMe138, hcc138⟩ := Kd.S_get HO_9.out [] x11_1 p138 (by first | exact q138 | exact of_decide_eq_true (by first | (with_reducible assumption) | assumption) | (have e_ := (Kd.S_reads' HO_9.out).1; ((try clear hji27 hji27w); (try clear hji33 hji33w); (try clear hji42 hji42w); omega)))
                       obtain ⟨ve138_0, rfl, ge138_0⟩ := hMe138
                       have hv138_0 := hcc138 0 _ rfl
                       rw [Nat.add_zero, show ((Kd.slice 3 (Kd.int .i64))).sz = 1 from rfl, Nat.mul_one] at hv138_0
                       replace hv138_0 := Option.some.inj (hv138_0.symm.trans hx138_0)
                       rw [hv138_0] at ge138_0
                       have HL138_0 := Aside0.mk (show Kd.R (Kd.int .i64) 3 _ _ _ _ (rd_L1 t131 x11_1) from ge138_0)
                       clear hv138_0 ge138_0
                       clear hcc138 hce138
                       have HR138_0 := Aside0.mk hi138_0
                       have HC138_0 := Aside0.mk hl138_0
                       clear hi138_0 hl138_0
                       replace p138 := eq_true p138
                       replace q138 := eq_true q138
                       have ea_ := Option.some.inj (hx135_0.symm.trans hx138_0)
                       injection ea_ with ea_ en_ ec_
                       subst ea_
                       subst ec_
                       clear en_
                       have p139 : 0 ≤ (x12_2 : Int) := of_decide_eq_true (by first | (with_reducible assumption) | assumption)
                       have q139 : x12_2 < ((rd_L1 t131 x11_1).length : Int) := of_decide_eq_true (by first | (with_reducible assumption) | assumption)
                       obtain ⟨ad139, e139, hx139_0⟩ := Kd.at_int (by repeat (first | (with_reducible exact HR138_0.out) | (with_reducible refine Kd.C_alloc ?_ _) | (with_reducible refine Kd.C_drewN ?_ _) | (with_reducible refine Kd.C_drew ?_) | exact HR138_0.out)) x12_2 p139 q139
                       cases e139
                       replace p139 := eq_true p139
                       replace q139 := eq_true q139
                       obtain ⟨Ao40, co40, eo40⟩ := Kd.R_slice HO_8.out
                       subst eo40
                       have p140 : 0 ≤ (x11_1 : Int) := of_decide_eq_true (by first | (with_reducible assumption) | assumption)
                       have q140 : x11_1 < (t131.length : Int) := of_decide_eq_true (by first | (with_reducible assumption) | assumption)
                       obtain ⟨ad140, A140_0, c140_0, e140, hx140_0, hl140_0, hi140_0⟩ := at_L1 (Kd.S_reads' HO_9.out).2.2 x11_1 p140 q140
                       obtain rfl : ad134 = ad140 := (by injection e140)
                       obtain ⟨ce140, hce140, hMe140, hcc140⟩ := Kd.S_get HO_9.out [] x11_1 p140 (by first | exact q140 | exact of_decide_eq_true (by first | (with_reducible assumption) | assumption) | (have e_ := (Kd.S_reads' HO_9.out).1; ((try clear hji27 hji27w); (try clear hji33 hji33w); (try clear hji42 hji42w); omega)))
                       obtain ⟨ve140_0, rfl, ge140_0⟩ := hMe140
                       have hv140_0 := hcc140 0 _ rfl
                       rw [Nat.add_zero, show ((Kd.slice 3 (Kd.int .i64))).sz = 1 from rfl, Nat.mul_one] at hv140_0
                       replace hv140_0 := Option.some.inj (hv140_0.symm.trans hx140_0)
                       rw [hv140_0] at ge140_0
                       have HL140_0 := Aside0.mk (show Kd.R (Kd.int .i64) 3 _ _ _ _ (rd_L1 t131 x11_1) from ge140_0)
                       clear hv140_0 ge140_0
                       clear hcc140 hce140
                       have HR140_0 := Aside0.mk hi140_0
                       have HC140_0 := Aside0.mk hl140_0
                       clear hi140_0 hl140_0
                       replace p140 := eq_true p140
                       replace q140 := eq_true q140
                       have ea_ := Option.some.inj (hx135_0.symm.trans hx140_0)
                       injection ea_ with ea_ en_ ec_
                       subst ea_
                       subst ec_
                       clear en_
                       have p141 : 0 ≤ (x12_2 : Int) := of_decide_eq_true (by first | (with_reducible assumption) | assumption)
                       have q141 : x12_2 < ((rd_L1 t131 x11_1).length : Int) := of_decide_eq_true (by first | (with_reducible assumption) | assumption)
                       obtain ⟨ad141, e141, hx141_0⟩ := Kd.at_int (by repeat (first | (with_reducible exact HR140_0.out) | (with_reducible refine Kd.C_alloc ?_ _) | (with_reducible refine Kd.C_drewN ?_ _) | (with_reducible refine Kd.C_drew ?_) | exact HR140_0.out)) x12_2 p141 q141
                       cases e141
                       replace p141 := eq_true p141
                       replace q141 := eq_true q141
                       have p142 : 0 ≤ ((rd (rd_L1 t131 x11_1) x12_2) : Int) := of_decide_eq_true (by first | (with_reducible assumption) | assumption)
                       have q142 : (rd (rd_L1 t131 x11_1) x12_2) < (t128.length : Int) := of_decide_eq_true (by first | (with_reducible assumption) | assumption)
                       obtain ⟨ad142, e142, hx142_0⟩ := Kd.at_int (Kd.R_reads' HO_8.out).2.2 (rd (rd_L1 t131 x11_1) x12_2) p142 q142
                       cases e142
                       replace p142 := eq_true p142
                       replace q142 := eq_true q142
                       have p143 : 0 ≤ (x11_1 : Int) := of_decide_eq_true (by first | (with_reducible assumption) | assumption)
                       have q143 : x11_1 < (t131.length : Int) := of_decide_eq_true (by first | (with_reducible assumption) | assumption)
                       obtain ⟨ad143, A143_0, c143_0, e143, hx143_0, hl143_0, hi143_0⟩ := at_L1 (Kd.S_reads' HO_9.out).2.2 x11_1 p143 q143
                       obtain rfl : ad134 = ad143 := (by injection e143)
                       obtain ⟨ce143, hce143, hMe143, hcc143⟩ := Kd.S_get HO_9.out [] x11_1 p143 (by first | exact q143 | exact of_decide_eq_true (by first | (with_reducible assumption) | assumption) | (have e_ := (Kd.S_reads' HO_9.out).1; ((try clear hji27 hji27w); (try clear hji33 hji33w); (try clear hji42 hji42w); omega)))
                       obtain ⟨ve143_0, rfl, ge143_0⟩ := hMe143
                       have hv143_0 := hcc143 0 _ rfl
                       rw [Nat.add_zero, show ((Kd.slice 3 (Kd.int .i64))).sz = 1 from rfl, Nat.mul_one] at hv143_0
                       replace hv143_0 := Option.some.inj (hv143_0.symm.trans hx143_0)
                       rw [hv143_0] at ge143_0
                       have HL143_0 := Aside0.mk (show Kd.R (Kd.int .i64) 3 _ _ _ _ (rd_L1 t131 x11_1) from ge143_0)
                       clear hv143_0 ge143_0
                       clear hcc143 hce143
                       have HR143_0 := Aside0.mk hi143_0
                       have HC143_0 := Aside0.mk hl143_0
                       clear hi143_0 hl143_0
                       replace p143 := eq_true p143
                       replace q143 := eq_true q143
                       have ea_ := Option.some.inj (hx135_0.symm.trans hx143_0)
                       injection ea_ with ea_ en_ ec_
                       subst ea_
                       subst ec_
                       clear en_
                       have p144 : 0 ≤ (0 : Int) := (by ((try clear hji27 hji27w); (try clear hji33 hji33w); (try clear hji42 hji42w); omega))
                       have q144 : 0 < ((rd_L1 t131 x11_1).length : Int) := of_decide_eq_true (by first | (with_reducible assumption) | assumption)
                       obtain ⟨ad144, e144, hx144_0⟩ := Kd.at_int (by repeat (first | (with_reducible exact HR143_0.out) | (with_reducible refine Kd.C_alloc ?_ _) | (with_reducible refine Kd.C_drewN ?_ _) | (with_reducible refine Kd.C_drew ?_) | exact HR143_0.out)) 0 p144 q144
                       cases e144
                       have qi144 : (0 < (rd_L1 t131 x11_1).length) = True := eq_true (by ((try clear hji27 hji27w); (try clear hji33 hji33w); (try clear hji42 hji42w); omega))
                       (try rw [show ((0 : Int)).toNat = 0 from rfl] at hx144_0)
                       (try rw [Addr.add_zero'] at hx144_0)
                       replace p144 := eq_true p144
                       replace q144 := eq_true q144
                       have p145 : 0 ≤ (x11_1 : Int) := of_decide_eq_true (by first | (with_reducible assumption) | assumption)
                       have q145 : x11_1 < (t131.length : Int) := of_decide_eq_true (by first | (with_reducible assumption) | assumption)
                       obtain ⟨ad145, A145_0, c145_0, e145, hx145_0, hl145_0, hi145_0⟩ := at_L1 (Kd.S_reads' HO_9.out).2.2 x11_1 p145 q145
                       obtain rfl : ad134 = ad145 := (by injection e145)
                       obtain ⟨ce145, hce145, hMe145, hcc145⟩ := Kd.S_get HO_9.out [] x11_1 p145 (by first | exact q145 | exact of_decide_eq_true (by first | (with_reducible assumption) | assumption) | (have e_ := (Kd.S_reads' HO_9.out).1; ((try clear hji27 hji27w); (try clear hji33 hji33w); (try clear hji42 hji42w); omega)))
                       obtain ⟨ve145_0, rfl, ge145_0⟩ := hMe145
                       have hv145_0 := hcc145 0 _ rfl
                       rw [Nat.add_zero, show ((Kd.slice 3 (Kd.int .i64))).sz = 1 from rfl, Nat.mul_one] at hv145_0
                       replace hv145_0 := Option.some.inj (hv145_0.symm.trans hx145_0)
                       rw [hv145_0] at ge145_0
                       have HL145_0 := Aside0.mk (show Kd.R (Kd.int .i64) 3 _ _ _ _ (rd_L1 t131 x11_1) from ge145_0)
                       clear hv145_0 ge145_0
                       clear hcc145 hce145
                       have HR145_0 := Aside0.mk hi145_0
                       have HC145_0 := Aside0.mk hl145_0
                       clear hi145_0 hl145_0
                       replace p145 := eq_true p145
                       replace q145 := eq_true q145
                       have ea_ := Option.some.inj (hx135_0.symm.trans hx145_0)
                       injection ea_ with ea_ en_ ec_
                       subst ea_
                       subst ec_
                       clear en_
                       have p146 : 0 ≤ (x12_2 : Int) := of_decide_eq_true (by first | (with_reducible assumption) | assumption)
                       have q146 : x12_2 < ((rd_L1 t131 x11_1).length : Int) := of_decide_eq_true (by first | (with_reducible assumption) | assumption)
                       obtain ⟨ad146, e146, hx146_0⟩ := Kd.at_int (by repeat (first | (with_reducible exact HR145_0.out) | (with_reducible refine Kd.C_alloc ?_ _) | (with_reducible refine Kd.C_drewN ?_ _) | (with_reducible refine Kd.C_drew ?_) | exact HR145_0.out)) x12_2 p146 q146
                       cases e146
                       replace p146 := eq_true p146
                       replace q146 := eq_true q146
                       have p147 : 0 ≤ (x11_1 : Int) := of_decide_eq_true (by first | (with_reducible assumption) | assumption)
                       have q147 : x11_1 < (t131.length : Int) := of_decide_eq_true (by first | (with_reducible assumption) | assumption)
                       obtain ⟨ad147, A147_0, c147_0, e147, hx147_0, hl147_0, hi147_0⟩ := at_L1 (Kd.S_reads' HO_9.out).2.2 x11_1 p147 q147
                       obtain rfl : ad134 = ad147 := (by injection e147)
                       obtain ⟨ce147, hce147, hMe147, hcc147⟩ := Kd.S_get HO_9.out [] x11_1 p147 (by first | exact q147 | exact of_decide_eq_true (by first | (with_reducible assumption) | assumption) | (have e_ := (Kd.S_reads' HO_9.out).1; ((try clear hji27 hji27w); (try clear hji33 hji33w); (try clear hji42 hji42w); omega)))
                       obtain ⟨ve147_0, rfl, ge147_0⟩ := hMe147
                       have hv147_0 := hcc147 0 _ rfl
                       rw [Nat.add_zero, show ((Kd.slice 3 (Kd.int .i64))).sz = 1 from rfl, Nat.mul_one] at hv147_0
                       replace hv147_0 := Option.some.inj (hv147_0.symm.trans hx147_0)
                       rw [hv147_0] at ge147_0
                       have HL147_0 := Aside0.mk (show Kd.R (Kd.int .i64) 3 _ _ _ _ (rd_L1 t131 x11_1) from ge147_0)
                       clear hv147_0 ge147_0
                       clear hcc147 hce147
                       have HR147_0 := Aside0.mk hi147_0
                       have HC147_0 := Aside0.mk hl147_0
                       clear hi147_0 hl147_0
                       replace p147 := eq_true p147
                       replace q147 := eq_true q147
                       have ea_ := Option.some.inj (hx135_0.symm.trans hx147_0)
                       injection ea_ with ea_ en_ ec_
                       subst ea_
                       subst ec_
                       clear en_
                       have p148 : 0 ≤ ((ji27) : Int) := of_decide_eq_true (by first | (with_reducible assumption) | assumption)
                       have q148 : (ji27) < ((rd_L1 t131 x11_1).length : Int) := of_decide_eq_true (by first | (with_reducible assumption) | assumption)
                       obtain ⟨ad148, e148, hx148_0⟩ := Kd.at_int (by repeat (first | (with_reducible exact HR147_0.out) | (with_reducible refine Kd.C_alloc ?_ _) | (with_reducible refine Kd.C_drewN ?_ _) | (with_reducible refine Kd.C_drew ?_) | exact HR147_0.out)) (ji27) p148 q148
                       cases e148
                       replace p148 := eq_true p148
                       replace q148 := eq_true q148
                       go_wp2
                       repeat (go_quiet (fail); try go_wp2)
                       go_roundg k2
                       case measure => have := HK1.out; have := HK2.out; ((try clear hji27 hji27w); (try clear hji33 hji33w); (try clear hji42 hji42w); omega)
                       case rel => exact ⟨(wrap64 (x12_2 + 1)), (by first | rfl | (simp; done) | (simp [*]; done)), H', ⟨by have := HK1.out; have := HK2.out; ((try clear hji27 hji27w); (try clear hji33 hji33w); (try clear hji42 hji42w); omega)⟩, ⟨by (with_reducible repeat (first | apply Kd.R_alloc | apply Kd.R_drewN | apply Kd.R_drew)); exact HO_8.out⟩, ⟨by (with_reducible repeat (first | apply Kd.S_alloc | apply Kd.S_drewN | apply Kd.S_drew)); exact HO_9.out⟩, ⟨by repeat (first | (with_reducible exact HR134_0.out) | (with_reducible refine Kd.C_alloc ?_ _) | (with_reducible refine Kd.C_drewN ?_ _) | (with_reducible refine Kd.C_drew ?_) | exact HR134_0.out)⟩, ⟨by repeat (first | (with_reducible first | exact HB.out | apply below_alloc | apply pw_below_drewN | apply below_drew1) | exact HB.out)⟩⟩
                    ·
                     rw [if_neg c29] at H
                     exact absurd H (by simp)
                   ·
                    rw [if_neg c28] at H
                    exact absurd H (by simp)
                  ·
                   as_aux_lemma =>
                   rw [if_neg c26] at H
                   have c26b0 : decide (0 < x12_2) = false := decide_eq_false c26
                   clear c26
                   by_cases c41 : x11_1 > 0
                   ·
                    as_aux_lemma =>
                    rw [if_pos c41] at H
                    have c41b0 : decide (0 < x11_1) = true := decide_eq_true c41
                    clear c41
                    obtain ⟨ji42, hji42⟩ : ∃ j_ : Int, (wrap64 (x11_1 - 1)) = j_ := ⟨_, rfl⟩
                    replace H : (if 0 ≤ (ji42) then (if (ji42) < (t131.length : Int) then (if 0 < ((rd_L1 t131 (ji42)).length : Int) then (if (rd (rd_L1 t131 x11_1) 0) ≤ (rd (rd_L1 t131 (ji42)) 0) then (some false) else (bywashlaw11_SccParts.l1 k2 l0 a1 a2 t126 t128 t131 (wrap64 (x10_1 + ((rd_L1 t131 x11_1).length : Int))) x11_1 (wrap64 (x12_2 + 1)))) else (none)) else (none)) else (none)) = some r := by first | (rw [hji42] at H; exact H) | (simp only [hji42] at H ⊢; exact H)
                    have hji42w : (IntKind.i64.wrap (x11_1 - 1)) = ji42 := (i64_w _).trans hji42
                    by_cases c43 : 0 ≤ (ji42)
                    ·
                     rw [if_pos c43] at H
                     have c43b0 : decide (0 ≤ (ji42)) = true := decide_eq_true c43
                     clear c43
                     by_cases c44 : (ji42) < (t131.length : Int)
                     ·
                      rw [if_pos c44] at H
                      have c44b0 : decide ((ji42) < (t131.length : Int)) = true := decide_eq_true c44
                      clear c44
                      by_cases c45 : 0 < ((rd_L1 t131 (ji42)).length : Int)
                      ·
                       rw [if_pos c45] at H
                       have c45b0 : decide (0 < ((rd_L1 t131 (ji42)).length : Int)) = true := decide_eq_true c45
                       have c45b1 : decide (0 < (rd_L1 t131 (ji42)).length) = true := decide_eq_true (by ((try clear hji27 hji27w); (try clear hji33 hji33w); (try clear hji42 hji42w); omega))
                       clear c45
                       by_cases c46 : (rd (rd_L1 t131 x11_1) 0) ≤ (rd (rd_L1 t131 (ji42)) 0)
                       ·
                        rw [if_pos c46] at H
                        exact absurd (Option.some.inj H) (by rw [HRT.out]; decide)
                       ·
                        rw [if_neg c46] at H
                        have c46b0 : decide ((rd (rd_L1 t131 x11_1) 0) ≤ (rd (rd_L1 t131 (ji42)) 0)) = false := decide_eq_false c46
                        clear c46
                        have H' := Aside0.mk H
                        clear H
                        have p135 : 0 ≤ (x11_1 : Int) := of_decide_eq_true (by first | (with_reducible assumption) | assumption)
                        have q135 : x11_1 < (t131.length : Int) := of_decide_eq_true (by first | (with_reducible assumption) | assumption)
                        obtain ⟨ad135, A135_0, c135_0, e135, hx135_0, hl135_0, hi135_0⟩ := at_L1 (Kd.S_reads' HO_9.out).2.2 x11_1 p135 q135
                        obtain rfl : ad134 = ad135 := (by injection e135)
                        obtain ⟨ce135, hce135, hMe135, hcc135⟩ := Kd.S_get HO_9.out [] x11_1 p135 (by first | exact q135 | exact of_decide_eq_true (by first | (with_reducible assumption) | assumption) | (have e_ := (Kd.S_reads' HO_9.out).1; ((try clear hji27 hji27w); (try clear hji33 hji33w); (try clear hji42 hji42w); omega)))
                        obtain ⟨ve135_0, rfl, ge135_0⟩ := hMe135
                        have hv135_0 := hcc135 0 _ rfl
                        rw [Nat.add_zero, show ((Kd.slice 3 (Kd.int .i64))).sz = 1 from rfl, Nat.mul_one] at hv135_0
                        replace hv135_0 := Option.some.inj (hv135_0.symm.trans hx135_0)
                        rw [hv135_0] at ge135_0
                        have HL135_0 := Aside0.mk (show Kd.R (Kd.int .i64) 3 _ _ _ _ (rd_L1 t131 x11_1) from ge135_0)
                        clear hv135_0 ge135_0
                        clear hcc135 hce135
                        have HR135_0 := Aside0.mk hi135_0
                        have HC135_0 := Aside0.mk hl135_0
                        clear hi135_0 hl135_0
                        replace p135 := eq_true p135
                        replace q135 := eq_true q135
                        have p136 : 0 ≤ (x11_1 : Int) := of_decide_eq_true (by first | (with_reducible assumption) | assumption)
                        have q136 : x11_1 < (t131.length : Int) := of_decide_eq_true (by first | (with_reducible assumption) | assumption)
                        obtain ⟨ad136, A136_0, c136_0, e136, hx136_0, hl136_0, hi136_0⟩ := at_L1 (Kd.S_reads' HO_9.out).2.2 x11_1 p136 q136
                        obtain rfl : ad134 = ad136 := (by injection e136)
                        obtain ⟨ce136, hce136, hMe136, hcc136⟩ := Kd.S_get HO_9.out [] x11_1 p136 (by first | exact q136 | exact of_decide_eq_true (by first | (with_reducible assumption) | assumption) | (have e_ := (Kd.S_reads' HO_9.out).1; ((try clear hji27 hji27w); (try clear hji33 hji33w); (try clear hji42 hji42w); omega)))
                        obtain ⟨ve136_0, rfl, ge136_0⟩ := hMe136
                        have hv136_0 := hcc136 0 _ rfl
                        rw [Nat.add_zero, show ((Kd.slice 3 (Kd.int .i64))).sz = 1 from rfl, Nat.mul_one] at hv136_0
                        replace hv136_0 := Option.some.inj (hv136_0.symm.trans hx136_0)
                        rw [hv136_0] at ge136_0
                        have HL136_0 := Aside0.mk (show Kd.R (Kd.int .i64) 3 _ _ _ _ (rd_L1 t131 x11_1) from ge136_0)
                        clear hv136_0 ge136_0
                        clear hcc136 hce136
                        have HR136_0 := Aside0.mk hi136_0
                        have HC136_0 := Aside0.mk hl136_0
                        clear hi136_0 hl136_0
                        replace p136 := eq_true p136
                        replace q136 := eq_true q136
                        have ea_ := Option.some.inj (hx135_0.symm.trans hx136_0)
                        injection ea_ with ea_ en_ ec_
                        subst ea_
                        subst ec_
                        clear en_
                        have p137 : 0 ≤ (x12_2 : Int) := of_decide_eq_true (by first | (with_reducible assumption) | assumption)
                        have q137 : x12_2 < ((rd_L1 t131 x11_1).length : Int) := of_decide_eq_true (by first | (with_reducible assumption) | assumption)
                        obtain ⟨ad137, e137, hx137_0⟩ := Kd.at_int (by repeat (first | (with_reducible exact HR136_0.out) | (with_reducible refine Kd.C_alloc ?_ _) | (with_reducible refine Kd.C_drewN ?_ _) | (with_reducible refine Kd.C_drew ?_) | exact HR136_0.out)) x12_2 p137 q137
                        cases e137
                        replace p137 := eq_true p137
                        replace q137 := eq_true q137
                        have p138 : 0 ≤ (x11_1 : Int) := of_decide_eq_true (by first | (with_reducible assumption) | assumption)
                        have q138 : x11_1 < (t131.length : Int) := of_decide_eq_true (by first | (with_reducible assumption) | assumption)
                        obtain ⟨ad138, A138_0, c138_0, e138, hx138_0, hl138_0, hi138_0⟩ := at_L1 (Kd.S_reads' HO_9.out).2.2 x11_1 p138 q138
                        obtain rfl : ad134 = ad138 := (by injection e138)
                        obtain ⟨ce138, hce138, hMe138, hcc138⟩ := Kd.S_get HO_9.out [] x11_1 p138 (by first | exact q138 | exact of_decide_eq_true (by first | (with_reducible assumption) | assumption) | (have e_ := (Kd.S_reads' HO_9.out).1; ((try clear hji27 hji27w); (try clear hji33 hji33w); (try clear hji42 hji42w); omega)))
                        obtain ⟨ve138_0, rfl, ge138_0⟩ := hMe138
                        have hv138_0 := hcc138 0 _ rfl
                        rw [Nat.add_zero, show ((Kd.slice 3 (Kd.int .i64))).sz = 1 from rfl, Nat.mul_one] at hv138_0
                        replace hv138_0 := Option.some.inj (hv138_0.symm.trans hx138_0)
                        rw [hv138_0] at ge138_0
                        have HL138_0 := Aside0.mk (show Kd.R (Kd.int .i64) 3 _ _ _ _ (rd_L1 t131 x11_1) from ge138_0)
                        clear hv138_0 ge138_0
                        clear hcc138 hce138
                        have HR138_0 := Aside0.mk hi138_0
                        have HC138_0 := Aside0.mk hl138_0
                        clear hi138_0 hl138_0
                        replace p138 := eq_true p138
                        replace q138 := eq_true q138
                        have ea_ := Option.some.inj (hx135_0.symm.trans hx138_0)
                        injection ea_ with ea_ en_ ec_
                        subst ea_
                        subst ec_
                        clear en_
                        have p139 : 0 ≤ (x12_2 : Int) := of_decide_eq_true (by first | (with_reducible assumption) | assumption)
                        have q139 : x12_2 < ((rd_L1 t131 x11_1).length : Int) := of_decide_eq_true (by first | (with_reducible assumption) | assumption)
                        obtain ⟨ad139, e139, hx139_0⟩ := Kd.at_int (by repeat (first | (with_reducible exact HR138_0.out) | (with_reducible refine Kd.C_alloc ?_ _) | (with_reducible refine Kd.C_drewN ?_ _) | (with_reducible refine Kd.C_drew ?_) | exact HR138_0.out)) x12_2 p139 q139
                        cases e139
                        replace p139 := eq_true p139
                        replace q139 := eq_true q139
                        obtain ⟨Ao48, co48, eo48⟩ := Kd.R_slice HO_8.out
                        subst eo48
                        have p140 : 0 ≤ (x11_1 : Int) := of_decide_eq_true (by first | (with_reducible assumption) | assumption)
                        have q140 : x11_1 < (t131.length : Int) := of_decide_eq_true (by first | (with_reducible assumption) | assumption)
                        obtain ⟨ad140, A140_0, c140_0, e140, hx140_0, hl140_0, hi140_0⟩ := at_L1 (Kd.S_reads' HO_9.out).2.2 x11_1 p140 q140
                        obtain rfl : ad134 = ad140 := (by injection e140)
                        obtain ⟨ce140, hce140, hMe140, hcc140⟩ := Kd.S_get HO_9.out [] x11_1 p140 (by first | exact q140 | exact of_decide_eq_true (by first | (with_reducible assumption) | assumption) | (have e_ := (Kd.S_reads' HO_9.out).1; ((try clear hji27 hji27w); (try clear hji33 hji33w); (try clear hji42 hji42w); omega)))
                        obtain ⟨ve140_0, rfl, ge140_0⟩ := hMe140
                        have hv140_0 := hcc140 0 _ rfl
                        rw [Nat.add_zero, show ((Kd.slice 3 (Kd.int .i64))).sz = 1 from rfl, Nat.mul_one] at hv140_0
                        replace hv140_0 := Option.some.inj (hv140_0.symm.trans hx140_0)
                        rw [hv140_0] at ge140_0
                        have HL140_0 := Aside0.mk (show Kd.R (Kd.int .i64) 3 _ _ _ _ (rd_L1 t131 x11_1) from ge140_0)
                        clear hv140_0 ge140_0
                        clear hcc140 hce140
                        have HR140_0 := Aside0.mk hi140_0
                        have HC140_0 := Aside0.mk hl140_0
                        clear hi140_0 hl140_0
                        replace p140 := eq_true p140
                        replace q140 := eq_true q140
                        have ea_ := Option.some.inj (hx135_0.symm.trans hx140_0)
                        injection ea_ with ea_ en_ ec_
                        subst ea_
                        subst ec_
                        clear en_
                        have p141 : 0 ≤ (x12_2 : Int) := of_decide_eq_true (by first | (with_reducible assumption) | assumption)
                        have q141 : x12_2 < ((rd_L1 t131 x11_1).length : Int) := of_decide_eq_true (by first | (with_reducible assumption) | assumption)
                        obtain ⟨ad141, e141, hx141_0⟩ := Kd.at_int (by repeat (first | (with_reducible exact HR140_0.out) | (with_reducible refine Kd.C_alloc ?_ _) | (with_reducible refine Kd.C_drewN ?_ _) | (with_reducible refine Kd.C_drew ?_) | exact HR140_0.out)) x12_2 p141 q141
                        cases e141
                        replace p141 := eq_true p141
                        replace q141 := eq_true q141
                        have p142 : 0 ≤ ((rd (rd_L1 t131 x11_1) x12_2) : Int) := of_decide_eq_true (by first | (with_reducible assumption) | assumption)
                        have q142 : (rd (rd_L1 t131 x11_1) x12_2) < (t128.length : Int) := of_decide_eq_true (by first | (with_reducible assumption) | assumption)
                        obtain ⟨ad142, e142, hx142_0⟩ := Kd.at_int (Kd.R_reads' HO_8.out).2.2 (rd (rd_L1 t131 x11_1) x12_2) p142 q142
                        cases e142
                        replace p142 := eq_true p142
                        replace q142 := eq_true q142
                        have p143 : 0 ≤ (x11_1 : Int) := of_decide_eq_true (by first | (with_reducible assumption) | assumption)
                        have q143 : x11_1 < (t131.length : Int) := of_decide_eq_true (by first | (with_reducible assumption) | assumption)
                        obtain ⟨ad143, A143_0, c143_0, e143, hx143_0, hl143_0, hi143_0⟩ := at_L1 (Kd.S_reads' HO_9.out).2.2 x11_1 p143 q143
                        obtain rfl : ad134 = ad143 := (by injection e143)
                        obtain ⟨ce143, hce143, hMe143, hcc143⟩ := Kd.S_get HO_9.out [] x11_1 p143 (by first | exact q143 | exact of_decide_eq_true (by first | (with_reducible assumption) | assumption) | (have e_ := (Kd.S_reads' HO_9.out).1; ((try clear hji27 hji27w); (try clear hji33 hji33w); (try clear hji42 hji42w); omega)))
                        obtain ⟨ve143_0, rfl, ge143_0⟩ := hMe143
                        have hv143_0 := hcc143 0 _ rfl
                        rw [Nat.add_zero, show ((Kd.slice 3 (Kd.int .i64))).sz = 1 from rfl, Nat.mul_one] at hv143_0
                        replace hv143_0 := Option.some.inj (hv143_0.symm.trans hx143_0)
                        rw [hv143_0] at ge143_0
                        have HL143_0 := Aside0.mk (show Kd.R (Kd.int .i64) 3 _ _ _ _ (rd_L1 t131 x11_1) from ge143_0)
                        clear hv143_0 ge143_0
                        clear hcc143 hce143
                        have HR143_0 := Aside0.mk hi143_0
                        have HC143_0 := Aside0.mk hl143_0
                        clear hi143_0 hl143_0
                        replace p143 := eq_true p143
                        replace q143 := eq_true q143
                        have ea_ := Option.some.inj (hx135_0.symm.trans hx143_0)
                        injection ea_ with ea_ en_ ec_
                        subst ea_
                        subst ec_
                        clear en_
                        have p144 : 0 ≤ (0 : Int) := (by ((try clear hji27 hji27w); (try clear hji33 hji33w); (try clear hji42 hji42w); omega))
                        have q144 : 0 < ((rd_L1 t131 x11_1).length : Int) := of_decide_eq_true (by first | (with_reducible assumption) | assumption)
                        obtain ⟨ad144, e144, hx144_0⟩ := Kd.at_int (by repeat (first | (with_reducible exact HR143_0.out) | (with_reducible refine Kd.C_alloc ?_ _) | (with_reducible refine Kd.C_drewN ?_ _) | (with_reducible refine Kd.C_drew ?_) | exact HR143_0.out)) 0 p144 q144
                        cases e144
                        have qi144 : (0 < (rd_L1 t131 x11_1).length) = True := eq_true (by ((try clear hji27 hji27w); (try clear hji33 hji33w); (try clear hji42 hji42w); omega))
                        (try rw [show ((0 : Int)).toNat = 0 from rfl] at hx144_0)
                        (try rw [Addr.add_zero'] at hx144_0)
                        replace p144 := eq_true p144
                        replace q144 := eq_true q144
                        have p153 : 0 ≤ (x11_1 : Int) := of_decide_eq_true (by first | (with_reducible assumption) | assumption)
                        have q153 : x11_1 < (t131.length : Int) := of_decide_eq_true (by first | (with_reducible assumption) | assumption)
                        obtain ⟨ad153, A153_0, c153_0, e153, hx153_0, hl153_0, hi153_0⟩ := at_L1 (Kd.S_reads' HO_9.out).2.2 x11_1 p153 q153
                        obtain rfl : ad134 = ad153 := (by injection e153)
                        obtain ⟨ce153, hce153, hMe153, hcc153⟩ := Kd.S_get HO_9.out [] x11_1 p153 (by first | exact q153 | exact of_decide_eq_true (by first | (with_reducible assumption) | assumption) | (have e_ := (Kd.S_reads' HO_9.out).1; ((try clear hji27 hji27w); (try clear hji33 hji33w); (try clear hji42 hji42w); omega)))
                        obtain ⟨ve153_0, rfl, ge153_0⟩ := hMe153
                        have hv153_0 := hcc153 0 _ rfl
                        rw [Nat.add_zero, show ((Kd.slice 3 (Kd.int .i64))).sz = 1 from rfl, Nat.mul_one] at hv153_0
                        replace hv153_0 := Option.some.inj (hv153_0.symm.trans hx153_0)
                        rw [hv153_0] at ge153_0
                        have HL153_0 := Aside0.mk (show Kd.R (Kd.int .i64) 3 _ _ _ _ (rd_L1 t131 x11_1) from ge153_0)
                        clear hv153_0 ge153_0
                        clear hcc153 hce153
                        have HR153_0 := Aside0.mk hi153_0
                        have HC153_0 := Aside0.mk hl153_0
                        clear hi153_0 hl153_0
                        replace p153 := eq_true p153
                        replace q153 := eq_true q153
                        have ea_ := Option.some.inj (hx135_0.symm.trans hx153_0)
                        injection ea_ with ea_ en_ ec_
                        subst ea_
                        subst ec_
                        clear en_
                        have p154 : 0 ≤ (0 : Int) := (by ((try clear hji27 hji27w); (try clear hji33 hji33w); (try clear hji42 hji42w); omega))
                        have q154 : 0 < ((rd_L1 t131 x11_1).length : Int) := of_decide_eq_true (by first | (with_reducible assumption) | assumption)
                        obtain ⟨ad154, e154, hx154_0⟩ := Kd.at_int (by repeat (first | (with_reducible exact HR153_0.out) | (with_reducible refine Kd.C_alloc ?_ _) | (with_reducible refine Kd.C_drewN ?_ _) | (with_reducible refine Kd.C_drew ?_) | exact HR153_0.out)) 0 p154 q154
                        cases e154
                        have qi154 : (0 < (rd_L1 t131 x11_1).length) = True := eq_true (by ((try clear hji27 hji27w); (try clear hji33 hji33w); (try clear hji42 hji42w); omega))
                        (try rw [show ((0 : Int)).toNat = 0 from rfl] at hx154_0)
                        (try rw [Addr.add_zero'] at hx154_0)
                        replace p154 := eq_true p154
                        replace q154 := eq_true q154
                        have p155 : 0 ≤ ((ji42) : Int) := of_decide_eq_true (by first | (with_reducible assumption) | assumption)
                        have q155 : (ji42) < (t131.length : Int) := of_decide_eq_true (by first | (with_reducible assumption) | assumption)
                        obtain ⟨ad155, A155_0, c155_0, e155, hx155_0, hl155_0, hi155_0⟩ := at_L1 (Kd.S_reads' HO_9.out).2.2 (ji42) p155 q155
                        obtain rfl : ad134 = ad155 := (by injection e155)
                        obtain ⟨ce155, hce155, hMe155, hcc155⟩ := Kd.S_get HO_9.out [] (ji42) p155 (by first | exact q155 | exact of_decide_eq_true (by first | (with_reducible assumption) | assumption) | (have e_ := (Kd.S_reads' HO_9.out).1; ((try clear hji27 hji27w); (try clear hji33 hji33w); (try clear hji42 hji42w); omega)))
                        obtain ⟨ve155_0, rfl, ge155_0⟩ := hMe155
                        have hv155_0 := hcc155 0 _ rfl
                        rw [Nat.add_zero, show ((Kd.slice 3 (Kd.int .i64))).sz = 1 from rfl, Nat.mul_one] at hv155_0
                        replace hv155_0 := Option.some.inj (hv155_0.symm.trans hx155_0)
                        rw [hv155_0] at ge155_0
                        have HL155_0 := Aside0.mk (show Kd.R (Kd.int .i64) 3 _ _ _ _ (rd_L1 t131 (ji42)) from ge155_0)
                        clear hv155_0 ge155_0
                        clear hcc155 hce155
                        have HR155_0 := Aside0.mk hi155_0
                        have HC155_0 := Aside0.mk hl155_0
                        clear hi155_0 hl155_0
                        replace p155 := eq_true p155
                        replace q155 := eq_true q155
                        have p156 : 0 ≤ (0 : Int) := (by ((try clear hji27 hji27w); (try clear hji33 hji33w); (try clear hji42 hji42w); omega))
                        have q156 : 0 < ((rd_L1 t131 (ji42)).length : Int) := of_decide_eq_true (by first | (with_reducible assumption) | assumption)
                        obtain ⟨ad156, e156, hx156_0⟩ := Kd.at_int (by repeat (first | (with_reducible exact HR155_0.out) | (with_reducible refine Kd.C_alloc ?_ _) | (with_reducible refine Kd.C_drewN ?_ _) | (with_reducible refine Kd.C_drew ?_) | exact HR155_0.out)) 0 p156 q156
                        cases e156
                        have qi156 : (0 < (rd_L1 t131 (ji42)).length) = True := eq_true (by ((try clear hji27 hji27w); (try clear hji33 hji33w); (try clear hji42 hji42w); omega))
                        (try rw [show ((0 : Int)).toNat = 0 from rfl] at hx156_0)
                        (try rw [Addr.add_zero'] at hx156_0)
                        replace p156 := eq_true p156
                        replace q156 := eq_true q156
                        go_wp2
                        repeat (go_quiet (fail); try go_wp2)
                        go_roundg k2
                        case measure => have := HK1.out; have := HK2.out; ((try clear hji27 hji27w); (try clear hji33 hji33w); (try clear hji42 hji42w); omega)
                        case rel => exact ⟨(wrap64 (x12_2 + 1)), (by first | rfl | (simp; done) | (simp [*]; done)), H', ⟨by have := HK1.out; have := HK2.out; ((try clear hji27 hji27w); (try clear hji33 hji33w); (try clear hji42 hji42w); omega)⟩, ⟨by (with_reducible repeat (first | apply Kd.R_alloc | apply Kd.R_drewN | apply Kd.R_drew)); exact HO_8.out⟩, ⟨by (with_reducible repeat (first | apply Kd.S_alloc | apply Kd.S_drewN | apply Kd.S_drew)); exact HO_9.out⟩, ⟨by repeat (first | (with_reducible exact HR134_0.out) | (with_reducible refine Kd.C_alloc ?_ _) | (with_reducible refine Kd.C_drewN ?_ _) | (with_reducible refine Kd.C_drew ?_) | exact HR134_0.out)⟩, ⟨by repeat (first | (with_reducible first | exact HB.out | apply below_alloc | apply pw_below_drewN | apply below_drew1) | exact HB.out)⟩⟩
                      ·
                       rw [if_neg c45] at H
                       exact absurd H (by simp)
                     ·
                      rw [if_neg c44] at H
                      exact absurd H (by simp)
                    ·
                     rw [if_neg c43] at H
                     exact absurd H (by simp)
                   ·
                    as_aux_lemma =>
                    rw [if_neg c41] at H
                    have c41b0 : decide (0 < x11_1) = false := decide_eq_false c41
                    clear c41
                    have H' := Aside0.mk H
                    clear H
                    have p135 : 0 ≤ (x11_1 : Int) := of_decide_eq_true (by first | (with_reducible assumption) | assumption)
                    have q135 : x11_1 < (t131.length : Int) := of_decide_eq_true (by first | (with_reducible assumption) | assumption)
                    obtain ⟨ad135, A135_0, c135_0, e135, hx135_0, hl135_0, hi135_0⟩ := at_L1 (Kd.S_reads' HO_9.out).2.2 x11_1 p135 q135
                    obtain rfl : ad134 = ad135 := (by injection e135)
                    obtain ⟨ce135, hce135, hMe135, hcc135⟩ := Kd.S_get HO_9.out [] x11_1 p135 (by first | exact q135 | exact of_decide_eq_true (by first | (with_reducible assumption) | assumption) | (have e_ := (Kd.S_reads' HO_9.out).1; ((try clear hji27 hji27w); (try clear hji33 hji33w); (try clear hji42 hji42w); omega)))
                    obtain ⟨ve135_0, rfl, ge135_0⟩ := hMe135
                    have hv135_0 := hcc135 0 _ rfl
                    rw [Nat.add_zero, show ((Kd.slice 3 (Kd.int .i64))).sz = 1 from rfl, Nat.mul_one] at hv135_0
                    replace hv135_0 := Option.some.inj (hv135_0.symm.trans hx135_0)
                    rw [hv135_0] at ge135_0
                    have HL135_0 := Aside0.mk (show Kd.R (Kd.int .i64) 3 _ _ _ _ (rd_L1 t131 x11_1) from ge135_0)
                    clear hv135_0 ge135_0
                    clear hcc135 hce135
                    have HR135_0 := Aside0.mk hi135_0
                    have HC135_0 := Aside0.mk hl135_0
                    clear hi135_0 hl135_0
                    replace p135 := eq_true p135
                    replace q135 := eq_true q135
                    have p136 : 0 ≤ (x11_1 : Int) := of_decide_eq_true (by first | (with_reducible assumption) | assumption)
                    have q136 : x11_1 < (t131.length : Int) := of_decide_eq_true (by first | (with_reducible assumption) | assumption)
                    obtain ⟨ad136, A136_0, c136_0, e136, hx136_0, hl136_0, hi136_0⟩ := at_L1 (Kd.S_reads' HO_9.out).2.2 x11_1 p136 q136
                    obtain rfl : ad134 = ad136 := (by injection e136)
                    obtain ⟨ce136, hce136, hMe136, hcc136⟩ := Kd.S_get HO_9.out [] x11_1 p136 (by first | exact q136 | exact of_decide_eq_true (by first | (with_reducible assumption) | assumption) | (have e_ := (Kd.S_reads' HO_9.out).1; ((try clear hji27 hji27w); (try clear hji33 hji33w); (try clear hji42 hji42w); omega)))
                    obtain ⟨ve136_0, rfl, ge136_0⟩ := hMe136
                    have hv136_0 := hcc136 0 _ rfl
                    rw [Nat.add_zero, show ((Kd.slice 3 (Kd.int .i64))).sz = 1 from rfl, Nat.mul_one] at hv136_0
                    replace hv136_0 := Option.some.inj (hv136_0.symm.trans hx136_0)
                    rw [hv136_0] at ge136_0
                    have HL136_0 := Aside0.mk (show Kd.R (Kd.int .i64) 3 _ _ _ _ (rd_L1 t131 x11_1) from ge136_0)
                    clear hv136_0 ge136_0
                    clear hcc136 hce136
                    have HR136_0 := Aside0.mk hi136_0
                    have HC136_0 := Aside0.mk hl136_0
                    clear hi136_0 hl136_0
                    replace p136 := eq_true p136
                    replace q136 := eq_true q136
                    have ea_ := Option.some.inj (hx135_0.symm.trans hx136_0)
                    injection ea_ with ea_ en_ ec_
                    subst ea_
                    subst ec_
                    clear en_
                    have p137 : 0 ≤ (x12_2 : Int) := of_decide_eq_true (by first | (with_reducible assumption) | assumption)
                    have q137 : x12_2 < ((rd_L1 t131 x11_1).length : Int) := of_decide_eq_true (by first | (with_reducible assumption) | assumption)
                    obtain ⟨ad137, e137, hx137_0⟩ := Kd.at_int (by repeat (first | (with_reducible exact HR136_0.out) | (with_reducible refine Kd.C_alloc ?_ _) | (with_reducible refine Kd.C_drewN ?_ _) | (with_reducible refine Kd.C_drew ?_) | exact HR136_0.out)) x12_2 p137 q137
                    cases e137
                    replace p137 := eq_true p137
                    replace q137 := eq_true q137
                    have p138 : 0 ≤ (x11_1 : Int) := of_decide_eq_true (by first | (with_reducible assumption) | assumption)
                    have q138 : x11_1 < (t131.length : Int) := of_decide_eq_true (by first | (with_reducible assumption) | assumption)
                    obtain ⟨ad138, A138_0, c138_0, e138, hx138_0, hl138_0, hi138_0⟩ := at_L1 (Kd.S_reads' HO_9.out).2.2 x11_1 p138 q138
                    obtain rfl : ad134 = ad138 := (by injection e138)
                    obtain ⟨ce138, hce138, hMe138, hcc138⟩ := Kd.S_get HO_9.out [] x11_1 p138 (by first | exact q138 | exact of_decide_eq_true (by first | (with_reducible assumption) | assumption) | (have e_ := (Kd.S_reads' HO_9.out).1; ((try clear hji27 hji27w); (try clear hji33 hji33w); (try clear hji42 hji42w); omega)))
                    obtain ⟨ve138_0, rfl, ge138_0⟩ := hMe138
                    have hv138_0 := hcc138 0 _ rfl
                    rw [Nat.add_zero, show ((Kd.slice 3 (Kd.int .i64))).sz = 1 from rfl, Nat.mul_one] at hv138_0
                    replace hv138_0 := Option.some.inj (hv138_0.symm.trans hx138_0)
                    rw [hv138_0] at ge138_0
                    have HL138_0 := Aside0.mk (show Kd.R (Kd.int .i64) 3 _ _ _ _ (rd_L1 t131 x11_1) from ge138_0)
                    clear hv138_0 ge138_0
                    clear hcc138 hce138
                    have HR138_0 := Aside0.mk hi138_0
                    have HC138_0 := Aside0.mk hl138_0
                    clear hi138_0 hl138_0
                    replace p138 := eq_true p138
                    replace q138 := eq_true q138
                    have ea_ := Option.some.inj (hx135_0.symm.trans hx138_0)
                    injection ea_ with ea_ en_ ec_
                    subst ea_
                    subst ec_
                    clear en_
                    have p139 : 0 ≤ (x12_2 : Int) := of_decide_eq_true (by first | (with_reducible assumption) | assumption)
                    have q139 : x12_2 < ((rd_L1 t131 x11_1).length : Int) := of_decide_eq_true (by first | (with_reducible assumption) | assumption)
                    obtain ⟨ad139, e139, hx139_0⟩ := Kd.at_int (by repeat (first | (with_reducible exact HR138_0.out) | (with_reducible refine Kd.C_alloc ?_ _) | (with_reducible refine Kd.C_drewN ?_ _) | (with_reducible refine Kd.C_drew ?_) | exact HR138_0.out)) x12_2 p139 q139
                    cases e139
                    replace p139 := eq_true p139
                    replace q139 := eq_true q139
                    obtain ⟨Ao49, co49, eo49⟩ := Kd.R_slice HO_8.out
                    subst eo49
                    have p140 : 0 ≤ (x11_1 : Int) := of_decide_eq_true (by first | (with_reducible assumption) | assumption)
                    have q140 : x11_1 < (t131.length : Int) := of_decide_eq_true (by first | (with_reducible assumption) | assumption)
                    obtain ⟨ad140, A140_0, c140_0, e140, hx140_0, hl140_0, hi140_0⟩ := at_L1 (Kd.S_reads' HO_9.out).2.2 x11_1 p140 q140
                    obtain rfl : ad134 = ad140 := (by injection e140)
                    obtain ⟨ce140, hce140, hMe140, hcc140⟩ := Kd.S_get HO_9.out [] x11_1 p140 (by first | exact q140 | exact of_decide_eq_true (by first | (with_reducible assumption) | assumption) | (have e_ := (Kd.S_reads' HO_9.out).1; ((try clear hji27 hji27w); (try clear hji33 hji33w); (try clear hji42 hji42w); omega)))
                    obtain ⟨ve140_0, rfl, ge140_0⟩ := hMe140
                    have hv140_0 := hcc140 0 _ rfl
                    rw [Nat.add_zero, show ((Kd.slice 3 (Kd.int .i64))).sz = 1 from rfl, Nat.mul_one] at hv140_0
                    replace hv140_0 := Option.some.inj (hv140_0.symm.trans hx140_0)
                    rw [hv140_0] at ge140_0
                    have HL140_0 := Aside0.mk (show Kd.R (Kd.int .i64) 3 _ _ _ _ (rd_L1 t131 x11_1) from ge140_0)
                    clear hv140_0 ge140_0
                    clear hcc140 hce140
                    have HR140_0 := Aside0.mk hi140_0
                    have HC140_0 := Aside0.mk hl140_0
                    clear hi140_0 hl140_0
                    replace p140 := eq_true p140
                    replace q140 := eq_true q140
                    have ea_ := Option.some.inj (hx135_0.symm.trans hx140_0)
                    injection ea_ with ea_ en_ ec_
                    subst ea_
                    subst ec_
                    clear en_
                    have p141 : 0 ≤ (x12_2 : Int) := of_decide_eq_true (by first | (with_reducible assumption) | assumption)
                    have q141 : x12_2 < ((rd_L1 t131 x11_1).length : Int) := of_decide_eq_true (by first | (with_reducible assumption) | assumption)
                    obtain ⟨ad141, e141, hx141_0⟩ := Kd.at_int (by repeat (first | (with_reducible exact HR140_0.out) | (with_reducible refine Kd.C_alloc ?_ _) | (with_reducible refine Kd.C_drewN ?_ _) | (with_reducible refine Kd.C_drew ?_) | exact HR140_0.out)) x12_2 p141 q141
                    cases e141
                    replace p141 := eq_true p141
                    replace q141 := eq_true q141
                    have p142 : 0 ≤ ((rd (rd_L1 t131 x11_1) x12_2) : Int) := of_decide_eq_true (by first | (with_reducible assumption) | assumption)
                    have q142 : (rd (rd_L1 t131 x11_1) x12_2) < (t128.length : Int) := of_decide_eq_true (by first | (with_reducible assumption) | assumption)
                    obtain ⟨ad142, e142, hx142_0⟩ := Kd.at_int (Kd.R_reads' HO_8.out).2.2 (rd (rd_L1 t131 x11_1) x12_2) p142 q142
                    cases e142
                    replace p142 := eq_true p142
                    replace q142 := eq_true q142
                    have p143 : 0 ≤ (x11_1 : Int) := of_decide_eq_true (by first | (with_reducible assumption) | assumption)
                    have q143 : x11_1 < (t131.length : Int) := of_decide_eq_true (by first | (with_reducible assumption) | assumption)
                    obtain ⟨ad143, A143_0, c143_0, e143, hx143_0, hl143_0, hi143_0⟩ := at_L1 (Kd.S_reads' HO_9.out).2.2 x11_1 p143 q143
                    obtain rfl : ad134 = ad143 := (by injection e143)
                    obtain ⟨ce143, hce143, hMe143, hcc143⟩ := Kd.S_get HO_9.out [] x11_1 p143 (by first | exact q143 | exact of_decide_eq_true (by first | (with_reducible assumption) | assumption) | (have e_ := (Kd.S_reads' HO_9.out).1; ((try clear hji27 hji27w); (try clear hji33 hji33w); (try clear hji42 hji42w); omega)))
                    obtain ⟨ve143_0, rfl, ge143_0⟩ := hMe143
                    have hv143_0 := hcc143 0 _ rfl
                    rw [Nat.add_zero, show ((Kd.slice 3 (Kd.int .i64))).sz = 1 from rfl, Nat.mul_one] at hv143_0
                    replace hv143_0 := Option.some.inj (hv143_0.symm.trans hx143_0)
                    rw [hv143_0] at ge143_0
                    have HL143_0 := Aside0.mk (show Kd.R (Kd.int .i64) 3 _ _ _ _ (rd_L1 t131 x11_1) from ge143_0)
                    clear hv143_0 ge143_0
                    clear hcc143 hce143
                    have HR143_0 := Aside0.mk hi143_0
                    have HC143_0 := Aside0.mk hl143_0
                    clear hi143_0 hl143_0
                    replace p143 := eq_true p143
                    replace q143 := eq_true q143
                    have ea_ := Option.some.inj (hx135_0.symm.trans hx143_0)
                    injection ea_ with ea_ en_ ec_
                    subst ea_
                    subst ec_
                    clear en_
                    have p144 : 0 ≤ (0 : Int) := (by ((try clear hji27 hji27w); (try clear hji33 hji33w); (try clear hji42 hji42w); omega))
                    have q144 : 0 < ((rd_L1 t131 x11_1).length : Int) := of_decide_eq_true (by first | (with_reducible assumption) | assumption)
                    obtain ⟨ad144, e144, hx144_0⟩ := Kd.at_int (by repeat (first | (with_reducible exact HR143_0.out) | (with_reducible refine Kd.C_alloc ?_ _) | (with_reducible refine Kd.C_drewN ?_ _) | (with_reducible refine Kd.C_drew ?_) | exact HR143_0.out)) 0 p144 q144
                    cases e144
                    have qi144 : (0 < (rd_L1 t131 x11_1).length) = True := eq_true (by ((try clear hji27 hji27w); (try clear hji33 hji33w); (try clear hji42 hji42w); omega))
                    (try rw [show ((0 : Int)).toNat = 0 from rfl] at hx144_0)
                    (try rw [Addr.add_zero'] at hx144_0)
                    replace p144 := eq_true p144
                    replace q144 := eq_true q144
                    go_wp2
                    repeat (go_quiet (fail); try go_wp2)
                    go_roundg k2
                    case measure => have := HK1.out; have := HK2.out; ((try clear hji27 hji27w); (try clear hji33 hji33w); (try clear hji42 hji42w); omega)
                    case rel => exact ⟨(wrap64 (x12_2 + 1)), (by first | rfl | (simp; done) | (simp [*]; done)), H', ⟨by have := HK1.out; have := HK2.out; ((try clear hji27 hji27w); (try clear hji33 hji33w); (try clear hji42 hji42w); omega)⟩, ⟨by (with_reducible repeat (first | apply Kd.R_alloc | apply Kd.R_drewN | apply Kd.R_drew)); exact HO_8.out⟩, ⟨by (with_reducible repeat (first | apply Kd.S_alloc | apply Kd.S_drewN | apply Kd.S_drew)); exact HO_9.out⟩, ⟨by repeat (first | (with_reducible exact HR134_0.out) | (with_reducible refine Kd.C_alloc ?_ _) | (with_reducible refine Kd.C_drewN ?_ _) | (with_reducible refine Kd.C_drew ?_) | exact HR134_0.out)⟩, ⟨by repeat (first | (with_reducible first | exact HB.out | apply below_alloc | apply pw_below_drewN | apply below_drew1) | exact HB.out)⟩⟩
                 ·
                  rw [if_neg c25] at H
                  exact absurd (Option.some.inj H) (by rw [HRT.out]; decide)
                ·
                 rw [if_neg c24] at H
                 exact absurd H (by simp)
               ·
                rw [if_neg c23] at H
                exact absurd H (by simp)
              ·
               rw [if_neg c22] at H
               exact absurd H (by simp)
           ·
            rw [if_neg c18] at H
            exact absurd H (by simp)
          ·
           rw [if_neg c17] at H
           have c17b0 : decide (x12_2 < ((rd_L1 t131 x11_1).length : Int)) = false := decide_eq_false c17
           clear c17
           have H' := Aside0.mk H
           clear H
           have p135 : 0 ≤ (x11_1 : Int) := of_decide_eq_true (by first | (with_reducible assumption) | assumption)
           have q135 : x11_1 < (t131.length : Int) := of_decide_eq_true (by first | (with_reducible assumption) | assumption)
           obtain ⟨ad135, A135_0, c135_0, e135, hx135_0, hl135_0, hi135_0⟩ := at_L1 (Kd.S_reads' HO_9.out).2.2 x11_1 p135 q135
           obtain rfl : ad134 = ad135 := (by injection e135)
           obtain ⟨ce135, hce135, hMe135, hcc135⟩ := Kd.S_get HO_9.out [] x11_1 p135 (by first | exact q135 | exact of_decide_eq_true (by first | (with_reducible assumption) | assumption) | (have e_ := (Kd.S_reads' HO_9.out).1; ((try clear hji27 hji27w); (try clear hji33 hji33w); (try clear hji42 hji42w); omega)))
           obtain ⟨ve135_0, rfl, ge135_0⟩ := hMe135
           have hv135_0 := hcc135 0 _ rfl
           rw [Nat.add_zero, show ((Kd.slice 3 (Kd.int .i64))).sz = 1 from rfl, Nat.mul_one] at hv135_0
           replace hv135_0 := Option.some.inj (hv135_0.symm.trans hx135_0)
           rw [hv135_0] at ge135_0
           have HL135_0 := Aside0.mk (show Kd.R (Kd.int .i64) 3 _ _ _ _ (rd_L1 t131 x11_1) from ge135_0)
           clear hv135_0 ge135_0
           clear hcc135 hce135
           have HR135_0 := Aside0.mk hi135_0
           have HC135_0 := Aside0.mk hl135_0
           clear hi135_0 hl135_0
           replace p135 := eq_true p135
           replace q135 := eq_true q135
           go_wp2
           repeat (go_quiet (fail); try go_wp2)
           go_roundg k2
           case measure => have := HK1.out; have := HK2.out; ((try clear hji27 hji27w); (try clear hji33 hji33w); (try clear hji42 hji42w); omega)
           case rel => exact ⟨((wrap64 (x10_1 + ((rd_L1 t131 x11_1).length : Int)))), (wrap64 (x11_1 + 1)), (by first | rfl | (simp; done) | (simp [*]; done)), (by first | rfl | (simp; done) | (simp [*]; done)), H', ⟨by have := HK1.out; have := HK2.out; ((try clear hji27 hji27w); (try clear hji33 hji33w); (try clear hji42 hji42w); omega)⟩, ⟨by (with_reducible repeat (first | apply Kd.R_alloc | apply Kd.R_drewN | apply Kd.R_drew)); exact HO_8.out⟩, ⟨by (with_reducible repeat (first | apply Kd.S_alloc | apply Kd.S_drewN | apply Kd.S_drew)); exact HO_9.out⟩, ⟨by repeat (first | (with_reducible first | exact HB.out | apply below_alloc | apply pw_below_drewN | apply below_drew1) | exact HB.out)⟩⟩
         ·
          rw [if_neg c16] at H
          exact absurd H (by simp)
        ·
         rw [if_neg c15] at H
         exact absurd H (by simp)
     ·
      rw [if_neg c13] at H
      exact absurd H (by simp)
    ·
     rw [if_neg c12] at H
     have c12b0 : decide (x11_1 < (t131.length : Int)) = false := decide_eq_false c12
     clear c12
     have HC51 := Aside0.mk H
     clear H
     obtain ⟨Ao52, co52, eo52⟩ := Kd.S_slice HO_9.out
     subst eo52
     go_upto_region 16 with (fail)
     repeat (go_quiet (fail); go_upto_region 16 with (fail))
     go_cut [137] (fun v137 wc => ∃ (kq : Nat) (x137_50 : Bool), v137 = .bool x137_50 ∧ Aside0 (bywashlaw11_SccParts.j2 kq l0 a1 a2 t126 t128 x137_50 = some r) ∧ Aside0 (kq ≤ k1) ∧ Aside0 (Kd.R (Kd.int .i64) 3 wc w.heap.size (fun _ => True) v129 t128) ∧ Aside0 (Below w.heap.size w wc))
     case first =>
      have H := HC51.out
      clear HC51
      by_cases c53 : x10_1 = (l0.length : Int)
      ·
       as_aux_lemma =>
       rw [if_pos c53] at H
       have c53b0 : (x10_1 == (l0.length : Int)) = true := beq_iff_eq.mpr c53
       have c53b1 : (x10_1 != (l0.length : Int)) = false := bne_eq_false_iff_eq.mpr c53
       clear c53
       (first | rw [c53b0] | (simp only [i64_w, i32_w]; rw [c53b0]) | skip)
       have H' := Aside0.mk H
       clear H
       obtain ⟨Ao54, co54, eo54⟩ := Kd.R_slice HO_8.out
       subst eo54
       go_wp2
       repeat (go_quiet (fail); try go_wp2)
       go_meet
       case rel => exact ⟨_, (((t128.length : Int) != (l0.length : Int))), (by first | rfl | (simp; done) | (simp [*]; done)), H', ⟨by have := HK1.out; first | ((try clear hji27 hji27w); (try clear hji33 hji33w); (try clear hji42 hji42w); omega) | exact Nat.le_refl _⟩, ⟨by (with_reducible repeat (first | apply Kd.R_alloc | apply Kd.R_drewN | apply Kd.R_drew)); exact HO_8.out⟩, ⟨by repeat (first | (with_reducible first | exact HB.out | apply below_alloc | apply pw_below_drewN | apply below_drew1) | exact HB.out)⟩⟩
      ·
       as_aux_lemma =>
       rw [if_neg c53] at H
       have c53b0 : (x10_1 == (l0.length : Int)) = false := beq_eq_false_iff_ne.mpr c53
       have c53b1 : (x10_1 != (l0.length : Int)) = true := bne_iff_ne.mpr c53
       (first | rw [c53b0] | (simp only [i64_w, i32_w]; rw [c53b0]) | skip)
       have H' := Aside0.mk H
       clear H
       go_wp2
       repeat (go_quiet (fail); try go_wp2)
       go_meet
       case rel => exact ⟨_, (true), (by first | rfl | (simp; done) | (simp [*]; done)), H', ⟨by have := HK1.out; first | ((try clear hji27 hji27w); (try clear hji33 hji33w); (try clear hji42 hji42w); omega) | exact Nat.le_refl _⟩, ⟨by (with_reducible repeat (first | apply Kd.R_alloc | apply Kd.R_drewN | apply Kd.R_drew)); exact HO_8.out⟩, ⟨by repeat (first | (with_reducible first | exact HB.out | apply below_alloc | apply pw_below_drewN | apply below_drew1) | exact HB.out)⟩⟩
     case rest =>
      clear HC51
      try clear c1
      try clear p1
      try clear q1
      try clear hx1
      try clear qi1
      try clear c2
      try clear p2
      try clear c4
      try clear c5
      try clear p6
      try clear c12
      try clear c12b0
      try clear c13
      try clear p13
      try clear q13
      try clear hx13
      try clear c14
      try clear p14
      try clear q14
      try clear hx14
      try clear qi14
      try clear c15
      try clear p15
      try clear q15
      try clear hx15
      try clear qi15
      try clear c16
      try clear c17
      try clear c17b0
      try clear c18
      try clear c22
      try clear c23
      try clear c24
      try clear c25
      try clear c25b0
      try clear c25b1
      try clear c41
      try clear c41b0
      try clear c43
      try clear c44
      try clear c45
      try clear c53
      try clear c53b0
      try clear c53b1
      try clear hx135_0
      try clear hx136_0
      try clear hx137_0
      try clear hx138_0
      try clear hx139_0
      try clear hx140_0
      try clear hx141_0
      try clear hx142_0
      try clear hx143_0
      try clear hx144_0
      try clear hx153_0
      try clear hx154_0
      try clear hx155_0
      try clear hx156_0
      try clear p135
      try clear p136
      try clear p137
      try clear p138
      try clear p139
      try clear p140
      try clear p141
      try clear p142
      try clear p143
      try clear p144
      try clear p153
      try clear p154
      try clear p155
      try clear p156
      try clear q135
      try clear q136
      try clear q137
      try clear q138
      try clear q139
      try clear q140
      try clear q141
      try clear q142
      try clear q143
      try clear q144
      try clear q153
      try clear q154
      try clear q155
      try clear q156
      obtain ⟨kq, x137_50, rfl, HA, HJ50, HO_8, HB⟩ := hcut
      cases kq with
      | zero => exact absurd HA.out (by simp [bywashlaw11_SccParts.j2])
      | succ kj50 =>
       have H := HA.out
       clear HA
       simp only [bywashlaw11_SccParts.j2] at H
       by_cases c55 : x137_50 = true
       ·
        as_aux_lemma =>
        subst c55
        have H1 : (some false) = some r := by rw [if_pos rfl] at H; exact H
        clear H
        have H := H1
        exact absurd (Option.some.inj H) (by rw [HRT.out]; decide)
       ·
        as_aux_lemma =>
        replace c55 := Bool.eq_false_iff.mpr c55
        subst c55
        have H1 : (if a1 < 0 then (bywashlaw11_SccParts.j3 kj50 l0 a1 a2 t126 t128 true) else (if a1 ≥ (l0.length : Int) then (bywashlaw11_SccParts.j3 kj50 l0 a1 a2 t126 t128 true) else (if a2 < 0 then (bywashlaw11_SccParts.j3 kj50 l0 a1 a2 t126 t128 true) else (bywashlaw11_SccParts.j3 kj50 l0 a1 a2 t126 t128 (decide (a2 ≥ (l0.length : Int))))))) = some r := by rw [if_neg (show ¬ (false = true) by decide)] at H; exact H
        clear H
        have H := H1
        clear H1
        have HC56 := Aside0.mk H
        clear H
        go_upto_region 18 with (fail)
        repeat (go_quiet (fail); go_upto_region 18 with (fail))
        go_cut [155] (fun v155 wc => ∃ (kq : Nat) (x155_55 : Bool), v155 = .bool x155_55 ∧ Aside0 (bywashlaw11_SccParts.j3 kq l0 a1 a2 t126 t128 x155_55 = some r) ∧ Aside0 (kq ≤ kj50) ∧ Aside0 (Kd.R (Kd.int .i64) 3 wc w.heap.size (fun _ => True) v129 t128) ∧ Aside0 (Below w.heap.size w wc))
        case first =>
         have H := HC56.out
         clear HC56
         by_cases c57 : a1 < 0
         ·
          rw [if_pos c57] at H
          have c57b0 : decide (a1 < 0) = true := decide_eq_true c57
          clear c57
          (first | rw [c57b0] | (simp only [i64_w, i32_w]; rw [c57b0]) | skip)
          have H' := Aside0.mk H
          clear H
          go_wp2
          repeat (go_quiet (fail); try go_wp2)
          go_meet
          case rel => exact ⟨_, (true), (by first | rfl | (simp; done) | (simp [*]; done)), H', ⟨by have := HK1.out; have := HJ50.out; first | ((try clear hji27 hji27w); (try clear hji33 hji33w); (try clear hji42 hji42w); omega) | exact Nat.le_refl _⟩, ⟨by (with_reducible repeat (first | apply Kd.R_alloc | apply Kd.R_drewN | apply Kd.R_drew)); exact HO_8.out⟩, ⟨by repeat (first | (with_reducible first | exact HB.out | apply below_alloc | apply pw_below_drewN | apply below_drew1) | exact HB.out)⟩⟩
         ·
          rw [if_neg c57] at H
          have c57b0 : decide (a1 < 0) = false := decide_eq_false c57
          clear c57
          (first | rw [c57b0] | (simp only [i64_w, i32_w]; rw [c57b0]) | skip)
          by_cases c58 : a1 ≥ (l0.length : Int)
          ·
           rw [if_pos c58] at H
           have c58b0 : decide ((l0.length : Int) ≤ a1) = true := decide_eq_true c58
           clear c58
           have H' := Aside0.mk H
           clear H
           go_wp2
           repeat (go_quiet (fail); try go_wp2)
           go_meet
           case rel => exact ⟨_, (true), (by first | rfl | (simp; done) | (simp [*]; done)), H', ⟨by have := HK1.out; have := HJ50.out; first | ((try clear hji27 hji27w); (try clear hji33 hji33w); (try clear hji42 hji42w); omega) | exact Nat.le_refl _⟩, ⟨by (with_reducible repeat (first | apply Kd.R_alloc | apply Kd.R_drewN | apply Kd.R_drew)); exact HO_8.out⟩, ⟨by repeat (first | (with_reducible first | exact HB.out | apply below_alloc | apply pw_below_drewN | apply below_drew1) | exact HB.out)⟩⟩
          ·
           rw [if_neg c58] at H
           have c58b0 : decide ((l0.length : Int) ≤ a1) = false := decide_eq_false c58
           clear c58
           by_cases c59 : a2 < 0
           ·
            rw [if_pos c59] at H
            have c59b0 : decide (a2 < 0) = true := decide_eq_true c59
            clear c59
            have H' := Aside0.mk H
            clear H
            go_wp2
            repeat (go_quiet (fail); try go_wp2)
            go_meet
            case rel => exact ⟨_, (true), (by first | rfl | (simp; done) | (simp [*]; done)), H', ⟨by have := HK1.out; have := HJ50.out; first | ((try clear hji27 hji27w); (try clear hji33 hji33w); (try clear hji42 hji42w); omega) | exact Nat.le_refl _⟩, ⟨by (with_reducible repeat (first | apply Kd.R_alloc | apply Kd.R_drewN | apply Kd.R_drew)); exact HO_8.out⟩, ⟨by repeat (first | (with_reducible first | exact HB.out | apply below_alloc | apply pw_below_drewN | apply below_drew1) | exact HB.out)⟩⟩
           ·
            rw [if_neg c59] at H
            have c59b0 : decide (a2 < 0) = false := decide_eq_false c59
            clear c59
            have H' := Aside0.mk H
            clear H
            go_wp2
            repeat (go_quiet (fail); try go_wp2)
            go_meet
            case rel => exact ⟨_, (decide (a2 ≥ (l0.length : Int))), (by first | rfl | (simp; done) | (simp [*]; done)), H', ⟨by have := HK1.out; have := HJ50.out; first | ((try clear hji27 hji27w); (try clear hji33 hji33w); (try clear hji42 hji42w); omega) | exact Nat.le_refl _⟩, ⟨by (with_reducible repeat (first | apply Kd.R_alloc | apply Kd.R_drewN | apply Kd.R_drew)); exact HO_8.out⟩, ⟨by repeat (first | (with_reducible first | exact HB.out | apply below_alloc | apply pw_below_drewN | apply below_drew1) | exact HB.out)⟩⟩
        case rest =>
         clear HC56
         try clear c1
         try clear p1
         try clear q1
         try clear hx1
         try clear qi1
         try clear c2
         try clear p2
         try clear c4
         try clear c5
         try clear p6
         try clear c12
         try clear c12b0
         try clear c13
         try clear p13
         try clear q13
         try clear hx13
         try clear c14
         try clear p14
         try clear q14
         try clear hx14
         try clear qi14
         try clear c15
         try clear p15
         try clear q15
         try clear hx15
         try clear qi15
         try clear c16
         try clear c17
         try clear c17b0
         try clear c18
         try clear c22
         try clear c23
         try clear c24
         try clear c25
         try clear c25b0
         try clear c25b1
         try clear c41
         try clear c41b0
         try clear c43
         try clear c44
         try clear c45
         try clear c53
         try clear c53b0
         try clear c53b1
         try clear c55
         try clear c57
         try clear c57b0
         try clear c58
         try clear c58b0
         try clear c59
         try clear c59b0
         try clear hx135_0
         try clear hx136_0
         try clear hx137_0
         try clear hx138_0
         try clear hx139_0
         try clear hx140_0
         try clear hx141_0
         try clear hx142_0
         try clear hx143_0
         try clear hx144_0
         try clear hx153_0
         try clear hx154_0
         try clear hx155_0
         try clear hx156_0
         try clear p1
         try clear p13
         try clear p135
         try clear p136
         try clear p137
         try clear p138
         try clear p139
         try clear p14
         try clear p140
         try clear p141
         try clear p142
         try clear p143
         try clear p144
         try clear p15
         try clear p153
         try clear p154
         try clear p155
         try clear p156
         try clear p2
         try clear p6
         try clear q1
         try clear q13
         try clear q135
         try clear q136
         try clear q137
         try clear q138
         try clear q139
         try clear q14
         try clear q140
         try clear q141
         try clear q142
         try clear q143
         try clear q144
         try clear q15
         try clear q153
         try clear q154
         try clear q155
         try clear q156
         obtain ⟨kq, x155_55, rfl, HA, HJ55, HO_8, HB⟩ := hcut
         cases kq with
         | zero => exact absurd HA.out (by simp [bywashlaw11_SccParts.j3])
         | succ kj55 =>
          have H := HA.out
          clear HA
          simp only [bywashlaw11_SccParts.j3] at H
          by_cases c60 : x155_55 = true
          ·
           as_aux_lemma =>
           subst c60
           have H1 : (some t126) = some r := by rw [if_pos rfl] at H; exact H
           clear H
           have H := H1
           clear H1
           obtain rfl := Option.some.inj H
           go_wp2
           repeat (go_quiet (fail); try go_wp2)
           go_ret
           exact ⟨by first | rfl | (simp [errW_none, errW_some] <;> rfl) | (simp [*, errW_none, errW_some] <;> rfl) | (exfalso; (try simp_all); (try ((try clear hji27 hji27w); (try clear hji33 hji33w); (try clear hji42 hji42w); omega)); done), by repeat (first | (with_reducible first | exact HB.out | apply below_alloc | apply pw_below_drewN | apply below_drew1) | exact HB.out)⟩
          ·
           as_aux_lemma =>
           replace c60 := Bool.eq_false_iff.mpr c60
           subst c60
           have H1 : ((graph_Reach.f l0 a1).bind fun t157 => ((graph_Reach.f l0 a2).bind fun t160 => (if t126 = true then (if (t157.length : Int) = (l0.length : Int) then (if (t160.length : Int) = (l0.length : Int) then (if 0 ≤ a1 then (if a1 < (t128.length : Int) then (if 0 ≤ a2 then (if a2 < (t128.length : Int) then (if a2 < (t157.length : Int) then (if rdOf false t157 a2 = true then (if a1 < (t160.length : Int) then (some (((rd t128 a1) == (rd t128 a2)) == (rdOf false t160 a1))) else (none)) else (some (((rd t128 a1) == (rd t128 a2)) == false))) else (none)) else (none)) else (none)) else (none)) else (none)) else (some false)) else (some false)) else (some false)))) = some r := by rw [if_neg (show ¬ (false = true) by decide)] at H; exact H
           clear H
           have H := H1
           clear H1
           replace H := Option.bind_eq_some_iff.mp H
           obtain ⟨t157, A610, H⟩ := H
           replace H : ((graph_Reach.f l0 a2).bind fun t160 => (if t126 = true then (if (t157.length : Int) = (l0.length : Int) then (if (t160.length : Int) = (l0.length : Int) then (if 0 ≤ a1 then (if a1 < (t128.length : Int) then (if 0 ≤ a2 then (if a2 < (t128.length : Int) then (if a2 < (t157.length : Int) then (if rdOf false t157 a2 = true then (if a1 < (t160.length : Int) then (some (((rd t128 a1) == (rd t128 a2)) == (rdOf false t160 a1))) else (none)) else (some (((rd t128 a1) == (rd t128 a2)) == false))) else (none)) else (none)) else (none)) else (none)) else (none)) else (some false)) else (some false)) else (some false))) = some r := H
           have A61 := Aside0.mk A610
           clear A610
           replace H := Option.bind_eq_some_iff.mp H
           obtain ⟨t160, A620, H⟩ := H
           replace H : (if t126 = true then (if (t157.length : Int) = (l0.length : Int) then (if (t160.length : Int) = (l0.length : Int) then (if 0 ≤ a1 then (if a1 < (t128.length : Int) then (if 0 ≤ a2 then (if a2 < (t128.length : Int) then (if a2 < (t157.length : Int) then (if rdOf false t157 a2 = true then (if a1 < (t160.length : Int) then (some (((rd t128 a1) == (rd t128 a2)) == (rdOf false t160 a1))) else (none)) else (some (((rd t128 a1) == (rd t128 a2)) == false))) else (none)) else (none)) else (none)) else (none)) else (none)) else (some false)) else (some false)) else (some false)) = some r := H
           have A62 := Aside0.mk A620
           clear A620
           by_cases c63 : t126 = true
           ·
            subst c63
            have H1 : (if (t157.length : Int) = (l0.length : Int) then (if (t160.length : Int) = (l0.length : Int) then (if 0 ≤ a1 then (if a1 < (t128.length : Int) then (if 0 ≤ a2 then (if a2 < (t128.length : Int) then (if a2 < (t157.length : Int) then (if rdOf false t157 a2 = true then (if a1 < (t160.length : Int) then (some (((rd t128 a1) == (rd t128 a2)) == (rdOf false t160 a1))) else (none)) else (some (((rd t128 a1) == (rd t128 a2)) == false))) else (none)) else (none)) else (none)) else (none)) else (none)) else (some false)) else (some false)) = some r := by rw [if_pos rfl] at H; exact H
            clear H
            have H := H1
            clear H1
            by_cases c64 : (t157.length : Int) = (l0.length : Int)
            ·
             rw [if_pos c64] at H
             have c64b0 : ((t157.length : Int) == (l0.length : Int)) = true := beq_iff_eq.mpr c64
             have c64b1 : ((t157.length : Int) != (l0.length : Int)) = false := bne_eq_false_iff_eq.mpr c64
             have c64b2 : (t157.length == l0.length) = true := by first | simpa using c64 | (simp at c64 ⊢; ((try clear hji27 hji27w); (try clear hji33 hji33w); (try clear hji42 hji42w); omega))
             clear c64
             by_cases c65 : (t160.length : Int) = (l0.length : Int)
             ·
              rw [if_pos c65] at H
              have c65b0 : ((t160.length : Int) == (l0.length : Int)) = true := beq_iff_eq.mpr c65
              have c65b1 : ((t160.length : Int) != (l0.length : Int)) = false := bne_eq_false_iff_eq.mpr c65
              have c65b2 : (t160.length == l0.length) = true := by first | simpa using c65 | (simp at c65 ⊢; ((try clear hji27 hji27w); (try clear hji33 hji33w); (try clear hji42 hji42w); omega))
              clear c65
              by_cases c66 : 0 ≤ a1
              ·
               rw [if_pos c66] at H
               have c66b0 : decide (0 ≤ a1) = true := decide_eq_true c66
               clear c66
               by_cases c67 : a1 < (t128.length : Int)
               ·
                rw [if_pos c67] at H
                have c67b0 : decide (a1 < (t128.length : Int)) = true := decide_eq_true c67
                clear c67
                by_cases c68 : 0 ≤ a2
                ·
                 rw [if_pos c68] at H
                 have c68b0 : decide (0 ≤ a2) = true := decide_eq_true c68
                 clear c68
                 by_cases c69 : a2 < (t128.length : Int)
                 ·
                  rw [if_pos c69] at H
                  have c69b0 : decide (a2 < (t128.length : Int)) = true := decide_eq_true c69
                  clear c69
                  by_cases c70 : a2 < (t157.length : Int)
                  ·
                   rw [if_pos c70] at H
                   have c70b0 : decide (a2 < (t157.length : Int)) = true := decide_eq_true c70
                   clear c70
                   obtain ⟨bq71, hbq71⟩ : ∃ b_ : Bool, b_ = (rdOf false t157 a2) := ⟨_, rfl⟩
                   replace H : (if bq71 = true then (if a1 < (t160.length : Int) then (some (((rd t128 a1) == (rd t128 a2)) == (rdOf false t160 a1))) else (none)) else (some (((rd t128 a1) == (rd t128 a2)) == false))) = some r := by rw [← hbq71] at H; exact H
                   have Nbq71 := Aside0.mk hbq71
                   clear hbq71
                   by_cases c72 : bq71 = true
                   ·
                    subst c72
                    have H1 : (if a1 < (t160.length : Int) then (some (((rd t128 a1) == (rd t128 a2)) == (rdOf false t160 a1))) else (none)) = some r := by rw [if_pos rfl] at H; exact H
                    clear H
                    have H := H1
                    clear H1
                    by_cases c73 : a1 < (t160.length : Int)
                    ·
                     rw [if_pos c73] at H
                     have c73b0 : decide (a1 < (t160.length : Int)) = true := decide_eq_true c73
                     clear c73
                     obtain rfl := Option.some.inj H
                     go_wp2_with (first | (go_at_call 21; (with_reducible refine (graph_Reach.calls _ _ l0 a1 t157 _ ?side1 ?side2 A61.out).mono ?_); (case side1 => repeat (first | exact (Kd.C_below HR0.out HB.out) | (with_reducible refine Kd.C_alloc ?_ _) | (with_reducible refine Kd.C_drewN ?_ _) | (with_reducible refine Kd.C_drew ?_))); (case side2 => exact HC0.out); rintro e w74 ⟨v158, rfl, ho0, hb⟩; have n0_ := Aside0.mk (Kd.R_below (by (with_reducible repeat (first | apply Kd.R_alloc | apply Kd.R_drewN | apply Kd.R_drew)); exact HO_8.out) hb); have n1_ := Aside0.mk (Kd.R_lower ho0 (below_size (by repeat (first | (with_reducible first | exact HB.out | apply below_alloc | apply pw_below_drewN | apply below_drew1) | exact HB.out)))); have n2_ := Aside0.mk (below_step (by repeat (first | (with_reducible first | exact HB.out | apply below_alloc | apply pw_below_drewN | apply below_drew1) | exact HB.out)) hb); clear HO_8; clear HB; have HO_8 := n0_; have HO159 := n1_; have HB := n2_; clear n0_ n1_ n2_; (try clear hb); (try clear hb2); (try clear hk); (try clear hi); (try clear ho0)) | (go_at_call 21; (with_reducible refine (graph_Reach.calls _ _ l0 a2 t160 _ ?side1 ?side2 A62.out).mono ?_); (case side1 => repeat (first | exact (Kd.C_below HR0.out HB.out) | (with_reducible refine Kd.C_alloc ?_ _) | (with_reducible refine Kd.C_drewN ?_ _) | (with_reducible refine Kd.C_drew ?_))); (case side2 => exact HC0.out); rintro e w75 ⟨v161, rfl, ho0, hb⟩; have n0_ := Aside0.mk (Kd.R_below (by (with_reducible repeat (first | apply Kd.R_alloc | apply Kd.R_drewN | apply Kd.R_drew)); exact HO_8.out) hb); have n1_ := Aside0.mk (Kd.R_elder' (by (with_reducible repeat (first | apply Kd.R_alloc | apply Kd.R_drewN | apply Kd.R_drew)); exact HO159.out) (Kd.R_base ho0) hb); have n2_ := Aside0.mk (Kd.R_lower (Kd.R_new' ho0 (Kd.R_lt (by (with_reducible repeat (first | apply Kd.R_alloc | apply Kd.R_drewN | apply Kd.R_drew)); exact HO159.out))) (below_size (by repeat (first | (with_reducible first | exact HB.out | apply below_alloc | apply pw_below_drewN | apply below_drew1) | exact HB.out)))); have n3_ := Aside0.mk (below_step (by repeat (first | (with_reducible first | exact HB.out | apply below_alloc | apply pw_below_drewN | apply below_drew1) | exact HB.out)) hb); clear HO_8; clear HO159; clear HB; have HO_8 := n0_; have HO159 := n1_; have HO162 := n2_; have HB := n3_; clear n0_ n1_ n2_ n3_; (try clear hb); (try clear hb2); (try clear hk); (try clear hi); (try clear ho0); obtain ⟨Ao76, co76, eo76⟩ := Kd.R_slice HO159.out; subst eo76; obtain ⟨Ao77, co77, eo77⟩ := Kd.R_slice HO162.out; subst eo77; obtain ⟨Ao78, co78, eo78⟩ := Kd.R_slice HO_8.out; subst eo78; have p163 : 0 ≤ (a1 : Int) := of_decide_eq_true (by first | (with_reducible assumption) | assumption); have q163 : a1 < (t128.length : Int) := of_decide_eq_true (by first | (with_reducible assumption) | assumption); obtain ⟨ad163, e163, hx163_0⟩ := Kd.at_int (Kd.R_reads' HO_8.out).2.2 a1 p163 q163; cases e163; replace p163 := eq_true p163; replace q163 := eq_true q163; have p164 : 0 ≤ (a2 : Int) := of_decide_eq_true (by first | (with_reducible assumption) | assumption); have q164 : a2 < (t128.length : Int) := of_decide_eq_true (by first | (with_reducible assumption) | assumption); obtain ⟨ad164, e164, hx164_0⟩ := Kd.at_int (Kd.R_reads' HO_8.out).2.2 a2 p164 q164; obtain rfl : ad163 = ad164 := (by injection e164); replace p164 := eq_true p164; replace q164 := eq_true q164; have p165 : 0 ≤ (a2 : Int) := of_decide_eq_true (by first | (with_reducible assumption) | assumption); have q165 : a2 < (t157.length : Int) := of_decide_eq_true (by first | (with_reducible assumption) | assumption); obtain ⟨ad165, e165, hx165_0⟩ := Kd.at_bool (Kd.R_reads' HO159.out).2.2 a2 p165 q165; (try rw [← Nbq71.out] at hx165_0); cases e165; replace p165 := eq_true p165; replace q165 := eq_true q165; have p166 : 0 ≤ (a1 : Int) := of_decide_eq_true (by first | (with_reducible assumption) | assumption); have q166 : a1 < (t160.length : Int) := of_decide_eq_true (by first | (with_reducible assumption) | assumption); obtain ⟨ad166, e166, hx166_0⟩ := Kd.at_bool (Kd.R_reads' HO162.out).2.2 a1 p166 q166; (try rw [← Nbq71.out] at hx166_0); cases e166; replace p166 := eq_true p166; replace q166 := eq_true q166))
                     repeat (go_quiet (first | (go_at_call 21; (with_reducible refine (graph_Reach.calls _ _ l0 a1 t157 _ ?side1 ?side2 A61.out).mono ?_); (case side1 => repeat (first | exact (Kd.C_below HR0.out HB.out) | (with_reducible refine Kd.C_alloc ?_ _) | (with_reducible refine Kd.C_drewN ?_ _) | (with_reducible refine Kd.C_drew ?_))); (case side2 => exact HC0.out); rintro e w74 ⟨v158, rfl, ho0, hb⟩; have n0_ := Aside0.mk (Kd.R_below (by (with_reducible repeat (first | apply Kd.R_alloc | apply Kd.R_drewN | apply Kd.R_drew)); exact HO_8.out) hb); have n1_ := Aside0.mk (Kd.R_lower ho0 (below_size (by repeat (first | (with_reducible first | exact HB.out | apply below_alloc | apply pw_below_drewN | apply below_drew1) | exact HB.out)))); have n2_ := Aside0.mk (below_step (by repeat (first | (with_reducible first | exact HB.out | apply below_alloc | apply pw_below_drewN | apply below_drew1) | exact HB.out)) hb); clear HO_8; clear HB; have HO_8 := n0_; have HO159 := n1_; have HB := n2_; clear n0_ n1_ n2_; (try clear hb); (try clear hb2); (try clear hk); (try clear hi); (try clear ho0)) | (go_at_call 21; (with_reducible refine (graph_Reach.calls _ _ l0 a2 t160 _ ?side1 ?side2 A62.out).mono ?_); (case side1 => repeat (first | exact (Kd.C_below HR0.out HB.out) | (with_reducible refine Kd.C_alloc ?_ _) | (with_reducible refine Kd.C_drewN ?_ _) | (with_reducible refine Kd.C_drew ?_))); (case side2 => exact HC0.out); rintro e w75 ⟨v161, rfl, ho0, hb⟩; have n0_ := Aside0.mk (Kd.R_below (by (with_reducible repeat (first | apply Kd.R_alloc | apply Kd.R_drewN | apply Kd.R_drew)); exact HO_8.out) hb); have n1_ := Aside0.mk (Kd.R_elder' (by (with_reducible repeat (first | apply Kd.R_alloc | apply Kd.R_drewN | apply Kd.R_drew)); exact HO159.out) (Kd.R_base ho0) hb); have n2_ := Aside0.mk (Kd.R_lower (Kd.R_new' ho0 (Kd.R_lt (by (with_reducible repeat (first | apply Kd.R_alloc | apply Kd.R_drewN | apply Kd.R_drew)); exact HO159.out))) (below_size (by repeat (first | (with_reducible first | exact HB.out | apply below_alloc | apply pw_below_drewN | apply below_drew1) | exact HB.out)))); have n3_ := Aside0.mk (below_step (by repeat (first | (with_reducible first | exact HB.out | apply below_alloc | apply pw_below_drewN | apply below_drew1) | exact HB.out)) hb); clear HO_8; clear HO159; clear HB; have HO_8 := n0_; have HO159 := n1_; have HO162 := n2_; have HB := n3_; clear n0_ n1_ n2_ n3_; (try clear hb); (try clear hb2); (try clear hk); (try clear hi); (try clear ho0); obtain ⟨Ao76, co76, eo76⟩ := Kd.R_slice HO159.out; subst eo76; obtain ⟨Ao77, co77, eo77⟩ := Kd.R_slice HO162.out; subst eo77; obtain ⟨Ao78, co78, eo78⟩ := Kd.R_slice HO_8.out; subst eo78; have p163 : 0 ≤ (a1 : Int) := of_decide_eq_true (by first | (with_reducible assumption) | assumption); have q163 : a1 < (t128.length : Int) := of_decide_eq_true (by first | (with_reducible assumption) | assumption); obtain ⟨ad163, e163, hx163_0⟩ := Kd.at_int (Kd.R_reads' HO_8.out).2.2 a1 p163 q163; cases e163; replace p163 := eq_true p163; replace q163 := eq_true q163; have p164 : 0 ≤ (a2 : Int) := of_decide_eq_true (by first | (with_reducible assumption) | assumption); have q164 : a2 < (t128.length : Int) := of_decide_eq_true (by first | (with_reducible assumption) | assumption); obtain ⟨ad164, e164, hx164_0⟩ := Kd.at_int (Kd.R_reads' HO_8.out).2.2 a2 p164 q164; obtain rfl : ad163 = ad164 := (by injection e164); replace p164 := eq_true p164; replace q164 := eq_true q164; have p165 : 0 ≤ (a2 : Int) := of_decide_eq_true (by first | (with_reducible assumption) | assumption); have q165 : a2 < (t157.length : Int) := of_decide_eq_true (by first | (with_reducible assumption) | assumption); obtain ⟨ad165, e165, hx165_0⟩ := Kd.at_bool (Kd.R_reads' HO159.out).2.2 a2 p165 q165; (try rw [← Nbq71.out] at hx165_0); cases e165; replace p165 := eq_true p165; replace q165 := eq_true q165; have p166 : 0 ≤ (a1 : Int) := of_decide_eq_true (by first | (with_reducible assumption) | assumption); have q166 : a1 < (t160.length : Int) := of_decide_eq_true (by first | (with_reducible assumption) | assumption); obtain ⟨ad166, e166, hx166_0⟩ := Kd.at_bool (Kd.R_reads' HO162.out).2.2 a1 p166 q166; (try rw [← Nbq71.out] at hx166_0); cases e166; replace p166 := eq_true p166; replace q166 := eq_true q166)); try go_wp2_with (first | (go_at_call 21; (with_reducible refine (graph_Reach.calls _ _ l0 a1 t157 _ ?side1 ?side2 A61.out).mono ?_); (case side1 => repeat (first | exact (Kd.C_below HR0.out HB.out) | (with_reducible refine Kd.C_alloc ?_ _) | (with_reducible refine Kd.C_drewN ?_ _) | (with_reducible refine Kd.C_drew ?_))); (case side2 => exact HC0.out); rintro e w74 ⟨v158, rfl, ho0, hb⟩; have n0_ := Aside0.mk (Kd.R_below (by (with_reducible repeat (first | apply Kd.R_alloc | apply Kd.R_drewN | apply Kd.R_drew)); exact HO_8.out) hb); have n1_ := Aside0.mk (Kd.R_lower ho0 (below_size (by repeat (first | (with_reducible first | exact HB.out | apply below_alloc | apply pw_below_drewN | apply below_drew1) | exact HB.out)))); have n2_ := Aside0.mk (below_step (by repeat (first | (with_reducible first | exact HB.out | apply below_alloc | apply pw_below_drewN | apply below_drew1) | exact HB.out)) hb); clear HO_8; clear HB; have HO_8 := n0_; have HO159 := n1_; have HB := n2_; clear n0_ n1_ n2_; (try clear hb); (try clear hb2); (try clear hk); (try clear hi); (try clear ho0)) | (go_at_call 21; (with_reducible refine (graph_Reach.calls _ _ l0 a2 t160 _ ?side1 ?side2 A62.out).mono ?_); (case side1 => repeat (first | exact (Kd.C_below HR0.out HB.out) | (with_reducible refine Kd.C_alloc ?_ _) | (with_reducible refine Kd.C_drewN ?_ _) | (with_reducible refine Kd.C_drew ?_))); (case side2 => exact HC0.out); rintro e w75 ⟨v161, rfl, ho0, hb⟩; have n0_ := Aside0.mk (Kd.R_below (by (with_reducible repeat (first | apply Kd.R_alloc | apply Kd.R_drewN | apply Kd.R_drew)); exact HO_8.out) hb); have n1_ := Aside0.mk (Kd.R_elder' (by (with_reducible repeat (first | apply Kd.R_alloc | apply Kd.R_drewN | apply Kd.R_drew)); exact HO159.out) (Kd.R_base ho0) hb); have n2_ := Aside0.mk (Kd.R_lower (Kd.R_new' ho0 (Kd.R_lt (by (with_reducible repeat (first | apply Kd.R_alloc | apply Kd.R_drewN | apply Kd.R_drew)); exact HO159.out))) (below_size (by repeat (first | (with_reducible first | exact HB.out | apply below_alloc | apply pw_below_drewN | apply below_drew1) | exact HB.out)))); have n3_ := Aside0.mk (below_step (by repeat (first | (with_reducible first | exact HB.out | apply below_alloc | apply pw_below_drewN | apply below_drew1) | exact HB.out)) hb); clear HO_8; clear HO159; clear HB; have HO_8 := n0_; have HO159 := n1_; have HO162 := n2_; have HB := n3_; clear n0_ n1_ n2_ n3_; (try clear hb); (try clear hb2); (try clear hk); (try clear hi); (try clear ho0); obtain ⟨Ao76, co76, eo76⟩ := Kd.R_slice HO159.out; subst eo76; obtain ⟨Ao77, co77, eo77⟩ := Kd.R_slice HO162.out; subst eo77; obtain ⟨Ao78, co78, eo78⟩ := Kd.R_slice HO_8.out; subst eo78; have p163 : 0 ≤ (a1 : Int) := of_decide_eq_true (by first | (with_reducible assumption) | assumption); have q163 : a1 < (t128.length : Int) := of_decide_eq_true (by first | (with_reducible assumption) | assumption); obtain ⟨ad163, e163, hx163_0⟩ := Kd.at_int (Kd.R_reads' HO_8.out).2.2 a1 p163 q163; cases e163; replace p163 := eq_true p163; replace q163 := eq_true q163; have p164 : 0 ≤ (a2 : Int) := of_decide_eq_true (by first | (with_reducible assumption) | assumption); have q164 : a2 < (t128.length : Int) := of_decide_eq_true (by first | (with_reducible assumption) | assumption); obtain ⟨ad164, e164, hx164_0⟩ := Kd.at_int (Kd.R_reads' HO_8.out).2.2 a2 p164 q164; obtain rfl : ad163 = ad164 := (by injection e164); replace p164 := eq_true p164; replace q164 := eq_true q164; have p165 : 0 ≤ (a2 : Int) := of_decide_eq_true (by first | (with_reducible assumption) | assumption); have q165 : a2 < (t157.length : Int) := of_decide_eq_true (by first | (with_reducible assumption) | assumption); obtain ⟨ad165, e165, hx165_0⟩ := Kd.at_bool (Kd.R_reads' HO159.out).2.2 a2 p165 q165; (try rw [← Nbq71.out] at hx165_0); cases e165; replace p165 := eq_true p165; replace q165 := eq_true q165; have p166 : 0 ≤ (a1 : Int) := of_decide_eq_true (by first | (with_reducible assumption) | assumption); have q166 : a1 < (t160.length : Int) := of_decide_eq_true (by first | (with_reducible assumption) | assumption); obtain ⟨ad166, e166, hx166_0⟩ := Kd.at_bool (Kd.R_reads' HO162.out).2.2 a1 p166 q166; (try rw [← Nbq71.out] at hx166_0); cases e166; replace p166 := eq_true p166; replace q166 := eq_true q166)))
                     go_ret
                     exact ⟨by first | rfl | (simp [errW_none, errW_some] <;> rfl) | (simp [*, errW_none, errW_some] <;> rfl) | (exfalso; (try simp_all); (try ((try clear hji27 hji27w); (try clear hji33 hji33w); (try clear hji42 hji42w); omega)); done), by repeat (first | (with_reducible first | exact HB.out | apply below_alloc | apply pw_below_drewN | apply below_drew1) | exact HB.out)⟩
                    ·
                     rw [if_neg c73] at H
                     exact absurd H (by simp)
                   ·
                    replace c72 := Bool.eq_false_iff.mpr c72
                    subst c72
                    have H1 : (some (((rd t128 a1) == (rd t128 a2)) == false)) = some r := by rw [if_neg (show ¬ (false = true) by decide)] at H; exact H
                    clear H
                    have H := H1
                    clear H1
                    obtain rfl := Option.some.inj H
                    go_wp2_with (first | (go_at_call 21; (with_reducible refine (graph_Reach.calls _ _ l0 a1 t157 _ ?side1 ?side2 A61.out).mono ?_); (case side1 => repeat (first | exact (Kd.C_below HR0.out HB.out) | (with_reducible refine Kd.C_alloc ?_ _) | (with_reducible refine Kd.C_drewN ?_ _) | (with_reducible refine Kd.C_drew ?_))); (case side2 => exact HC0.out); rintro e w79 ⟨v158, rfl, ho0, hb⟩; have n0_ := Aside0.mk (Kd.R_below (by (with_reducible repeat (first | apply Kd.R_alloc | apply Kd.R_drewN | apply Kd.R_drew)); exact HO_8.out) hb); have n1_ := Aside0.mk (Kd.R_lower ho0 (below_size (by repeat (first | (with_reducible first | exact HB.out | apply below_alloc | apply pw_below_drewN | apply below_drew1) | exact HB.out)))); have n2_ := Aside0.mk (below_step (by repeat (first | (with_reducible first | exact HB.out | apply below_alloc | apply pw_below_drewN | apply below_drew1) | exact HB.out)) hb); clear HO_8; clear HB; have HO_8 := n0_; have HO159 := n1_; have HB := n2_; clear n0_ n1_ n2_; (try clear hb); (try clear hb2); (try clear hk); (try clear hi); (try clear ho0)) | (go_at_call 21; (with_reducible refine (graph_Reach.calls _ _ l0 a2 t160 _ ?side1 ?side2 A62.out).mono ?_); (case side1 => repeat (first | exact (Kd.C_below HR0.out HB.out) | (with_reducible refine Kd.C_alloc ?_ _) | (with_reducible refine Kd.C_drewN ?_ _) | (with_reducible refine Kd.C_drew ?_))); (case side2 => exact HC0.out); rintro e w80 ⟨v161, rfl, ho0, hb⟩; have n0_ := Aside0.mk (Kd.R_below (by (with_reducible repeat (first | apply Kd.R_alloc | apply Kd.R_drewN | apply Kd.R_drew)); exact HO_8.out) hb); have n1_ := Aside0.mk (Kd.R_elder' (by (with_reducible repeat (first | apply Kd.R_alloc | apply Kd.R_drewN | apply Kd.R_drew)); exact HO159.out) (Kd.R_base ho0) hb); have n2_ := Aside0.mk (Kd.R_lower (Kd.R_new' ho0 (Kd.R_lt (by (with_reducible repeat (first | apply Kd.R_alloc | apply Kd.R_drewN | apply Kd.R_drew)); exact HO159.out))) (below_size (by repeat (first | (with_reducible first | exact HB.out | apply below_alloc | apply pw_below_drewN | apply below_drew1) | exact HB.out)))); have n3_ := Aside0.mk (below_step (by repeat (first | (with_reducible first | exact HB.out | apply below_alloc | apply pw_below_drewN | apply below_drew1) | exact HB.out)) hb); clear HO_8; clear HO159; clear HB; have HO_8 := n0_; have HO159 := n1_; have HO162 := n2_; have HB := n3_; clear n0_ n1_ n2_ n3_; (try clear hb); (try clear hb2); (try clear hk); (try clear hi); (try clear ho0); obtain ⟨Ao81, co81, eo81⟩ := Kd.R_slice HO159.out; subst eo81; obtain ⟨Ao82, co82, eo82⟩ := Kd.R_slice HO162.out; subst eo82; obtain ⟨Ao83, co83, eo83⟩ := Kd.R_slice HO_8.out; subst eo83; have p163 : 0 ≤ (a1 : Int) := of_decide_eq_true (by first | (with_reducible assumption) | assumption); have q163 : a1 < (t128.length : Int) := of_decide_eq_true (by first | (with_reducible assumption) | assumption); obtain ⟨ad163, e163, hx163_0⟩ := Kd.at_int (Kd.R_reads' HO_8.out).2.2 a1 p163 q163; cases e163; replace p163 := eq_true p163; replace q163 := eq_true q163; have p164 : 0 ≤ (a2 : Int) := of_decide_eq_true (by first | (with_reducible assumption) | assumption); have q164 : a2 < (t128.length : Int) := of_decide_eq_true (by first | (with_reducible assumption) | assumption); obtain ⟨ad164, e164, hx164_0⟩ := Kd.at_int (Kd.R_reads' HO_8.out).2.2 a2 p164 q164; obtain rfl : ad163 = ad164 := (by injection e164); replace p164 := eq_true p164; replace q164 := eq_true q164; have p165 : 0 ≤ (a2 : Int) := of_decide_eq_true (by first | (with_reducible assumption) | assumption); have q165 : a2 < (t157.length : Int) := of_decide_eq_true (by first | (with_reducible assumption) | assumption); obtain ⟨ad165, e165, hx165_0⟩ := Kd.at_bool (Kd.R_reads' HO159.out).2.2 a2 p165 q165; (try rw [← Nbq71.out] at hx165_0); cases e165; replace p165 := eq_true p165; replace q165 := eq_true q165))
                    repeat (go_quiet (first | (go_at_call 21; (with_reducible refine (graph_Reach.calls _ _ l0 a1 t157 _ ?side1 ?side2 A61.out).mono ?_); (case side1 => repeat (first | exact (Kd.C_below HR0.out HB.out) | (with_reducible refine Kd.C_alloc ?_ _) | (with_reducible refine Kd.C_drewN ?_ _) | (with_reducible refine Kd.C_drew ?_))); (case side2 => exact HC0.out); rintro e w79 ⟨v158, rfl, ho0, hb⟩; have n0_ := Aside0.mk (Kd.R_below (by (with_reducible repeat (first | apply Kd.R_alloc | apply Kd.R_drewN | apply Kd.R_drew)); exact HO_8.out) hb); have n1_ := Aside0.mk (Kd.R_lower ho0 (below_size (by repeat (first | (with_reducible first | exact HB.out | apply below_alloc | apply pw_below_drewN | apply below_drew1) | exact HB.out)))); have n2_ := Aside0.mk (below_step (by repeat (first | (with_reducible first | exact HB.out | apply below_alloc | apply pw_below_drewN | apply below_drew1) | exact HB.out)) hb); clear HO_8; clear HB; have HO_8 := n0_; have HO159 := n1_; have HB := n2_; clear n0_ n1_ n2_; (try clear hb); (try clear hb2); (try clear hk); (try clear hi); (try clear ho0)) | (go_at_call 21; (with_reducible refine (graph_Reach.calls _ _ l0 a2 t160 _ ?side1 ?side2 A62.out).mono ?_); (case side1 => repeat (first | exact (Kd.C_below HR0.out HB.out) | (with_reducible refine Kd.C_alloc ?_ _) | (with_reducible refine Kd.C_drewN ?_ _) | (with_reducible refine Kd.C_drew ?_))); (case side2 => exact HC0.out); rintro e w80 ⟨v161, rfl, ho0, hb⟩; have n0_ := Aside0.mk (Kd.R_below (by (with_reducible repeat (first | apply Kd.R_alloc | apply Kd.R_drewN | apply Kd.R_drew)); exact HO_8.out) hb); have n1_ := Aside0.mk (Kd.R_elder' (by (with_reducible repeat (first | apply Kd.R_alloc | apply Kd.R_drewN | apply Kd.R_drew)); exact HO159.out) (Kd.R_base ho0) hb); have n2_ := Aside0.mk (Kd.R_lower (Kd.R_new' ho0 (Kd.R_lt (by (with_reducible repeat (first | apply Kd.R_alloc | apply Kd.R_drewN | apply Kd.R_drew)); exact HO159.out))) (below_size (by repeat (first | (with_reducible first | exact HB.out | apply below_alloc | apply pw_below_drewN | apply below_drew1) | exact HB.out)))); have n3_ := Aside0.mk (below_step (by repeat (first | (with_reducible first | exact HB.out | apply below_alloc | apply pw_below_drewN | apply below_drew1) | exact HB.out)) hb); clear HO_8; clear HO159; clear HB; have HO_8 := n0_; have HO159 := n1_; have HO162 := n2_; have HB := n3_; clear n0_ n1_ n2_ n3_; (try clear hb); (try clear hb2); (try clear hk); (try clear hi); (try clear ho0); obtain ⟨Ao81, co81, eo81⟩ := Kd.R_slice HO159.out; subst eo81; obtain ⟨Ao82, co82, eo82⟩ := Kd.R_slice HO162.out; subst eo82; obtain ⟨Ao83, co83, eo83⟩ := Kd.R_slice HO_8.out; subst eo83; have p163 : 0 ≤ (a1 : Int) := of_decide_eq_true (by first | (with_reducible assumption) | assumption); have q163 : a1 < (t128.length : Int) := of_decide_eq_true (by first | (with_reducible assumption) | assumption); obtain ⟨ad163, e163, hx163_0⟩ := Kd.at_int (Kd.R_reads' HO_8.out).2.2 a1 p163 q163; cases e163; replace p163 := eq_true p163; replace q163 := eq_true q163; have p164 : 0 ≤ (a2 : Int) := of_decide_eq_true (by first | (with_reducible assumption) | assumption); have q164 : a2 < (t128.length : Int) := of_decide_eq_true (by first | (with_reducible assumption) | assumption); obtain ⟨ad164, e164, hx164_0⟩ := Kd.at_int (Kd.R_reads' HO_8.out).2.2 a2 p164 q164; obtain rfl : ad163 = ad164 := (by injection e164); replace p164 := eq_true p164; replace q164 := eq_true q164; have p165 : 0 ≤ (a2 : Int) := of_decide_eq_true (by first | (with_reducible assumption) | assumption); have q165 : a2 < (t157.length : Int) := of_decide_eq_true (by first | (with_reducible assumption) | assumption); obtain ⟨ad165, e165, hx165_0⟩ := Kd.at_bool (Kd.R_reads' HO159.out).2.2 a2 p165 q165; (try rw [← Nbq71.out] at hx165_0); cases e165; replace p165 := eq_true p165; replace q165 := eq_true q165)); try go_wp2_with (first | (go_at_call 21; (with_reducible refine (graph_Reach.calls _ _ l0 a1 t157 _ ?side1 ?side2 A61.out).mono ?_); (case side1 => repeat (first | exact (Kd.C_below HR0.out HB.out) | (with_reducible refine Kd.C_alloc ?_ _) | (with_reducible refine Kd.C_drewN ?_ _) | (with_reducible refine Kd.C_drew ?_))); (case side2 => exact HC0.out); rintro e w79 ⟨v158, rfl, ho0, hb⟩; have n0_ := Aside0.mk (Kd.R_below (by (with_reducible repeat (first | apply Kd.R_alloc | apply Kd.R_drewN | apply Kd.R_drew)); exact HO_8.out) hb); have n1_ := Aside0.mk (Kd.R_lower ho0 (below_size (by repeat (first | (with_reducible first | exact HB.out | apply below_alloc | apply pw_below_drewN | apply below_drew1) | exact HB.out)))); have n2_ := Aside0.mk (below_step (by repeat (first | (with_reducible first | exact HB.out | apply below_alloc | apply pw_below_drewN | apply below_drew1) | exact HB.out)) hb); clear HO_8; clear HB; have HO_8 := n0_; have HO159 := n1_; have HB := n2_; clear n0_ n1_ n2_; (try clear hb); (try clear hb2); (try clear hk); (try clear hi); (try clear ho0)) | (go_at_call 21; (with_reducible refine (graph_Reach.calls _ _ l0 a2 t160 _ ?side1 ?side2 A62.out).mono ?_); (case side1 => repeat (first | exact (Kd.C_below HR0.out HB.out) | (with_reducible refine Kd.C_alloc ?_ _) | (with_reducible refine Kd.C_drewN ?_ _) | (with_reducible refine Kd.C_drew ?_))); (case side2 => exact HC0.out); rintro e w80 ⟨v161, rfl, ho0, hb⟩; have n0_ := Aside0.mk (Kd.R_below (by (with_reducible repeat (first | apply Kd.R_alloc | apply Kd.R_drewN | apply Kd.R_drew)); exact HO_8.out) hb); have n1_ := Aside0.mk (Kd.R_elder' (by (with_reducible repeat (first | apply Kd.R_alloc | apply Kd.R_drewN | apply Kd.R_drew)); exact HO159.out) (Kd.R_base ho0) hb); have n2_ := Aside0.mk (Kd.R_lower (Kd.R_new' ho0 (Kd.R_lt (by (with_reducible repeat (first | apply Kd.R_alloc | apply Kd.R_drewN | apply Kd.R_drew)); exact HO159.out))) (below_size (by repeat (first | (with_reducible first | exact HB.out | apply below_alloc | apply pw_below_drewN | apply below_drew1) | exact HB.out)))); have n3_ := Aside0.mk (below_step (by repeat (first | (with_reducible first | exact HB.out | apply below_alloc | apply pw_below_drewN | apply below_drew1) | exact HB.out)) hb); clear HO_8; clear HO159; clear HB; have HO_8 := n0_; have HO159 := n1_; have HO162 := n2_; have HB := n3_; clear n0_ n1_ n2_ n3_; (try clear hb); (try clear hb2); (try clear hk); (try clear hi); (try clear ho0); obtain ⟨Ao81, co81, eo81⟩ := Kd.R_slice HO159.out; subst eo81; obtain ⟨Ao82, co82, eo82⟩ := Kd.R_slice HO162.out; subst eo82; obtain ⟨Ao83, co83, eo83⟩ := Kd.R_slice HO_8.out; subst eo83; have p163 : 0 ≤ (a1 : Int) := of_decide_eq_true (by first | (with_reducible assumption) | assumption); have q163 : a1 < (t128.length : Int) := of_decide_eq_true (by first | (with_reducible assumption) | assumption); obtain ⟨ad163, e163, hx163_0⟩ := Kd.at_int (Kd.R_reads' HO_8.out).2.2 a1 p163 q163; cases e163; replace p163 := eq_true p163; replace q163 := eq_true q163; have p164 : 0 ≤ (a2 : Int) := of_decide_eq_true (by first | (with_reducible assumption) | assumption); have q164 : a2 < (t128.length : Int) := of_decide_eq_true (by first | (with_reducible assumption) | assumption); obtain ⟨ad164, e164, hx164_0⟩ := Kd.at_int (Kd.R_reads' HO_8.out).2.2 a2 p164 q164; obtain rfl : ad163 = ad164 := (by injection e164); replace p164 := eq_true p164; replace q164 := eq_true q164; have p165 : 0 ≤ (a2 : Int) := of_decide_eq_true (by first | (with_reducible assumption) | assumption); have q165 : a2 < (t157.length : Int) := of_decide_eq_true (by first | (with_reducible assumption) | assumption); obtain ⟨ad165, e165, hx165_0⟩ := Kd.at_bool (Kd.R_reads' HO159.out).2.2 a2 p165 q165; (try rw [← Nbq71.out] at hx165_0); cases e165; replace p165 := eq_true p165; replace q165 := eq_true q165)))
                    go_ret
                    exact ⟨by first | rfl | (simp [errW_none, errW_some] <;> rfl) | (simp [*, errW_none, errW_some] <;> rfl) | (exfalso; (try simp_all); (try ((try clear hji27 hji27w); (try clear hji33 hji33w); (try clear hji42 hji42w); omega)); done), by repeat (first | (with_reducible first | exact HB.out | apply below_alloc | apply pw_below_drewN | apply below_drew1) | exact HB.out)⟩
                  ·
                   rw [if_neg c70] at H
                   exact absurd H (by simp)
                 ·
                  rw [if_neg c69] at H
                  exact absurd H (by simp)
                ·
                 rw [if_neg c68] at H
                 exact absurd H (by simp)
               ·
                rw [if_neg c67] at H
                exact absurd H (by simp)
              ·
               rw [if_neg c66] at H
               exact absurd H (by simp)
             ·
              rw [if_neg c65] at H
              exact absurd (Option.some.inj H) (by rw [HRT.out]; decide)
            ·
             rw [if_neg c64] at H
             exact absurd (Option.some.inj H) (by rw [HRT.out]; decide)
           ·
            replace c63 := Bool.eq_false_iff.mpr c63
            subst c63
            have H1 : (some false) = some r := by rw [if_neg (show ¬ (false = true) by decide)] at H; exact H
            clear H
            have H := H1
            exact absurd (Option.some.inj H) (by rw [HRT.out]; decide)
 ·
  replace c6 := Bool.eq_false_iff.mpr c6
  subst c6
  have H1 : (some t126) = some r := by rw [if_neg (show ¬ (false = true) by decide)] at H; exact H
  clear H
  have H := H1
  clear H1
  obtain rfl := Option.some.inj H
  go_enter Try.func4, Try.ntmps4
  go_wp2_with (first | (go_at_call 34; (with_reducible refine (bywashlaw11_awake.calls k  t126 _ A4.out).mono ?_); rintro e w93 ⟨rfl, hb⟩; have n0_ := Aside0.mk (below_step (by repeat (first | (with_reducible first | exact HB.out | apply below_alloc | apply pw_below_drewN | apply below_drew1) | exact HB.out)) hb); clear HB; have HB := n0_; clear n0_; (try clear hb); (try clear hb2); (try clear hk); (try clear hi)) | (go_at_call 14; (with_reducible refine (bywashref10_Few.calls k _ _ l0 false _ ?side1 ?side2 A5.out).mono ?_); (case side1 => repeat (first | exact (Kd.C_below HR0.out HB.out) | (with_reducible refine Kd.C_alloc ?_ _) | (with_reducible refine Kd.C_drewN ?_ _) | (with_reducible refine Kd.C_drew ?_))); (case side2 => exact HC0.out); rintro e w' ⟨rfl, ⟨nd, rfl⟩⟩; (try first | exact ⟨rfl, _, World.drewN_drewN _ _ _⟩ | exact ⟨rfl, _, Eq.trans (World.drewN_drewN _ _ _) (congrArg (World.drewN _) (Nat.add_assoc _ _ _))⟩)))
  repeat (go_quiet (first | (go_at_call 34; (with_reducible refine (bywashlaw11_awake.calls k  t126 _ A4.out).mono ?_); rintro e w93 ⟨rfl, hb⟩; have n0_ := Aside0.mk (below_step (by repeat (first | (with_reducible first | exact HB.out | apply below_alloc | apply pw_below_drewN | apply below_drew1) | exact HB.out)) hb); clear HB; have HB := n0_; clear n0_; (try clear hb); (try clear hb2); (try clear hk); (try clear hi)) | (go_at_call 14; (with_reducible refine (bywashref10_Few.calls k _ _ l0 false _ ?side1 ?side2 A5.out).mono ?_); (case side1 => repeat (first | exact (Kd.C_below HR0.out HB.out) | (with_reducible refine Kd.C_alloc ?_ _) | (with_reducible refine Kd.C_drewN ?_ _) | (with_reducible refine Kd.C_drew ?_))); (case side2 => exact HC0.out); rintro e w' ⟨rfl, ⟨nd, rfl⟩⟩; (try first | exact ⟨rfl, _, World.drewN_drewN _ _ _⟩ | exact ⟨rfl, _, Eq.trans (World.drewN_drewN _ _ _) (congrArg (World.drewN _) (Nat.add_assoc _ _ _))⟩))); try go_wp2_with (first | (go_at_call 34; (with_reducible refine (bywashlaw11_awake.calls k  t126 _ A4.out).mono ?_); rintro e w93 ⟨rfl, hb⟩; have n0_ := Aside0.mk (below_step (by repeat (first | (with_reducible first | exact HB.out | apply below_alloc | apply pw_below_drewN | apply below_drew1) | exact HB.out)) hb); clear HB; have HB := n0_; clear n0_; (try clear hb); (try clear hb2); (try clear hk); (try clear hi)) | (go_at_call 14; (with_reducible refine (bywashref10_Few.calls k _ _ l0 false _ ?side1 ?side2 A5.out).mono ?_); (case side1 => repeat (first | exact (Kd.C_below HR0.out HB.out) | (with_reducible refine Kd.C_alloc ?_ _) | (with_reducible refine Kd.C_drewN ?_ _) | (with_reducible refine Kd.C_drew ?_))); (case side2 => exact HC0.out); rintro e w' ⟨rfl, ⟨nd, rfl⟩⟩; (try first | exact ⟨rfl, _, World.drewN_drewN _ _ _⟩ | exact ⟨rfl, _, Eq.trans (World.drewN_drewN _ _ _) (congrArg (World.drewN _) (Nat.add_assoc _ _ _))⟩))))
  go_ret
  exact ⟨by first | rfl | (simp [errW_none, errW_some] <;> rfl) | (simp [*, errW_none, errW_some] <;> rfl) | (exfalso; (try simp_all); (try ((try clear hji27 hji27w); (try clear hji33 hji33w); (try clear hji42 hji42w); omega)); done), by repeat (first | (with_reducible first | exact HB.out | apply below_alloc | apply pw_below_drewN | apply below_drew1) | exact HB.out)⟩
end Go.Proofs.Ytdknhgbjgdmfkaa.P
namespace Go.Proofs.Ytdknhgbjgdmfkaa.P
open Go.RowKit Go.Lib Go.Proofs.YtdknhgbjgdmfkaaW.PrintWords
section
variable {c : List (List Int)}
theorem lead_self (hv : Valid c) {x : Int} (hx : Node c x) (hl : isLead c x = true) : leadOf c x = x := by
  obtain ⟨h1, h2⟩ := lead_mem hv hx
  have hw := (mem_partOf hv hx).1 h1
  have h3 := (isLead_iff hv hx).1 hl _ hw.1 hw.2
  have h4 := h2 x ((mem_partOf hv hx).2 ⟨.refl _, .refl _⟩)
  omega
theorem parts_rise (hv : Valid c) : (partsB c).Pairwise (fun p q => p.headD 0 < q.headD 0) := by
  unfold partsB
  rw [List.pairwise_map]
  refine ((nodes_rise _).filter _).imp_of_mem (fun {x y} hx hy h => ?_)
  rw [List.mem_filter] at hx hy
  show leadOf c x < leadOf c y
  rw [lead_self hv (mem_nodes.1 hx.1) hx.2, lead_self hv (mem_nodes.1 hy.1) hy.2]
  exact h
theorem parts_sum (hv : Valid c) : ((partsB c).map List.length).sum = c.length := by
  obtain ⟨f1, f2, f3⟩ := partsB_facts hv
  rw [← List.length_flatten]
  have hnd : (partsB c).flatten.Nodup := by
    unfold List.Nodup
    rw [List.pairwise_flatten]
    refine ⟨fun p hp => (f3 p hp).2.1.imp (fun h => by omega), ?_⟩
    refine (parts_rise hv).imp_of_mem (fun {p q} hp hq h x hx y hy e => ?_)
    subst e
    have h1 := part_is hv hp hx
    have h2 := part_is hv hq hy
    rw [h1, h2] at h
    omega
  have hmem : ∀ x, x ∈ (partsB c).flatten ↔ x ∈ nodes c.length := fun x => by
    rw [List.mem_flatten, mem_nodes]
    exact ⟨fun ⟨p, hp, hx⟩ => f1 p hp x hx, fun h => f2 x h⟩
  have h1 := length_le_of_subset _ _ hnd (fun x hx => (hmem x).1 hx)
  have h2 := length_le_of_subset _ _ ((nodes_rise c.length).imp (fun h => by omega)) (fun x hx => (hmem x).2 hx)
  rw [nodes_len] at h1 h2
  omega
end
theorem sccparts_l1 (x0 : List (List Int)) (a1 a2 : Int) (l : List Int) (P : List (List Int)) (hl : l.length ≤ 900) (hP : P.length ≤ 900) (hpl : ∀ p ∈ P, p.length ≤ 900) (hne : ∀ p ∈ P, p ≠ []) (hn : ∀ p ∈ P, ∀ x ∈ p, 0 ≤ x ∧ x < (l.length : Int)) (hr : ∀ p ∈ P, p.Pairwise (· < ·)) (hd : ∀ p ∈ P, ∀ x ∈ p, rd l x = rd p 0) (hh : P.Pairwise (fun p q => rd p 0 < rd q 0))
    (N : Int) (i : Nat) (hi : i < P.length) (hnext : Ev (fun k => bywashlaw11_SccParts.l0 k x0 a1 a2 true l P N ((i + 1 : Nat) : Int)) true) :
    ∀ d j : Nat, j + d = P[i].length → Ev (fun k => bywashlaw11_SccParts.l1 k x0 a1 a2 true l P N (i : Int) (j : Int)) true
  | 0, j, hj => by
    refine Ev.step (f := fun k => bywashlaw11_SccParts.l0 k x0 a1 a2 true l P N ((i + 1 : Nat) : Int)) (fun k => ?_) hnext
    rw [bywashlaw11_SccParts.l1, if_pos (by omega), if_pos (by omega), rdL1_nat hi, if_neg (by omega), wrap_succ (by omega)]
  | d + 1, j, hj => by
    have hjl : j < P[i].length := by omega
    have hm : P[i] ∈ P := List.getElem_mem hi
    have hx := hn _ hm _ (List.getElem_mem hjl)
    have hxd := hd _ hm _ (List.getElem_mem hjl)
    have hpl' := hpl _ hm
    refine Ev.step (f := fun k => bywashlaw11_SccParts.l1 k x0 a1 a2 true l P N (i : Int) ((j + 1 : Nat) : Int)) (fun k => ?_) (sccparts_l1 x0 a1 a2 l P hl hP hpl hne hn hr hd hh N i hi hnext d (j + 1) (by omega))
    have hw1 : 0 < j → wrap64 ((j : Int) - 1) = ((j - 1 : Nat) : Int) := fun h => by unfold wrap64; omega
    have hw2 : 0 < i → wrap64 ((i : Int) - 1) = ((i - 1 : Nat) : Int) := fun h => by unfold wrap64; omega
    rw [bywashlaw11_SccParts.l1, if_pos (by omega), if_pos (by omega), rdL1_nat hi, if_pos (by omega), if_pos (by omega), rd_nat' hjl, if_neg (by omega), if_neg (by omega), if_pos hx.1, if_pos hx.2, if_pos (by omega), if_pos hxd, wrap_succ (by omega)]
    by_cases h0 : 0 < j
    · have hj1 : j - 1 < P[i].length := by omega
      have hlt := List.pairwise_iff_getElem.1 (hr _ hm) (j - 1) j hj1 hjl (by omega)
      rw [if_pos (by omega), hw1 h0, if_pos (by omega), if_pos (by omega), rd_nat' hj1, if_neg (by omega)]
      by_cases h1 : 0 < i
      · have hi1 : i - 1 < P.length := by omega
        have hlt2 := List.pairwise_iff_getElem.1 hh (i - 1) i hi1 hi (by omega)
        have hne1 := List.length_pos_iff.2 (hne _ (List.getElem_mem hi1))
        rw [if_pos (by omega), hw2 h1, if_pos (by omega), if_pos (by omega), rdL1_nat hi1, if_pos (by omega), if_neg (by omega)]
      · rw [if_neg (by omega)]
    · rw [if_neg (by omega)]
      by_cases h1 : 0 < i
      · have hi1 : i - 1 < P.length := by omega
        have hlt2 := List.pairwise_iff_getElem.1 hh (i - 1) i hi1 hi (by omega)
        have hne1 := List.length_pos_iff.2 (hne _ (List.getElem_mem hi1))
        rw [if_pos (by omega), hw2 h1, if_pos (by omega), if_pos (by omega), rdL1_nat hi1, if_pos (by omega), if_neg (by omega)]
      · rw [if_neg (by omega)]
theorem sccparts_l0 (x0 : List (List Int)) (a1 a2 : Int) (l : List Int) (P : List (List Int)) (hl : l.length ≤ 900) (hP : P.length ≤ 900) (hpl : ∀ p ∈ P, p.length ≤ 900) (hne : ∀ p ∈ P, p ≠ []) (hn : ∀ p ∈ P, ∀ x ∈ p, 0 ≤ x ∧ x < (l.length : Int)) (hr : ∀ p ∈ P, p.Pairwise (· < ·)) (hd : ∀ p ∈ P, ∀ x ∈ p, rd l x = rd p 0) (hh : P.Pairwise (fun p q => rd p 0 < rd q 0)) (hsum : (P.map List.length).sum ≤ 900)
    (hend : Ev (fun k => bywashlaw11_SccParts.l0 k x0 a1 a2 true l P (((P.map List.length).sum : Nat) : Int) (P.length : Int)) true) :
    ∀ d i : Nat, i + d = P.length → Ev (fun k => bywashlaw11_SccParts.l0 k x0 a1 a2 true l P ((((P.take i).map List.length).sum : Nat) : Int) (i : Int)) true
  | 0, i, hi => by
    obtain rfl : i = P.length := by omega
    rw [List.take_length]
    exact hend
  | d + 1, i, hi => by
    have hil : i < P.length := by omega
    have hle : ((P.take (i + 1)).map List.length).sum ≤ (P.map List.length).sum := by
      conv => rhs; rw [← List.take_append_drop (i + 1) P, List.map_append, List.sum_append]
      omega
    have hs : ((P.take (i + 1)).map List.length).sum = ((P.take i).map List.length).sum + P[i].length := by
      rw [List.take_succ_eq_append_getElem hil, List.map_append, List.sum_append]
      simp
    have hwr : wrap64 ((((P.take i).map List.length).sum : Nat) + (P[i].length : Int)) = ((((P.take (i + 1)).map List.length).sum : Nat) : Int) := by
      rw [hs]
      have : ((P.take i).map List.length).sum + P[i].length ≤ 900 := by omega
      unfold wrap64
      omega
    refine Ev.step (f := fun k => bywashlaw11_SccParts.l1 k x0 a1 a2 true l P ((((P.take (i + 1)).map List.length).sum : Nat) : Int) (i : Int) ((0 : Nat) : Int)) (fun k => by rw [bywashlaw11_SccParts.l0, if_pos (by omega), if_pos (by omega), rdL1_nat hil, hwr]; rfl) ?_
    exact sccparts_l1 x0 a1 a2 l P hl hP hpl hne hn hr hd hh _ i hil (sccparts_l0 x0 a1 a2 l P hl hP hpl hne hn hr hd hh hsum hend d (i + 1) (by omega)) P[i].length 0 (by omega)
theorem SccParts_pure (l0 : List (List Int)) (a1 a2 : Int) (hm : l0.length ≤ 9223372036854775807) (_hw : ∀ r ∈ l0, r.length ≤ 9223372036854775807 ∧ ∀ y ∈ r, (Lit.int .i64 y).wf = true) (_h1 : (Lit.int .i64 a1).wf = true) (_h2 : (Lit.int .i64 a2).wf = true) : ∃ k, bywashlaw11_SccParts.f k l0 a1 a2 = some true := by
  refine Ev.rounds (g := fun k => bywashlaw11_SccParts.f k l0 a1 a2) ?_
  unfold bywashlaw11_SccParts.f
  refine Ev.bind awake11_ev ?_
  refine Ev.bind (few_ev l0 hm) ?_
  by_cases hf : few l0 = true
  · simp only [hf, if_true]
    have hs := few_small hf
    have hv := clean_Valid l0
    have h40 := (few_iff.1 hf).2
    obtain ⟨g1, g2, g3, g4, _⟩ := parts_small hs.1
    obtain ⟨f1, f2, f3⟩ := partsB_facts hv
    have hll : (leadB (clean l0)).length = l0.length := by rw [leadB_len, clean_len]
    have h00 : ∀ p : List Int, rd p 0 = p.headD 0 := fun p => by
      show p.getD 0 0 = p.headD 0
      cases p <;> rfl
    rw [leads_now hs.1, parts_now hs.1]
    simp only [Option.bind_some]
    have hps := parts_sum hv
    rw [clean_len] at hps
    refine sccparts_l0 l0 a1 a2 _ _ (by omega) (by omega) (fun p hp => by have := (g3 p hp).1; omega) (fun p hp => (g3 p hp).2) (fun p hp x hx => by rw [hll]; exact g1 p hp x hx) (fun p hp => (f3 p hp).2.1) (fun p hp x hx => by rw [leadB_get (f1 p hp x hx), lead_part hv hp hx, h00]) ((parts_rise hv).imp (fun {p q} h => by rw [h00, h00]; exact h)) (by omega) ?_ (partsB (clean l0)).length 0 (by omega)
    have e2 : (((leadB (clean l0)).length : Int) != (l0.length : Int)) = false := by rw [hll]; simp
    refine Ev.step (f := fun k => bywashlaw11_SccParts.j2 k l0 a1 a2 true (leadB (clean l0)) false) (fun k => by rw [bywashlaw11_SccParts.l0, if_neg (by omega), if_pos (by omega), e2]) ?_
    by_cases hin : (0 ≤ a1 ∧ a1 < (l0.length : Int)) ∧ (0 ≤ a2 ∧ a2 < (l0.length : Int))
    · obtain ⟨⟨p1, p2⟩, p3, p4⟩ := hin
      have hNa : Node (clean l0) a1 := clean_node.2 ⟨p1, p2⟩
      have hNb : Node (clean l0) a2 := clean_node.2 ⟨p3, p4⟩
      obtain ⟨x, hx1, hx2, hx3⟩ := reach_now hs a1
      obtain ⟨y, hy1, hy2, hy3⟩ := reach_now hs a2
      refine Ev.step (f := fun k => bywashlaw11_SccParts.j3 k l0 a1 a2 true (leadB (clean l0)) false) (fun k => ?_) ?_
      · rw [bywashlaw11_SccParts.j2, if_neg (by decide), if_neg (by omega), if_neg (by omega), if_neg (by omega), decide_eq_false (by omega)]
      · refine Ev.step (f := fun _ => some true) (fun k => ?_) (Ev.now _)
        have h5 := hx3 a2 p3 p4
        have h6 := hy3 a1 p1 p2
        have h7 := lead_eq hv hNa hNb
        rw [bywashlaw11_SccParts.j3, if_neg (by decide), hx1, Option.bind_some, hy1, Option.bind_some, if_pos rfl, if_pos (by omega), if_pos (by omega), if_pos p1, if_pos (by omega), if_pos p3, if_pos (by omega), if_pos (by omega), leadB_get hNa, leadB_get hNb]
        by_cases hr1 : rdOf false x a2 = true
        · rw [if_pos hr1, if_pos (by omega)]
          congr 1
          rw [beq_iff_eq]
          by_cases hr2 : rdOf false y a1 = true
          · rw [hr2, beq_iff_eq]
            exact h7.2 ⟨(h5.1 hr1).2, (h6.1 hr2).2⟩
          · rw [Bool.not_eq_true] at hr2
            rw [hr2, beq_eq_false_iff_ne]
            intro e
            have := h6.2 ⟨⟨p3, p4⟩, (h7.1 e).2⟩
            rw [hr2] at this
            cases this
        · rw [if_neg hr1]
          congr 1
          rw [beq_iff_eq, beq_eq_false_iff_ne]
          intro e
          exact hr1 (h5.2 ⟨⟨p1, p2⟩, (h7.1 e).1⟩)
    · refine Ev.step (f := fun k => bywashlaw11_SccParts.j3 k l0 a1 a2 true (leadB (clean l0)) true) (fun k => ?_) ?_
      · rw [bywashlaw11_SccParts.j2, if_neg (by decide)]
        by_cases p1 : a1 < 0
        · rw [if_pos p1]
        · rw [if_neg p1]
          by_cases p2 : a1 ≥ (l0.length : Int)
          · rw [if_pos p2]
          · rw [if_neg p2]
            by_cases p3 : a2 < 0
            · rw [if_pos p3]
            · rw [if_neg p3, decide_eq_true (by omega)]
      · exact Ev.step (f := fun _ => some true) (fun k => by rw [bywashlaw11_SccParts.j3, if_pos rfl]) (Ev.now _)
  · rw [Bool.not_eq_true] at hf
    simp only [hf, Bool.false_eq_true, if_false]
    exact Ev.now _
theorem SccParts_c (A0 : Option Addr) (c0 : Nat) (l0 : List (List Int)) (a1 a2 : Int) (w : World) (hr0 : (Kd.slice 3 (Kd.int .i64)).C w A0 l0.length l0) (hc0 : l0.length ≤ c0)
    (hm0 : l0.length ≤ 9223372036854775807) (hw : ∀ r ∈ l0, r.length ≤ 9223372036854775807 ∧ ∀ y ∈ r, (Lit.int .i64 y).wf = true) (h1 : (Lit.int .i64 a1).wf = true) (h2 : (Lit.int .i64 a2).wf = true) :
    Calls Try.prog 4 #[.slice A0 l0.length c0, .int .i64 a1, .int .i64 a2] w fun e w' => e = .returned (.bool true) ∧ Below w.heap.size w w' := by
  obtain ⟨k, h⟩ := SccParts_pure l0 a1 a2 hm0 hw h1 h2
  exact SccParts_t k A0 c0 l0 a1 a2 true w hr0 hc0 rfl h
end Go.Proofs.Ytdknhgbjgdmfkaa.P
namespace Go.Proofs.Ytdknhgbjgdmfkaa.P
open Go.RowKit Go.Lib Go.Sort Go.Deep Go.Proofs.YtdknhgbjgdmfkaaW.PrintWords Go.Proofs.YtdknhgbjgdmfkaaW.PrintLast Go.Proofs.YtdknhgbjgdmfkaaW.PrintMore
theorem C_of_cells {w : World} {A : Option Addr} {n : Nat} {zs : List Int} (hn : n ≤ 9223372036854775807) (hl : n ≤ zs.length) (hA : A = none → zs.length = 0) (hc : ∀ a, A = some a → ∀ c, c < zs.length → w.cell? (a.add c) = some (.int .i64 (zs.getD c 0))) : dI.C w A (zs.take n).length (zs.take n) := by
  have e : (zs.take n).length = n := by rw [List.length_take]; omega
  refine ⟨rfl, by rw [e]; exact hn, fun hp => ?_⟩
  cases A with
  | none => have := hA rfl; omega
  | some a =>
    refine ⟨a, rfl, fun j p hj => ⟨[.int .i64 p], rfl, rfl, fun i u hu => ?_⟩⟩
    have hjl : j < (zs.take n).length := (List.getElem?_eq_some_iff.1 hj).1
    match i, hu with
    | 0, hu =>
      injection hu with hu
      subst hu
      have hjz : j < zs.length := by omega
      have h1 := hc a rfl j hjz
      rw [List.getElem?_take, if_pos (by omega), List.getElem?_eq_getElem hjz] at hj
      injection hj with hj
      rw [List.getD_eq_getElem?_getD, List.getElem?_eq_getElem hjz, Option.getD_some, hj] at h1
      rw [show j * dI.sz + 0 = j from by show j * 1 + 0 = j; omega]
      exact h1
    | i + 1, hu => simp at hu
theorem open_rows {H : Type} {enc : TypeId × Value → H} {P : Program} {w : World} {base : Nat} {held : Bool} {t e q : TypeId} {fuel : Nat} {a0 : Option Addr} {len cap : Nat} {x : DataW H × List MemPlace} (ht : P.underlying t = some (.slice e)) (he : P.underlying e = some (.slice q)) (hq : P.underlying q = some (.int .i64))
    (ce : P.cellsOf e = 1) (cq : P.cellsOf q = 1) (h : DataW.trod enc P w base (fun _ => true) held fuel t [.slice a0 len cap] = some x) :
    ∃ l : List (List Int), l.length = len ∧ (Kd.slice 3 (Kd.int .i64)).C w a0 l.length l ∧ l.length ≤ cap ∧ l.length ≤ 9223372036854775807 ∧ (∀ r ∈ l, r.length ≤ 9223372036854775807 ∧ ∀ y ∈ r, (Lit.int .i64 y).wf = true) := by
  rcases open_int_rows ht he hq ce cq h with ⟨hcs, _⟩ | ⟨a, len', cap', A, L, C, Z, hcs, _, hl, hm, _, hr⟩
  · simp at hcs
    obtain ⟨rfl, rfl, rfl⟩ := hcs
    exact ⟨[], rfl, ⟨rfl, by simp, fun hp => absurd hp (by simp)⟩, Nat.le_refl _, by simp, fun r hr => by simp at hr⟩
  · simp at hcs
    obtain ⟨rfl, rfl, rfl⟩ := hcs
    have hm' : cap ≤ 9223372036854775807 := hm
    have hrow : ∀ r, r < cap → dI.C w (A r) ((Z r).take (L r)).length ((Z r).take (L r)) ∧ ((Z r).take (L r)).length = L r := by
      intro r hrc
      obtain ⟨_, h2, h3, h4, _, h6, h7⟩ := hr r hrc
      have h3' : C r ≤ 9223372036854775807 := h3
      exact ⟨C_of_cells (by omega) (by omega) (fun e => by rw [h4]; exact h6 e) (fun a' ha c hc => (h7 a' ha).2 c (by omega)), by rw [List.length_take]; omega⟩
    refine ⟨(List.range len).map fun r => (Z r).take (L r), by simp, ?_, by simpa using hl, by simp; omega, ?_⟩
    · refine ⟨rfl, by simp; omega, fun hp => ⟨a, rfl, fun j p hj => ?_⟩⟩
      rw [List.getElem?_map] at hj
      have hjl : j < len := by
        rcases Nat.lt_or_ge j len with h1 | h1
        · exact h1
        · rw [List.getElem?_eq_none (by simpa using h1)] at hj
          cases hj
      rw [List.getElem?_eq_getElem (by simpa using hjl)] at hj
      simp only [List.getElem_range, Option.map_some, Option.some.injEq] at hj
      subst hj
      obtain ⟨h1, h2, _⟩ := hr j (by omega)
      obtain ⟨hc, hcl⟩ := hrow j (by omega)
      refine ⟨[.slice (A j) (L j) (C j)], rfl, ⟨A j, C j, by rw [hcl], by rw [hcl]; exact h2, hc⟩, fun i u hu => ?_⟩
      match i, hu with
      | 0, hu =>
        injection hu with hu
        subst hu
        rw [show j * (Kd.slice 3 (Kd.int .i64)).sz + 0 = j from by show j * 1 + 0 = j; omega]
        exact h1
      | i + 1, hu => simp at hu
    · intro r hrm
      rw [List.mem_map] at hrm
      obtain ⟨j, hj, rfl⟩ := hrm
      rw [List.mem_range] at hj
      obtain ⟨_, h2, h3, h4, h5, _⟩ := hr j (by omega)
      have h3' : C j ≤ 9223372036854775807 := h3
      exact ⟨by rw [(hrow j (by omega)).2]; omega, fun y hy => h5 y (List.mem_of_mem_take hy)⟩
end Go.Proofs.Ytdknhgbjgdmfkaa.P
namespace Go.Proofs.Ytdknhgbjgdmfkaa.P
open Go.RowKit Go.Lib Go.Sort Go.Deep Go.ChangeShapes Go.WideShapes Go.Proofs.YtdknhgbjgdmfkaaW.PrintWords Go.Proofs.YtdknhgbjgdmfkaaW.PrintLast Go.Proofs.YtdknhgbjgdmfkaaW.PrintMore
end Go.Proofs.Ytdknhgbjgdmfkaa.P
