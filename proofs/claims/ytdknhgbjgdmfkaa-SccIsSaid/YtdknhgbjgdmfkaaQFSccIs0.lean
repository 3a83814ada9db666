/- What the claim uses of: Pbywashref11 -/
import Derived.Test.YtdknhgbjgdmfkaaQF4
namespace Go.Proofs.Ytdknhgbjgdmfkaa.P
open Go.RowKit Go.Proofs.YtdknhgbjgdmfkaaW.PrintWords Go.Proofs.YtdknhgbjgdmfkaaW.PrintLast Go.Proofs.YtdknhgbjgdmfkaaW.PrintMore
attribute [local go_sem] max2_int min2_int max_two min_two max_three min_three max_four min_four
set_option linter.unusedVariables false
set_option linter.unusedSimpArgs false
mutual
def bywashref11_Leads.l0 : Nat → List (List Int) → List (List Bool) → Int → Option (List Int)
  | 0, _, _, _ => none
  | k + 1, x0, x3, x4 => if x4 < (x0.length : Int) then ((bywashref10_Reach.f k x0 x4).bind fun t194 => (if x3.length < 5864062014805 then (bywashref11_Leads.l0 k x0 (x3 ++ [t194]) (wrap64 (x4 + 1))) else (none))) else (bywashref11_Leads.l1 k x0 x3 ([] : List Int) 0)
def bywashref11_Leads.l1 : Nat → List (List Int) → List (List Bool) → List Int → Int → Option (List Int)
  | 0, _, _, _, _ => none
  | k + 1, x0, x3, x5, x6 => if x6 < (x0.length : Int) then (bywashref11_Leads.l2 k x0 x3 x5 x6 0) else (some x5)
def bywashref11_Leads.l2 : Nat → List (List Int) → List (List Bool) → List Int → Int → Int → Option (List Int)
  | 0, _, _, _, _, _ => none
  | k + 1, x0, x3, x5, x6, x7 => if 0 ≤ x6 then (if x6 < (x3.length : Int) then (if 0 ≤ x7 then (if x7 < ((rd_L3 x3 x6).length : Int) then (if (rdOf false (rd_L3 x3 x6) x7 = true) then (if x7 < (x3.length : Int) then (if x6 < ((rd_L3 x3 x7).length : Int) then (if (rdOf false (rd_L3 x3 x7) x6 = true) then (if x5.length < 17592186044416 then (bywashref11_Leads.l1 k x0 x3 (x5 ++ [x7]) (wrap64 (x6 + 1))) else (none)) else (bywashref11_Leads.l2 k x0 x3 x5 x6 (wrap64 (x7 + 1)))) else (none)) else (none)) else (bywashref11_Leads.l2 k x0 x3 x5 x6 (wrap64 (x7 + 1)))) else (none)) else (none)) else (none)) else (none)
end
def bywashref11_Leads.f (k : Nat) (l0 : List (List Int)) : Option (List Int) := bywashref11_Leads.l0 k l0 ([] : List (List Bool)) 0
set_option maxHeartbeats 8000000 in
set_option maxRecDepth 100000 in
theorem bywashref11_Leads.calls (k : Nat) (A0 : Option Addr) (c0 : Nat) (l0 : List (List Int)) (r : List Int) (w : World) (hr0 : Kd.C (Kd.slice 3 (Kd.int .i64)) w A0 l0.length l0) (hc0 : l0.length ≤ c0) (h : bywashref11_Leads.f k l0 = some r) :
    Calls Try.prog 39 #[.slice A0 l0.length c0] w fun e w' => ∃ v0_ : Value, e = .returned (v0_) ∧ Kd.R (Kd.int .i64) 3 w' w.heap.size (fun _ => True) v0_ r ∧ Below w.heap.size w w' := by
  have HR0 := Aside0.mk hr0
  have HC0 := Aside0.mk hc0
  clear hr0 hc0
  have HB := Aside0.mk (Below.refl w.heap.size w)
  have H : (bywashref11_Leads.l0 k l0 ([] : List (List Bool)) 0) = some r := h
  clear h
  have H' := Aside0.mk H
  clear H
  go_enter Try.func39, Try.ntmps39
  go_wp2
  go_loopg [3, 4] k (fun kq v3 v4 w' => ∃ (x3_1 : List (List Bool)) (x4_1 : Int), v4 = .int .i64 x4_1 ∧ Aside0 (bywashref11_Leads.l0 kq l0 x3_1 x4_1 = some r) ∧ Aside0 (kq ≤ k) ∧ Aside0 (Kd.S (Kd.slice 4 Kd.bool) 29 w' w.heap.size (fun _ => True) v3 x3_1) ∧ Aside0 (Below w.heap.size w w'))
  case atStart => exact ⟨(([] : List (List Bool))), (0), (by first | rfl | (simp; done) | (simp [*]; done)), H', ⟨Nat.le_refl _⟩, ⟨by first | exact Kd.S_nil _ _ _ _ _ | exact Kd.N_nil _ _ _ _ _ | exact Kd.V_nil _ _ _ _ _ | exact Kd.Q_nil _ _ _ _ _ | exact Kd.R_nil _ _ _ _ _⟩, ⟨by repeat (first | (with_reducible first | exact HB.out | apply below_alloc | apply pw_below_drewN | apply below_drew1) | exact HB.out)⟩⟩
  case round =>
    clear H'
    obtain ⟨x3_1, x4_1, rfl, HA, HK1, HO_3, HB⟩ := hrel
    cases gk with
    | zero => exact absurd HA.out (by simp [bywashref11_Leads.l0])
    | succ k1 =>
      have H := HA.out
      clear HA
      simp only [bywashref11_Leads.l0] at H
      by_cases c2 : x4_1 < (l0.length : Int)
      · rw [if_pos c2] at H
        have c2b0 : decide (x4_1 < (l0.length : Int)) = true := decide_eq_true c2
        clear c2
        replace H := Option.bind_eq_some_iff.mp H
        obtain ⟨t194, A30, H⟩ := H
        replace H : (if x3_1.length < 5864062014805 then (bywashref11_Leads.l0 k1 l0 (x3_1 ++ [t194]) (wrap64 (x4_1 + 1))) else (none)) = some r := H
        have A3 := Aside0.mk A30
        clear A30
        by_cases c4 : x3_1.length < 5864062014805
        · rw [if_pos c4] at H
          have LMc4 := Aside0.mk c4
          clear c4
          obtain ⟨y197, hy197⟩ : ∃ y_ : List (List Bool), y_ = (x3_1 ++ [t194]) := ⟨_, rfl⟩
          replace H : (bywashref11_Leads.l0 k1 l0 y197 (wrap64 (x4_1 + 1))) = some r := by first | (rw [hy197]; with_reducible exact H) | (have H2_ := (Option.bind_some _ _).symm.trans H; rw [hy197]; with_reducible exact H2_) | (have H2_ := (Option.bind_some _ _).symm.trans H; with_reducible exact H2_) | with_reducible exact H | (rw [hy197]; exact H) | exact H
          have Ny197 := Aside0.mk hy197
          clear hy197
          have H' := Aside0.mk H
          clear H
          go_wp2_with (first | ((with_reducible refine gate_callee (f := 22) rfl ?_); refine goesL_ (some 17) rfl rfl Try.func22 (by kernel_rfl) rfl #[.slice A0 l0.length c0, .int .i64 x4_1] rfl (by (try simp only [List.map_toArray, List.map_cons, List.map_nil]); first | done | rfl | (simp only [List.length_drop, List.length_take]; rfl)) ?_; (with_reducible refine (bywashref10_Reach.calls k1 _ _ l0 x4_1 t194 _ ?side1 ?side2 A3.out).mono ?_); (case side1 => repeat (first | exact (Kd.C_below HR0.out HB.out) | (with_reducible refine Kd.C_alloc ?_ _) | (with_reducible refine Kd.C_drewN ?_ _) | (with_reducible refine Kd.C_drew ?_))); (case side2 => exact HC0.out); rintro e w5 ⟨v195, rfl, ho0, hb⟩; refine ⟨_, rfl, ?_⟩; have n0_ := Aside0.mk (Kd.S_elder' (by (with_reducible repeat (first | apply Kd.S_alloc | apply Kd.S_drewN | apply Kd.S_drew)); exact HO_3.out) (Kd.R_base ho0) hb); have n1_ := Aside0.mk (Kd.R_lower ho0 (below_size (by repeat (first | (with_reducible first | exact HB.out | apply below_alloc | apply pw_below_drewN | apply below_drew1) | exact HB.out)))); have n2_ := Aside0.mk (below_step (by repeat (first | (with_reducible first | exact HB.out | apply below_alloc | apply pw_below_drewN | apply below_drew1) | exact HB.out)) hb); clear HO_3; clear HB; have HO_3 := n0_; have HO196 := n1_; have HB := n2_; clear n0_ n1_ n2_; (try clear hb); (try clear hb2); (try clear hk); (try clear hi); (try clear ho0); obtain ⟨Ao7, co7, eo7⟩ := Kd.R_slice HO196.out; subst eo7) | ((with_reducible refine gate_builtin (b := .append) (xs := #[.tmp 14, .tmp 18]) rfl ?_); at_builtin; refine Kd.S_append (Kd.slice 4 Kd.bool) (w0 := w) w.heap.size rfl (.tmp 14) (.tmp 18) 72 29 (.slice none 0 0) 24 rfl Try.underlying72 info29 rfl (by decide) (by omega) u3 x3_1 t194 [.slice Ao7 t194.length co7] (fun _ => True) (fun k_ => some k_ = (.slice Ao7 t194.length co7 : Value).ownBlock) rfl rfl ?aP (fun k_ hk_ => ((Kd.R_mono (ok' := fun k_ => ((fun _ => True)) k_ ∧ some k_ ≠ (u3 : Value).ownBlock) (Kd.R_apart' (HO196.out) (Kd.S_typed HO_3.out) (by decide)) (fun k_ hk => ⟨trivial, hk.2⟩))).1 k_ hk_.symm) ?aF ?aO ?aB ?aS ?aL ?_; (case aP => exact Kd.M_row (Kd.R_mono (Kd.R_tight rfl (Kd.R_mono (ok' := fun k_ => ((fun _ => True)) k_ ∧ some k_ ≠ (u3 : Value).ownBlock) (Kd.R_apart' (HO196.out) (Kd.S_typed HO_3.out) (by decide)) (fun k_ hk => ⟨trivial, hk.2⟩))) (fun _ h_ => h_))); (case aB => exact (by repeat (first | (with_reducible first | exact HB.out | apply below_alloc | apply pw_below_drewN | apply below_drew1) | exact HB.out))); (case aF => exact (fun _ _ => trivial)); (case aO => exact (by (with_reducible repeat (first | apply Kd.S_alloc | apply Kd.S_drewN | apply Kd.S_drew)); exact Kd.S_mono HO_3.out (fun k_ hk => ⟨trivial, fun e_ => hk.2 e_⟩))); (case aS => exact (below_size (by repeat (first | (with_reducible first | exact HB.out | apply below_alloc | apply pw_below_drewN | apply below_drew1) | exact HB.out)))); (case aL => have := LMc4.out; omega); intro v198 w6 ho hb hg hat; rw [← Ny197.out] at ho; have n0_ := Aside0.mk (hb); have n1_ := Aside0.mk (ho); clear HB; clear HO_3; clear HO196; have HB := n0_; have HO199 := n1_; clear n0_ n1_; clear ho hb hg hat))
          go_roundg k1
          case measure => have := HK1.out; omega
          case rel => exact ⟨(y197), (wrap64 (x4_1 + 1)), (by first | rfl | (simp; done) | (simp [*]; done)), H', ⟨by have := HK1.out; omega⟩, ⟨by (with_reducible repeat (first | apply Kd.S_alloc | apply Kd.S_drewN | apply Kd.S_drew)); exact HO199.out⟩, ⟨by repeat (first | (with_reducible first | exact HB.out | apply below_alloc | apply pw_below_drewN | apply below_drew1) | exact HB.out)⟩⟩
        · rw [if_neg c4] at H
          exact absurd H (by simp)
      · rw [if_neg c2] at H
        have c2b0 : decide (x4_1 < (l0.length : Int)) = false := decide_eq_false c2
        clear c2
        have H' := Aside0.mk H
        clear H
        go_wp2
        go_loopg [5, 6] k1 (fun kq v5 v6 w' => ∃ (x5_2 : List Int) (x6_2 : Int), v6 = .int .i64 x6_2 ∧ Aside0 (bywashref11_Leads.l1 kq l0 x3_1 x5_2 x6_2 = some r) ∧ Aside0 (kq ≤ k1) ∧ Aside0 (Kd.S (Kd.slice 4 Kd.bool) 29 w' w.heap.size (fun _ => True) u3 x3_1) ∧ Aside0 (Kd.R (Kd.int .i64) 3 w' w.heap.size (fun _ => True) v5 x5_2) ∧ Aside0 (Below w.heap.size w w'))
        case atStart => exact ⟨(([] : List Int)), (0), (by first | rfl | (simp; done) | (simp [*]; done)), H', ⟨Nat.le_refl _⟩, ⟨by (with_reducible repeat (first | apply Kd.S_alloc | apply Kd.S_drewN | apply Kd.S_drew)); exact HO_3.out⟩, ⟨by first | exact Kd.R_nil _ _ _ _ _ | exact Kd.N_nil _ _ _ _ _ | exact Kd.V_nil _ _ _ _ _ | exact Kd.Q_nil _ _ _ _ _ | exact Kd.S_nil _ _ _ _ _⟩, ⟨by repeat (first | (with_reducible first | exact HB.out | apply below_alloc | apply pw_below_drewN | apply below_drew1) | exact HB.out)⟩⟩
        case round =>
          clear H'
          try clear c2
          try clear c2b0
          try clear p2
          try clear c3
          try clear c4
          try clear p6
          obtain ⟨x5_2, x6_2, rfl, HA, HK2, HO_3, HO_5, HB⟩ := hrel
          cases gk with
          | zero => exact absurd HA.out (by simp [bywashref11_Leads.l1])
          | succ k2 =>
            have H := HA.out
            clear HA
            simp only [bywashref11_Leads.l1] at H
            by_cases c8 : x6_2 < (l0.length : Int)
            · rw [if_pos c8] at H
              have c8b0 : decide (x6_2 < (l0.length : Int)) = true := decide_eq_true c8
              clear c8
              have H' := Aside0.mk H
              clear H
              go_wp2
              go_loopg [7] k2 (fun kq v7 w' => ∃ (x7_3 : Int), v7 = .int .i64 x7_3 ∧ Aside0 (bywashref11_Leads.l2 kq l0 x3_1 x5_2 x6_2 x7_3 = some r) ∧ Aside0 (kq ≤ k2) ∧ Aside0 (Kd.S (Kd.slice 4 Kd.bool) 29 w' w.heap.size (fun _ => True) u3 x3_1) ∧ Aside0 (Kd.R (Kd.int .i64) 3 w' w.heap.size (fun _ => True) u5 x5_2) ∧ Aside0 (Below w.heap.size w w'))
              case atStart => exact ⟨(0), (by first | rfl | (simp; done) | (simp [*]; done)), H', ⟨Nat.le_refl _⟩, ⟨by (with_reducible repeat (first | apply Kd.S_alloc | apply Kd.S_drewN | apply Kd.S_drew)); exact HO_3.out⟩, ⟨by (with_reducible repeat (first | apply Kd.R_alloc | apply Kd.R_drewN | apply Kd.R_drew)); exact HO_5.out⟩, ⟨by repeat (first | (with_reducible first | exact HB.out | apply below_alloc | apply pw_below_drewN | apply below_drew1) | exact HB.out)⟩⟩
              case round =>
                clear H'
                try clear c2
                try clear c2b0
                try clear p2
                try clear c3
                try clear c4
                try clear p6
                try clear c8
                try clear c8b0
                try clear p2
                try clear p6
                obtain ⟨x7_3, rfl, HA, HK3, HO_3, HO_5, HB⟩ := hrel
                cases gk with
                | zero => exact absurd HA.out (by simp [bywashref11_Leads.l2])
                | succ k3 =>
                  have H := HA.out
                  clear HA
                  simp only [bywashref11_Leads.l2] at H
                  by_cases c9 : 0 ≤ x6_2
                  · rw [if_pos c9] at H
                    have c9b0 : decide (0 ≤ x6_2) = true := decide_eq_true c9
                    clear c9
                    by_cases c10 : x6_2 < (x3_1.length : Int)
                    · rw [if_pos c10] at H
                      have c10b0 : decide (x6_2 < (x3_1.length : Int)) = true := decide_eq_true c10
                      clear c10
                      by_cases c11 : 0 ≤ x7_3
                      · rw [if_pos c11] at H
                        have c11b0 : decide (0 ≤ x7_3) = true := decide_eq_true c11
                        clear c11
                        by_cases c12 : x7_3 < ((rd_L3 x3_1 x6_2).length : Int)
                        · rw [if_pos c12] at H
                          have c12b0 : decide (x7_3 < ((rd_L3 x3_1 x6_2).length : Int)) = true := decide_eq_true c12
                          clear c12
                          obtain ⟨bq13, hbq13⟩ : ∃ b_ : Bool, b_ = (rdOf false (rd_L3 x3_1 x6_2) x7_3) := ⟨_, rfl⟩
                          replace H : (if (bq13 = true) then (if x7_3 < (x3_1.length : Int) then (if x6_2 < ((rd_L3 x3_1 x7_3).length : Int) then (if (rdOf false (rd_L3 x3_1 x7_3) x6_2 = true) then (if x5_2.length < 17592186044416 then (bywashref11_Leads.l1 k3 l0 x3_1 (x5_2 ++ [x7_3]) (wrap64 (x6_2 + 1))) else (none)) else (bywashref11_Leads.l2 k3 l0 x3_1 x5_2 x6_2 (wrap64 (x7_3 + 1)))) else (none)) else (none)) else (bywashref11_Leads.l2 k3 l0 x3_1 x5_2 x6_2 (wrap64 (x7_3 + 1)))) = some r := by rw [← hbq13] at H; exact H
                          have Nbq13 := Aside0.mk hbq13
                          clear hbq13
                          by_cases c14 : (bq13 = true)
                          · subst c14
                            have H1 : (if x7_3 < (x3_1.length : Int) then (if x6_2 < ((rd_L3 x3_1 x7_3).length : Int) then (if (rdOf false (rd_L3 x3_1 x7_3) x6_2 = true) then (if x5_2.length < 17592186044416 then (bywashref11_Leads.l1 k3 l0 x3_1 (x5_2 ++ [x7_3]) (wrap64 (x6_2 + 1))) else (none)) else (bywashref11_Leads.l2 k3 l0 x3_1 x5_2 x6_2 (wrap64 (x7_3 + 1)))) else (none)) else (none)) = some r := by rw [if_pos rfl] at H; exact H
                            clear H
                            have H := H1
                            clear H1
                            by_cases c15 : x7_3 < (x3_1.length : Int)
                            · rw [if_pos c15] at H
                              have c15b0 : decide (x7_3 < (x3_1.length : Int)) = true := decide_eq_true c15
                              clear c15
                              by_cases c16 : x6_2 < ((rd_L3 x3_1 x7_3).length : Int)
                              · rw [if_pos c16] at H
                                have c16b0 : decide (x6_2 < ((rd_L3 x3_1 x7_3).length : Int)) = true := decide_eq_true c16
                                clear c16
                                obtain ⟨bq17, hbq17⟩ : ∃ b_ : Bool, b_ = (rdOf false (rd_L3 x3_1 x7_3) x6_2) := ⟨_, rfl⟩
                                replace H : (if (bq17 = true) then (if x5_2.length < 17592186044416 then (bywashref11_Leads.l1 k3 l0 x3_1 (x5_2 ++ [x7_3]) (wrap64 (x6_2 + 1))) else (none)) else (bywashref11_Leads.l2 k3 l0 x3_1 x5_2 x6_2 (wrap64 (x7_3 + 1)))) = some r := by rw [← hbq17] at H; exact H
                                have Nbq17 := Aside0.mk hbq17
                                clear hbq17
                                by_cases c18 : (bq17 = true)
                                · subst c18
                                  have H1 : (if x5_2.length < 17592186044416 then (bywashref11_Leads.l1 k3 l0 x3_1 (x5_2 ++ [x7_3]) (wrap64 (x6_2 + 1))) else (none)) = some r := by rw [if_pos rfl] at H; exact H
                                  clear H
                                  have H := H1
                                  clear H1
                                  by_cases c19 : x5_2.length < 17592186044416
                                  · rw [if_pos c19] at H
                                    have LMc19 := Aside0.mk c19
                                    clear c19
                                    obtain ⟨y204, hy204⟩ : ∃ y_ : List Int, y_ = (x5_2 ++ [x7_3]) := ⟨_, rfl⟩
                                    replace H : (bywashref11_Leads.l1 k3 l0 x3_1 y204 (wrap64 (x6_2 + 1))) = some r := by first | (rw [hy204]; with_reducible exact H) | (have H2_ := (Option.bind_some _ _).symm.trans H; rw [hy204]; with_reducible exact H2_) | (have H2_ := (Option.bind_some _ _).symm.trans H; with_reducible exact H2_) | with_reducible exact H | (rw [hy204]; exact H) | exact H
                                    have Ny204 := Aside0.mk hy204
                                    clear hy204
                                    have H' := Aside0.mk H
                                    clear H
                                    obtain ⟨Ao20, co20, eo20⟩ := Kd.S_slice HO_3.out
                                    subst eo20
                                    have p200 : 0 ≤ (x6_2 : Int) := of_decide_eq_true (by first | (with_reducible assumption) | assumption)
                                    have q200 : x6_2 < (x3_1.length : Int) := of_decide_eq_true (by first | (with_reducible assumption) | assumption)
                                    obtain ⟨ad200, A200_0, c200_0, e200, hx200_0, hl200_0, hi200_0⟩ := at_L3 (Kd.S_reads' HO_3.out).2.2 x6_2 p200 q200
                                    cases e200
                                    obtain ⟨ce200, hce200, hMe200, hcc200⟩ := Kd.S_get HO_3.out [] x6_2 p200 (by first | exact q200 | exact of_decide_eq_true (by first | (with_reducible assumption) | assumption) | (have e_ := (Kd.S_reads' HO_3.out).1; omega))
                                    obtain ⟨ve200_0, rfl, ge200_0⟩ := hMe200
                                    have hv200_0 := hcc200 0 _ rfl
                                    rw [Nat.add_zero, show ((Kd.slice 4 Kd.bool)).sz = 1 from rfl, Nat.mul_one] at hv200_0
                                    replace hv200_0 := Option.some.inj (hv200_0.symm.trans hx200_0)
                                    rw [hv200_0] at ge200_0
                                    have HL200_0 := Aside0.mk (show Kd.R Kd.bool 4 _ _ _ _ (rd_L3 x3_1 x6_2) from ge200_0)
                                    clear hv200_0 ge200_0
                                    clear hcc200 hce200
                                    have HR200_0 := Aside0.mk hi200_0
                                    have HC200_0 := Aside0.mk hl200_0
                                    clear hi200_0 hl200_0
                                    replace p200 := eq_true p200
                                    replace q200 := eq_true q200
                                    have p201 : 0 ≤ (x7_3 : Int) := of_decide_eq_true (by first | (with_reducible assumption) | assumption)
                                    have q201 : x7_3 < ((rd_L3 x3_1 x6_2).length : Int) := of_decide_eq_true (by first | (with_reducible assumption) | assumption)
                                    obtain ⟨ad201, e201, hx201_0⟩ := Kd.at_bool (by repeat (first | (with_reducible exact HR200_0.out) | (with_reducible refine Kd.C_alloc ?_ _) | (with_reducible refine Kd.C_drewN ?_ _) | (with_reducible refine Kd.C_drew ?_) | exact HR200_0.out)) x7_3 p201 q201
                                    (try rw [← Nbq13.out] at hx201_0)
                                    (try rw [← Nbq17.out] at hx201_0)
                                    cases e201
                                    replace p201 := eq_true p201
                                    replace q201 := eq_true q201
                                    have p202 : 0 ≤ (x7_3 : Int) := of_decide_eq_true (by first | (with_reducible assumption) | assumption)
                                    have q202 : x7_3 < (x3_1.length : Int) := of_decide_eq_true (by first | (with_reducible assumption) | assumption)
                                    obtain ⟨ad202, A202_0, c202_0, e202, hx202_0, hl202_0, hi202_0⟩ := at_L3 (Kd.S_reads' HO_3.out).2.2 x7_3 p202 q202
                                    obtain rfl : ad200 = ad202 := (by injection e202)
                                    obtain ⟨ce202, hce202, hMe202, hcc202⟩ := Kd.S_get HO_3.out [] x7_3 p202 (by first | exact q202 | exact of_decide_eq_true (by first | (with_reducible assumption) | assumption) | (have e_ := (Kd.S_reads' HO_3.out).1; omega))
                                    obtain ⟨ve202_0, rfl, ge202_0⟩ := hMe202
                                    have hv202_0 := hcc202 0 _ rfl
                                    rw [Nat.add_zero, show ((Kd.slice 4 Kd.bool)).sz = 1 from rfl, Nat.mul_one] at hv202_0
                                    replace hv202_0 := Option.some.inj (hv202_0.symm.trans hx202_0)
                                    rw [hv202_0] at ge202_0
                                    have HL202_0 := Aside0.mk (show Kd.R Kd.bool 4 _ _ _ _ (rd_L3 x3_1 x7_3) from ge202_0)
                                    clear hv202_0 ge202_0
                                    clear hcc202 hce202
                                    have HR202_0 := Aside0.mk hi202_0
                                    have HC202_0 := Aside0.mk hl202_0
                                    clear hi202_0 hl202_0
                                    replace p202 := eq_true p202
                                    replace q202 := eq_true q202
                                    have p203 : 0 ≤ (x6_2 : Int) := of_decide_eq_true (by first | (with_reducible assumption) | assumption)
                                    have q203 : x6_2 < ((rd_L3 x3_1 x7_3).length : Int) := of_decide_eq_true (by first | (with_reducible assumption) | assumption)
                                    obtain ⟨ad203, e203, hx203_0⟩ := Kd.at_bool (by repeat (first | (with_reducible exact HR202_0.out) | (with_reducible refine Kd.C_alloc ?_ _) | (with_reducible refine Kd.C_drewN ?_ _) | (with_reducible refine Kd.C_drew ?_) | exact HR202_0.out)) x6_2 p203 q203
                                    (try rw [← Nbq13.out] at hx203_0)
                                    (try rw [← Nbq17.out] at hx203_0)
                                    cases e203
                                    replace p203 := eq_true p203
                                    replace q203 := eq_true q203
                                    go_wp2_with (first | ((with_reducible refine gate_builtin (b := .append) (xs := #[.tmp 46, .tmp 48]) rfl ?_); at_builtin; refine Kd.R_append (Kd.int .i64) (w0 := w) w.heap.size rfl (.tmp 46) (.tmp 48) 32 3 (.int .i64 0) 8 rfl Try.underlying32 info3 rfl (by decide) (by omega) u5 x5_2 x7_3 [.int .i64 x7_3] (fun _ => True) (fun _ => False) rfl rfl ?aP (fun _ hk => hk.elim) ?aF ?aO ?aB ?aS ?aL ?_; (case aP => exact rfl); (case aB => exact (by repeat (first | (with_reducible first | exact HB.out | apply below_alloc | apply pw_below_drewN | apply below_drew1) | exact HB.out))); (case aF => exact (fun _ _ => trivial)); (case aO => exact (by (with_reducible repeat (first | apply Kd.R_alloc | apply Kd.R_drewN | apply Kd.R_drew)); exact HO_5.out)); (case aS => exact (below_size (by repeat (first | (with_reducible first | exact HB.out | apply below_alloc | apply pw_below_drewN | apply below_drew1) | exact HB.out)))); (case aL => have := LMc19.out; omega); intro v205 w21 ho hb hg hat; rw [← Ny204.out] at ho; have n0_ := Aside0.mk (Kd.S_over' (by (with_reducible repeat (first | apply Kd.S_alloc | apply Kd.S_drewN | apply Kd.S_drew)); exact HO_3.out) (Kd.R_typed (by (with_reducible repeat (first | apply Kd.R_alloc | apply Kd.R_drewN | apply Kd.R_drew)); exact HO_5.out)) (by decide) hg); have n1_ := Aside0.mk (Kd.R_over' (by (with_reducible repeat (first | apply Kd.R_alloc | apply Kd.R_drewN | apply Kd.R_drew)); exact HL200_0.out) (Kd.R_typed (by (with_reducible repeat (first | apply Kd.R_alloc | apply Kd.R_drewN | apply Kd.R_drew)); exact HO_5.out)) (by decide) hg); have n2_ := Aside0.mk (Kd.R_over' (by (with_reducible repeat (first | apply Kd.R_alloc | apply Kd.R_drewN | apply Kd.R_drew)); exact HL202_0.out) (Kd.R_typed (by (with_reducible repeat (first | apply Kd.R_alloc | apply Kd.R_drewN | apply Kd.R_drew)); exact HO_5.out)) (by decide) hg); have n3_ := Aside0.mk (hb); have n4_ := Aside0.mk (ho); clear HO_3; clear HL200_0; clear HL202_0; clear HB; clear HO_5; have HO_3 := n0_; have HL200_0 := n1_; have HL202_0 := n2_; have HB := n3_; have HO206 := n4_; clear n0_ n1_ n2_ n3_ n4_; clear ho hb hg hat))
                                    go_roundg k3
                                    case measure => have := HK1.out; have := HK2.out; have := HK3.out; omega
                                    case rel => exact ⟨(y204), (wrap64 (x6_2 + 1)), (by first | rfl | (simp; done) | (simp [*]; done)), H', ⟨by have := HK1.out; have := HK2.out; have := HK3.out; omega⟩, ⟨by (with_reducible repeat (first | apply Kd.S_alloc | apply Kd.S_drewN | apply Kd.S_drew)); exact HO_3.out⟩, ⟨by (with_reducible repeat (first | apply Kd.R_alloc | apply Kd.R_drewN | apply Kd.R_drew)); exact HO206.out⟩, ⟨by repeat (first | (with_reducible first | exact HB.out | apply below_alloc | apply pw_below_drewN | apply below_drew1) | exact HB.out)⟩⟩
                                  · rw [if_neg c19] at H
                                    exact absurd H (by simp)
                                · replace c18 := Bool.eq_false_iff.mpr c18
                                  subst c18
                                  have H1 : (bywashref11_Leads.l2 k3 l0 x3_1 x5_2 x6_2 (wrap64 (x7_3 + 1))) = some r := by rw [if_neg (show ¬ (false = true) by decide)] at H; exact H
                                  clear H
                                  have H := H1
                                  clear H1
                                  have H' := Aside0.mk H
                                  clear H
                                  obtain ⟨Ao22, co22, eo22⟩ := Kd.S_slice HO_3.out
                                  subst eo22
                                  have p200 : 0 ≤ (x6_2 : Int) := of_decide_eq_true (by first | (with_reducible assumption) | assumption)
                                  have q200 : x6_2 < (x3_1.length : Int) := of_decide_eq_true (by first | (with_reducible assumption) | assumption)
                                  obtain ⟨ad200, A200_0, c200_0, e200, hx200_0, hl200_0, hi200_0⟩ := at_L3 (Kd.S_reads' HO_3.out).2.2 x6_2 p200 q200
                                  cases e200
                                  obtain ⟨ce200, hce200, hMe200, hcc200⟩ := Kd.S_get HO_3.out [] x6_2 p200 (by first | exact q200 | exact of_decide_eq_true (by first | (with_reducible assumption) | assumption) | (have e_ := (Kd.S_reads' HO_3.out).1; omega))
                                  obtain ⟨ve200_0, rfl, ge200_0⟩ := hMe200
                                  have hv200_0 := hcc200 0 _ rfl
                                  rw [Nat.add_zero, show ((Kd.slice 4 Kd.bool)).sz = 1 from rfl, Nat.mul_one] at hv200_0
                                  replace hv200_0 := Option.some.inj (hv200_0.symm.trans hx200_0)
                                  rw [hv200_0] at ge200_0
                                  have HL200_0 := Aside0.mk (show Kd.R Kd.bool 4 _ _ _ _ (rd_L3 x3_1 x6_2) from ge200_0)
                                  clear hv200_0 ge200_0
                                  clear hcc200 hce200
                                  have HR200_0 := Aside0.mk hi200_0
                                  have HC200_0 := Aside0.mk hl200_0
                                  clear hi200_0 hl200_0
                                  replace p200 := eq_true p200
                                  replace q200 := eq_true q200
                                  have p201 : 0 ≤ (x7_3 : Int) := of_decide_eq_true (by first | (with_reducible assumption) | assumption)
                                  have q201 : x7_3 < ((rd_L3 x3_1 x6_2).length : Int) := of_decide_eq_true (by first | (with_reducible assumption) | assumption)
                                  obtain ⟨ad201, e201, hx201_0⟩ := Kd.at_bool (by repeat (first | (with_reducible exact HR200_0.out) | (with_reducible refine Kd.C_alloc ?_ _) | (with_reducible refine Kd.C_drewN ?_ _) | (with_reducible refine Kd.C_drew ?_) | exact HR200_0.out)) x7_3 p201 q201
                                  (try rw [← Nbq13.out] at hx201_0)
                                  (try rw [← Nbq17.out] at hx201_0)
                                  cases e201
                                  replace p201 := eq_true p201
                                  replace q201 := eq_true q201
                                  have p202 : 0 ≤ (x7_3 : Int) := of_decide_eq_true (by first | (with_reducible assumption) | assumption)
                                  have q202 : x7_3 < (x3_1.length : Int) := of_decide_eq_true (by first | (with_reducible assumption) | assumption)
                                  obtain ⟨ad202, A202_0, c202_0, e202, hx202_0, hl202_0, hi202_0⟩ := at_L3 (Kd.S_reads' HO_3.out).2.2 x7_3 p202 q202
                                  obtain rfl : ad200 = ad202 := (by injection e202)
                                  obtain ⟨ce202, hce202, hMe202, hcc202⟩ := Kd.S_get HO_3.out [] x7_3 p202 (by first | exact q202 | exact of_decide_eq_true (by first | (with_reducible assumption) | assumption) | (have e_ := (Kd.S_reads' HO_3.out).1; omega))
                                  obtain ⟨ve202_0, rfl, ge202_0⟩ := hMe202
                                  have hv202_0 := hcc202 0 _ rfl
                                  rw [Nat.add_zero, show ((Kd.slice 4 Kd.bool)).sz = 1 from rfl, Nat.mul_one] at hv202_0
                                  replace hv202_0 := Option.some.inj (hv202_0.symm.trans hx202_0)
                                  rw [hv202_0] at ge202_0
                                  have HL202_0 := Aside0.mk (show Kd.R Kd.bool 4 _ _ _ _ (rd_L3 x3_1 x7_3) from ge202_0)
                                  clear hv202_0 ge202_0
                                  clear hcc202 hce202
                                  have HR202_0 := Aside0.mk hi202_0
                                  have HC202_0 := Aside0.mk hl202_0
                                  clear hi202_0 hl202_0
                                  replace p202 := eq_true p202
                                  replace q202 := eq_true q202
                                  have p203 : 0 ≤ (x6_2 : Int) := of_decide_eq_true (by first | (with_reducible assumption) | assumption)
                                  have q203 : x6_2 < ((rd_L3 x3_1 x7_3).length : Int) := of_decide_eq_true (by first | (with_reducible assumption) | assumption)
                                  obtain ⟨ad203, e203, hx203_0⟩ := Kd.at_bool (by repeat (first | (with_reducible exact HR202_0.out) | (with_reducible refine Kd.C_alloc ?_ _) | (with_reducible refine Kd.C_drewN ?_ _) | (with_reducible refine Kd.C_drew ?_) | exact HR202_0.out)) x6_2 p203 q203
                                  (try rw [← Nbq13.out] at hx203_0)
                                  (try rw [← Nbq17.out] at hx203_0)
                                  cases e203
                                  replace p203 := eq_true p203
                                  replace q203 := eq_true q203
                                  go_wp2
                                  go_roundg k3
                                  case measure => have := HK1.out; have := HK2.out; have := HK3.out; omega
                                  case rel => exact ⟨(wrap64 (x7_3 + 1)), (by first | rfl | (simp; done) | (simp [*]; done)), H', ⟨by have := HK1.out; have := HK2.out; have := HK3.out; omega⟩, ⟨by (with_reducible repeat (first | apply Kd.S_alloc | apply Kd.S_drewN | apply Kd.S_drew)); exact HO_3.out⟩, ⟨by (with_reducible repeat (first | apply Kd.R_alloc | apply Kd.R_drewN | apply Kd.R_drew)); exact HO_5.out⟩, ⟨by repeat (first | (with_reducible first | exact HB.out | apply below_alloc | apply pw_below_drewN | apply below_drew1) | exact HB.out)⟩⟩
                              · rw [if_neg c16] at H
                                exact absurd H (by simp)
                            · rw [if_neg c15] at H
                              exact absurd H (by simp)
                          · replace c14 := Bool.eq_false_iff.mpr c14
                            subst c14
                            have H1 : (bywashref11_Leads.l2 k3 l0 x3_1 x5_2 x6_2 (wrap64 (x7_3 + 1))) = some r := by rw [if_neg (show ¬ (false = true) by decide)] at H; exact H
                            clear H
                            have H := H1
                            clear H1
                            have H' := Aside0.mk H
                            clear H
                            obtain ⟨Ao23, co23, eo23⟩ := Kd.S_slice HO_3.out
                            subst eo23
                            have p200 : 0 ≤ (x6_2 : Int) := of_decide_eq_true (by first | (with_reducible assumption) | assumption)
                            have q200 : x6_2 < (x3_1.length : Int) := of_decide_eq_true (by first | (with_reducible assumption) | assumption)
                            obtain ⟨ad200, A200_0, c200_0, e200, hx200_0, hl200_0, hi200_0⟩ := at_L3 (Kd.S_reads' HO_3.out).2.2 x6_2 p200 q200
                            cases e200
                            obtain ⟨ce200, hce200, hMe200, hcc200⟩ := Kd.S_get HO_3.out [] x6_2 p200 (by first | exact q200 | exact of_decide_eq_true (by first | (with_reducible assumption) | assumption) | (have e_ := (Kd.S_reads' HO_3.out).1; omega))
                            obtain ⟨ve200_0, rfl, ge200_0⟩ := hMe200
                            have hv200_0 := hcc200 0 _ rfl
                            rw [Nat.add_zero, show ((Kd.slice 4 Kd.bool)).sz = 1 from rfl, Nat.mul_one] at hv200_0
                            replace hv200_0 := Option.some.inj (hv200_0.symm.trans hx200_0)
                            rw [hv200_0] at ge200_0
                            have HL200_0 := Aside0.mk (show Kd.R Kd.bool 4 _ _ _ _ (rd_L3 x3_1 x6_2) from ge200_0)
                            clear hv200_0 ge200_0
                            clear hcc200 hce200
                            have HR200_0 := Aside0.mk hi200_0
                            have HC200_0 := Aside0.mk hl200_0
                            clear hi200_0 hl200_0
                            replace p200 := eq_true p200
                            replace q200 := eq_true q200
                            have p201 : 0 ≤ (x7_3 : Int) := of_decide_eq_true (by first | (with_reducible assumption) | assumption)
                            have q201 : x7_3 < ((rd_L3 x3_1 x6_2).length : Int) := of_decide_eq_true (by first | (with_reducible assumption) | assumption)
                            obtain ⟨ad201, e201, hx201_0⟩ := Kd.at_bool (by repeat (first | (with_reducible exact HR200_0.out) | (with_reducible refine Kd.C_alloc ?_ _) | (with_reducible refine Kd.C_drewN ?_ _) | (with_reducible refine Kd.C_drew ?_) | exact HR200_0.out)) x7_3 p201 q201
                            (try rw [← Nbq13.out] at hx201_0)
                            cases e201
                            replace p201 := eq_true p201
                            replace q201 := eq_true q201
                            go_wp2
                            go_roundg k3
                            case measure => have := HK1.out; have := HK2.out; have := HK3.out; omega
                            case rel => exact ⟨(wrap64 (x7_3 + 1)), (by first | rfl | (simp; done) | (simp [*]; done)), H', ⟨by have := HK1.out; have := HK2.out; have := HK3.out; omega⟩, ⟨by (with_reducible repeat (first | apply Kd.S_alloc | apply Kd.S_drewN | apply Kd.S_drew)); exact HO_3.out⟩, ⟨by (with_reducible repeat (first | apply Kd.R_alloc | apply Kd.R_drewN | apply Kd.R_drew)); exact HO_5.out⟩, ⟨by repeat (first | (with_reducible first | exact HB.out | apply below_alloc | apply pw_below_drewN | apply below_drew1) | exact HB.out)⟩⟩
                        · rw [if_neg c12] at H
                          exact absurd H (by simp)
                      · rw [if_neg c11] at H
                        exact absurd H (by simp)
                    · rw [if_neg c10] at H
                      exact absurd H (by simp)
                  · rw [if_neg c9] at H
                    exact absurd H (by simp)
            · rw [if_neg c8] at H
              have c8b0 : decide (x6_2 < (l0.length : Int)) = false := decide_eq_false c8
              clear c8
              obtain rfl := Option.some.inj H
              go_wp2
              go_ret
              exact ⟨_, by first | rfl | (simp [errW_none, errW_some] <;> rfl) | (simp [*, errW_none, errW_some] <;> rfl) | (exfalso; (try simp_all); (try omega); done), by (with_reducible repeat (first | apply Kd.R_alloc | apply Kd.R_drewN | apply Kd.R_drew)); exact HO_5.out, by repeat (first | (with_reducible first | exact HB.out | apply below_alloc | apply pw_below_drewN | apply below_drew1) | exact HB.out)⟩
mutual
def bywashref11_Parts.l0 : Nat → List (List Int) → List Int → List (List Int) → Int → Option ((List (List Int)))
  | 0, _, _, _, _ => none
  | k + 1, x0, x3, x4, x5 => if x5 < (x0.length : Int) then (bywashref11_Parts.l1 k x0 x3 x4 x5 ([] : List Int) 0) else (some x4)
def bywashref11_Parts.l1 : Nat → List (List Int) → List Int → List (List Int) → Int → List Int → Int → Option ((List (List Int)))
  | 0, _, _, _, _, _, _ => none
  | k + 1, x0, x3, x4, x5, x6, x7 => if x7 < (x0.length : Int) then (if 0 ≤ x7 then (if x7 < (x3.length : Int) then (if (rd x3 x7) = x5 then (if x6.length < 17592186044416 then (bywashref11_Parts.l1 k x0 x3 x4 x5 (x6 ++ [x7]) (wrap64 (x7 + 1))) else (none)) else (bywashref11_Parts.l1 k x0 x3 x4 x5 x6 (wrap64 (x7 + 1)))) else (none)) else (none)) else (if (x6.length : Int) > 0 then (if x4.length < 5864062014805 then (bywashref11_Parts.l0 k x0 x3 (x4 ++ [x6]) (wrap64 (x5 + 1))) else (none)) else (bywashref11_Parts.l0 k x0 x3 x4 (wrap64 (x5 + 1))))
end
def bywashref11_Parts.f (k : Nat) (l0 : List (List Int)) : Option ((List (List Int))) := (bywashref11_Leads.f k l0).bind fun t207 => (bywashref11_Parts.l0 k l0 t207 ([] : List (List Int)) 0)
set_option maxHeartbeats 8000000 in
set_option maxRecDepth 100000 in
theorem bywashref11_Parts.calls (k : Nat) (A0 : Option Addr) (c0 : Nat) (l0 : List (List Int)) (r : List (List Int)) (w : World) (hr0 : Kd.C (Kd.slice 3 (Kd.int .i64)) w A0 l0.length l0) (hc0 : l0.length ≤ c0) (h : bywashref11_Parts.f k l0 = some r) :
    Calls Try.prog 40 #[.slice A0 l0.length c0] w fun e w' => ∃ v0_ : Value, e = .returned (v0_) ∧ Kd.S (Kd.slice 3 (Kd.int .i64)) 32 w' w.heap.size (fun _ => True) v0_ r ∧ Below w.heap.size w w' := by
  have HR0 := Aside0.mk hr0
  have HC0 := Aside0.mk hc0
  clear hr0 hc0
  have HB := Aside0.mk (Below.refl w.heap.size w)
  have H : ((bywashref11_Leads.f k l0).bind fun t207 => (bywashref11_Parts.l0 k l0 t207 ([] : List (List Int)) 0)) = some r := h
  clear h
  replace H := Option.bind_eq_some_iff.mp H
  obtain ⟨t207, A20, H⟩ := H
  replace H : (bywashref11_Parts.l0 k l0 t207 ([] : List (List Int)) 0) = some r := H
  have A2 := Aside0.mk A20
  clear A20
  have H' := Aside0.mk H
  clear H
  go_enter Try.func40, Try.ntmps40
  go_wp2_with (first | ((with_reducible refine gate_callee (f := 39) rfl ?_); refine goesL_ (some 9) rfl rfl Try.func39 (by kernel_rfl) rfl #[.slice A0 l0.length c0] rfl (by (try simp only [List.map_toArray, List.map_cons, List.map_nil]); first | done | rfl | (simp only [List.length_drop, List.length_take]; rfl)) ?_; (with_reducible refine (bywashref11_Leads.calls k _ _ l0 t207 _ ?side1 ?side2 A2.out).mono ?_); (case side1 => repeat (first | exact HR0.out | (with_reducible refine Kd.C_alloc ?_ _) | (with_reducible refine Kd.C_drewN ?_ _) | (with_reducible refine Kd.C_drew ?_))); (case side2 => exact HC0.out); rintro e w3 ⟨v208, rfl, ho0, hb⟩; refine ⟨_, rfl, ?_⟩; have n0_ := Aside0.mk (Kd.R_lower ho0 (below_size (by repeat (first | (with_reducible first | exact HB.out | apply below_alloc | apply pw_below_drewN | apply below_drew1) | exact HB.out)))); have n1_ := Aside0.mk (below_step (by repeat (first | (with_reducible first | exact HB.out | apply below_alloc | apply pw_below_drewN | apply below_drew1) | exact HB.out)) hb); clear HB; have HO209 := n0_; have HB := n1_; clear n0_ n1_; (try clear hb); (try clear hb2); (try clear hk); (try clear hi); (try clear ho0)))
  go_loopg [4, 5] k (fun kq v4 v5 w' => ∃ (x4_1 : List (List Int)) (x5_1 : Int), v5 = .int .i64 x5_1 ∧ Aside0 (bywashref11_Parts.l0 kq l0 t207 x4_1 x5_1 = some r) ∧ Aside0 (kq ≤ k) ∧ Aside0 (Kd.R (Kd.int .i64) 3 w' w.heap.size (fun _ => True) v208 t207) ∧ Aside0 (Kd.S (Kd.slice 3 (Kd.int .i64)) 32 w' w.heap.size (fun k_ => some k_ ≠ (v208 : Value).ownBlock) v4 x4_1) ∧ Aside0 (Below w.heap.size w w'))
  case atStart => exact ⟨(([] : List (List Int))), (0), (by first | rfl | (simp; done) | (simp [*]; done)), H', ⟨Nat.le_refl _⟩, ⟨by (with_reducible repeat (first | apply Kd.R_alloc | apply Kd.R_drewN | apply Kd.R_drew)); exact HO209.out⟩, ⟨by first | exact Kd.S_nil _ _ _ _ _ | exact Kd.N_nil _ _ _ _ _ | exact Kd.V_nil _ _ _ _ _ | exact Kd.Q_nil _ _ _ _ _ | exact Kd.R_nil _ _ _ _ _⟩, ⟨by repeat (first | (with_reducible first | exact HB.out | apply below_alloc | apply pw_below_drewN | apply below_drew1) | exact HB.out)⟩⟩
  case round =>
    clear H'
    try clear p2
    try clear c3
    obtain ⟨x4_1, x5_1, rfl, HA, HK1, HO_3, HO_4, HB⟩ := hrel
    cases gk with
    | zero => exact absurd HA.out (by simp [bywashref11_Parts.l0])
    | succ k1 =>
      have H := HA.out
      clear HA
      simp only [bywashref11_Parts.l0] at H
      by_cases c4 : x5_1 < (l0.length : Int)
      · rw [if_pos c4] at H
        have c4b0 : decide (x5_1 < (l0.length : Int)) = true := decide_eq_true c4
        clear c4
        have H' := Aside0.mk H
        clear H
        go_wp2
        go_loopg [6, 7] k1 (fun kq v6 v7 w' => ∃ (x6_2 : List Int) (x7_2 : Int), v7 = .int .i64 x7_2 ∧ Aside0 (bywashref11_Parts.l1 kq l0 t207 x4_1 x5_1 x6_2 x7_2 = some r) ∧ Aside0 (kq ≤ k1) ∧ Aside0 (Kd.R (Kd.int .i64) 3 w' w.heap.size (fun k_ => some k_ ≠ (v6 : Value).ownBlock) v208 t207) ∧ Aside0 (Kd.S (Kd.slice 3 (Kd.int .i64)) 32 w' w.heap.size (fun k_ => some k_ ≠ (v208 : Value).ownBlock ∧ some k_ ≠ (v6 : Value).ownBlock) u4 x4_1) ∧ Aside0 (Kd.R (Kd.int .i64) 3 w' w.heap.size (fun k_ => some k_ ≠ (v208 : Value).ownBlock) v6 x6_2) ∧ Aside0 (Below w.heap.size w w'))
        case atStart => exact ⟨(([] : List Int)), (0), (by first | rfl | (simp; done) | (simp [*]; done)), H', ⟨Nat.le_refl _⟩, ⟨by (with_reducible repeat (first | apply Kd.R_alloc | apply Kd.R_drewN | apply Kd.R_drew)); exact Kd.R_mono HO_3.out (fun _ hk => (by simp [Value.ownBlock]))⟩, ⟨by (with_reducible repeat (first | apply Kd.S_alloc | apply Kd.S_drewN | apply Kd.S_drew)); exact Kd.S_mono HO_4.out (fun _ hk => ⟨hk, (by simp [Value.ownBlock])⟩)⟩, ⟨by first | exact Kd.R_nil _ _ _ _ _ | exact Kd.N_nil _ _ _ _ _ | exact Kd.V_nil _ _ _ _ _ | exact Kd.Q_nil _ _ _ _ _ | exact Kd.S_nil _ _ _ _ _⟩, ⟨by repeat (first | (with_reducible first | exact HB.out | apply below_alloc | apply pw_below_drewN | apply below_drew1) | exact HB.out)⟩⟩
        case round =>
          clear H'
          try clear p2
          try clear c3
          try clear c4
          try clear c4b0
          try clear p2
          obtain ⟨x6_2, x7_2, rfl, HA, HK2, HO_3, HO_4, HO_6, HB⟩ := hrel
          cases gk with
          | zero => exact absurd HA.out (by simp [bywashref11_Parts.l1])
          | succ k2 =>
            have H := HA.out
            clear HA
            simp only [bywashref11_Parts.l1] at H
            by_cases c5 : x7_2 < (l0.length : Int)
            · rw [if_pos c5] at H
              have c5b0 : decide (x7_2 < (l0.length : Int)) = true := decide_eq_true c5
              clear c5
              by_cases c6 : 0 ≤ x7_2
              · rw [if_pos c6] at H
                have c6b0 : decide (0 ≤ x7_2) = true := decide_eq_true c6
                clear c6
                by_cases c7 : x7_2 < (t207.length : Int)
                · rw [if_pos c7] at H
                  have c7b0 : decide (x7_2 < (t207.length : Int)) = true := decide_eq_true c7
                  clear c7
                  by_cases c8 : (rd t207 x7_2) = x5_1
                  · rw [if_pos c8] at H
                    have c8b0 : ((rd t207 x7_2) == x5_1) = true := beq_iff_eq.mpr c8
                    have c8b1 : ((rd t207 x7_2) != x5_1) = false := bne_eq_false_iff_eq.mpr c8
                    clear c8
                    by_cases c9 : x6_2.length < 17592186044416
                    · rw [if_pos c9] at H
                      have LMc9 := Aside0.mk c9
                      clear c9
                      obtain ⟨y211, hy211⟩ : ∃ y_ : List Int, y_ = (x6_2 ++ [x7_2]) := ⟨_, rfl⟩
                      replace H : (bywashref11_Parts.l1 k2 l0 t207 x4_1 x5_1 y211 (wrap64 (x7_2 + 1))) = some r := by first | (rw [hy211]; with_reducible exact H) | (have H2_ := (Option.bind_some _ _).symm.trans H; rw [hy211]; with_reducible exact H2_) | (have H2_ := (Option.bind_some _ _).symm.trans H; with_reducible exact H2_) | with_reducible exact H | (rw [hy211]; exact H) | exact H
                      have Ny211 := Aside0.mk hy211
                      clear hy211
                      have H' := Aside0.mk H
                      clear H
                      obtain ⟨Ao10, co10, eo10⟩ := Kd.R_slice HO_3.out
                      subst eo10
                      have p210 : 0 ≤ (x7_2 : Int) := of_decide_eq_true (by first | (with_reducible assumption) | assumption)
                      have q210 : x7_2 < (t207.length : Int) := of_decide_eq_true (by first | (with_reducible assumption) | assumption)
                      obtain ⟨ad210, e210, hx210_0⟩ := Kd.at_int (Kd.R_reads' HO_3.out).2.2 x7_2 p210 q210
                      cases e210
                      replace p210 := eq_true p210
                      replace q210 := eq_true q210
                      go_wp2_with (first | ((with_reducible refine gate_builtin (b := .append) (xs := #[.tmp 28, .tmp 30]) rfl ?_); at_builtin; refine Kd.R_append (Kd.int .i64) (w0 := w) w.heap.size rfl (.tmp 28) (.tmp 30) 32 3 (.int .i64 0) 8 rfl Try.underlying32 info3 rfl (by decide) (by omega) u6 x6_2 x7_2 [.int .i64 x7_2] (fun k_ => some k_ ≠ (.slice (some ad210) t207.length co10 : Value).ownBlock) (fun _ => False) rfl rfl ?aP (fun _ hk => hk.elim) ?aF ?aO ?aB ?aS ?aL ?_; (case aP => exact rfl); (case aB => exact (by repeat (first | (with_reducible first | exact HB.out | apply below_alloc | apply pw_below_drewN | apply below_drew1) | exact HB.out))); (case aF => exact (fun k_ hk => Kd.fresh' (Kd.R_lt (by (with_reducible repeat (first | apply Kd.R_alloc | apply Kd.R_drewN | apply Kd.R_drew)); exact HO_3.out)) k_ hk)); (case aO => exact (by (with_reducible repeat (first | apply Kd.R_alloc | apply Kd.R_drewN | apply Kd.R_drew)); exact HO_6.out)); (case aS => exact (below_size (by repeat (first | (with_reducible first | exact HB.out | apply below_alloc | apply pw_below_drewN | apply below_drew1) | exact HB.out)))); (case aL => have := LMc9.out; omega); intro v212 w11 ho hb hg hat; rw [← Ny211.out] at ho; have n0_ := Aside0.mk (Kd.R_after (ok := (fun _ => True)) (by (with_reducible repeat (first | apply Kd.R_alloc | apply Kd.R_drewN | apply Kd.R_drew)); exact Kd.R_mono HO_3.out (fun _ hk => ⟨trivial, hk⟩)) hg hat); have n1_ := Aside0.mk (Kd.S_after (ok := (fun k_ => some k_ ≠ (.slice (some ad210) t207.length co10 : Value).ownBlock)) (by (with_reducible repeat (first | apply Kd.S_alloc | apply Kd.S_drewN | apply Kd.S_drew)); exact HO_4.out) hg hat); have n2_ := Aside0.mk (hb); have n3_ := Aside0.mk (ho); clear HO_3; clear HO_4; clear HB; clear HO_6; have HO_3 := n0_; have HO_4 := n1_; have HB := n2_; have HO213 := n3_; clear n0_ n1_ n2_ n3_; clear ho hb hg hat))
                      go_roundg k2
                      case measure => have := HK1.out; have := HK2.out; omega
                      case rel => exact ⟨(y211), (wrap64 (x7_2 + 1)), (by first | rfl | (simp; done) | (simp [*]; done)), H', ⟨by have := HK1.out; have := HK2.out; omega⟩, ⟨by (with_reducible repeat (first | apply Kd.R_alloc | apply Kd.R_drewN | apply Kd.R_drew)); exact Kd.R_mono HO_3.out (fun _ hk => hk.2)⟩, ⟨by (with_reducible repeat (first | apply Kd.S_alloc | apply Kd.S_drewN | apply Kd.S_drew)); exact HO_4.out⟩, ⟨by (with_reducible repeat (first | apply Kd.R_alloc | apply Kd.R_drewN | apply Kd.R_drew)); exact HO213.out⟩, ⟨by repeat (first | (with_reducible first | exact HB.out | apply below_alloc | apply pw_below_drewN | apply below_drew1) | exact HB.out)⟩⟩
                    · rw [if_neg c9] at H
                      exact absurd H (by simp)
                  · rw [if_neg c8] at H
                    have c8b0 : ((rd t207 x7_2) == x5_1) = false := beq_eq_false_iff_ne.mpr c8
                    have c8b1 : ((rd t207 x7_2) != x5_1) = true := bne_iff_ne.mpr c8
                    have H' := Aside0.mk H
                    clear H
                    obtain ⟨Ao12, co12, eo12⟩ := Kd.R_slice HO_3.out
                    subst eo12
                    have p210 : 0 ≤ (x7_2 : Int) := of_decide_eq_true (by first | (with_reducible assumption) | assumption)
                    have q210 : x7_2 < (t207.length : Int) := of_decide_eq_true (by first | (with_reducible assumption) | assumption)
                    obtain ⟨ad210, e210, hx210_0⟩ := Kd.at_int (Kd.R_reads' HO_3.out).2.2 x7_2 p210 q210
                    cases e210
                    replace p210 := eq_true p210
                    replace q210 := eq_true q210
                    go_wp2
                    go_roundg k2
                    case measure => have := HK1.out; have := HK2.out; omega
                    case rel => exact ⟨(x6_2), (wrap64 (x7_2 + 1)), (by first | rfl | (simp; done) | (simp [*]; done)), H', ⟨by have := HK1.out; have := HK2.out; omega⟩, ⟨by (with_reducible repeat (first | apply Kd.R_alloc | apply Kd.R_drewN | apply Kd.R_drew)); exact HO_3.out⟩, ⟨by (with_reducible repeat (first | apply Kd.S_alloc | apply Kd.S_drewN | apply Kd.S_drew)); exact HO_4.out⟩, ⟨by (with_reducible repeat (first | apply Kd.R_alloc | apply Kd.R_drewN | apply Kd.R_drew)); exact HO_6.out⟩, ⟨by repeat (first | (with_reducible first | exact HB.out | apply below_alloc | apply pw_below_drewN | apply below_drew1) | exact HB.out)⟩⟩
                · rw [if_neg c7] at H
                  exact absurd H (by simp)
              · rw [if_neg c6] at H
                exact absurd H (by simp)
            · rw [if_neg c5] at H
              have c5b0 : decide (x7_2 < (l0.length : Int)) = false := decide_eq_false c5
              clear c5
              by_cases c13 : (x6_2.length : Int) > 0
              · rw [if_pos c13] at H
                have c13b0 : decide (0 < (x6_2.length : Int)) = true := decide_eq_true c13
                have c13b1 : decide (0 < x6_2.length) = true := decide_eq_true (by omega)
                clear c13
                by_cases c14 : x4_1.length < 5864062014805
                · rw [if_pos c14] at H
                  have LMc14 := Aside0.mk c14
                  clear c14
                  obtain ⟨y214, hy214⟩ : ∃ y_ : List (List Int), y_ = (x4_1 ++ [x6_2]) := ⟨_, rfl⟩
                  replace H : (bywashref11_Parts.l0 k2 l0 t207 y214 (wrap64 (x5_1 + 1))) = some r := by first | (rw [hy214]; with_reducible exact H) | (have H2_ := (Option.bind_some _ _).symm.trans H; rw [hy214]; with_reducible exact H2_) | (have H2_ := (Option.bind_some _ _).symm.trans H; with_reducible exact H2_) | with_reducible exact H | (rw [hy214]; exact H) | exact H
                  have Ny214 := Aside0.mk hy214
                  clear hy214
                  have H' := Aside0.mk H
                  clear H
                  obtain ⟨Ao15, co15, eo15⟩ := Kd.R_slice HO_6.out
                  subst eo15
                  go_wp2_with (first | ((with_reducible refine gate_builtin (b := .append) (xs := #[.tmp 35, .tmp 37]) rfl ?_); at_builtin; refine Kd.S_append (Kd.slice 3 (Kd.int .i64)) (w0 := w) w.heap.size rfl (.tmp 35) (.tmp 37) 22 32 (.slice none 0 0) 24 rfl Try.underlying22 info32 rfl (by decide) (by omega) u4 x4_1 x6_2 [.slice Ao15 x6_2.length co15] (fun k_ => some k_ ≠ (v208 : Value).ownBlock) (fun k_ => some k_ = (.slice Ao15 x6_2.length co15 : Value).ownBlock) rfl rfl ?aP (fun k_ hk_ => ((Kd.R_mono (ok' := fun k_ => ((fun k_ => some k_ ≠ (v208 : Value).ownBlock)) k_ ∧ some k_ ≠ (u4 : Value).ownBlock) (Kd.R_apart' (HO_6.out) (Kd.S_typed HO_4.out) (by decide)) (fun k_ hk => ⟨hk.1, hk.2⟩))).1 k_ hk_.symm) ?aF ?aO ?aB ?aS ?aL ?_; (case aP => exact Kd.M_row (Kd.R_mono (Kd.R_tight rfl (Kd.R_mono (ok' := fun k_ => ((fun k_ => some k_ ≠ (v208 : Value).ownBlock)) k_ ∧ some k_ ≠ (u4 : Value).ownBlock) (Kd.R_apart' (HO_6.out) (Kd.S_typed HO_4.out) (by decide)) (fun k_ hk => ⟨hk.1, hk.2⟩))) (fun _ h_ => h_))); (case aB => exact (by repeat (first | (with_reducible first | exact HB.out | apply below_alloc | apply pw_below_drewN | apply below_drew1) | exact HB.out))); (case aF => exact (fun k_ hk => Kd.fresh' (Kd.R_lt (by (with_reducible repeat (first | apply Kd.R_alloc | apply Kd.R_drewN | apply Kd.R_drew)); exact HO_3.out)) k_ hk)); (case aO => exact (by (with_reducible repeat (first | apply Kd.S_alloc | apply Kd.S_drewN | apply Kd.S_drew)); exact Kd.S_mono HO_4.out (fun k_ hk => ⟨hk.1, fun e_ => hk.2 e_⟩))); (case aS => exact (below_size (by repeat (first | (with_reducible first | exact HB.out | apply below_alloc | apply pw_below_drewN | apply below_drew1) | exact HB.out)))); (case aL => have := LMc14.out; omega); intro v215 w16 ho hb hg hat; rw [← Ny214.out] at ho; have n0_ := Aside0.mk (Kd.R_over' (by (with_reducible repeat (first | apply Kd.R_alloc | apply Kd.R_drewN | apply Kd.R_drew)); exact HO_3.out) (Kd.S_typed (by (with_reducible repeat (first | apply Kd.S_alloc | apply Kd.S_drewN | apply Kd.S_drew)); exact HO_4.out)) (by decide) hg); have n1_ := Aside0.mk (hb); have n2_ := Aside0.mk (ho); clear HO_3; clear HB; clear HO_4; clear HO_6; have HO_3 := n0_; have HB := n1_; have HO216 := n2_; clear n0_ n1_ n2_; clear ho hb hg hat))
                  go_roundg k2
                  case measure => have := HK1.out; have := HK2.out; omega
                  case rel => exact ⟨(y214), (wrap64 (x5_1 + 1)), (by first | rfl | (simp; done) | (simp [*]; done)), H', ⟨by have := HK1.out; have := HK2.out; omega⟩, ⟨by (with_reducible repeat (first | apply Kd.R_alloc | apply Kd.R_drewN | apply Kd.R_drew)); exact Kd.R_mono HO_3.out (fun _ hk => trivial)⟩, ⟨by (with_reducible repeat (first | apply Kd.S_alloc | apply Kd.S_drewN | apply Kd.S_drew)); exact HO216.out⟩, ⟨by repeat (first | (with_reducible first | exact HB.out | apply below_alloc | apply pw_below_drewN | apply below_drew1) | exact HB.out)⟩⟩
                · rw [if_neg c14] at H
                  exact absurd H (by simp)
              · rw [if_neg c13] at H
                have c13b0 : decide (0 < (x6_2.length : Int)) = false := decide_eq_false c13
                have c13b1 : decide (0 < x6_2.length) = false := decide_eq_false (by omega)
                clear c13
                have H' := Aside0.mk H
                clear H
                obtain ⟨Ao17, co17, eo17⟩ := Kd.R_slice HO_6.out
                subst eo17
                go_wp2
                go_roundg k2
                case measure => have := HK1.out; have := HK2.out; omega
                case rel => exact ⟨(x4_1), (wrap64 (x5_1 + 1)), (by first | rfl | (simp; done) | (simp [*]; done)), H', ⟨by have := HK1.out; have := HK2.out; omega⟩, ⟨by (with_reducible repeat (first | apply Kd.R_alloc | apply Kd.R_drewN | apply Kd.R_drew)); exact Kd.R_mono HO_3.out (fun _ hk => trivial)⟩, ⟨by (with_reducible repeat (first | apply Kd.S_alloc | apply Kd.S_drewN | apply Kd.S_drew)); exact Kd.S_mono HO_4.out (fun _ hk => hk.1)⟩, ⟨by repeat (first | (with_reducible first | exact HB.out | apply below_alloc | apply pw_below_drewN | apply below_drew1) | exact HB.out)⟩⟩
      · rw [if_neg c4] at H
        have c4b0 : decide (x5_1 < (l0.length : Int)) = false := decide_eq_false c4
        clear c4
        obtain rfl := Option.some.inj H
        go_wp2
        go_ret
        exact ⟨_, by first | rfl | (simp [errW_none, errW_some] <;> rfl) | (simp [*, errW_none, errW_some] <;> rfl) | (exfalso; (try simp_all); (try omega); done), by (with_reducible repeat (first | apply Kd.S_alloc | apply Kd.S_drewN | apply Kd.S_drew)); exact Kd.S_mono HO_4.out (fun _ hk => trivial), by repeat (first | (with_reducible first | exact HB.out | apply below_alloc | apply pw_below_drewN | apply below_drew1) | exact HB.out)⟩
mutual
def bywashref11_Shrink.l0 : Nat → List (List Int) → List (List Int) → List Int → Int → Option ((List (List Int)) × List Int)
  | 0, _, _, _, _ => none
  | k + 1, x0, x4, x5, x6 => if x6 < (x4.length : Int) then (bywashref11_Shrink.l1 k x0 x4 x5 x6 0) else ((bywashref10_Clean.f k x0).bind fun t227 => (bywashref11_Shrink.l2 k x4 x5 t227 ([] : List (List Int)) 0))
def bywashref11_Shrink.l1 : Nat → List (List Int) → List (List Int) → List Int → Int → Int → Option ((List (List Int)) × List Int)
  | 0, _, _, _, _, _ => none
  | k + 1, x0, x4, x5, x6, x7 => if 0 ≤ x6 then (if x6 < (x4.length : Int) then (if x7 < ((rd_L1 x4 x6).length : Int) then (if 0 ≤ x7 then (if 0 ≤ (rd (rd_L1 x4 x6) x7) then (if (rd (rd_L1 x4 x6) x7) < (x5.length : Int) then (bywashref11_Shrink.l1 k x0 x4 (x5.set ((rd (rd_L1 x4 x6) x7) : Int).toNat x6) x6 (wrap64 (x7 + 1))) else (none)) else (none)) else (none)) else (bywashref11_Shrink.l0 k x0 x4 x5 (wrap64 (x6 + 1)))) else (none)) else (none)
def bywashref11_Shrink.l2 : Nat → List (List Int) → List Int → List (List Int) → List (List Int) → Int → Option ((List (List Int)) × List Int)
  | 0, _, _, _, _, _ => none
  | k + 1, x4, x5, x8, x9, x10 => if x10 < (x4.length : Int) then (bywashref11_Shrink.l3 k x4 x5 x8 x9 x10 ([] : List Int) 0) else ((bywashref10_Clean.f k x9).bind fun t230 => (some (t230, x5)))
def bywashref11_Shrink.l3 : Nat → List (List Int) → List Int → List (List Int) → List (List Int) → Int → List Int → Int → Option ((List (List Int)) × List Int)
  | 0, _, _, _, _, _, _, _ => none
  | k + 1, x4, x5, x8, x9, x10, x11, x12 => if 0 ≤ x10 then (if x10 < (x4.length : Int) then (if x12 < ((rd_L1 x4 x10).length : Int) then (if 0 ≤ x12 then (bywashref11_Shrink.l4 k x4 x5 x8 x9 x10 x11 x12 (rd (rd_L1 x4 x10) x12) 0) else (none)) else (if x9.length < 5864062014805 then (bywashref11_Shrink.l2 k x4 x5 x8 (x9 ++ [x11]) (wrap64 (x10 + 1))) else (none))) else (none)) else (none)
def bywashref11_Shrink.l4 : Nat → List (List Int) → List Int → List (List Int) → List (List Int) → Int → List Int → Int → Int → Int → Option ((List (List Int)) × List Int)
  | 0, _, _, _, _, _, _, _, _, _ => none
  | k + 1, x4, x5, x8, x9, x10, x11, x12, x13, x14 => if 0 ≤ x13 then (if x13 < (x8.length : Int) then (if x14 < ((rd_L1 x8 x13).length : Int) then (if 0 ≤ x14 then (if 0 ≤ (rd (rd_L1 x8 x13) x14) then (if (rd (rd_L1 x8 x13) x14) < (x5.length : Int) then (if (rd x5 (rd (rd_L1 x8 x13) x14)) = x10 then (bywashref11_Shrink.l4 k x4 x5 x8 x9 x10 x11 x12 x13 (wrap64 (x14 + 1))) else (if x11.length < 17592186044416 then (bywashref11_Shrink.l4 k x4 x5 x8 x9 x10 (x11 ++ [rd x5 (rd (rd_L1 x8 x13) x14)]) x12 x13 (wrap64 (x14 + 1))) else (none))) else (none)) else (none)) else (none)) else (bywashref11_Shrink.l3 k x4 x5 x8 x9 x10 x11 (wrap64 (x12 + 1)))) else (none)) else (none)
end
def bywashref11_Shrink.f (k : Nat) (l0 : List (List Int)) : Option ((List (List Int)) × List Int) := (bywashref11_Parts.f k l0).bind fun t217 => (if 0 ≤ (l0.length : Int) then (if ((l0.length : Int) : Int).toNat ≤ 35184372088832 then (bywashref11_Shrink.l0 k l0 t217 (List.replicate ((l0.length : Int) : Int).toNat 0) 0) else (none)) else (none))
set_option maxHeartbeats 8000000 in
set_option maxRecDepth 100000 in
theorem bywashref11_Shrink.calls (k : Nat) (A0 : Option Addr) (c0 : Nat) (l0 : List (List Int)) (r1 : List (List Int)) (r2 : List Int) (w : World) (hr0 : Kd.C (Kd.slice 3 (Kd.int .i64)) w A0 l0.length l0) (hc0 : l0.length ≤ c0) (h : bywashref11_Shrink.f k l0 = some (r1, r2)) :
    Calls Try.prog 38 #[.slice A0 l0.length c0] w fun e w' => ∃ v0_ v1_ : Value, e = .returned (.tuple #[v0_, v1_]) ∧ Kd.S (Kd.slice 3 (Kd.int .i64)) 32 w' w.heap.size (fun k_ => some k_ ≠ (v1_ : Value).ownBlock) v0_ r1 ∧ Kd.R (Kd.int .i64) 3 w' w.heap.size (fun _ => True) v1_ r2 ∧ Below w.heap.size w w' := by
  have HR0 := Aside0.mk hr0
  have HC0 := Aside0.mk hc0
  clear hr0 hc0
  have HB := Aside0.mk (Below.refl w.heap.size w)
  have H : ((bywashref11_Parts.f k l0).bind fun t217 => (if 0 ≤ (l0.length : Int) then (if ((l0.length : Int) : Int).toNat ≤ 35184372088832 then (bywashref11_Shrink.l0 k l0 t217 (List.replicate ((l0.length : Int) : Int).toNat 0) 0) else (none)) else (none))) = some (r1, r2) := h
  clear h
  replace H := Option.bind_eq_some_iff.mp H
  obtain ⟨t217, A20, H⟩ := H
  replace H : (if 0 ≤ (l0.length : Int) then (if ((l0.length : Int) : Int).toNat ≤ 35184372088832 then (bywashref11_Shrink.l0 k l0 t217 (List.replicate ((l0.length : Int) : Int).toNat 0) 0) else (none)) else (none)) = some (r1, r2) := H
  have A2 := Aside0.mk A20
  clear A20
  by_cases c3 : 0 ≤ (l0.length : Int)
  · rw [if_pos c3] at H
    have c3b0 := eq_true c3
    have c3b1 : decide (0 ≤ (l0.length : Int)) = true := decide_eq_true c3
    clear c3
    by_cases c4 : ((l0.length : Int) : Int).toNat ≤ 35184372088832
    · rw [if_pos c4] at H
      have c4b0 := eq_true c4
      have c4b1 : decide (((l0.length : Int) : Int).toNat ≤ 35184372088832) = true := decide_eq_true c4
      clear c4
      obtain ⟨y220, hy220⟩ : ∃ y_ : List Int, y_ = (List.replicate ((l0.length : Int) : Int).toNat 0) := ⟨_, rfl⟩
      replace H : (bywashref11_Shrink.l0 k l0 t217 y220 0) = some (r1, r2) := by first | (rw [hy220]; with_reducible exact H) | (have H2_ := (Option.bind_some _ _).symm.trans H; rw [hy220]; with_reducible exact H2_) | (have H2_ := (Option.bind_some _ _).symm.trans H; with_reducible exact H2_) | with_reducible exact H | (rw [hy220]; exact H) | exact H
      have Ny220 := Aside0.mk hy220
      clear hy220
      have H' := Aside0.mk H
      clear H
      go_enter Try.func38, Try.ntmps38
      go_wp2_with (first | ((with_reducible refine gate_callee (f := 40) rfl ?_); refine goesL_ (some 16) rfl rfl Try.func40 (by kernel_rfl) rfl #[.slice A0 l0.length c0] rfl (by (try simp only [List.map_toArray, List.map_cons, List.map_nil]); first | done | rfl | (simp only [List.length_drop, List.length_take]; rfl)) ?_; (with_reducible refine (bywashref11_Parts.calls k _ _ l0 t217 _ ?side1 ?side2 A2.out).mono ?_); (case side1 => repeat (first | exact HR0.out | (with_reducible refine Kd.C_alloc ?_ _) | (with_reducible refine Kd.C_drewN ?_ _) | (with_reducible refine Kd.C_drew ?_))); (case side2 => exact HC0.out); rintro e w5 ⟨v218, rfl, ho0, hb⟩; refine ⟨_, rfl, ?_⟩; have n0_ := Aside0.mk (Kd.S_lower ho0 (below_size (by repeat (first | (with_reducible first | exact HB.out | apply below_alloc | apply pw_below_drewN | apply below_drew1) | exact HB.out)))); have n1_ := Aside0.mk (below_step (by repeat (first | (with_reducible first | exact HB.out | apply below_alloc | apply pw_below_drewN | apply below_drew1) | exact HB.out)) hb); clear HB; have HO219 := n0_; have HB := n1_; clear n0_ n1_; (try clear hb); (try clear hb2); (try clear hk); (try clear hi); (try clear ho0)) | ((with_reducible refine gate_dst (N := 19) rfl ?_); refine Kd.R_make (Kd.int .i64) _ 3 rfl (N := 19) rfl 32 _ _ rfl (l0.length : Int) rfl rfl Try.underlying32 (.int .i64 0) 8 info3 rfl (by decide) (by omega) 0 (ok := fun _ => True) (okp := fun _ => True) rfl (fun _ hk => hk) trivial (of_decide_eq_true (by first | (with_reducible assumption) | assumption)) (Nat.le_trans (Nat.mul_le_mul_right _ (of_decide_eq_true (by first | (with_reducible assumption) | assumption) : (l0.length : Int).toNat ≤ 35184372088832)) (by omega)) (Below.refl _ _) (Nat.le_refl _) ?_; intro v221 w6 ho7 hb hg_ hnew_; clear hg_ hnew_; (first | rw [← Ny220.out] at ho7 | (simp only [Int.reduceToNat] at ho7; rw [← Ny220.out] at ho7)); have n0_ := Aside0.mk (Kd.S_elder' (by (with_reducible repeat (first | apply Kd.S_alloc | apply Kd.S_drewN | apply Kd.S_drew)); exact HO219.out) (Kd.R_base ho7) hb); have n1_ := Aside0.mk (Kd.R_lower ho7 (below_size (by repeat (first | (with_reducible first | exact HB.out | apply below_alloc | apply pw_below_drewN | apply below_drew1) | exact HB.out)))); have n2_ := Aside0.mk (below_step (by repeat (first | (with_reducible first | exact HB.out | apply below_alloc | apply pw_below_drewN | apply below_drew1) | exact HB.out)) hb); clear HO219; clear HB; have HO219 := n0_; have HO222 := n1_; have HB := n2_; clear n0_ n1_ n2_; clear hb ho7))
      go_loopg [6] k (fun kq v6 w' => ∃ (x5_1 : List Int) (x6_1 : Int), v6 = .int .i64 x6_1 ∧ Aside0 (bywashref11_Shrink.l0 kq l0 t217 x5_1 x6_1 = some (r1, r2)) ∧ Aside0 (kq ≤ k) ∧ Aside0 (Kd.S (Kd.slice 3 (Kd.int .i64)) 32 w' w.heap.size (fun k_ => some k_ ≠ (v221 : Value).ownBlock) v218 t217) ∧ Aside0 (Kd.R (Kd.int .i64) 3 w' w.heap.size (fun _ => True) v221 x5_1) ∧ Aside0 (Below w.heap.size w w'))
      case atStart => exact ⟨(y220), (0), (by first | rfl | (simp; done) | (simp [*]; done)), H', ⟨Nat.le_refl _⟩, ⟨by (with_reducible repeat (first | apply Kd.S_alloc | apply Kd.S_drewN | apply Kd.S_drew)); exact Kd.S_mono HO219.out (fun _ hk => hk.2)⟩, ⟨by (with_reducible repeat (first | apply Kd.R_alloc | apply Kd.R_drewN | apply Kd.R_drew)); exact HO222.out⟩, ⟨by repeat (first | (with_reducible first | exact HB.out | apply below_alloc | apply pw_below_drewN | apply below_drew1) | exact HB.out)⟩⟩
      case round =>
        clear H'
        try clear p2
        try clear c3
        try clear c3b0
        try clear c3b1
        try clear c4
        try clear c4b0
        try clear c4b1
        obtain ⟨x5_1, x6_1, rfl, HA, HK1, HO_4, HO_5, HB⟩ := hrel
        cases gk with
        | zero => exact absurd HA.out (by simp [bywashref11_Shrink.l0])
        | succ k1 =>
          have H := HA.out
          clear HA
          simp only [bywashref11_Shrink.l0] at H
          by_cases c8 : x6_1 < (t217.length : Int)
          · rw [if_pos c8] at H
            have c8b0 : decide (x6_1 < (t217.length : Int)) = true := decide_eq_true c8
            clear c8
            have H' := Aside0.mk H
            clear H
            obtain ⟨Ao9, co9, eo9⟩ := Kd.S_slice HO_4.out
            subst eo9
            go_wp2
            go_loopg [7] k1 (fun kq v7 w' => ∃ (x5_2 : List Int) (x7_2 : Int), v7 = .int .i64 x7_2 ∧ Aside0 (bywashref11_Shrink.l1 kq l0 t217 x5_2 x6_1 x7_2 = some (r1, r2)) ∧ Aside0 (kq ≤ k1) ∧ Aside0 (Kd.S (Kd.slice 3 (Kd.int .i64)) 32 w' w.heap.size (fun k_ => some k_ ≠ (v221 : Value).ownBlock) (.slice Ao9 t217.length co9) t217) ∧ Aside0 (Kd.R (Kd.int .i64) 3 w' w.heap.size (fun _ => True) v221 x5_2) ∧ Aside0 (Below w.heap.size w w'))
            case atStart => exact ⟨(x5_1), (0), (by first | rfl | (simp; done) | (simp [*]; done)), H', ⟨Nat.le_refl _⟩, ⟨by (with_reducible repeat (first | apply Kd.S_alloc | apply Kd.S_drewN | apply Kd.S_drew)); exact HO_4.out⟩, ⟨by (with_reducible repeat (first | apply Kd.R_alloc | apply Kd.R_drewN | apply Kd.R_drew)); exact HO_5.out⟩, ⟨by repeat (first | (with_reducible first | exact HB.out | apply below_alloc | apply pw_below_drewN | apply below_drew1) | exact HB.out)⟩⟩
            case round =>
              clear H'
              try clear p2
              try clear c3
              try clear c3b0
              try clear c3b1
              try clear c4
              try clear c4b0
              try clear c4b1
              try clear c8
              try clear c8b0
              try clear p2
              obtain ⟨x5_2, x7_2, rfl, HA, HK2, HO_4, HO_5, HB⟩ := hrel
              cases gk with
              | zero => exact absurd HA.out (by simp [bywashref11_Shrink.l1])
              | succ k2 =>
                have H := HA.out
                clear HA
                simp only [bywashref11_Shrink.l1] at H
                by_cases c10 : 0 ≤ x6_1
                · rw [if_pos c10] at H
                  have c10b0 : decide (0 ≤ x6_1) = true := decide_eq_true c10
                  clear c10
                  by_cases c11 : x6_1 < (t217.length : Int)
                  · rw [if_pos c11] at H
                    have c11b0 : decide (x6_1 < (t217.length : Int)) = true := decide_eq_true c11
                    clear c11
                    by_cases c12 : x7_2 < ((rd_L1 t217 x6_1).length : Int)
                    · rw [if_pos c12] at H
                      have c12b0 : decide (x7_2 < ((rd_L1 t217 x6_1).length : Int)) = true := decide_eq_true c12
                      clear c12
                      by_cases c13 : 0 ≤ x7_2
                      · rw [if_pos c13] at H
                        have c13b0 : decide (0 ≤ x7_2) = true := decide_eq_true c13
                        clear c13
                        by_cases c14 : 0 ≤ (rd (rd_L1 t217 x6_1) x7_2)
                        · rw [if_pos c14] at H
                          have c14b0 : decide (0 ≤ (rd (rd_L1 t217 x6_1) x7_2)) = true := decide_eq_true c14
                          clear c14
                          by_cases c15 : (rd (rd_L1 t217 x6_1) x7_2) < (x5_2.length : Int)
                          · rw [if_pos c15] at H
                            have c15b0 : decide ((rd (rd_L1 t217 x6_1) x7_2) < (x5_2.length : Int)) = true := decide_eq_true c15
                            clear c15
                            obtain ⟨y226, hy226⟩ : ∃ y_ : List Int, y_ = (x5_2.set ((rd (rd_L1 t217 x6_1) x7_2) : Int).toNat x6_1) := ⟨_, rfl⟩
                            replace H : (bywashref11_Shrink.l1 k2 l0 t217 y226 x6_1 (wrap64 (x7_2 + 1))) = some (r1, r2) := by first | (rw [hy226]; with_reducible exact H) | (have H2_ := (Option.bind_some _ _).symm.trans H; rw [hy226]; with_reducible exact H2_) | (have H2_ := (Option.bind_some _ _).symm.trans H; with_reducible exact H2_) | with_reducible exact H | (rw [hy226]; exact H) | exact H
                            have Ny226 := Aside0.mk hy226
                            clear hy226
                            have H' := Aside0.mk H
                            clear H
                            have p223 : 0 ≤ (x6_1 : Int) := of_decide_eq_true (by first | (with_reducible assumption) | assumption)
                            have q223 : x6_1 < (t217.length : Int) := of_decide_eq_true (by first | (with_reducible assumption) | assumption)
                            obtain ⟨ad223, A223_0, c223_0, e223, hx223_0, hl223_0, hi223_0⟩ := at_L1 (Kd.S_reads' HO_4.out).2.2 x6_1 p223 q223
                            cases e223
                            obtain ⟨ce223, hce223, hMe223, hcc223⟩ := Kd.S_get HO_4.out [] x6_1 p223 (by first | exact q223 | exact of_decide_eq_true (by first | (with_reducible assumption) | assumption) | (have e_ := (Kd.S_reads' HO_4.out).1; omega))
                            obtain ⟨ve223_0, rfl, ge223_0⟩ := hMe223
                            have hv223_0 := hcc223 0 _ rfl
                            rw [Nat.add_zero, show ((Kd.slice 3 (Kd.int .i64))).sz = 1 from rfl, Nat.mul_one] at hv223_0
                            replace hv223_0 := Option.some.inj (hv223_0.symm.trans hx223_0)
                            rw [hv223_0] at ge223_0
                            have HL223_0 := Aside0.mk (show Kd.R (Kd.int .i64) 3 _ _ _ _ (rd_L1 t217 x6_1) from ge223_0)
                            clear hv223_0 ge223_0
                            clear hcc223 hce223
                            have HR223_0 := Aside0.mk hi223_0
                            have HC223_0 := Aside0.mk hl223_0
                            clear hi223_0 hl223_0
                            replace p223 := eq_true p223
                            replace q223 := eq_true q223
                            have p224 : 0 ≤ (x6_1 : Int) := of_decide_eq_true (by first | (with_reducible assumption) | assumption)
                            have q224 : x6_1 < (t217.length : Int) := of_decide_eq_true (by first | (with_reducible assumption) | assumption)
                            obtain ⟨ad224, A224_0, c224_0, e224, hx224_0, hl224_0, hi224_0⟩ := at_L1 (Kd.S_reads' HO_4.out).2.2 x6_1 p224 q224
                            obtain rfl : ad223 = ad224 := (by injection e224)
                            obtain ⟨ce224, hce224, hMe224, hcc224⟩ := Kd.S_get HO_4.out [] x6_1 p224 (by first | exact q224 | exact of_decide_eq_true (by first | (with_reducible assumption) | assumption) | (have e_ := (Kd.S_reads' HO_4.out).1; omega))
                            obtain ⟨ve224_0, rfl, ge224_0⟩ := hMe224
                            have hv224_0 := hcc224 0 _ rfl
                            rw [Nat.add_zero, show ((Kd.slice 3 (Kd.int .i64))).sz = 1 from rfl, Nat.mul_one] at hv224_0
                            replace hv224_0 := Option.some.inj (hv224_0.symm.trans hx224_0)
                            rw [hv224_0] at ge224_0
                            have HL224_0 := Aside0.mk (show Kd.R (Kd.int .i64) 3 _ _ _ _ (rd_L1 t217 x6_1) from ge224_0)
                            clear hv224_0 ge224_0
                            clear hcc224 hce224
                            have HR224_0 := Aside0.mk hi224_0
                            have HC224_0 := Aside0.mk hl224_0
                            clear hi224_0 hl224_0
                            replace p224 := eq_true p224
                            replace q224 := eq_true q224
                            have ea_ := Option.some.inj (hx223_0.symm.trans hx224_0)
                            injection ea_ with ea_ en_ ec_
                            subst ea_
                            subst ec_
                            clear en_
                            have p225 : 0 ≤ (x7_2 : Int) := of_decide_eq_true (by first | (with_reducible assumption) | assumption)
                            have q225 : x7_2 < ((rd_L1 t217 x6_1).length : Int) := of_decide_eq_true (by first | (with_reducible assumption) | assumption)
                            obtain ⟨ad225, e225, hx225_0⟩ := Kd.at_int (by repeat (first | (with_reducible exact HR224_0.out) | (with_reducible refine Kd.C_alloc ?_ _) | (with_reducible refine Kd.C_drewN ?_ _) | (with_reducible refine Kd.C_drew ?_) | exact HR224_0.out)) x7_2 p225 q225
                            cases e225
                            replace p225 := eq_true p225
                            replace q225 := eq_true q225
                            have p16 : 0 ≤ ((rd (rd_L1 t217 x6_1) x7_2) : Int) := of_decide_eq_true (by first | (with_reducible assumption) | assumption)
                            have q16 : ((rd (rd_L1 t217 x6_1) x7_2) : Int) < ((x5_2.length : Int) : Int) := of_decide_eq_true (by first | (with_reducible assumption) | assumption)
                            obtain ⟨go16, co16, eo16, gb16, gl16, cl16, HG16⟩ := Kd.R_form HO_5.out (by omega)
                            (first | cases eo16 | (injection eo16 with ea_ en_ ec_; (first | subst ea_ | (injection ea_ with ea_; subst ea_)); subst ec_; clear en_))
                            have GB16 := Aside0.mk gb16
                            have GG16 := Aside0.mk HG16
                            clear gb16 gl16 HG16
                            obtain ⟨hx16_0, hf16_0⟩ := Kd.R_celln 0 HO_5.out ((rd (rd_L1 t217 x6_1) x7_2) : Int) p16 q16
                            replace p16 := eq_true p16
                            replace q16 := eq_true q16
                            have HP17 := Kd.R_putg HO_5.out ((rd (rd_L1 t217 x6_1) x7_2) : Int) x6_1
                            go_wp2_with (first | ((with_reducible refine gate_store (t := 3) (p := 44) rfl ?_); refine store_event (t := 3) (p := 44) (v := ?vo_w18) (w1 := (wr.setCell ⟨go16, ((rd (rd_L1 t217 x6_1) x7_2) : Int).toNat, none⟩ (.int .i64 x6_1))) ?hg ?ho ?hn ?hr ?_; (case ho => rfl); (case hg => rfl); (case hn => rfl); (case hr => first | (go_simp; done) | (go_simp; rfl)); intro w18 hw; have hg : wr.grownBy w18 (some go16) := (by rw [hw]; exact HP17.2); have hp_ : Kd.R (Kd.int .i64) 3 w18 w.heap.size (fun _ => True) (.slice (some ⟨go16, 0, none⟩) x5_2.length co16) y226 := (by rw [hw, Ny226.out]; exact HP17.1); clear HP17; have n0_ := Aside0.mk (Kd.S_after (v := (.slice (some ⟨go16, 0, none⟩) x5_2.length co16)) (v1 := (.slice (some ⟨go16, 0, none⟩) x5_2.length co16)) (ok := (fun _ => True)) (by (with_reducible repeat (first | apply Kd.S_alloc | apply Kd.S_drewN | apply Kd.S_drew)); exact Kd.S_mono HO_4.out (fun _ hk => ⟨trivial, hk⟩)) hg (.inl rfl)); have n1_ := Aside0.mk (hp_); have n2_ := Aside0.mk (Kd.R_after (v := (.slice (some ⟨go16, 0, none⟩) x5_2.length co16)) (v1 := (.slice (some ⟨go16, 0, none⟩) x5_2.length co16)) (ok := (fun k_ => some k_ ≠ (.slice (some ad223) t217.length co9 : Value).ownBlock)) (by (with_reducible repeat (first | apply Kd.R_alloc | apply Kd.R_drewN | apply Kd.R_drew)); exact Kd.R_mono HL223_0.out (fun _ hk => ⟨hk.2, hk.1⟩)) hg (.inl rfl)); have n3_ := Aside0.mk (Kd.R_after (v := (.slice (some ⟨go16, 0, none⟩) x5_2.length co16)) (v1 := (.slice (some ⟨go16, 0, none⟩) x5_2.length co16)) (ok := (fun k_ => some k_ ≠ (.slice (some ad223) t217.length co9 : Value).ownBlock)) (by (with_reducible repeat (first | apply Kd.R_alloc | apply Kd.R_drewN | apply Kd.R_drew)); exact Kd.R_mono HL224_0.out (fun _ hk => ⟨hk.2, hk.1⟩)) hg (.inl rfl)); have n4_ := Aside0.mk ((by rw [hw]; exact below_set (HB.out) GB16.out : Below w.heap.size w w18)); clear HO_4; clear HO_5; clear HL223_0; clear HL224_0; clear HB; have HO_4 := n0_; have HO_5 := n1_; have HL223_0 := n2_; have HL224_0 := n3_; have HB := n4_; clear n0_ n1_ n2_ n3_ n4_; clear hg hw hp_))
                            go_roundg k2
                            case measure => have := HK1.out; have := HK2.out; omega
                            case rel => exact ⟨(y226), (wrap64 (x7_2 + 1)), (by first | rfl | (simp; done) | (simp [*]; done)), H', ⟨by have := HK1.out; have := HK2.out; omega⟩, ⟨by (with_reducible repeat (first | apply Kd.S_alloc | apply Kd.S_drewN | apply Kd.S_drew)); exact Kd.S_mono HO_4.out (fun _ hk => hk.2)⟩, ⟨by (with_reducible repeat (first | apply Kd.R_alloc | apply Kd.R_drewN | apply Kd.R_drew)); exact HO_5.out⟩, ⟨by repeat (first | (with_reducible first | exact HB.out | apply below_alloc | apply pw_below_drewN | apply below_drew1) | exact HB.out)⟩⟩
                          · rw [if_neg c15] at H
                            exact absurd H (by simp)
                        · rw [if_neg c14] at H
                          exact absurd H (by simp)
                      · rw [if_neg c13] at H
                        exact absurd H (by simp)
                    · rw [if_neg c12] at H
                      have c12b0 : decide (x7_2 < ((rd_L1 t217 x6_1).length : Int)) = false := decide_eq_false c12
                      clear c12
                      have H' := Aside0.mk H
                      clear H
                      have p223 : 0 ≤ (x6_1 : Int) := of_decide_eq_true (by first | (with_reducible assumption) | assumption)
                      have q223 : x6_1 < (t217.length : Int) := of_decide_eq_true (by first | (with_reducible assumption) | assumption)
                      obtain ⟨ad223, A223_0, c223_0, e223, hx223_0, hl223_0, hi223_0⟩ := at_L1 (Kd.S_reads' HO_4.out).2.2 x6_1 p223 q223
                      cases e223
                      obtain ⟨ce223, hce223, hMe223, hcc223⟩ := Kd.S_get HO_4.out [] x6_1 p223 (by first | exact q223 | exact of_decide_eq_true (by first | (with_reducible assumption) | assumption) | (have e_ := (Kd.S_reads' HO_4.out).1; omega))
                      obtain ⟨ve223_0, rfl, ge223_0⟩ := hMe223
                      have hv223_0 := hcc223 0 _ rfl
                      rw [Nat.add_zero, show ((Kd.slice 3 (Kd.int .i64))).sz = 1 from rfl, Nat.mul_one] at hv223_0
                      replace hv223_0 := Option.some.inj (hv223_0.symm.trans hx223_0)
                      rw [hv223_0] at ge223_0
                      have HL223_0 := Aside0.mk (show Kd.R (Kd.int .i64) 3 _ _ _ _ (rd_L1 t217 x6_1) from ge223_0)
                      clear hv223_0 ge223_0
                      clear hcc223 hce223
                      have HR223_0 := Aside0.mk hi223_0
                      have HC223_0 := Aside0.mk hl223_0
                      clear hi223_0 hl223_0
                      replace p223 := eq_true p223
                      replace q223 := eq_true q223
                      go_wp2
                      go_roundg k2
                      case measure => have := HK1.out; have := HK2.out; omega
                      case rel => exact ⟨(x5_2), (wrap64 (x6_1 + 1)), (by first | rfl | (simp; done) | (simp [*]; done)), H', ⟨by have := HK1.out; have := HK2.out; omega⟩, ⟨by (with_reducible repeat (first | apply Kd.S_alloc | apply Kd.S_drewN | apply Kd.S_drew)); exact HO_4.out⟩, ⟨by (with_reducible repeat (first | apply Kd.R_alloc | apply Kd.R_drewN | apply Kd.R_drew)); exact HO_5.out⟩, ⟨by repeat (first | (with_reducible first | exact HB.out | apply below_alloc | apply pw_below_drewN | apply below_drew1) | exact HB.out)⟩⟩
                  · rw [if_neg c11] at H
                    exact absurd H (by simp)
                · rw [if_neg c10] at H
                  exact absurd H (by simp)
          · rw [if_neg c8] at H
            have c8b0 : decide (x6_1 < (t217.length : Int)) = false := decide_eq_false c8
            clear c8
            replace H := Option.bind_eq_some_iff.mp H
            obtain ⟨t227, A190, H⟩ := H
            replace H : (bywashref11_Shrink.l2 k1 t217 x5_1 t227 ([] : List (List Int)) 0) = some (r1, r2) := H
            have A19 := Aside0.mk A190
            clear A190
            have H' := Aside0.mk H
            clear H
            obtain ⟨Ao20, co20, eo20⟩ := Kd.S_slice HO_4.out
            subst eo20
            go_wp2_with (first | ((with_reducible refine gate_callee (f := 17) rfl ?_); refine goesL_ (some 46) rfl rfl Try.func17 (by kernel_rfl) rfl #[.slice A0 l0.length c0] rfl (by (try simp only [List.map_toArray, List.map_cons, List.map_nil]); first | done | rfl | (simp only [List.length_drop, List.length_take]; rfl)) ?_; (with_reducible refine (bywashref10_Clean.calls k1 _ _ l0 t227 _ ?side1 ?side2 A19.out).mono ?_); (case side1 => repeat (first | exact (Kd.C_below HR0.out HB.out) | (with_reducible refine Kd.C_alloc ?_ _) | (with_reducible refine Kd.C_drewN ?_ _) | (with_reducible refine Kd.C_drew ?_))); (case side2 => exact HC0.out); rintro e w21 ⟨v228, rfl, ho0, hb⟩; refine ⟨_, rfl, ?_⟩; have n0_ := Aside0.mk (Kd.S_elder' (by (with_reducible repeat (first | apply Kd.S_alloc | apply Kd.S_drewN | apply Kd.S_drew)); exact HO_4.out) (Kd.S_base ho0) hb); have n1_ := Aside0.mk (Kd.R_below (by (with_reducible repeat (first | apply Kd.R_alloc | apply Kd.R_drewN | apply Kd.R_drew)); exact HO_5.out) hb); have n2_ := Aside0.mk (Kd.S_lower (Kd.S_new' (Kd.S_new' ho0 (Kd.S_lt (by (with_reducible repeat (first | apply Kd.S_alloc | apply Kd.S_drewN | apply Kd.S_drew)); exact HO_4.out))) (Kd.R_lt (by (with_reducible repeat (first | apply Kd.R_alloc | apply Kd.R_drewN | apply Kd.R_drew)); exact HO_5.out))) (below_size (by repeat (first | (with_reducible first | exact HB.out | apply below_alloc | apply pw_below_drewN | apply below_drew1) | exact HB.out)))); have n3_ := Aside0.mk (below_step (by repeat (first | (with_reducible first | exact HB.out | apply below_alloc | apply pw_below_drewN | apply below_drew1) | exact HB.out)) hb); clear HO_4; clear HO_5; clear HB; have HO_4 := n0_; have HO_5 := n1_; have HO229 := n2_; have HB := n3_; clear n0_ n1_ n2_ n3_; (try clear hb); (try clear hb2); (try clear hk); (try clear hi); (try clear ho0)))
            go_loopg [9, 10] k1 (fun kq v9 v10 w' => ∃ (x9_2 : List (List Int)) (x10_2 : Int), v10 = .int .i64 x10_2 ∧ Aside0 (bywashref11_Shrink.l2 kq t217 x5_1 t227 x9_2 x10_2 = some (r1, r2)) ∧ Aside0 (kq ≤ k1) ∧ Aside0 (Kd.S (Kd.slice 3 (Kd.int .i64)) 32 w' w.heap.size (fun k_ => some k_ ≠ (v221 : Value).ownBlock ∧ some k_ ≠ (v228 : Value).ownBlock ∧ some k_ ≠ (v9 : Value).ownBlock) (.slice Ao20 t217.length co20) t217) ∧ Aside0 (Kd.R (Kd.int .i64) 3 w' w.heap.size (fun _ => True) v221 x5_1) ∧ Aside0 (Kd.S (Kd.slice 3 (Kd.int .i64)) 32 w' w.heap.size (fun k_ => some k_ ≠ ((.slice Ao20 t217.length co20) : Value).ownBlock ∧ some k_ ≠ (v221 : Value).ownBlock ∧ some k_ ≠ (v9 : Value).ownBlock) v228 t227) ∧ Aside0 (Kd.S (Kd.slice 3 (Kd.int .i64)) 32 w' w.heap.size (fun k_ => some k_ ≠ ((.slice Ao20 t217.length co20) : Value).ownBlock ∧ some k_ ≠ (v221 : Value).ownBlock ∧ some k_ ≠ (v228 : Value).ownBlock) v9 x9_2) ∧ Aside0 (Below w.heap.size w w'))
            case atStart => exact ⟨(([] : List (List Int))), (0), (by first | rfl | (simp; done) | (simp [*]; done)), H', ⟨Nat.le_refl _⟩, ⟨by (with_reducible repeat (first | apply Kd.S_alloc | apply Kd.S_drewN | apply Kd.S_drew)); exact Kd.S_mono HO_4.out (fun _ hk => ⟨hk.1, ⟨hk.2, (by simp [Value.ownBlock])⟩⟩)⟩, ⟨by (with_reducible repeat (first | apply Kd.R_alloc | apply Kd.R_drewN | apply Kd.R_drew)); exact HO_5.out⟩, ⟨by (with_reducible repeat (first | apply Kd.S_alloc | apply Kd.S_drewN | apply Kd.S_drew)); exact Kd.S_mono HO229.out (fun _ hk => ⟨hk.1.2, ⟨hk.2, (by simp [Value.ownBlock])⟩⟩)⟩, ⟨by first | exact Kd.S_nil _ _ _ _ _ | exact Kd.N_nil _ _ _ _ _ | exact Kd.V_nil _ _ _ _ _ | exact Kd.Q_nil _ _ _ _ _ | exact Kd.R_nil _ _ _ _ _⟩, ⟨by repeat (first | (with_reducible first | exact HB.out | apply below_alloc | apply pw_below_drewN | apply below_drew1) | exact HB.out)⟩⟩
            case round =>
              clear H'
              try clear c1
              try clear p1
              try clear q1
              try clear hx1
              try clear hf1
              try clear c2
              try clear p2
              try clear q2
              try clear hx2
              try clear c3
              try clear c3b0
              try clear c3b1
              try clear c4
              try clear c4b0
              try clear c4b1
              try clear p6
              try clear c8
              try clear c8b0
              try clear c10
              try clear c10b0
              try clear c11
              try clear c11b0
              try clear c12
              try clear c12b0
              try clear c13
              try clear c13b0
              try clear c14
              try clear c14b0
              try clear c15
              try clear c15b0
              try clear p16
              try clear q16
              try clear hx16
              try clear hf16
              try clear c17
              try clear hx16_0
              try clear hx223_0
              try clear hx224_0
              try clear hx225_0
              try clear p16
              try clear p2
              try clear p223
              try clear p224
              try clear p225
              try clear q16
              try clear q223
              try clear q224
              try clear q225
              obtain ⟨x9_2, x10_2, rfl, HA, HK2, HO_4, HO_5, HO_8, HO_9, HB⟩ := hrel
              cases gk with
              | zero => exact absurd HA.out (by simp [bywashref11_Shrink.l2])
              | succ k2 =>
                have H := HA.out
                clear HA
                simp only [bywashref11_Shrink.l2] at H
                by_cases c22 : x10_2 < (t217.length : Int)
                · rw [if_pos c22] at H
                  have c22b0 : decide (x10_2 < (t217.length : Int)) = true := decide_eq_true c22
                  clear c22
                  have H' := Aside0.mk H
                  clear H
                  go_wp2
                  go_loopg [11, 12] k2 (fun kq v11 v12 w' => ∃ (x11_3 : List Int) (x12_3 : Int), v12 = .int .i64 x12_3 ∧ Aside0 (bywashref11_Shrink.l3 kq t217 x5_1 t227 x9_2 x10_2 x11_3 x12_3 = some (r1, r2)) ∧ Aside0 (kq ≤ k2) ∧ Aside0 (Kd.S (Kd.slice 3 (Kd.int .i64)) 32 w' w.heap.size (fun k_ => some k_ ≠ (v221 : Value).ownBlock ∧ some k_ ≠ (v228 : Value).ownBlock ∧ some k_ ≠ (u9 : Value).ownBlock ∧ some k_ ≠ (v11 : Value).ownBlock) (.slice Ao20 t217.length co20) t217) ∧ Aside0 (Kd.R (Kd.int .i64) 3 w' w.heap.size (fun k_ => some k_ ≠ (v11 : Value).ownBlock) v221 x5_1) ∧ Aside0 (Kd.S (Kd.slice 3 (Kd.int .i64)) 32 w' w.heap.size (fun k_ => some k_ ≠ ((.slice Ao20 t217.length co20) : Value).ownBlock ∧ some k_ ≠ (v221 : Value).ownBlock ∧ some k_ ≠ (u9 : Value).ownBlock ∧ some k_ ≠ (v11 : Value).ownBlock) v228 t227) ∧ Aside0 (Kd.S (Kd.slice 3 (Kd.int .i64)) 32 w' w.heap.size (fun k_ => some k_ ≠ ((.slice Ao20 t217.length co20) : Value).ownBlock ∧ some k_ ≠ (v221 : Value).ownBlock ∧ some k_ ≠ (v228 : Value).ownBlock ∧ some k_ ≠ (v11 : Value).ownBlock) u9 x9_2) ∧ Aside0 (Kd.R (Kd.int .i64) 3 w' w.heap.size (fun k_ => some k_ ≠ (v221 : Value).ownBlock) v11 x11_3) ∧ Aside0 (Below w.heap.size w w'))
                  case atStart => exact ⟨(([] : List Int)), (0), (by first | rfl | (simp; done) | (simp [*]; done)), H', ⟨Nat.le_refl _⟩, ⟨by (with_reducible repeat (first | apply Kd.S_alloc | apply Kd.S_drewN | apply Kd.S_drew)); exact Kd.S_mono HO_4.out (fun _ hk => ⟨hk.1, ⟨hk.2.1, ⟨hk.2.2, (by simp [Value.ownBlock])⟩⟩⟩)⟩, ⟨by (with_reducible repeat (first | apply Kd.R_alloc | apply Kd.R_drewN | apply Kd.R_drew)); exact Kd.R_mono HO_5.out (fun _ hk => (by simp [Value.ownBlock]))⟩, ⟨by (with_reducible repeat (first | apply Kd.S_alloc | apply Kd.S_drewN | apply Kd.S_drew)); exact Kd.S_mono HO_8.out (fun _ hk => ⟨hk.1, ⟨hk.2.1, ⟨hk.2.2, (by simp [Value.ownBlock])⟩⟩⟩)⟩, ⟨by (with_reducible repeat (first | apply Kd.S_alloc | apply Kd.S_drewN | apply Kd.S_drew)); exact Kd.S_mono HO_9.out (fun _ hk => ⟨hk.1, ⟨hk.2.1, ⟨hk.2.2, (by simp [Value.ownBlock])⟩⟩⟩)⟩, ⟨by first | exact Kd.R_nil _ _ _ _ _ | exact Kd.N_nil _ _ _ _ _ | exact Kd.V_nil _ _ _ _ _ | exact Kd.Q_nil _ _ _ _ _ | exact Kd.S_nil _ _ _ _ _⟩, ⟨by repeat (first | (with_reducible first | exact HB.out | apply below_alloc | apply pw_below_drewN | apply below_drew1) | exact HB.out)⟩⟩
                  case round =>
                    clear H'
                    try clear c1
                    try clear p1
                    try clear q1
                    try clear hx1
                    try clear hf1
                    try clear c2
                    try clear p2
                    try clear q2
                    try clear hx2
                    try clear c3
                    try clear c3b0
                    try clear c3b1
                    try clear c4
                    try clear c4b0
                    try clear c4b1
                    try clear p6
                    try clear c8
                    try clear c8b0
                    try clear c10
                    try clear c10b0
                    try clear c11
                    try clear c11b0
                    try clear c12
                    try clear c12b0
                    try clear c13
                    try clear c13b0
                    try clear c14
                    try clear c14b0
                    try clear c15
                    try clear c15b0
                    try clear p16
                    try clear q16
                    try clear hx16
                    try clear hf16
                    try clear c17
                    try clear c22
                    try clear c22b0
                    try clear p22
                    try clear q22
                    try clear hx22
                    try clear hx16_0
                    try clear hx223_0
                    try clear hx224_0
                    try clear hx225_0
                    try clear p1
                    try clear p16
                    try clear p2
                    try clear p223
                    try clear p224
                    try clear p225
                    try clear p6
                    try clear q1
                    try clear q16
                    try clear q2
                    try clear q223
                    try clear q224
                    try clear q225
                    obtain ⟨x11_3, x12_3, rfl, HA, HK3, HO_4, HO_5, HO_8, HO_9, HO_11, HB⟩ := hrel
                    cases gk with
                    | zero => exact absurd HA.out (by simp [bywashref11_Shrink.l3])
                    | succ k3 =>
                      have H := HA.out
                      clear HA
                      simp only [bywashref11_Shrink.l3] at H
                      by_cases c23 : 0 ≤ x10_2
                      · rw [if_pos c23] at H
                        have c23b0 : decide (0 ≤ x10_2) = true := decide_eq_true c23
                        clear c23
                        by_cases c24 : x10_2 < (t217.length : Int)
                        · rw [if_pos c24] at H
                          have c24b0 : decide (x10_2 < (t217.length : Int)) = true := decide_eq_true c24
                          clear c24
                          by_cases c25 : x12_3 < ((rd_L1 t217 x10_2).length : Int)
                          · rw [if_pos c25] at H
                            have c25b0 : decide (x12_3 < ((rd_L1 t217 x10_2).length : Int)) = true := decide_eq_true c25
                            clear c25
                            by_cases c26 : 0 ≤ x12_3
                            · rw [if_pos c26] at H
                              have c26b0 : decide (0 ≤ x12_3) = true := decide_eq_true c26
                              clear c26
                              have H' := Aside0.mk H
                              clear H
                              have p233 : 0 ≤ (x10_2 : Int) := of_decide_eq_true (by first | (with_reducible assumption) | assumption)
                              have q233 : x10_2 < (t217.length : Int) := of_decide_eq_true (by first | (with_reducible assumption) | assumption)
                              obtain ⟨ad233, A233_0, c233_0, e233, hx233_0, hl233_0, hi233_0⟩ := at_L1 (Kd.S_reads' HO_4.out).2.2 x10_2 p233 q233
                              cases e233
                              obtain ⟨ce233, hce233, hMe233, hcc233⟩ := Kd.S_get HO_4.out [] x10_2 p233 (by first | exact q233 | exact of_decide_eq_true (by first | (with_reducible assumption) | assumption) | (have e_ := (Kd.S_reads' HO_4.out).1; omega))
                              obtain ⟨ve233_0, rfl, ge233_0⟩ := hMe233
                              have hv233_0 := hcc233 0 _ rfl
                              rw [Nat.add_zero, show ((Kd.slice 3 (Kd.int .i64))).sz = 1 from rfl, Nat.mul_one] at hv233_0
                              replace hv233_0 := Option.some.inj (hv233_0.symm.trans hx233_0)
                              rw [hv233_0] at ge233_0
                              have HL233_0 := Aside0.mk (show Kd.R (Kd.int .i64) 3 _ _ _ _ (rd_L1 t217 x10_2) from ge233_0)
                              clear hv233_0 ge233_0
                              clear hcc233 hce233
                              have HR233_0 := Aside0.mk hi233_0
                              have HC233_0 := Aside0.mk hl233_0
                              clear hi233_0 hl233_0
                              replace p233 := eq_true p233
                              replace q233 := eq_true q233
                              have p237 : 0 ≤ (x10_2 : Int) := of_decide_eq_true (by first | (with_reducible assumption) | assumption)
                              have q237 : x10_2 < (t217.length : Int) := of_decide_eq_true (by first | (with_reducible assumption) | assumption)
                              obtain ⟨ad237, A237_0, c237_0, e237, hx237_0, hl237_0, hi237_0⟩ := at_L1 (Kd.S_reads' HO_4.out).2.2 x10_2 p237 q237
                              obtain rfl : ad233 = ad237 := (by injection e237)
                              obtain ⟨ce237, hce237, hMe237, hcc237⟩ := Kd.S_get HO_4.out [] x10_2 p237 (by first | exact q237 | exact of_decide_eq_true (by first | (with_reducible assumption) | assumption) | (have e_ := (Kd.S_reads' HO_4.out).1; omega))
                              obtain ⟨ve237_0, rfl, ge237_0⟩ := hMe237
                              have hv237_0 := hcc237 0 _ rfl
                              rw [Nat.add_zero, show ((Kd.slice 3 (Kd.int .i64))).sz = 1 from rfl, Nat.mul_one] at hv237_0
                              replace hv237_0 := Option.some.inj (hv237_0.symm.trans hx237_0)
                              rw [hv237_0] at ge237_0
                              have HL237_0 := Aside0.mk (show Kd.R (Kd.int .i64) 3 _ _ _ _ (rd_L1 t217 x10_2) from ge237_0)
                              clear hv237_0 ge237_0
                              clear hcc237 hce237
                              have HR237_0 := Aside0.mk hi237_0
                              have HC237_0 := Aside0.mk hl237_0
                              clear hi237_0 hl237_0
                              replace p237 := eq_true p237
                              replace q237 := eq_true q237
                              have ea_ := Option.some.inj (hx233_0.symm.trans hx237_0)
                              injection ea_ with ea_ en_ ec_
                              subst ea_
                              subst ec_
                              clear en_
                              have p238 : 0 ≤ (x12_3 : Int) := of_decide_eq_true (by first | (with_reducible assumption) | assumption)
                              have q238 : x12_3 < ((rd_L1 t217 x10_2).length : Int) := of_decide_eq_true (by first | (with_reducible assumption) | assumption)
                              obtain ⟨ad238, e238, hx238_0⟩ := Kd.at_int (by repeat (first | (with_reducible exact HR237_0.out) | (with_reducible refine Kd.C_alloc ?_ _) | (with_reducible refine Kd.C_drewN ?_ _) | (with_reducible refine Kd.C_drew ?_) | exact HR237_0.out)) x12_3 p238 q238
                              cases e238
                              replace p238 := eq_true p238
                              replace q238 := eq_true q238
                              go_wp2
                              go_loopg [11, 14] k3 (fun kq v11 v14 w' => ∃ (x11_4 : List Int) (x14_4 : Int), v14 = .int .i64 x14_4 ∧ Aside0 (bywashref11_Shrink.l4 kq t217 x5_1 t227 x9_2 x10_2 x11_4 x12_3 (rd (rd_L1 t217 x10_2) x12_3) x14_4 = some (r1, r2)) ∧ Aside0 (kq ≤ k3) ∧ Aside0 (Kd.S (Kd.slice 3 (Kd.int .i64)) 32 w' w.heap.size (fun k_ => some k_ ≠ (v221 : Value).ownBlock ∧ some k_ ≠ (v228 : Value).ownBlock ∧ some k_ ≠ (u9 : Value).ownBlock ∧ some k_ ≠ (v11 : Value).ownBlock) (.slice (some ad233) t217.length co20) t217) ∧ Aside0 (Kd.R (Kd.int .i64) 3 w' w.heap.size (fun k_ => some k_ ≠ (v11 : Value).ownBlock) v221 x5_1) ∧ Aside0 (Kd.S (Kd.slice 3 (Kd.int .i64)) 32 w' w.heap.size (fun k_ => some k_ ≠ ((.slice (some ad233) t217.length co20) : Value).ownBlock ∧ some k_ ≠ (v221 : Value).ownBlock ∧ some k_ ≠ (u9 : Value).ownBlock ∧ some k_ ≠ (v11 : Value).ownBlock) v228 t227) ∧ Aside0 (Kd.S (Kd.slice 3 (Kd.int .i64)) 32 w' w.heap.size (fun k_ => some k_ ≠ ((.slice (some ad233) t217.length co20) : Value).ownBlock ∧ some k_ ≠ (v221 : Value).ownBlock ∧ some k_ ≠ (v228 : Value).ownBlock ∧ some k_ ≠ (v11 : Value).ownBlock) u9 x9_2) ∧ Aside0 (Kd.R (Kd.int .i64) 3 w' w.heap.size (fun k_ => some k_ ≠ (v221 : Value).ownBlock) v11 x11_4) ∧ Aside0 (Below w.heap.size w w'))
                              case atStart => exact ⟨(x11_3), (0), (by first | rfl | (simp; done) | (simp [*]; done)), H', ⟨Nat.le_refl _⟩, ⟨by (with_reducible repeat (first | apply Kd.S_alloc | apply Kd.S_drewN | apply Kd.S_drew)); exact HO_4.out⟩, ⟨by (with_reducible repeat (first | apply Kd.R_alloc | apply Kd.R_drewN | apply Kd.R_drew)); exact HO_5.out⟩, ⟨by (with_reducible repeat (first | apply Kd.S_alloc | apply Kd.S_drewN | apply Kd.S_drew)); exact HO_8.out⟩, ⟨by (with_reducible repeat (first | apply Kd.S_alloc | apply Kd.S_drewN | apply Kd.S_drew)); exact HO_9.out⟩, ⟨by (with_reducible repeat (first | apply Kd.R_alloc | apply Kd.R_drewN | apply Kd.R_drew)); exact HO_11.out⟩, ⟨by repeat (first | (with_reducible first | exact HB.out | apply below_alloc | apply pw_below_drewN | apply below_drew1) | exact HB.out)⟩⟩
                              case round =>
                                clear H'
                                try clear c1
                                try clear p1
                                try clear q1
                                try clear hx1
                                try clear hf1
                                try clear c2
                                try clear p2
                                try clear q2
                                try clear hx2
                                try clear c3
                                try clear c3b0
                                try clear c3b1
                                try clear c4
                                try clear c4b0
                                try clear c4b1
                                try clear p6
                                try clear c8
                                try clear c8b0
                                try clear c10
                                try clear c10b0
                                try clear c11
                                try clear c11b0
                                try clear c12
                                try clear c12b0
                                try clear c13
                                try clear c13b0
                                try clear c14
                                try clear c14b0
                                try clear c15
                                try clear c15b0
                                try clear p16
                                try clear q16
                                try clear hx16
                                try clear hf16
                                try clear c17
                                try clear c22
                                try clear c22b0
                                try clear p22
                                try clear q22
                                try clear hx22
                                try clear c23
                                try clear c23b0
                                try clear p23
                                try clear q23
                                try clear hx23
                                try clear c24
                                try clear c24b0
                                try clear c25
                                try clear c25b0
                                try clear c26
                                try clear c26b0
                                try clear hx16_0
                                try clear hx223_0
                                try clear hx224_0
                                try clear hx225_0
                                try clear hx233_0
                                try clear hx237_0
                                try clear hx238_0
                                try clear p1
                                try clear p16
                                try clear p2
                                try clear p22
                                try clear p223
                                try clear p224
                                try clear p225
                                try clear p233
                                try clear p237
                                try clear p238
                                try clear p6
                                try clear q1
                                try clear q16
                                try clear q2
                                try clear q22
                                try clear q223
                                try clear q224
                                try clear q225
                                try clear q233
                                try clear q237
                                try clear q238
                                obtain ⟨x11_4, x14_4, rfl, HA, HK4, HO_4, HO_5, HO_8, HO_9, HO_11, HB⟩ := hrel
                                cases gk with
                                | zero => exact absurd HA.out (by simp [bywashref11_Shrink.l4])
                                | succ k4 =>
                                  have H := HA.out
                                  clear HA
                                  simp only [bywashref11_Shrink.l4] at H
                                  by_cases c27 : 0 ≤ (rd (rd_L1 t217 x10_2) x12_3)
                                  · rw [if_pos c27] at H
                                    have c27b0 : decide (0 ≤ (rd (rd_L1 t217 x10_2) x12_3)) = true := decide_eq_true c27
                                    clear c27
                                    by_cases c28 : (rd (rd_L1 t217 x10_2) x12_3) < (t227.length : Int)
                                    · rw [if_pos c28] at H
                                      have c28b0 : decide ((rd (rd_L1 t217 x10_2) x12_3) < (t227.length : Int)) = true := decide_eq_true c28
                                      clear c28
                                      by_cases c29 : x14_4 < ((rd_L1 t227 (rd (rd_L1 t217 x10_2) x12_3)).length : Int)
                                      · rw [if_pos c29] at H
                                        have c29b0 : decide (x14_4 < ((rd_L1 t227 (rd (rd_L1 t217 x10_2) x12_3)).length : Int)) = true := decide_eq_true c29
                                        clear c29
                                        by_cases c30 : 0 ≤ x14_4
                                        · rw [if_pos c30] at H
                                          have c30b0 : decide (0 ≤ x14_4) = true := decide_eq_true c30
                                          clear c30
                                          by_cases c31 : 0 ≤ (rd (rd_L1 t227 (rd (rd_L1 t217 x10_2) x12_3)) x14_4)
                                          · rw [if_pos c31] at H
                                            have c31b0 : decide (0 ≤ (rd (rd_L1 t227 (rd (rd_L1 t217 x10_2) x12_3)) x14_4)) = true := decide_eq_true c31
                                            clear c31
                                            by_cases c32 : (rd (rd_L1 t227 (rd (rd_L1 t217 x10_2) x12_3)) x14_4) < (x5_1.length : Int)
                                            · rw [if_pos c32] at H
                                              have c32b0 : decide ((rd (rd_L1 t227 (rd (rd_L1 t217 x10_2) x12_3)) x14_4) < (x5_1.length : Int)) = true := decide_eq_true c32
                                              clear c32
                                              by_cases c33 : (rd x5_1 (rd (rd_L1 t227 (rd (rd_L1 t217 x10_2) x12_3)) x14_4)) = x10_2
                                              · rw [if_pos c33] at H
                                                have c33b0 : ((rd x5_1 (rd (rd_L1 t227 (rd (rd_L1 t217 x10_2) x12_3)) x14_4)) == x10_2) = true := beq_iff_eq.mpr c33
                                                have c33b1 : ((rd x5_1 (rd (rd_L1 t227 (rd (rd_L1 t217 x10_2) x12_3)) x14_4)) != x10_2) = false := bne_eq_false_iff_eq.mpr c33
                                                clear c33
                                                have H' := Aside0.mk H
                                                clear H
                                                obtain ⟨Ao34, co34, eo34⟩ := Kd.S_slice HO_8.out
                                                subst eo34
                                                have p239 : 0 ≤ ((rd (rd_L1 t217 x10_2) x12_3) : Int) := of_decide_eq_true (by first | (with_reducible assumption) | assumption)
                                                have q239 : (rd (rd_L1 t217 x10_2) x12_3) < (t227.length : Int) := of_decide_eq_true (by first | (with_reducible assumption) | assumption)
                                                obtain ⟨ad239, A239_0, c239_0, e239, hx239_0, hl239_0, hi239_0⟩ := at_L1 (Kd.S_reads' HO_8.out).2.2 (rd (rd_L1 t217 x10_2) x12_3) p239 q239
                                                cases e239
                                                obtain ⟨ce239, hce239, hMe239, hcc239⟩ := Kd.S_get HO_8.out [] (rd (rd_L1 t217 x10_2) x12_3) p239 (by first | exact q239 | exact of_decide_eq_true (by first | (with_reducible assumption) | assumption) | (have e_ := (Kd.S_reads' HO_8.out).1; omega))
                                                obtain ⟨ve239_0, rfl, ge239_0⟩ := hMe239
                                                have hv239_0 := hcc239 0 _ rfl
                                                rw [Nat.add_zero, show ((Kd.slice 3 (Kd.int .i64))).sz = 1 from rfl, Nat.mul_one] at hv239_0
                                                replace hv239_0 := Option.some.inj (hv239_0.symm.trans hx239_0)
                                                rw [hv239_0] at ge239_0
                                                have HL239_0 := Aside0.mk (show Kd.R (Kd.int .i64) 3 _ _ _ _ (rd_L1 t227 (rd (rd_L1 t217 x10_2) x12_3)) from ge239_0)
                                                clear hv239_0 ge239_0
                                                clear hcc239 hce239
                                                have HR239_0 := Aside0.mk hi239_0
                                                have HC239_0 := Aside0.mk hl239_0
                                                clear hi239_0 hl239_0
                                                replace p239 := eq_true p239
                                                replace q239 := eq_true q239
                                                have p240 : 0 ≤ ((rd (rd_L1 t217 x10_2) x12_3) : Int) := of_decide_eq_true (by first | (with_reducible assumption) | assumption)
                                                have q240 : (rd (rd_L1 t217 x10_2) x12_3) < (t227.length : Int) := of_decide_eq_true (by first | (with_reducible assumption) | assumption)
                                                obtain ⟨ad240, A240_0, c240_0, e240, hx240_0, hl240_0, hi240_0⟩ := at_L1 (Kd.S_reads' HO_8.out).2.2 (rd (rd_L1 t217 x10_2) x12_3) p240 q240
                                                obtain rfl : ad239 = ad240 := (by injection e240)
                                                obtain ⟨ce240, hce240, hMe240, hcc240⟩ := Kd.S_get HO_8.out [] (rd (rd_L1 t217 x10_2) x12_3) p240 (by first | exact q240 | exact of_decide_eq_true (by first | (with_reducible assumption) | assumption) | (have e_ := (Kd.S_reads' HO_8.out).1; omega))
                                                obtain ⟨ve240_0, rfl, ge240_0⟩ := hMe240
                                                have hv240_0 := hcc240 0 _ rfl
                                                rw [Nat.add_zero, show ((Kd.slice 3 (Kd.int .i64))).sz = 1 from rfl, Nat.mul_one] at hv240_0
                                                replace hv240_0 := Option.some.inj (hv240_0.symm.trans hx240_0)
                                                rw [hv240_0] at ge240_0
                                                have HL240_0 := Aside0.mk (show Kd.R (Kd.int .i64) 3 _ _ _ _ (rd_L1 t227 (rd (rd_L1 t217 x10_2) x12_3)) from ge240_0)
                                                clear hv240_0 ge240_0
                                                clear hcc240 hce240
                                                have HR240_0 := Aside0.mk hi240_0
                                                have HC240_0 := Aside0.mk hl240_0
                                                clear hi240_0 hl240_0
                                                replace p240 := eq_true p240
                                                replace q240 := eq_true q240
                                                have ea_ := Option.some.inj (hx239_0.symm.trans hx240_0)
                                                injection ea_ with ea_ en_ ec_
                                                subst ea_
                                                subst ec_
                                                clear en_
                                                have p241 : 0 ≤ (x14_4 : Int) := of_decide_eq_true (by first | (with_reducible assumption) | assumption)
                                                have q241 : x14_4 < ((rd_L1 t227 (rd (rd_L1 t217 x10_2) x12_3)).length : Int) := of_decide_eq_true (by first | (with_reducible assumption) | assumption)
                                                obtain ⟨ad241, e241, hx241_0⟩ := Kd.at_int (by repeat (first | (with_reducible exact HR240_0.out) | (with_reducible refine Kd.C_alloc ?_ _) | (with_reducible refine Kd.C_drewN ?_ _) | (with_reducible refine Kd.C_drew ?_) | exact HR240_0.out)) x14_4 p241 q241
                                                cases e241
                                                replace p241 := eq_true p241
                                                replace q241 := eq_true q241
                                                obtain ⟨Ao35, co35, eo35⟩ := Kd.R_slice HO_5.out
                                                subst eo35
                                                have p242 : 0 ≤ ((rd (rd_L1 t227 (rd (rd_L1 t217 x10_2) x12_3)) x14_4) : Int) := of_decide_eq_true (by first | (with_reducible assumption) | assumption)
                                                have q242 : (rd (rd_L1 t227 (rd (rd_L1 t217 x10_2) x12_3)) x14_4) < (x5_1.length : Int) := of_decide_eq_true (by first | (with_reducible assumption) | assumption)
                                                obtain ⟨ad242, e242, hx242_0⟩ := Kd.at_int (Kd.R_reads' HO_5.out).2.2 (rd (rd_L1 t227 (rd (rd_L1 t217 x10_2) x12_3)) x14_4) p242 q242
                                                cases e242
                                                replace p242 := eq_true p242
                                                replace q242 := eq_true q242
                                                go_wp2
                                                go_roundg k4
                                                case measure => have := HK1.out; have := HK2.out; have := HK3.out; have := HK4.out; omega
                                                case rel => exact ⟨(x11_4), (wrap64 (x14_4 + 1)), (by first | rfl | (simp; done) | (simp [*]; done)), H', ⟨by have := HK1.out; have := HK2.out; have := HK3.out; have := HK4.out; omega⟩, ⟨by (with_reducible repeat (first | apply Kd.S_alloc | apply Kd.S_drewN | apply Kd.S_drew)); exact HO_4.out⟩, ⟨by (with_reducible repeat (first | apply Kd.R_alloc | apply Kd.R_drewN | apply Kd.R_drew)); exact HO_5.out⟩, ⟨by (with_reducible repeat (first | apply Kd.S_alloc | apply Kd.S_drewN | apply Kd.S_drew)); exact HO_8.out⟩, ⟨by (with_reducible repeat (first | apply Kd.S_alloc | apply Kd.S_drewN | apply Kd.S_drew)); exact HO_9.out⟩, ⟨by (with_reducible repeat (first | apply Kd.R_alloc | apply Kd.R_drewN | apply Kd.R_drew)); exact HO_11.out⟩, ⟨by repeat (first | (with_reducible first | exact HB.out | apply below_alloc | apply pw_below_drewN | apply below_drew1) | exact HB.out)⟩⟩
                                              · rw [if_neg c33] at H
                                                have c33b0 : ((rd x5_1 (rd (rd_L1 t227 (rd (rd_L1 t217 x10_2) x12_3)) x14_4)) == x10_2) = false := beq_eq_false_iff_ne.mpr c33
                                                have c33b1 : ((rd x5_1 (rd (rd_L1 t227 (rd (rd_L1 t217 x10_2) x12_3)) x14_4)) != x10_2) = true := bne_iff_ne.mpr c33
                                                by_cases c36 : x11_4.length < 17592186044416
                                                · rw [if_pos c36] at H
                                                  have LMc36 := Aside0.mk c36
                                                  clear c36
                                                  obtain ⟨y246, hy246⟩ : ∃ y_ : List Int, y_ = (x11_4 ++ [rd x5_1 (rd (rd_L1 t227 (rd (rd_L1 t217 x10_2) x12_3)) x14_4)]) := ⟨_, rfl⟩
                                                  replace H : (bywashref11_Shrink.l4 k4 t217 x5_1 t227 x9_2 x10_2 y246 x12_3 (rd (rd_L1 t217 x10_2) x12_3) (wrap64 (x14_4 + 1))) = some (r1, r2) := by first | (rw [hy246]; with_reducible exact H) | (have H2_ := (Option.bind_some _ _).symm.trans H; rw [hy246]; with_reducible exact H2_) | (have H2_ := (Option.bind_some _ _).symm.trans H; with_reducible exact H2_) | with_reducible exact H | (rw [hy246]; exact H) | exact H
                                                  have Ny246 := Aside0.mk hy246
                                                  clear hy246
                                                  have H' := Aside0.mk H
                                                  clear H
                                                  obtain ⟨Ao37, co37, eo37⟩ := Kd.S_slice HO_8.out
                                                  subst eo37
                                                  have p239 : 0 ≤ ((rd (rd_L1 t217 x10_2) x12_3) : Int) := of_decide_eq_true (by first | (with_reducible assumption) | assumption)
                                                  have q239 : (rd (rd_L1 t217 x10_2) x12_3) < (t227.length : Int) := of_decide_eq_true (by first | (with_reducible assumption) | assumption)
                                                  obtain ⟨ad239, A239_0, c239_0, e239, hx239_0, hl239_0, hi239_0⟩ := at_L1 (Kd.S_reads' HO_8.out).2.2 (rd (rd_L1 t217 x10_2) x12_3) p239 q239
                                                  cases e239
                                                  obtain ⟨ce239, hce239, hMe239, hcc239⟩ := Kd.S_get HO_8.out [] (rd (rd_L1 t217 x10_2) x12_3) p239 (by first | exact q239 | exact of_decide_eq_true (by first | (with_reducible assumption) | assumption) | (have e_ := (Kd.S_reads' HO_8.out).1; omega))
                                                  obtain ⟨ve239_0, rfl, ge239_0⟩ := hMe239
                                                  have hv239_0 := hcc239 0 _ rfl
                                                  rw [Nat.add_zero, show ((Kd.slice 3 (Kd.int .i64))).sz = 1 from rfl, Nat.mul_one] at hv239_0
                                                  replace hv239_0 := Option.some.inj (hv239_0.symm.trans hx239_0)
                                                  rw [hv239_0] at ge239_0
                                                  have HL239_0 := Aside0.mk (show Kd.R (Kd.int .i64) 3 _ _ _ _ (rd_L1 t227 (rd (rd_L1 t217 x10_2) x12_3)) from ge239_0)
                                                  clear hv239_0 ge239_0
                                                  clear hcc239 hce239
                                                  have HR239_0 := Aside0.mk hi239_0
                                                  have HC239_0 := Aside0.mk hl239_0
                                                  clear hi239_0 hl239_0
                                                  replace p239 := eq_true p239
                                                  replace q239 := eq_true q239
                                                  have p240 : 0 ≤ ((rd (rd_L1 t217 x10_2) x12_3) : Int) := of_decide_eq_true (by first | (with_reducible assumption) | assumption)
                                                  have q240 : (rd (rd_L1 t217 x10_2) x12_3) < (t227.length : Int) := of_decide_eq_true (by first | (with_reducible assumption) | assumption)
                                                  obtain ⟨ad240, A240_0, c240_0, e240, hx240_0, hl240_0, hi240_0⟩ := at_L1 (Kd.S_reads' HO_8.out).2.2 (rd (rd_L1 t217 x10_2) x12_3) p240 q240
                                                  obtain rfl : ad239 = ad240 := (by injection e240)
                                                  obtain ⟨ce240, hce240, hMe240, hcc240⟩ := Kd.S_get HO_8.out [] (rd (rd_L1 t217 x10_2) x12_3) p240 (by first | exact q240 | exact of_decide_eq_true (by first | (with_reducible assumption) | assumption) | (have e_ := (Kd.S_reads' HO_8.out).1; omega))
                                                  obtain ⟨ve240_0, rfl, ge240_0⟩ := hMe240
                                                  have hv240_0 := hcc240 0 _ rfl
                                                  rw [Nat.add_zero, show ((Kd.slice 3 (Kd.int .i64))).sz = 1 from rfl, Nat.mul_one] at hv240_0
                                                  replace hv240_0 := Option.some.inj (hv240_0.symm.trans hx240_0)
                                                  rw [hv240_0] at ge240_0
                                                  have HL240_0 := Aside0.mk (show Kd.R (Kd.int .i64) 3 _ _ _ _ (rd_L1 t227 (rd (rd_L1 t217 x10_2) x12_3)) from ge240_0)
                                                  clear hv240_0 ge240_0
                                                  clear hcc240 hce240
                                                  have HR240_0 := Aside0.mk hi240_0
                                                  have HC240_0 := Aside0.mk hl240_0
                                                  clear hi240_0 hl240_0
                                                  replace p240 := eq_true p240
                                                  replace q240 := eq_true q240
                                                  have ea_ := Option.some.inj (hx239_0.symm.trans hx240_0)
                                                  injection ea_ with ea_ en_ ec_
                                                  subst ea_
                                                  subst ec_
                                                  clear en_
                                                  have p241 : 0 ≤ (x14_4 : Int) := of_decide_eq_true (by first | (with_reducible assumption) | assumption)
                                                  have q241 : x14_4 < ((rd_L1 t227 (rd (rd_L1 t217 x10_2) x12_3)).length : Int) := of_decide_eq_true (by first | (with_reducible assumption) | assumption)
                                                  obtain ⟨ad241, e241, hx241_0⟩ := Kd.at_int (by repeat (first | (with_reducible exact HR240_0.out) | (with_reducible refine Kd.C_alloc ?_ _) | (with_reducible refine Kd.C_drewN ?_ _) | (with_reducible refine Kd.C_drew ?_) | exact HR240_0.out)) x14_4 p241 q241
                                                  cases e241
                                                  replace p241 := eq_true p241
                                                  replace q241 := eq_true q241
                                                  obtain ⟨Ao38, co38, eo38⟩ := Kd.R_slice HO_5.out
                                                  subst eo38
                                                  have p242 : 0 ≤ ((rd (rd_L1 t227 (rd (rd_L1 t217 x10_2) x12_3)) x14_4) : Int) := of_decide_eq_true (by first | (with_reducible assumption) | assumption)
                                                  have q242 : (rd (rd_L1 t227 (rd (rd_L1 t217 x10_2) x12_3)) x14_4) < (x5_1.length : Int) := of_decide_eq_true (by first | (with_reducible assumption) | assumption)
                                                  obtain ⟨ad242, e242, hx242_0⟩ := Kd.at_int (Kd.R_reads' HO_5.out).2.2 (rd (rd_L1 t227 (rd (rd_L1 t217 x10_2) x12_3)) x14_4) p242 q242
                                                  cases e242
                                                  replace p242 := eq_true p242
                                                  replace q242 := eq_true q242
                                                  have p243 : 0 ≤ ((rd (rd_L1 t217 x10_2) x12_3) : Int) := of_decide_eq_true (by first | (with_reducible assumption) | assumption)
                                                  have q243 : (rd (rd_L1 t217 x10_2) x12_3) < (t227.length : Int) := of_decide_eq_true (by first | (with_reducible assumption) | assumption)
                                                  obtain ⟨ad243, A243_0, c243_0, e243, hx243_0, hl243_0, hi243_0⟩ := at_L1 (Kd.S_reads' HO_8.out).2.2 (rd (rd_L1 t217 x10_2) x12_3) p243 q243
                                                  obtain rfl : ad239 = ad243 := (by injection e243)
                                                  obtain ⟨ce243, hce243, hMe243, hcc243⟩ := Kd.S_get HO_8.out [] (rd (rd_L1 t217 x10_2) x12_3) p243 (by first | exact q243 | exact of_decide_eq_true (by first | (with_reducible assumption) | assumption) | (have e_ := (Kd.S_reads' HO_8.out).1; omega))
                                                  obtain ⟨ve243_0, rfl, ge243_0⟩ := hMe243
                                                  have hv243_0 := hcc243 0 _ rfl
                                                  rw [Nat.add_zero, show ((Kd.slice 3 (Kd.int .i64))).sz = 1 from rfl, Nat.mul_one] at hv243_0
                                                  replace hv243_0 := Option.some.inj (hv243_0.symm.trans hx243_0)
                                                  rw [hv243_0] at ge243_0
                                                  have HL243_0 := Aside0.mk (show Kd.R (Kd.int .i64) 3 _ _ _ _ (rd_L1 t227 (rd (rd_L1 t217 x10_2) x12_3)) from ge243_0)
                                                  clear hv243_0 ge243_0
                                                  clear hcc243 hce243
                                                  have HR243_0 := Aside0.mk hi243_0
                                                  have HC243_0 := Aside0.mk hl243_0
                                                  clear hi243_0 hl243_0
                                                  replace p243 := eq_true p243
                                                  replace q243 := eq_true q243
                                                  have ea_ := Option.some.inj (hx239_0.symm.trans hx243_0)
                                                  injection ea_ with ea_ en_ ec_
                                                  subst ea_
                                                  subst ec_
                                                  clear en_
                                                  have p244 : 0 ≤ (x14_4 : Int) := of_decide_eq_true (by first | (with_reducible assumption) | assumption)
                                                  have q244 : x14_4 < ((rd_L1 t227 (rd (rd_L1 t217 x10_2) x12_3)).length : Int) := of_decide_eq_true (by first | (with_reducible assumption) | assumption)
                                                  obtain ⟨ad244, e244, hx244_0⟩ := Kd.at_int (by repeat (first | (with_reducible exact HR243_0.out) | (with_reducible refine Kd.C_alloc ?_ _) | (with_reducible refine Kd.C_drewN ?_ _) | (with_reducible refine Kd.C_drew ?_) | exact HR243_0.out)) x14_4 p244 q244
                                                  cases e244
                                                  replace p244 := eq_true p244
                                                  replace q244 := eq_true q244
                                                  have p245 : 0 ≤ ((rd (rd_L1 t227 (rd (rd_L1 t217 x10_2) x12_3)) x14_4) : Int) := of_decide_eq_true (by first | (with_reducible assumption) | assumption)
                                                  have q245 : (rd (rd_L1 t227 (rd (rd_L1 t217 x10_2) x12_3)) x14_4) < (x5_1.length : Int) := of_decide_eq_true (by first | (with_reducible assumption) | assumption)
                                                  obtain ⟨ad245, e245, hx245_0⟩ := Kd.at_int (Kd.R_reads' HO_5.out).2.2 (rd (rd_L1 t227 (rd (rd_L1 t217 x10_2) x12_3)) x14_4) p245 q245
                                                  obtain rfl : ad242 = ad245 := (by injection e245)
                                                  replace p245 := eq_true p245
                                                  replace q245 := eq_true q245
                                                  go_wp2_with (first | ((with_reducible refine gate_builtin (b := .append) (xs := #[.tmp 90, .tmp 101]) rfl ?_); at_builtin; refine Kd.R_append (Kd.int .i64) (w0 := w) w.heap.size rfl (.tmp 90) (.tmp 101) 32 3 (.int .i64 0) 8 rfl Try.underlying32 info3 rfl (by decide) (by omega) u11 x11_4 (rd x5_1 (rd (rd_L1 t227 (rd (rd_L1 t217 x10_2) x12_3)) x14_4)) [.int .i64 (rd x5_1 (rd (rd_L1 t227 (rd (rd_L1 t217 x10_2) x12_3)) x14_4))] (fun k_ => some k_ ≠ (.slice (some ad242) x5_1.length co38 : Value).ownBlock) (fun _ => False) rfl rfl ?aP (fun _ hk => hk.elim) ?aF ?aO ?aB ?aS ?aL ?_; (case aP => exact rfl); (case aB => exact (by repeat (first | (with_reducible first | exact HB.out | apply below_alloc | apply pw_below_drewN | apply below_drew1) | exact HB.out))); (case aF => exact (fun k_ hk => Kd.fresh' (Kd.R_lt (by (with_reducible repeat (first | apply Kd.R_alloc | apply Kd.R_drewN | apply Kd.R_drew)); exact HO_5.out)) k_ hk)); (case aO => exact (by (with_reducible repeat (first | apply Kd.R_alloc | apply Kd.R_drewN | apply Kd.R_drew)); exact HO_11.out)); (case aS => exact (below_size (by repeat (first | (with_reducible first | exact HB.out | apply below_alloc | apply pw_below_drewN | apply below_drew1) | exact HB.out)))); (case aL => have := LMc36.out; omega); intro v247 w39 ho hb hg hat; rw [← Ny246.out] at ho; have n0_ := Aside0.mk (Kd.S_after (ok := (fun k_ => some k_ ≠ (.slice (some ad242) x5_1.length co38 : Value).ownBlock ∧ some k_ ≠ (.slice (some ad239) t227.length co37 : Value).ownBlock ∧ some k_ ≠ (u9 : Value).ownBlock)) (by (with_reducible repeat (first | apply Kd.S_alloc | apply Kd.S_drewN | apply Kd.S_drew)); exact Kd.S_mono HO_4.out (fun _ hk => ⟨⟨hk.1, ⟨hk.2.1, hk.2.2.1⟩⟩, hk.2.2.2⟩)) hg hat); have n1_ := Aside0.mk (Kd.R_after (ok := (fun _ => True)) (by (with_reducible repeat (first | apply Kd.R_alloc | apply Kd.R_drewN | apply Kd.R_drew)); exact Kd.R_mono HO_5.out (fun _ hk => ⟨trivial, hk⟩)) hg hat); have n2_ := Aside0.mk (Kd.S_after (ok := (fun k_ => some k_ ≠ (.slice (some ad233) t217.length co20 : Value).ownBlock ∧ some k_ ≠ (.slice (some ad242) x5_1.length co38 : Value).ownBlock ∧ some k_ ≠ (u9 : Value).ownBlock)) (by (with_reducible repeat (first | apply Kd.S_alloc | apply Kd.S_drewN | apply Kd.S_drew)); exact Kd.S_mono HO_8.out (fun _ hk => ⟨⟨hk.1, ⟨hk.2.1, hk.2.2.1⟩⟩, hk.2.2.2⟩)) hg hat); have n3_ := Aside0.mk (Kd.S_after (ok := (fun k_ => some k_ ≠ (.slice (some ad233) t217.length co20 : Value).ownBlock ∧ some k_ ≠ (.slice (some ad242) x5_1.length co38 : Value).ownBlock ∧ some k_ ≠ (.slice (some ad239) t227.length co37 : Value).ownBlock)) (by (with_reducible repeat (first | apply Kd.S_alloc | apply Kd.S_drewN | apply Kd.S_drew)); exact Kd.S_mono HO_9.out (fun _ hk => ⟨⟨hk.1, ⟨hk.2.1, hk.2.2.1⟩⟩, hk.2.2.2⟩)) hg hat); have n4_ := Aside0.mk (Kd.R_after (ok := (fun k_ => some k_ ≠ (.slice (some ad233) t217.length co20 : Value).ownBlock ∧ some k_ ≠ (.slice (some ad242) x5_1.length co38 : Value).ownBlock ∧ some k_ ≠ (.slice (some ad239) t227.length co37 : Value).ownBlock ∧ some k_ ≠ (u9 : Value).ownBlock)) (by (with_reducible repeat (first | apply Kd.R_alloc | apply Kd.R_drewN | apply Kd.R_drew)); exact Kd.R_mono HL239_0.out (fun _ hk => ⟨⟨hk.1.1, ⟨hk.1.2.1, ⟨hk.2, hk.1.2.2.1⟩⟩⟩, hk.1.2.2.2⟩)) hg hat); have n5_ := Aside0.mk (Kd.R_after (ok := (fun k_ => some k_ ≠ (.slice (some ad233) t217.length co20 : Value).ownBlock ∧ some k_ ≠ (.slice (some ad242) x5_1.length co38 : Value).ownBlock ∧ some k_ ≠ (.slice (some ad239) t227.length co37 : Value).ownBlock ∧ some k_ ≠ (u9 : Value).ownBlock)) (by (with_reducible repeat (first | apply Kd.R_alloc | apply Kd.R_drewN | apply Kd.R_drew)); exact Kd.R_mono HL240_0.out (fun _ hk => ⟨⟨hk.1.1, ⟨hk.1.2.1, ⟨hk.2, hk.1.2.2.1⟩⟩⟩, hk.1.2.2.2⟩)) hg hat); have n6_ := Aside0.mk (Kd.R_after (ok := (fun k_ => some k_ ≠ (.slice (some ad233) t217.length co20 : Value).ownBlock ∧ some k_ ≠ (.slice (some ad242) x5_1.length co38 : Value).ownBlock ∧ some k_ ≠ (.slice (some ad239) t227.length co37 : Value).ownBlock ∧ some k_ ≠ (u9 : Value).ownBlock)) (by (with_reducible repeat (first | apply Kd.R_alloc | apply Kd.R_drewN | apply Kd.R_drew)); exact Kd.R_mono HL243_0.out (fun _ hk => ⟨⟨hk.1.1, ⟨hk.1.2.1, ⟨hk.2, hk.1.2.2.1⟩⟩⟩, hk.1.2.2.2⟩)) hg hat); have n7_ := Aside0.mk (hb); have n8_ := Aside0.mk (ho); clear HO_4; clear HO_5; clear HO_8; clear HO_9; clear HL239_0; clear HL240_0; clear HL243_0; clear HB; clear HO_11; have HO_4 := n0_; have HO_5 := n1_; have HO_8 := n2_; have HO_9 := n3_; have HL239_0 := n4_; have HL240_0 := n5_; have HL243_0 := n6_; have HB := n7_; have HO248 := n8_; clear n0_ n1_ n2_ n3_ n4_ n5_ n6_ n7_ n8_; clear ho hb hg hat))
                                                  go_roundg k4
                                                  case measure => have := HK1.out; have := HK2.out; have := HK3.out; have := HK4.out; omega
                                                  case rel => exact ⟨(y246), (wrap64 (x14_4 + 1)), (by first | rfl | (simp; done) | (simp [*]; done)), H', ⟨by have := HK1.out; have := HK2.out; have := HK3.out; have := HK4.out; omega⟩, ⟨by (with_reducible repeat (first | apply Kd.S_alloc | apply Kd.S_drewN | apply Kd.S_drew)); exact Kd.S_mono HO_4.out (fun _ hk => ⟨hk.1.1, ⟨hk.1.2.1, ⟨hk.1.2.2, hk.2⟩⟩⟩)⟩, ⟨by (with_reducible repeat (first | apply Kd.R_alloc | apply Kd.R_drewN | apply Kd.R_drew)); exact Kd.R_mono HO_5.out (fun _ hk => hk.2)⟩, ⟨by (with_reducible repeat (first | apply Kd.S_alloc | apply Kd.S_drewN | apply Kd.S_drew)); exact Kd.S_mono HO_8.out (fun _ hk => ⟨hk.1.1, ⟨hk.1.2.1, ⟨hk.1.2.2, hk.2⟩⟩⟩)⟩, ⟨by (with_reducible repeat (first | apply Kd.S_alloc | apply Kd.S_drewN | apply Kd.S_drew)); exact Kd.S_mono HO_9.out (fun _ hk => ⟨hk.1.1, ⟨hk.1.2.1, ⟨hk.1.2.2, hk.2⟩⟩⟩)⟩, ⟨by (with_reducible repeat (first | apply Kd.R_alloc | apply Kd.R_drewN | apply Kd.R_drew)); exact HO248.out⟩, ⟨by repeat (first | (with_reducible first | exact HB.out | apply below_alloc | apply pw_below_drewN | apply below_drew1) | exact HB.out)⟩⟩
                                                · rw [if_neg c36] at H
                                                  exact absurd H (by simp)
                                            · rw [if_neg c32] at H
                                              exact absurd H (by simp)
                                          · rw [if_neg c31] at H
                                            exact absurd H (by simp)
                                        · rw [if_neg c30] at H
                                          exact absurd H (by simp)
                                      · rw [if_neg c29] at H
                                        have c29b0 : decide (x14_4 < ((rd_L1 t227 (rd (rd_L1 t217 x10_2) x12_3)).length : Int)) = false := decide_eq_false c29
                                        clear c29
                                        have H' := Aside0.mk H
                                        clear H
                                        obtain ⟨Ao40, co40, eo40⟩ := Kd.S_slice HO_8.out
                                        subst eo40
                                        have p239 : 0 ≤ ((rd (rd_L1 t217 x10_2) x12_3) : Int) := of_decide_eq_true (by first | (with_reducible assumption) | assumption)
                                        have q239 : (rd (rd_L1 t217 x10_2) x12_3) < (t227.length : Int) := of_decide_eq_true (by first | (with_reducible assumption) | assumption)
                                        obtain ⟨ad239, A239_0, c239_0, e239, hx239_0, hl239_0, hi239_0⟩ := at_L1 (Kd.S_reads' HO_8.out).2.2 (rd (rd_L1 t217 x10_2) x12_3) p239 q239
                                        cases e239
                                        obtain ⟨ce239, hce239, hMe239, hcc239⟩ := Kd.S_get HO_8.out [] (rd (rd_L1 t217 x10_2) x12_3) p239 (by first | exact q239 | exact of_decide_eq_true (by first | (with_reducible assumption) | assumption) | (have e_ := (Kd.S_reads' HO_8.out).1; omega))
                                        obtain ⟨ve239_0, rfl, ge239_0⟩ := hMe239
                                        have hv239_0 := hcc239 0 _ rfl
                                        rw [Nat.add_zero, show ((Kd.slice 3 (Kd.int .i64))).sz = 1 from rfl, Nat.mul_one] at hv239_0
                                        replace hv239_0 := Option.some.inj (hv239_0.symm.trans hx239_0)
                                        rw [hv239_0] at ge239_0
                                        have HL239_0 := Aside0.mk (show Kd.R (Kd.int .i64) 3 _ _ _ _ (rd_L1 t227 (rd (rd_L1 t217 x10_2) x12_3)) from ge239_0)
                                        clear hv239_0 ge239_0
                                        clear hcc239 hce239
                                        have HR239_0 := Aside0.mk hi239_0
                                        have HC239_0 := Aside0.mk hl239_0
                                        clear hi239_0 hl239_0
                                        replace p239 := eq_true p239
                                        replace q239 := eq_true q239
                                        go_wp2
                                        go_roundg k4
                                        case measure => have := HK1.out; have := HK2.out; have := HK3.out; have := HK4.out; omega
                                        case rel => exact ⟨(x11_4), (wrap64 (x12_3 + 1)), (by first | rfl | (simp; done) | (simp [*]; done)), H', ⟨by have := HK1.out; have := HK2.out; have := HK3.out; have := HK4.out; omega⟩, ⟨by (with_reducible repeat (first | apply Kd.S_alloc | apply Kd.S_drewN | apply Kd.S_drew)); exact HO_4.out⟩, ⟨by (with_reducible repeat (first | apply Kd.R_alloc | apply Kd.R_drewN | apply Kd.R_drew)); exact HO_5.out⟩, ⟨by (with_reducible repeat (first | apply Kd.S_alloc | apply Kd.S_drewN | apply Kd.S_drew)); exact HO_8.out⟩, ⟨by (with_reducible repeat (first | apply Kd.S_alloc | apply Kd.S_drewN | apply Kd.S_drew)); exact HO_9.out⟩, ⟨by (with_reducible repeat (first | apply Kd.R_alloc | apply Kd.R_drewN | apply Kd.R_drew)); exact HO_11.out⟩, ⟨by repeat (first | (with_reducible first | exact HB.out | apply below_alloc | apply pw_below_drewN | apply below_drew1) | exact HB.out)⟩⟩
                                    · rw [if_neg c28] at H
                                      exact absurd H (by simp)
                                  · rw [if_neg c27] at H
                                    exact absurd H (by simp)
                            · rw [if_neg c26] at H
                              exact absurd H (by simp)
                          · rw [if_neg c25] at H
                            have c25b0 : decide (x12_3 < ((rd_L1 t217 x10_2).length : Int)) = false := decide_eq_false c25
                            clear c25
                            by_cases c41 : x9_2.length < 5864062014805
                            · rw [if_pos c41] at H
                              have LMc41 := Aside0.mk c41
                              clear c41
                              obtain ⟨y234, hy234⟩ : ∃ y_ : List (List Int), y_ = (x9_2 ++ [x11_3]) := ⟨_, rfl⟩
                              replace H : (bywashref11_Shrink.l2 k3 t217 x5_1 t227 y234 (wrap64 (x10_2 + 1))) = some (r1, r2) := by first | (rw [hy234]; with_reducible exact H) | (have H2_ := (Option.bind_some _ _).symm.trans H; rw [hy234]; with_reducible exact H2_) | (have H2_ := (Option.bind_some _ _).symm.trans H; with_reducible exact H2_) | with_reducible exact H | (rw [hy234]; exact H) | exact H
                              have Ny234 := Aside0.mk hy234
                              clear hy234
                              have H' := Aside0.mk H
                              clear H
                              have p233 : 0 ≤ (x10_2 : Int) := of_decide_eq_true (by first | (with_reducible assumption) | assumption)
                              have q233 : x10_2 < (t217.length : Int) := of_decide_eq_true (by first | (with_reducible assumption) | assumption)
                              obtain ⟨ad233, A233_0, c233_0, e233, hx233_0, hl233_0, hi233_0⟩ := at_L1 (Kd.S_reads' HO_4.out).2.2 x10_2 p233 q233
                              cases e233
                              obtain ⟨ce233, hce233, hMe233, hcc233⟩ := Kd.S_get HO_4.out [] x10_2 p233 (by first | exact q233 | exact of_decide_eq_true (by first | (with_reducible assumption) | assumption) | (have e_ := (Kd.S_reads' HO_4.out).1; omega))
                              obtain ⟨ve233_0, rfl, ge233_0⟩ := hMe233
                              have hv233_0 := hcc233 0 _ rfl
                              rw [Nat.add_zero, show ((Kd.slice 3 (Kd.int .i64))).sz = 1 from rfl, Nat.mul_one] at hv233_0
                              replace hv233_0 := Option.some.inj (hv233_0.symm.trans hx233_0)
                              rw [hv233_0] at ge233_0
                              have HL233_0 := Aside0.mk (show Kd.R (Kd.int .i64) 3 _ _ _ _ (rd_L1 t217 x10_2) from ge233_0)
                              clear hv233_0 ge233_0
                              clear hcc233 hce233
                              have HR233_0 := Aside0.mk hi233_0
                              have HC233_0 := Aside0.mk hl233_0
                              clear hi233_0 hl233_0
                              replace p233 := eq_true p233
                              replace q233 := eq_true q233
                              obtain ⟨Ao43, co43, eo43⟩ := Kd.R_slice HO_11.out
                              subst eo43
                              go_wp2_with (first | ((with_reducible refine gate_builtin (b := .append) (xs := #[.tmp 103, .tmp 105]) rfl ?_); at_builtin; refine Kd.S_append (Kd.slice 3 (Kd.int .i64)) (w0 := w) w.heap.size rfl (.tmp 103) (.tmp 105) 22 32 (.slice none 0 0) 24 rfl Try.underlying22 info32 rfl (by decide) (by omega) u9 x9_2 x11_3 [.slice Ao43 x11_3.length co43] (fun k_ => some k_ ≠ (.slice (some ad233) t217.length co20 : Value).ownBlock ∧ some k_ ≠ (v221 : Value).ownBlock ∧ some k_ ≠ (v228 : Value).ownBlock) (fun k_ => some k_ = (.slice Ao43 x11_3.length co43 : Value).ownBlock) rfl rfl ?aP (fun k_ hk_ => ((Kd.R_mono (ok' := fun k_ => ((fun k_ => some k_ ≠ (.slice (some ad233) t217.length co20 : Value).ownBlock ∧ some k_ ≠ (v221 : Value).ownBlock ∧ some k_ ≠ (v228 : Value).ownBlock)) k_ ∧ some k_ ≠ (u9 : Value).ownBlock) (Kd.R_apart' (Kd.R_apart' (Kd.R_apart' (HO_11.out) (Kd.S_typed HO_4.out) (by decide)) (Kd.S_typed HO_8.out) (by decide)) (Kd.S_typed HO_9.out) (by decide)) (fun k_ hk => ⟨⟨hk.1.1.2, ⟨hk.1.1.1, hk.1.2⟩⟩, hk.2⟩))).1 k_ hk_.symm) ?aF ?aO ?aB ?aS ?aL ?_; (case aP => exact Kd.M_row (Kd.R_mono (Kd.R_tight rfl (Kd.R_mono (ok' := fun k_ => ((fun k_ => some k_ ≠ (.slice (some ad233) t217.length co20 : Value).ownBlock ∧ some k_ ≠ (v221 : Value).ownBlock ∧ some k_ ≠ (v228 : Value).ownBlock)) k_ ∧ some k_ ≠ (u9 : Value).ownBlock) (Kd.R_apart' (Kd.R_apart' (Kd.R_apart' (HO_11.out) (Kd.S_typed HO_4.out) (by decide)) (Kd.S_typed HO_8.out) (by decide)) (Kd.S_typed HO_9.out) (by decide)) (fun k_ hk => ⟨⟨hk.1.1.2, ⟨hk.1.1.1, hk.1.2⟩⟩, hk.2⟩))) (fun _ h_ => h_))); (case aB => exact (by repeat (first | (with_reducible first | exact HB.out | apply below_alloc | apply pw_below_drewN | apply below_drew1) | exact HB.out))); (case aF => exact (fun k_ hk => ⟨Kd.fresh' (Kd.S_lt (by (with_reducible repeat (first | apply Kd.S_alloc | apply Kd.S_drewN | apply Kd.S_drew)); exact HO_4.out)) k_ hk, Kd.fresh' (Kd.R_lt (by (with_reducible repeat (first | apply Kd.R_alloc | apply Kd.R_drewN | apply Kd.R_drew)); exact HO_5.out)) k_ hk, Kd.fresh' (Kd.S_lt (by (with_reducible repeat (first | apply Kd.S_alloc | apply Kd.S_drewN | apply Kd.S_drew)); exact HO_8.out)) k_ hk⟩)); (case aO => exact (by (with_reducible repeat (first | apply Kd.S_alloc | apply Kd.S_drewN | apply Kd.S_drew)); exact Kd.S_mono HO_9.out (fun k_ hk => ⟨⟨hk.1, ⟨hk.2.1, hk.2.2.1⟩⟩, fun e_ => hk.2.2.2 e_⟩))); (case aS => exact (below_size (by repeat (first | (with_reducible first | exact HB.out | apply below_alloc | apply pw_below_drewN | apply below_drew1) | exact HB.out)))); (case aL => have := LMc41.out; omega); intro v235 w42 ho hb hg hat; rw [← Ny234.out] at ho; have n0_ := Aside0.mk (Kd.S_after (ok := (fun k_ => some k_ ≠ (v221 : Value).ownBlock ∧ some k_ ≠ (v228 : Value).ownBlock ∧ some k_ ≠ (.slice Ao43 x11_3.length co43 : Value).ownBlock)) (by (with_reducible repeat (first | apply Kd.S_alloc | apply Kd.S_drewN | apply Kd.S_drew)); exact Kd.S_mono HO_4.out (fun _ hk => ⟨⟨hk.1, ⟨hk.2.1, hk.2.2.2⟩⟩, hk.2.2.1⟩)) hg hat); have n1_ := Aside0.mk (Kd.R_over' (by (with_reducible repeat (first | apply Kd.R_alloc | apply Kd.R_drewN | apply Kd.R_drew)); exact HO_5.out) (Kd.S_typed (by (with_reducible repeat (first | apply Kd.S_alloc | apply Kd.S_drewN | apply Kd.S_drew)); exact HO_9.out)) (by decide) hg); have n2_ := Aside0.mk (Kd.S_after (ok := (fun k_ => some k_ ≠ (.slice (some ad233) t217.length co20 : Value).ownBlock ∧ some k_ ≠ (v221 : Value).ownBlock ∧ some k_ ≠ (.slice Ao43 x11_3.length co43 : Value).ownBlock)) (by (with_reducible repeat (first | apply Kd.S_alloc | apply Kd.S_drewN | apply Kd.S_drew)); exact Kd.S_mono HO_8.out (fun _ hk => ⟨⟨hk.1, ⟨hk.2.1, hk.2.2.2⟩⟩, hk.2.2.1⟩)) hg hat); have n3_ := Aside0.mk (Kd.R_after (ok := (fun k_ => some k_ ≠ (.slice (some ad233) t217.length co20 : Value).ownBlock ∧ some k_ ≠ (v221 : Value).ownBlock ∧ some k_ ≠ (v228 : Value).ownBlock ∧ some k_ ≠ (.slice Ao43 x11_3.length co43 : Value).ownBlock)) (by (with_reducible repeat (first | apply Kd.R_alloc | apply Kd.R_drewN | apply Kd.R_drew)); exact Kd.R_mono HL233_0.out (fun _ hk => ⟨⟨hk.2, ⟨hk.1.1, ⟨hk.1.2.1, hk.1.2.2.2⟩⟩⟩, hk.1.2.2.1⟩)) hg hat); have n4_ := Aside0.mk (hb); have n5_ := Aside0.mk (ho); clear HO_4; clear HO_5; clear HO_8; clear HL233_0; clear HB; clear HO_9; clear HO_11; have HO_4 := n0_; have HO_5 := n1_; have HO_8 := n2_; have HL233_0 := n3_; have HB := n4_; have HO236 := n5_; clear n0_ n1_ n2_ n3_ n4_ n5_; clear ho hb hg hat))
                              go_roundg k3
                              case measure => have := HK1.out; have := HK2.out; have := HK3.out; omega
                              case rel => exact ⟨(y234), (wrap64 (x10_2 + 1)), (by first | rfl | (simp; done) | (simp [*]; done)), H', ⟨by have := HK1.out; have := HK2.out; have := HK3.out; omega⟩, ⟨by (with_reducible repeat (first | apply Kd.S_alloc | apply Kd.S_drewN | apply Kd.S_drew)); exact Kd.S_mono HO_4.out (fun _ hk => ⟨hk.1.1, ⟨hk.1.2.1, hk.2⟩⟩)⟩, ⟨by (with_reducible repeat (first | apply Kd.R_alloc | apply Kd.R_drewN | apply Kd.R_drew)); exact Kd.R_mono HO_5.out (fun _ hk => trivial)⟩, ⟨by (with_reducible repeat (first | apply Kd.S_alloc | apply Kd.S_drewN | apply Kd.S_drew)); exact Kd.S_mono HO_8.out (fun _ hk => ⟨hk.1.1, ⟨hk.1.2.1, hk.2⟩⟩)⟩, ⟨by (with_reducible repeat (first | apply Kd.S_alloc | apply Kd.S_drewN | apply Kd.S_drew)); exact HO236.out⟩, ⟨by repeat (first | (with_reducible first | exact HB.out | apply below_alloc | apply pw_below_drewN | apply below_drew1) | exact HB.out)⟩⟩
                            · rw [if_neg c41] at H
                              exact absurd H (by simp)
                        · rw [if_neg c24] at H
                          exact absurd H (by simp)
                      · rw [if_neg c23] at H
                        exact absurd H (by simp)
                · rw [if_neg c22] at H
                  have c22b0 : decide (x10_2 < (t217.length : Int)) = false := decide_eq_false c22
                  clear c22
                  replace H := Option.bind_eq_some_iff.mp H
                  obtain ⟨t230, A440, H⟩ := H
                  replace H : (some (t230, x5_1)) = some (r1, r2) := H
                  have A44 := Aside0.mk A440
                  clear A440
                  simp only [Option.some.injEq, Prod.mk.injEq] at H
                  obtain ⟨rfl, rfl⟩ := H
                  obtain ⟨Ao45, co45, eo45⟩ := Kd.S_slice HO_9.out
                  subst eo45
                  go_wp2_with (first | ((with_reducible refine gate_callee (f := 17) rfl ?_); refine goesL_ (some 108) rfl rfl Try.func17 (by kernel_rfl) rfl #[.slice Ao45 x9_2.length co45] rfl (by (try simp only [List.map_toArray, List.map_cons, List.map_nil]); first | done | rfl | (simp only [List.length_drop, List.length_take]; rfl)) ?_; (with_reducible refine (bywashref10_Clean.calls k2 _ _ x9_2 t230 _ ?side1 ?side2 A44.out).mono ?_); (case side1 => repeat (first | exact (Kd.S_reads' HO_9.out).2.2 | (with_reducible refine Kd.C_alloc ?_ _) | (with_reducible refine Kd.C_drewN ?_ _) | (with_reducible refine Kd.C_drew ?_))); (case side2 => exact (Kd.S_reads' HO_9.out).2.1); rintro e w46 ⟨v231, rfl, ho0, hb⟩; refine ⟨_, rfl, ?_⟩; have n0_ := Aside0.mk (Kd.S_elder' (by (with_reducible repeat (first | apply Kd.S_alloc | apply Kd.S_drewN | apply Kd.S_drew)); exact HO_4.out) (Kd.S_base ho0) hb); have n1_ := Aside0.mk (Kd.R_below (by (with_reducible repeat (first | apply Kd.R_alloc | apply Kd.R_drewN | apply Kd.R_drew)); exact HO_5.out) hb); have n2_ := Aside0.mk (Kd.S_elder' (by (with_reducible repeat (first | apply Kd.S_alloc | apply Kd.S_drewN | apply Kd.S_drew)); exact HO_8.out) (Kd.S_base ho0) hb); have n3_ := Aside0.mk (Kd.S_elder' (by (with_reducible repeat (first | apply Kd.S_alloc | apply Kd.S_drewN | apply Kd.S_drew)); exact HO_9.out) (Kd.S_base ho0) hb); have n4_ := Aside0.mk (Kd.S_lower (Kd.S_new' (Kd.S_new' (Kd.S_new' (Kd.S_new' ho0 (Kd.S_lt (by (with_reducible repeat (first | apply Kd.S_alloc | apply Kd.S_drewN | apply Kd.S_drew)); exact HO_4.out))) (Kd.R_lt (by (with_reducible repeat (first | apply Kd.R_alloc | apply Kd.R_drewN | apply Kd.R_drew)); exact HO_5.out))) (Kd.S_lt (by (with_reducible repeat (first | apply Kd.S_alloc | apply Kd.S_drewN | apply Kd.S_drew)); exact HO_8.out))) (Kd.S_lt (by (with_reducible repeat (first | apply Kd.S_alloc | apply Kd.S_drewN | apply Kd.S_drew)); exact HO_9.out))) (below_size (by repeat (first | (with_reducible first | exact HB.out | apply below_alloc | apply pw_below_drewN | apply below_drew1) | exact HB.out)))); have n5_ := Aside0.mk (below_step (by repeat (first | (with_reducible first | exact HB.out | apply below_alloc | apply pw_below_drewN | apply below_drew1) | exact HB.out)) hb); clear HO_4; clear HO_5; clear HO_8; clear HO_9; clear HB; have HO_4 := n0_; have HO_5 := n1_; have HO_8 := n2_; have HO_9 := n3_; have HO232 := n4_; have HB := n5_; clear n0_ n1_ n2_ n3_ n4_ n5_; (try clear hb); (try clear hb2); (try clear hk); (try clear hi); (try clear ho0)))
                  go_ret2
                  exact ⟨_, _, by first | rfl | (simp [errW_none, errW_some] <;> rfl) | (simp [*, errW_none, errW_some] <;> rfl) | (exfalso; (try simp_all); (try omega); done), by (with_reducible repeat (first | apply Kd.S_alloc | apply Kd.S_drewN | apply Kd.S_drew)); exact Kd.S_mono HO232.out (fun _ hk => hk.1.1.2), by (with_reducible repeat (first | apply Kd.R_alloc | apply Kd.R_drewN | apply Kd.R_drew)); exact HO_5.out, by repeat (first | (with_reducible first | exact HB.out | apply below_alloc | apply pw_below_drewN | apply below_drew1) | exact HB.out)⟩
    · rw [if_neg c4] at H
      exact absurd H (by simp)
  · rw [if_neg c3] at H
    exact absurd H (by simp)
def bywashref11_Loops.l0 : Nat → List (List Int) → List Bool → Int → Option (List Bool)
  | 0, _, _, _ => none
  | k + 1, x0, x3, x4 => if x4 < (x0.length : Int) then ((bywashref10_Path.f k x0 x4 x4).bind fun t261 => (if x3.length < 140737488355328 then (bywashref11_Loops.l0 k x0 (x3 ++ [t261]) (wrap64 (x4 + 1))) else (none))) else (some x3)
def bywashref11_Loops.f (k : Nat) (l0 : List (List Int)) : Option (List Bool) := bywashref11_Loops.l0 k l0 ([] : List Bool) 0
set_option maxHeartbeats 8000000 in
set_option maxRecDepth 100000 in
theorem bywashref11_Loops.calls (k : Nat) (A0 : Option Addr) (c0 : Nat) (l0 : List (List Int)) (r : List Bool) (w : World) (hr0 : Kd.C (Kd.slice 3 (Kd.int .i64)) w A0 l0.length l0) (hc0 : l0.length ≤ c0) (h : bywashref11_Loops.f k l0 = some r) :
    Calls Try.prog 42 #[.slice A0 l0.length c0] w fun e w' => ∃ v0_ : Value, e = .returned (v0_) ∧ Kd.R Kd.bool 4 w' w.heap.size (fun _ => True) v0_ r ∧ Below w.heap.size w w' := by
  have HR0 := Aside0.mk hr0
  have HC0 := Aside0.mk hc0
  clear hr0 hc0
  have HB := Aside0.mk (Below.refl w.heap.size w)
  have H : (bywashref11_Loops.l0 k l0 ([] : List Bool) 0) = some r := h
  clear h
  have H' := Aside0.mk H
  clear H
  go_enter Try.func42, Try.ntmps42
  go_wp2
  go_loopg [3, 4] k (fun kq v3 v4 w' => ∃ (x3_1 : List Bool) (x4_1 : Int), v4 = .int .i64 x4_1 ∧ Aside0 (bywashref11_Loops.l0 kq l0 x3_1 x4_1 = some r) ∧ Aside0 (kq ≤ k) ∧ Aside0 (Kd.R Kd.bool 4 w' w.heap.size (fun _ => True) v3 x3_1) ∧ Aside0 (Below w.heap.size w w'))
  case atStart => exact ⟨(([] : List Bool)), (0), (by first | rfl | (simp; done) | (simp [*]; done)), H', ⟨Nat.le_refl _⟩, ⟨by first | exact Kd.R_nil _ _ _ _ _ | exact Kd.N_nil _ _ _ _ _ | exact Kd.V_nil _ _ _ _ _ | exact Kd.Q_nil _ _ _ _ _ | exact Kd.S_nil _ _ _ _ _⟩, ⟨by repeat (first | (with_reducible first | exact HB.out | apply below_alloc | apply pw_below_drewN | apply below_drew1) | exact HB.out)⟩⟩
  case round =>
    clear H'
    obtain ⟨x3_1, x4_1, rfl, HA, HK1, HO_3, HB⟩ := hrel
    cases gk with
    | zero => exact absurd HA.out (by simp [bywashref11_Loops.l0])
    | succ k1 =>
      have H := HA.out
      clear HA
      simp only [bywashref11_Loops.l0] at H
      by_cases c2 : x4_1 < (l0.length : Int)
      · rw [if_pos c2] at H
        have c2b0 : decide (x4_1 < (l0.length : Int)) = true := decide_eq_true c2
        clear c2
        replace H := Option.bind_eq_some_iff.mp H
        obtain ⟨t261, A30, H⟩ := H
        replace H : (if x3_1.length < 140737488355328 then (bywashref11_Loops.l0 k1 l0 (x3_1 ++ [t261]) (wrap64 (x4_1 + 1))) else (none)) = some r := H
        have A3 := Aside0.mk A30
        clear A30
        by_cases c4 : x3_1.length < 140737488355328
        · rw [if_pos c4] at H
          have LMc4 := Aside0.mk c4
          clear c4
          obtain ⟨y262, hy262⟩ : ∃ y_ : List Bool, y_ = (x3_1 ++ [t261]) := ⟨_, rfl⟩
          replace H : (bywashref11_Loops.l0 k1 l0 y262 (wrap64 (x4_1 + 1))) = some r := by first | (rw [hy262]; with_reducible exact H) | (have H2_ := (Option.bind_some _ _).symm.trans H; rw [hy262]; with_reducible exact H2_) | (have H2_ := (Option.bind_some _ _).symm.trans H; with_reducible exact H2_) | with_reducible exact H | (rw [hy262]; exact H) | exact H
          have Ny262 := Aside0.mk hy262
          clear hy262
          have H' := Aside0.mk H
          clear H
          go_wp2_with (first | ((with_reducible refine gate_callee (f := 31) rfl ?_); refine goesL_ (some 15) rfl rfl Try.func31 (by kernel_rfl) rfl #[.slice A0 l0.length c0, .int .i64 x4_1, .int .i64 x4_1] rfl (by (try simp only [List.map_toArray, List.map_cons, List.map_nil]); first | done | rfl | (simp only [List.length_drop, List.length_take]; rfl)) ?_; (with_reducible refine (bywashref10_Path.calls k1 _ _ l0 x4_1 x4_1 t261 _ ?side1 ?side2 A3.out).mono ?_); (case side1 => repeat (first | exact (Kd.C_below HR0.out HB.out) | (with_reducible refine Kd.C_alloc ?_ _) | (with_reducible refine Kd.C_drewN ?_ _) | (with_reducible refine Kd.C_drew ?_))); (case side2 => exact HC0.out); rintro e w5 ⟨rfl, hb⟩; refine ⟨_, rfl, ?_⟩; have n0_ := Aside0.mk (Kd.R_below (by (with_reducible repeat (first | apply Kd.R_alloc | apply Kd.R_drewN | apply Kd.R_drew)); exact HO_3.out) hb); have n1_ := Aside0.mk (below_step (by repeat (first | (with_reducible first | exact HB.out | apply below_alloc | apply pw_below_drewN | apply below_drew1) | exact HB.out)) hb); clear HO_3; clear HB; have HO_3 := n0_; have HB := n1_; clear n0_ n1_; (try clear hb); (try clear hb2); (try clear hk); (try clear hi)) | ((with_reducible refine gate_builtin (b := .append) (xs := #[.tmp 11, .tmp 16]) rfl ?_); at_builtin; refine Kd.R_append Kd.bool (w0 := w) w.heap.size rfl (.tmp 11) (.tmp 16) 29 4 (.bool false) 1 rfl Try.underlying29 info4 rfl (by decide) (by omega) u3 x3_1 t261 [.bool t261] (fun _ => True) (fun _ => False) rfl rfl ?aP (fun _ hk => hk.elim) ?aF ?aO ?aB ?aS ?aL ?_; (case aP => exact rfl); (case aB => exact (by repeat (first | (with_reducible first | exact HB.out | apply below_alloc | apply pw_below_drewN | apply below_drew1) | exact HB.out))); (case aF => exact (fun _ _ => trivial)); (case aO => exact (by (with_reducible repeat (first | apply Kd.R_alloc | apply Kd.R_drewN | apply Kd.R_drew)); exact HO_3.out)); (case aS => exact (below_size (by repeat (first | (with_reducible first | exact HB.out | apply below_alloc | apply pw_below_drewN | apply below_drew1) | exact HB.out)))); (case aL => have := LMc4.out; omega); intro v263 w6 ho hb hg hat; rw [← Ny262.out] at ho; have n0_ := Aside0.mk (hb); have n1_ := Aside0.mk (ho); clear HB; clear HO_3; have HB := n0_; have HO264 := n1_; clear n0_ n1_; clear ho hb hg hat))
          go_roundg k1
          case measure => have := HK1.out; omega
          case rel => exact ⟨(y262), (wrap64 (x4_1 + 1)), (by first | rfl | (simp; done) | (simp [*]; done)), H', ⟨by have := HK1.out; omega⟩, ⟨by (with_reducible repeat (first | apply Kd.R_alloc | apply Kd.R_drewN | apply Kd.R_drew)); exact HO264.out⟩, ⟨by repeat (first | (with_reducible first | exact HB.out | apply below_alloc | apply pw_below_drewN | apply below_drew1) | exact HB.out)⟩⟩
        · rw [if_neg c4] at H
          exact absurd H (by simp)
      · rw [if_neg c2] at H
        have c2b0 : decide (x4_1 < (l0.length : Int)) = false := decide_eq_false c2
        clear c2
        obtain rfl := Option.some.inj H
        go_wp2
        go_ret
        exact ⟨_, by first | rfl | (simp [errW_none, errW_some] <;> rfl) | (simp [*, errW_none, errW_some] <;> rfl) | (exfalso; (try simp_all); (try omega); done), by (with_reducible repeat (first | apply Kd.R_alloc | apply Kd.R_drewN | apply Kd.R_drew)); exact HO_3.out, by repeat (first | (with_reducible first | exact HB.out | apply below_alloc | apply pw_below_drewN | apply below_drew1) | exact HB.out)⟩
end Go.Proofs.Ytdknhgbjgdmfkaa.P
