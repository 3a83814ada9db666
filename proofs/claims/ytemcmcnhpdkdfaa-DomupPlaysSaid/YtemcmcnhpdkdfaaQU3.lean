/- What the claim uses of: Pdom Gtree Hdsolve Hdsolve2 Hinsert Hwith PdomupA Hdup0 Hdup1 Gdup Gdup2 Gdup3 -/
import Derived.Test.YtemcmcnhpdkdfaaQU2
namespace Go.Proofs.Ytemcmcnhpdkdfaa.P
open Go.RowKit Go.Proofs.YtemcmcnhpdkdfaaW.PrintWords Go.Proofs.YtemcmcnhpdkdfaaW.PrintLast Go.Proofs.YtemcmcnhpdkdfaaW.PrintMore
attribute [local go_sem] max2_int min2_int max_two min_two max_three min_three max_four min_four
set_option linter.unusedVariables false
set_option linter.unusedSimpArgs false
def dom_Common.l0 : Nat → List Int → List Int → Int → Int → Option (Int)
  | 0, _, _, _, _ => none
  | k + 1, x7, x15, x16, x17 => if x17 < x16 then (if 0 ≤ x17 then (if x17 < (x15.length : Int) then ((slices_Contains_int_int.f k x7 (rd x15 x17)).bind fun t110 => (if t110 = true then (some (rd x15 x17)) else (dom_Common.l0 k x7 x15 x16 (wrap64 (x17 + 1))))) else (none)) else (none)) else (some (-1))
def dom_Common.f (k : Nat) (l0 : List Int) (a1 : Int) (a2 : Int) : Option (Int) := (dom_Chain.f k l0 a2).bind fun t103 => ((dom_Chain.f k l0 a1).bind fun t106 => (dom_Common.l0 k t103 t106 (t106.length : Int) 0))
theorem dom_Common.mono_l : ∀ k, (∀ y0 y1 y2 y3, LeO (dom_Common.l0 k y0 y1 y2 y3) (dom_Common.l0 (k + 1) y0 y1 y2 y3))
  | 0 => fun _ _ _ _ r h => by simp [dom_Common.l0] at h
  | k + 1 => by
    have ih0 := dom_Common.mono_l k
    · intro y0 y1 y2 y3
      unfold dom_Common.l0
      repeat' first
      | (with_reducible exact ih0 _ _ _ _)
      | (with_reducible exact dom_Chain.mono _ _ _)
      | (with_reducible exact slices_Contains_int_int.mono _ _ _)
      | (with_reducible exact LeO.refl _)
      | (with_reducible exact LeO.none _)
      | (with_reducible refine LeO.ite ?_ ?_)
      | (with_reducible refine LeO.bind ?_ (fun _ => ?_))
      | exact ih0 _ _ _ _
      | exact dom_Chain.mono _ _ _
      | exact slices_Contains_int_int.mono _ _ _
      | exact LeO.none _
      | refine LeO.ite ?_ ?_
      | refine LeO.bind ?_ (fun _ => ?_)
theorem dom_Common.mono : ∀ a0 a1 a2 k, LeO (dom_Common.f k a0 a1 a2) (dom_Common.f (k + 1) a0 a1 a2) := by
  intro a0 a1 a2 k
  have ih0 := dom_Common.mono_l k
  unfold dom_Common.f
  repeat' first
      | (with_reducible exact ih0 _ _ _ _)
      | (with_reducible exact dom_Chain.mono _ _ _)
      | (with_reducible exact slices_Contains_int_int.mono _ _ _)
      | (with_reducible exact LeO.refl _)
      | (with_reducible exact LeO.none _)
      | (with_reducible refine LeO.ite ?_ ?_)
      | (with_reducible refine LeO.bind ?_ (fun _ => ?_))
      | exact ih0 _ _ _ _
      | exact dom_Chain.mono _ _ _
      | exact slices_Contains_int_int.mono _ _ _
      | exact LeO.none _
      | refine LeO.ite ?_ ?_
      | refine LeO.bind ?_ (fun _ => ?_)
set_option maxHeartbeats 8000000 in
set_option maxRecDepth 100000 in
theorem dom_Common.calls (k : Nat) (A0 : Option Addr) (c0 : Nat) (l0 : List Int) (a1 : Int) (a2 : Int) (r : Int) (w : World) (hr0 : Kd.C (Kd.int .i64) w A0 l0.length l0) (hc0 : l0.length ≤ c0) (h : dom_Common.f k l0 a1 a2 = some r) :
    Calls Try.prog 16 #[.slice A0 l0.length c0, .int .i64 a1, .int .i64 a2] w fun e w' => e = .returned (.int .i64 r) ∧ Below w.heap.size w w' := by
  have HR0 := Aside0.mk hr0
  have HC0 := Aside0.mk hc0
  clear hr0 hc0
  have HB := Aside0.mk (Below.refl w.heap.size w)
  have H : ((dom_Chain.f k l0 a2).bind fun t103 => ((dom_Chain.f k l0 a1).bind fun t106 => (dom_Common.l0 k t103 t106 (t106.length : Int) 0))) = some r := h
  clear h
  replace H := Option.bind_eq_some_iff.mp H
  obtain ⟨t103, A40, H⟩ := H
  replace H : ((dom_Chain.f k l0 a1).bind fun t106 => (dom_Common.l0 k t103 t106 (t106.length : Int) 0)) = some r := H
  have A4 := Aside0.mk A40
  clear A40
  replace H := Option.bind_eq_some_iff.mp H
  obtain ⟨t106, A50, H⟩ := H
  replace H : (dom_Common.l0 k t103 t106 (t106.length : Int) 0) = some r := H
  have A5 := Aside0.mk A50
  clear A50
  have H' := Aside0.mk H
  clear H
  go_enter Try.func16, Try.ntmps16
  go_wp2_with (first | ((with_reducible refine gate_callee (f := 25) rfl ?_); refine goesL_ (some 12) rfl rfl Try.func25 (by kernel_rfl) rfl #[.slice A0 l0.length c0, .int .i64 a2] rfl (by (try simp only [List.map_toArray, List.map_cons, List.map_nil]); first | done | rfl | (simp only [List.length_drop, List.length_take]; rfl)) ?_; (with_reducible refine (dom_Chain.calls k _ _ l0 a2 t103 _ ?side1 ?side2 A4.out).mono ?_); (case side1 => repeat (first | exact HR0.out | (with_reducible refine Kd.C_alloc ?_ _) | (with_reducible refine Kd.C_drewN ?_ _) | (with_reducible refine Kd.C_drew ?_))); (case side2 => exact HC0.out); rintro e w6 ⟨v104, rfl, ho0, hb⟩; refine ⟨_, rfl, ?_⟩; have n0_ := Aside0.mk (Kd.R_lower ho0 (below_size (by repeat (first | (with_reducible first | exact HB.out | apply below_alloc | apply pw_below_drewN | apply below_drew1) | exact HB.out)))); have n1_ := Aside0.mk (below_step (by repeat (first | (with_reducible first | exact HB.out | apply below_alloc | apply pw_below_drewN | apply below_drew1) | exact HB.out)) hb); clear HB; have HO105 := n0_; have HB := n1_; clear n0_ n1_; (try clear hb); (try clear hb2); (try clear hk); (try clear hi); (try clear ho0)) | ((with_reducible refine gate_callee (f := 25) rfl ?_); refine goesL_ (some 15) rfl rfl Try.func25 (by kernel_rfl) rfl #[.slice A0 l0.length c0, .int .i64 a1] rfl (by (try simp only [List.map_toArray, List.map_cons, List.map_nil]); first | done | rfl | (simp only [List.length_drop, List.length_take]; rfl)) ?_; (with_reducible refine (dom_Chain.calls k _ _ l0 a1 t106 _ ?side1 ?side2 A5.out).mono ?_); (case side1 => repeat (first | exact (Kd.C_below HR0.out HB.out) | (with_reducible refine Kd.C_alloc ?_ _) | (with_reducible refine Kd.C_drewN ?_ _) | (with_reducible refine Kd.C_drew ?_))); (case side2 => exact HC0.out); rintro e w7 ⟨v107, rfl, ho0, hb⟩; refine ⟨_, rfl, ?_⟩; have n0_ := Aside0.mk (Kd.R_elder' (by (with_reducible repeat (first | apply Kd.R_alloc | apply Kd.R_drewN | apply Kd.R_drew)); exact HO105.out) (Kd.R_base ho0) hb); have n1_ := Aside0.mk (Kd.R_lower (Kd.R_new' ho0 (Kd.R_lt (by (with_reducible repeat (first | apply Kd.R_alloc | apply Kd.R_drewN | apply Kd.R_drew)); exact HO105.out))) (below_size (by repeat (first | (with_reducible first | exact HB.out | apply below_alloc | apply pw_below_drewN | apply below_drew1) | exact HB.out)))); have n2_ := Aside0.mk (below_step (by repeat (first | (with_reducible first | exact HB.out | apply below_alloc | apply pw_below_drewN | apply below_drew1) | exact HB.out)) hb); clear HO105; clear HB; have HO105 := n0_; have HO108 := n1_; have HB := n2_; clear n0_ n1_ n2_; (try clear hb); (try clear hb2); (try clear hk); (try clear hi); (try clear ho0); obtain ⟨Ao8, co8, eo8⟩ := Kd.R_slice HO108.out; subst eo8))
  go_loopg [17] k (fun kq v17 w' => ∃ (x17_1 : Int), v17 = .int .i64 x17_1 ∧ Aside0 (dom_Common.l0 kq t103 t106 (t106.length : Int) x17_1 = some r) ∧ Aside0 (kq ≤ k) ∧ Aside0 (Kd.R (Kd.int .i64) 3 w' w.heap.size (fun k_ => some k_ ≠ ((.slice Ao8 t106.length co8) : Value).ownBlock) v104 t103) ∧ Aside0 (Kd.R (Kd.int .i64) 3 w' w.heap.size (fun k_ => some k_ ≠ (v104 : Value).ownBlock) (.slice Ao8 t106.length co8) t106) ∧ Aside0 (Below w.heap.size w w'))
  case atStart => exact ⟨(0), (by first | rfl | (simp; done) | (simp [*]; done)), H', ⟨Nat.le_refl _⟩, ⟨by (with_reducible repeat (first | apply Kd.R_alloc | apply Kd.R_drewN | apply Kd.R_drew)); exact Kd.R_mono HO105.out (fun _ hk => hk.2)⟩, ⟨by (with_reducible repeat (first | apply Kd.R_alloc | apply Kd.R_drewN | apply Kd.R_drew)); exact Kd.R_mono HO108.out (fun _ hk => hk.2)⟩, ⟨by repeat (first | (with_reducible first | exact HB.out | apply below_alloc | apply pw_below_drewN | apply below_drew1) | exact HB.out)⟩⟩
  case round =>
    clear H'
    try clear c1
    try clear c2
    try clear p2
    obtain ⟨x17_1, rfl, HA, HK1, HO_7, HO_15, HB⟩ := hrel
    cases gk with
    | zero => exact absurd HA.out (by simp [dom_Common.l0])
    | succ k1 =>
      have H := HA.out
      clear HA
      simp only [dom_Common.l0] at H
      by_cases c9 : x17_1 < (t106.length : Int)
      · rw [if_pos c9] at H
        have c9b0 : decide (x17_1 < (t106.length : Int)) = true := decide_eq_true c9
        clear c9
        by_cases c10 : 0 ≤ x17_1
        · rw [if_pos c10] at H
          have c10b0 : decide (0 ≤ x17_1) = true := decide_eq_true c10
          clear c10
          by_cases c11 : x17_1 < (t106.length : Int)
          · rw [if_pos c11] at H
            have c11b0 : decide (x17_1 < (t106.length : Int)) = true := decide_eq_true c11
            clear c11
            replace H := Option.bind_eq_some_iff.mp H
            obtain ⟨t110, A120, H⟩ := H
            replace H : (if t110 = true then (some (rd t106 x17_1)) else (dom_Common.l0 k1 t103 t106 (t106.length : Int) (wrap64 (x17_1 + 1)))) = some r := H
            have A12 := Aside0.mk A120
            clear A120
            by_cases c13 : t110 = true
            · subst c13
              have H1 : (some (rd t106 x17_1)) = some r := by rw [if_pos rfl] at H; exact H
              clear H
              have H := H1
              clear H1
              obtain rfl := Option.some.inj H
              have p109 : 0 ≤ (x17_1 : Int) := of_decide_eq_true (by first | (with_reducible assumption) | assumption)
              have q109 : x17_1 < (t106.length : Int) := of_decide_eq_true (by first | (with_reducible assumption) | assumption)
              obtain ⟨ad109, e109, hx109_0⟩ := Kd.at_int (Kd.R_reads' HO_15.out).2.2 x17_1 p109 q109
              cases e109
              replace p109 := eq_true p109
              replace q109 := eq_true q109
              obtain ⟨Ao14, co14, eo14⟩ := Kd.R_slice HO_7.out
              subst eo14
              go_wp2_with (first | ((with_reducible refine gate_callee (f := 44) rfl ?_); refine goesL_ (some 23) rfl rfl Try.func44 (by kernel_rfl) rfl #[.slice Ao14 t103.length co14, .int .i64 (rd t106 x17_1)] rfl (by (try simp only [List.map_toArray, List.map_cons, List.map_nil]); first | done | rfl | (simp only [List.length_drop, List.length_take]; rfl)) ?_; (with_reducible refine (slices_Contains_int_int.calls k1 _ _ t103 (rd t106 x17_1) true _ ?side1 ?side2 A12.out).mono ?_); (case side1 => repeat (first | exact (Kd.R_reads' HO_7.out).2.2 | (with_reducible refine Kd.C_alloc ?_ _) | (with_reducible refine Kd.C_drewN ?_ _) | (with_reducible refine Kd.C_drew ?_))); (case side2 => exact (Kd.R_reads' HO_7.out).2.1); rintro e w' ⟨rfl, ⟨nd, rfl⟩⟩; refine ⟨_, rfl, ?_⟩))
              go_ret
              exact ⟨by first | rfl | (simp [errW_none, errW_some] <;> rfl) | (simp [*, errW_none, errW_some] <;> rfl) | (exfalso; (try simp_all); (try omega); done), by repeat (first | (with_reducible first | exact HB.out | apply below_alloc | apply pw_below_drewN | apply below_drew1) | exact HB.out)⟩
            · replace c13 := Bool.eq_false_iff.mpr c13
              subst c13
              have H1 : (dom_Common.l0 k1 t103 t106 (t106.length : Int) (wrap64 (x17_1 + 1))) = some r := by rw [if_neg (show ¬ (false = true) by decide)] at H; exact H
              clear H
              have H := H1
              clear H1
              have H' := Aside0.mk H
              clear H
              have p109 : 0 ≤ (x17_1 : Int) := of_decide_eq_true (by first | (with_reducible assumption) | assumption)
              have q109 : x17_1 < (t106.length : Int) := of_decide_eq_true (by first | (with_reducible assumption) | assumption)
              obtain ⟨ad109, e109, hx109_0⟩ := Kd.at_int (Kd.R_reads' HO_15.out).2.2 x17_1 p109 q109
              cases e109
              replace p109 := eq_true p109
              replace q109 := eq_true q109
              obtain ⟨Ao15, co15, eo15⟩ := Kd.R_slice HO_7.out
              subst eo15
              go_wp2_with (first | ((with_reducible refine gate_callee (f := 44) rfl ?_); refine goesL_ (some 23) rfl rfl Try.func44 (by kernel_rfl) rfl #[.slice Ao15 t103.length co15, .int .i64 (rd t106 x17_1)] rfl (by (try simp only [List.map_toArray, List.map_cons, List.map_nil]); first | done | rfl | (simp only [List.length_drop, List.length_take]; rfl)) ?_; (with_reducible refine (slices_Contains_int_int.calls k1 _ _ t103 (rd t106 x17_1) false _ ?side1 ?side2 A12.out).mono ?_); (case side1 => repeat (first | exact (Kd.R_reads' HO_7.out).2.2 | (with_reducible refine Kd.C_alloc ?_ _) | (with_reducible refine Kd.C_drewN ?_ _) | (with_reducible refine Kd.C_drew ?_))); (case side2 => exact (Kd.R_reads' HO_7.out).2.1); rintro e w' ⟨rfl, ⟨nd, rfl⟩⟩; refine ⟨_, rfl, ?_⟩))
              go_roundg k1
              case measure => have := HK1.out; omega
              case rel => exact ⟨(wrap64 (x17_1 + 1)), (by first | rfl | (simp; done) | (simp [*]; done)), H', ⟨by have := HK1.out; omega⟩, ⟨by (with_reducible repeat (first | apply Kd.R_alloc | apply Kd.R_drewN | apply Kd.R_drew)); exact HO_7.out⟩, ⟨by (with_reducible repeat (first | apply Kd.R_alloc | apply Kd.R_drewN | apply Kd.R_drew)); exact HO_15.out⟩, ⟨by repeat (first | (with_reducible first | exact HB.out | apply below_alloc | apply pw_below_drewN | apply below_drew1) | exact HB.out)⟩⟩
          · rw [if_neg c11] at H
            exact absurd H (by simp)
        · rw [if_neg c10] at H
          exact absurd H (by simp)
      · rw [if_neg c9] at H
        have c9b0 : decide (x17_1 < (t106.length : Int)) = false := decide_eq_false c9
        clear c9
        obtain rfl := Option.some.inj H
        go_wp2
        go_ret
        exact ⟨by first | rfl | (simp [errW_none, errW_some] <;> rfl) | (simp [*, errW_none, errW_some] <;> rfl) | (exfalso; (try simp_all); (try omega); done), by repeat (first | (with_reducible first | exact HB.out | apply below_alloc | apply pw_below_drewN | apply below_drew1) | exact HB.out)⟩
def dom_Dominates.f (k : Nat) (l0 : List Int) (a1 : Int) (a2 : Int) : Option (Bool) := (dom_Chain.f k l0 a2).bind fun t139 => ((slices_Contains_int_int.f k t139 a1).bind fun t142 => (some t142))
theorem dom_Dominates.mono : ∀ a0 a1 a2 k, LeO (dom_Dominates.f k a0 a1 a2) (dom_Dominates.f (k + 1) a0 a1 a2) := by
  intro a0 a1 a2 k
  unfold dom_Dominates.f
  repeat' first
      | (with_reducible exact dom_Chain.mono _ _ _)
      | (with_reducible exact slices_Contains_int_int.mono _ _ _)
      | (with_reducible exact LeO.refl _)
      | (with_reducible exact LeO.none _)
      | (with_reducible refine LeO.ite ?_ ?_)
      | (with_reducible refine LeO.bind ?_ (fun _ => ?_))
      | exact dom_Chain.mono _ _ _
      | exact slices_Contains_int_int.mono _ _ _
      | exact LeO.none _
      | refine LeO.ite ?_ ?_
      | refine LeO.bind ?_ (fun _ => ?_)
set_option maxHeartbeats 8000000 in
set_option maxRecDepth 100000 in
theorem dom_Dominates.calls (k : Nat) (A0 : Option Addr) (c0 : Nat) (l0 : List Int) (a1 : Int) (a2 : Int) (r : Bool) (w : World) (hr0 : Kd.C (Kd.int .i64) w A0 l0.length l0) (hc0 : l0.length ≤ c0) (h : dom_Dominates.f k l0 a1 a2 = some r) :
    Calls Try.prog 17 #[.slice A0 l0.length c0, .int .i64 a1, .int .i64 a2] w fun e w' => e = .returned (.bool r) ∧ Below w.heap.size w w' := by
  have HR0 := Aside0.mk hr0
  have HC0 := Aside0.mk hc0
  clear hr0 hc0
  have HB := Aside0.mk (Below.refl w.heap.size w)
  have H : ((dom_Chain.f k l0 a2).bind fun t139 => ((slices_Contains_int_int.f k t139 a1).bind fun t142 => (some t142))) = some r := h
  clear h
  replace H := Option.bind_eq_some_iff.mp H
  obtain ⟨t139, A40, H⟩ := H
  replace H : ((slices_Contains_int_int.f k t139 a1).bind fun t142 => (some t142)) = some r := H
  have A4 := Aside0.mk A40
  clear A40
  replace H := Option.bind_eq_some_iff.mp H
  obtain ⟨t142, A50, H⟩ := H
  replace H : (some t142) = some r := H
  have A5 := Aside0.mk A50
  clear A50
  obtain rfl := Option.some.inj H
  go_enter Try.func17, Try.ntmps17
  go_wp2_with (first | ((with_reducible refine gate_callee (f := 25) rfl ?_); refine goesL_ (some 9) rfl rfl Try.func25 (by kernel_rfl) rfl #[.slice A0 l0.length c0, .int .i64 a2] rfl (by (try simp only [List.map_toArray, List.map_cons, List.map_nil]); first | done | rfl | (simp only [List.length_drop, List.length_take]; rfl)) ?_; (with_reducible refine (dom_Chain.calls k _ _ l0 a2 t139 _ ?side1 ?side2 A4.out).mono ?_); (case side1 => repeat (first | exact HR0.out | (with_reducible refine Kd.C_alloc ?_ _) | (with_reducible refine Kd.C_drewN ?_ _) | (with_reducible refine Kd.C_drew ?_))); (case side2 => exact HC0.out); rintro e w6 ⟨v140, rfl, ho0, hb⟩; refine ⟨_, rfl, ?_⟩; have n0_ := Aside0.mk (Kd.R_lower ho0 (below_size (by repeat (first | (with_reducible first | exact HB.out | apply below_alloc | apply pw_below_drewN | apply below_drew1) | exact HB.out)))); have n1_ := Aside0.mk (below_step (by repeat (first | (with_reducible first | exact HB.out | apply below_alloc | apply pw_below_drewN | apply below_drew1) | exact HB.out)) hb); clear HB; have HO141 := n0_; have HB := n1_; clear n0_ n1_; (try clear hb); (try clear hb2); (try clear hk); (try clear hi); (try clear ho0); obtain ⟨Ao7, co7, eo7⟩ := Kd.R_slice HO141.out; subst eo7) | ((with_reducible refine gate_callee (f := 44) rfl ?_); refine goesL_ (some 11) rfl rfl Try.func44 (by kernel_rfl) rfl #[.slice Ao7 t139.length co7, .int .i64 a1] rfl (by (try simp only [List.map_toArray, List.map_cons, List.map_nil]); first | done | rfl | (simp only [List.length_drop, List.length_take]; rfl)) ?_; (with_reducible refine (slices_Contains_int_int.calls k _ _ t139 a1 t142 _ ?side1 ?side2 A5.out).mono ?_); (case side1 => repeat (first | exact (Kd.R_reads' HO141.out).2.2 | (with_reducible refine Kd.C_alloc ?_ _) | (with_reducible refine Kd.C_drewN ?_ _) | (with_reducible refine Kd.C_drew ?_))); (case side2 => exact (Kd.R_reads' HO141.out).2.1); rintro e w' ⟨rfl, ⟨nd, rfl⟩⟩; refine ⟨_, rfl, ?_⟩))
  go_ret
  exact ⟨by first | rfl | (simp [errW_none, errW_some] <;> rfl) | (simp [*, errW_none, errW_some] <;> rfl) | (exfalso; (try simp_all); (try omega); done), by repeat (first | (with_reducible first | exact HB.out | apply below_alloc | apply pw_below_drewN | apply below_drew1) | exact HB.out)⟩
def dom_Below.l0 : Nat → List Int → Int → List Int → Int → Int → Option (List Int)
  | 0, _, _, _, _, _ => none
  | k + 1, x0, x1, x5, x8, x9 => if x9 < x8 then ((dom_Dominates.f k x0 x1 x9).bind fun t332 => (if t332 = true then (if x5.length < 17592186044416 then (dom_Below.l0 k x0 x1 (x5 ++ [x9]) x8 (wrap64 (x9 + 1))) else (none)) else (dom_Below.l0 k x0 x1 x5 x8 (wrap64 (x9 + 1))))) else (some x5)
def dom_Below.f (k : Nat) (l0 : List Int) (a1 : Int) : Option (List Int) := dom_Below.l0 k l0 a1 ([] : List Int) (l0.length : Int) 0
theorem dom_Below.mono_l : ∀ k, (∀ y0 y1 y2 y3 y4, LeO (dom_Below.l0 k y0 y1 y2 y3 y4) (dom_Below.l0 (k + 1) y0 y1 y2 y3 y4))
  | 0 => fun _ _ _ _ _ r h => by simp [dom_Below.l0] at h
  | k + 1 => by
    have ih0 := dom_Below.mono_l k
    · intro y0 y1 y2 y3 y4
      unfold dom_Below.l0
      repeat' first
      | (with_reducible exact ih0 _ _ _ _ _)
      | (with_reducible exact dom_Dominates.mono _ _ _ _)
      | (with_reducible exact LeO.refl _)
      | (with_reducible exact LeO.none _)
      | (with_reducible refine LeO.ite ?_ ?_)
      | (with_reducible refine LeO.bind ?_ (fun _ => ?_))
      | exact ih0 _ _ _ _ _
      | exact dom_Dominates.mono _ _ _ _
      | exact LeO.none _
      | refine LeO.ite ?_ ?_
      | refine LeO.bind ?_ (fun _ => ?_)
theorem dom_Below.mono : ∀ a0 a1 k, LeO (dom_Below.f k a0 a1) (dom_Below.f (k + 1) a0 a1) := by
  intro a0 a1 k
  have ih0 := dom_Below.mono_l k
  unfold dom_Below.f
  repeat' first
      | (with_reducible exact ih0 _ _ _ _ _)
      | (with_reducible exact dom_Dominates.mono _ _ _ _)
      | (with_reducible exact LeO.refl _)
      | (with_reducible exact LeO.none _)
      | (with_reducible refine LeO.ite ?_ ?_)
      | (with_reducible refine LeO.bind ?_ (fun _ => ?_))
      | exact ih0 _ _ _ _ _
      | exact dom_Dominates.mono _ _ _ _
      | exact LeO.none _
      | refine LeO.ite ?_ ?_
      | refine LeO.bind ?_ (fun _ => ?_)
set_option maxHeartbeats 8000000 in
set_option maxRecDepth 100000 in
theorem dom_Below.calls (k : Nat) (A0 : Option Addr) (c0 : Nat) (l0 : List Int) (a1 : Int) (r : List Int) (w : World) (hr0 : Kd.C (Kd.int .i64) w A0 l0.length l0) (hc0 : l0.length ≤ c0) (h : dom_Below.f k l0 a1 = some r) :
    Calls Try.prog 29 #[.slice A0 l0.length c0, .int .i64 a1] w fun e w' => ∃ v0_ : Value, e = .returned (v0_) ∧ Kd.R (Kd.int .i64) 3 w' w.heap.size (fun _ => True) v0_ r ∧ Below w.heap.size w w' := by
  have HR0 := Aside0.mk hr0
  have HC0 := Aside0.mk hc0
  clear hr0 hc0
  have HB := Aside0.mk (Below.refl w.heap.size w)
  have H : (dom_Below.l0 k l0 a1 ([] : List Int) (l0.length : Int) 0) = some r := h
  clear h
  have H' := Aside0.mk H
  clear H
  go_enter Try.func29, Try.ntmps29
  go_wp2
  go_loopg [5, 9] k (fun kq v5 v9 w' => ∃ (x5_1 : List Int) (x9_1 : Int), v9 = .int .i64 x9_1 ∧ Aside0 (dom_Below.l0 kq l0 a1 x5_1 (l0.length : Int) x9_1 = some r) ∧ Aside0 (kq ≤ k) ∧ Aside0 (Kd.R (Kd.int .i64) 3 w' w.heap.size (fun _ => True) v5 x5_1) ∧ Aside0 (Below w.heap.size w w'))
  case atStart => exact ⟨(([] : List Int)), (0), (by first | rfl | (simp; done) | (simp [*]; done)), H', ⟨Nat.le_refl _⟩, ⟨by first | exact Kd.R_nil _ _ _ _ _ | exact Kd.N_nil _ _ _ _ _ | exact Kd.V_nil _ _ _ _ _ | exact Kd.Q_nil _ _ _ _ _ | exact Kd.S_nil _ _ _ _ _⟩, ⟨by repeat (first | (with_reducible first | exact HB.out | apply below_alloc | apply pw_below_drewN | apply below_drew1) | exact HB.out)⟩⟩
  case round =>
    clear H'
    try clear c2
    try clear p2
    obtain ⟨x5_1, x9_1, rfl, HA, HK1, HO_5, HB⟩ := hrel
    cases gk with
    | zero => exact absurd HA.out (by simp [dom_Below.l0])
    | succ k1 =>
      have H := HA.out
      clear HA
      simp only [dom_Below.l0] at H
      by_cases c3 : x9_1 < (l0.length : Int)
      · rw [if_pos c3] at H
        have c3b0 : decide (x9_1 < (l0.length : Int)) = true := decide_eq_true c3
        clear c3
        replace H := Option.bind_eq_some_iff.mp H
        obtain ⟨t332, A40, H⟩ := H
        replace H : (if t332 = true then (if x5_1.length < 17592186044416 then (dom_Below.l0 k1 l0 a1 (x5_1 ++ [x9_1]) (l0.length : Int) (wrap64 (x9_1 + 1))) else (none)) else (dom_Below.l0 k1 l0 a1 x5_1 (l0.length : Int) (wrap64 (x9_1 + 1)))) = some r := H
        have A4 := Aside0.mk A40
        clear A40
        by_cases c5 : t332 = true
        · subst c5
          have H1 : (if x5_1.length < 17592186044416 then (dom_Below.l0 k1 l0 a1 (x5_1 ++ [x9_1]) (l0.length : Int) (wrap64 (x9_1 + 1))) else (none)) = some r := by rw [if_pos rfl] at H; exact H
          clear H
          have H := H1
          clear H1
          by_cases c6 : x5_1.length < 17592186044416
          · rw [if_pos c6] at H
            have LMc6 := Aside0.mk c6
            clear c6
            obtain ⟨y333, hy333⟩ : ∃ y_ : List Int, y_ = (x5_1 ++ [x9_1]) := ⟨_, rfl⟩
            replace H : (dom_Below.l0 k1 l0 a1 y333 (l0.length : Int) (wrap64 (x9_1 + 1))) = some r := by first | (rw [hy333]; with_reducible exact H) | (have H2_ := (Option.bind_some _ _).symm.trans H; rw [hy333]; with_reducible exact H2_) | (have H2_ := (Option.bind_some _ _).symm.trans H; with_reducible exact H2_) | with_reducible exact H | (rw [hy333]; exact H) | exact H
            have Ny333 := Aside0.mk hy333
            clear hy333
            have H' := Aside0.mk H
            clear H
            go_wp2_with (first | ((with_reducible refine gate_callee (f := 17) rfl ?_); refine goesL_ (some 15) rfl rfl Try.func17 (by kernel_rfl) rfl #[.slice A0 l0.length c0, .int .i64 a1, .int .i64 x9_1] rfl (by (try simp only [List.map_toArray, List.map_cons, List.map_nil]); first | done | rfl | (simp only [List.length_drop, List.length_take]; rfl)) ?_; (with_reducible refine (dom_Dominates.calls k1 _ _ l0 a1 x9_1 true _ ?side1 ?side2 A4.out).mono ?_); (case side1 => repeat (first | exact (Kd.C_below HR0.out HB.out) | (with_reducible refine Kd.C_alloc ?_ _) | (with_reducible refine Kd.C_drewN ?_ _) | (with_reducible refine Kd.C_drew ?_))); (case side2 => exact HC0.out); rintro e w7 ⟨rfl, hb⟩; refine ⟨_, rfl, ?_⟩; have n0_ := Aside0.mk (Kd.R_below (by (with_reducible repeat (first | apply Kd.R_alloc | apply Kd.R_drewN | apply Kd.R_drew)); exact HO_5.out) hb); have n1_ := Aside0.mk (below_step (by repeat (first | (with_reducible first | exact HB.out | apply below_alloc | apply pw_below_drewN | apply below_drew1) | exact HB.out)) hb); clear HO_5; clear HB; have HO_5 := n0_; have HB := n1_; clear n0_ n1_; (try clear hb); (try clear hb2); (try clear hk); (try clear hi)) | ((with_reducible refine gate_builtin (b := .append) (xs := #[.tmp 16, .tmp 18]) rfl ?_); at_builtin; refine Kd.R_append (Kd.int .i64) (w0 := w) w.heap.size rfl (.tmp 16) (.tmp 18) 25 3 (.int .i64 0) 8 rfl Try.underlying25 info3 rfl (by decide) (by omega) u5 x5_1 x9_1 [.int .i64 x9_1] (fun _ => True) (fun _ => False) rfl rfl ?aP (fun _ hk => hk.elim) ?aF ?aO ?aB ?aS ?aL ?_; (case aP => exact rfl); (case aB => exact (by repeat (first | (with_reducible first | exact HB.out | apply below_alloc | apply pw_below_drewN | apply below_drew1) | exact HB.out))); (case aF => exact (fun _ _ => trivial)); (case aO => exact (by (with_reducible repeat (first | apply Kd.R_alloc | apply Kd.R_drewN | apply Kd.R_drew)); exact HO_5.out)); (case aS => exact (below_size (by repeat (first | (with_reducible first | exact HB.out | apply below_alloc | apply pw_below_drewN | apply below_drew1) | exact HB.out)))); (case aL => have := LMc6.out; omega); intro v334 w8 ho hb hg hat; rw [← Ny333.out] at ho; have n0_ := Aside0.mk (hb); have n1_ := Aside0.mk (ho); clear HB; clear HO_5; have HB := n0_; have HO335 := n1_; clear n0_ n1_; clear ho hb hg hat))
            go_roundg k1
            case measure => have := HK1.out; omega
            case rel => exact ⟨(y333), (wrap64 (x9_1 + 1)), (by first | rfl | (simp; done) | (simp [*]; done)), H', ⟨by have := HK1.out; omega⟩, ⟨by (with_reducible repeat (first | apply Kd.R_alloc | apply Kd.R_drewN | apply Kd.R_drew)); exact HO335.out⟩, ⟨by repeat (first | (with_reducible first | exact HB.out | apply below_alloc | apply pw_below_drewN | apply below_drew1) | exact HB.out)⟩⟩
          · rw [if_neg c6] at H
            exact absurd H (by simp)
        · replace c5 := Bool.eq_false_iff.mpr c5
          subst c5
          have H1 : (dom_Below.l0 k1 l0 a1 x5_1 (l0.length : Int) (wrap64 (x9_1 + 1))) = some r := by rw [if_neg (show ¬ (false = true) by decide)] at H; exact H
          clear H
          have H := H1
          clear H1
          have H' := Aside0.mk H
          clear H
          go_wp2_with (first | ((with_reducible refine gate_callee (f := 17) rfl ?_); refine goesL_ (some 15) rfl rfl Try.func17 (by kernel_rfl) rfl #[.slice A0 l0.length c0, .int .i64 a1, .int .i64 x9_1] rfl (by (try simp only [List.map_toArray, List.map_cons, List.map_nil]); first | done | rfl | (simp only [List.length_drop, List.length_take]; rfl)) ?_; (with_reducible refine (dom_Dominates.calls k1 _ _ l0 a1 x9_1 false _ ?side1 ?side2 A4.out).mono ?_); (case side1 => repeat (first | exact (Kd.C_below HR0.out HB.out) | (with_reducible refine Kd.C_alloc ?_ _) | (with_reducible refine Kd.C_drewN ?_ _) | (with_reducible refine Kd.C_drew ?_))); (case side2 => exact HC0.out); rintro e w9 ⟨rfl, hb⟩; refine ⟨_, rfl, ?_⟩; have n0_ := Aside0.mk (Kd.R_below (by (with_reducible repeat (first | apply Kd.R_alloc | apply Kd.R_drewN | apply Kd.R_drew)); exact HO_5.out) hb); have n1_ := Aside0.mk (below_step (by repeat (first | (with_reducible first | exact HB.out | apply below_alloc | apply pw_below_drewN | apply below_drew1) | exact HB.out)) hb); clear HO_5; clear HB; have HO_5 := n0_; have HB := n1_; clear n0_ n1_; (try clear hb); (try clear hb2); (try clear hk); (try clear hi)))
          go_roundg k1
          case measure => have := HK1.out; omega
          case rel => exact ⟨(x5_1), (wrap64 (x9_1 + 1)), (by first | rfl | (simp; done) | (simp [*]; done)), H', ⟨by have := HK1.out; omega⟩, ⟨by (with_reducible repeat (first | apply Kd.R_alloc | apply Kd.R_drewN | apply Kd.R_drew)); exact HO_5.out⟩, ⟨by repeat (first | (with_reducible first | exact HB.out | apply below_alloc | apply pw_below_drewN | apply below_drew1) | exact HB.out)⟩⟩
      · rw [if_neg c3] at H
        have c3b0 : decide (x9_1 < (l0.length : Int)) = false := decide_eq_false c3
        clear c3
        obtain rfl := Option.some.inj H
        go_wp2
        go_ret
        exact ⟨_, by first | rfl | (simp [errW_none, errW_some] <;> rfl) | (simp [*, errW_none, errW_some] <;> rfl) | (exfalso; (try simp_all); (try omega); done), by (with_reducible repeat (first | apply Kd.R_alloc | apply Kd.R_drewN | apply Kd.R_drew)); exact HO_5.out, by repeat (first | (with_reducible first | exact HB.out | apply below_alloc | apply pw_below_drewN | apply below_drew1) | exact HB.out)⟩
end Go.Proofs.Ytemcmcnhpdkdfaa.P
namespace Go.Proofs.Ytemcmcnhpdkdfaa.P
open Go.RowKit Go.Proofs.YtemcmcnhpdkdfaaW.PrintWords
def okB (l : List Int) (b : Nat) : Bool :=
  decide (((b : Int) = 0 ↔ rd l b = -1) ∧ -2 ≤ rd l b ∧ rd l b < (l.length : Int)) && (!decide (0 ≤ rd l b ∧ rd l (rd l b) = -2) && (decide (rd l b = -2) || decide ((0 : Int) ∈ upL l l.length l.length b)))
def saneB (l : List Int) : Bool := (List.range l.length).all (okB l)
theorem range_drop {n i : Nat} (h : i < n) : (List.range n).drop i = i :: (List.range n).drop (i + 1) := by
  rw [List.drop_eq_getElem_cons (by simpa using h)]
  simp
theorem sane_l0 (l : List Int) (hl : l.length ≤ 1000000) : ∀ d i : Nat, i + d = l.length → Ev (fun k => dom_Sane.l0 k l l (l.length : Int) (i : Int)) (((List.range l.length).drop i).all (okB l))
  | 0, i, hd => by
    rw [List.drop_eq_nil_of_le (by simp; omega)]
    exact Ev.step (f := fun _ => some true) (fun k => by rw [dom_Sane.l0, if_neg (by omega)]) (Ev.now _)
  | d + 1, i, hd => by
    have hi : i < l.length := by omega
    rw [range_drop hi, List.all_cons]
    have next := sane_l0 l hl d (i + 1) (by omega)
    obtain ⟨x, ex⟩ : ∃ x, x = rd l (i : Int) := ⟨_, rfl⟩
    have hw := wrap_succ (i := i) (by omega)

    have j1yes : Ev (fun k => dom_Sane.j1 k l (i : Int) x l (l.length : Int) (i : Int) true) false :=
      Ev.step (f := fun _ => some false) (fun k => by rw [dom_Sane.j1, if_pos rfl]) (Ev.now _)
    have j1no : -2 ≤ x → x < (l.length : Int) → Ev (fun k => dom_Sane.j1 k l (i : Int) x l (l.length : Int) (i : Int) false) ((!decide (0 ≤ x ∧ rd l x = -2) && (decide (x = -2) || decide ((0 : Int) ∈ upL l l.length l.length i))) && ((List.range l.length).drop (i + 1)).all (okB l)) := by
      intro h1 h2
      have hr : dom_rises.f l (i : Int) = some (decide ((0 : Int) ∈ upL l l.length l.length i)) := by unfold dom_rises.f; rw [if_pos hl]
      have rest : Ev (fun k => if x = -2 then dom_Sane.l0 k l l (l.length : Int) (wrap64 ((i : Int) + 1)) else (dom_rises.f l (i : Int)).bind fun t => if t = true then dom_Sane.l0 k l l (l.length : Int) (wrap64 ((i : Int) + 1)) else some false) ((decide (x = -2) || decide ((0 : Int) ∈ upL l l.length l.length i)) && ((List.range l.length).drop (i + 1)).all (okB l)) := by
        by_cases e : x = -2
        · simp only [if_pos e, hw, decide_eq_true e, Bool.true_or, Bool.true_and]
          exact next
        · simp only [if_neg e, hr, Option.bind_some, hw, decide_eq_false e, Bool.false_or]
          by_cases e2 : (0 : Int) ∈ upL l l.length l.length i
          · simp only [decide_eq_true e2, if_true, Bool.true_and]
            exact next
          · simp only [decide_eq_false e2, Bool.false_eq_true, if_false, Bool.false_and]
            exact Ev.now _
      by_cases h0 : 0 ≤ x
      · by_cases e3 : rd l x = -2
        · refine Ev.step (f := fun _ => some false) (fun k => by rw [dom_Sane.j1, if_neg (by simp), if_pos h0, if_pos h0, if_pos h2, if_pos e3]) ?_
          rw [decide_eq_true (And.intro h0 e3), Bool.not_true, Bool.false_and, Bool.false_and]
          exact Ev.now _
        · refine Ev.step (fun k => by rw [dom_Sane.j1, if_neg (by simp), if_pos h0, if_pos h0, if_pos h2, if_neg e3]) ?_
          rw [decide_eq_false (fun h => e3 h.2), Bool.not_false, Bool.true_and]
          exact rest
      · refine Ev.step (fun k => by rw [dom_Sane.j1, if_neg (by simp), if_neg h0]) ?_
        rw [decide_eq_false (fun h => h0 h.1), Bool.not_false, Bool.true_and]
        exact rest
    unfold okB
    rw [← ex]
    by_cases h1 : ((i : Int) = 0 ↔ x = -1)
    · have hne : ¬ ((((i : Int) == 0) != (x == -1)) = true) := by
        by_cases a : (i : Int) = 0
        · have := h1.1 a
          simp [a, this]
        · have : ¬ x = -1 := fun e => a (h1.2 e)
          have a' : ((i : Int) == 0) = false := by simpa using a
          have b' : (x == -1) = false := by simpa using this
          rw [a', b']
          simp
      by_cases h2 : x < -2
      · refine Ev.step (f := fun k => dom_Sane.j1 k l (i : Int) x l (l.length : Int) (i : Int) true) (fun k => ?_) ?_
        · rw [dom_Sane.l0, if_pos (by omega), if_pos (by omega), if_pos (by omega), ← ex, if_neg hne, if_pos h2]
        · rw [decide_eq_false (fun h => by omega), Bool.false_and, Bool.false_and]
          exact j1yes
      · by_cases h3 : x ≥ (l.length : Int)
        · refine Ev.step (f := fun k => dom_Sane.j1 k l (i : Int) x l (l.length : Int) (i : Int) true) (fun k => ?_) ?_
          · rw [dom_Sane.l0, if_pos (by omega), if_pos (by omega), if_pos (by omega), ← ex, if_neg hne, if_neg h2, decide_eq_true h3]
          · rw [decide_eq_false (fun h => by omega), Bool.false_and, Bool.false_and]
            exact j1yes
        · refine Ev.step (f := fun k => dom_Sane.j1 k l (i : Int) x l (l.length : Int) (i : Int) false) (fun k => ?_) ?_
          · rw [dom_Sane.l0, if_pos (by omega), if_pos (by omega), if_pos (by omega), ← ex, if_neg hne, if_neg h2, decide_eq_false h3]
          · rw [decide_eq_true ⟨h1, by omega, by omega⟩, Bool.true_and]
            exact j1no (by omega) (by omega)
    · have hne : ((((i : Int) == 0) != (x == -1)) = true) := by
        by_cases a : (i : Int) = 0
        · have : ¬ x = -1 := fun e => h1 ⟨fun _ => e, fun _ => a⟩
          have b' : (x == -1) = false := by simpa using this
          rw [a, b']
          decide
        · have : x = -1 := Classical.byContradiction fun e => h1 ⟨fun h => absurd h a, fun h => absurd h e⟩
          have a' : ((i : Int) == 0) = false := by simpa using a
          rw [this, a']
          decide
      refine Ev.step (f := fun k => dom_Sane.j1 k l (i : Int) x l (l.length : Int) (i : Int) true) (fun k => ?_) ?_
      · rw [dom_Sane.l0, if_pos (by omega), if_pos (by omega), if_pos (by omega), ← ex, if_pos hne]
      · rw [decide_eq_false (fun h => h1 h.1), Bool.false_and, Bool.false_and]
        exact j1yes
theorem sane_ev (l : List Int) (hl : l.length ≤ 1000000) : Ev (fun k => dom_Sane.f k l) (saneB l) := sane_l0 l hl l.length 0 (by omega)
def chainB (l : List Int) (b : Int) : List Int := if isN l.length b = true ∧ rd l b ≠ -2 ∧ saneB l = true then upL l l.length l.length b else []
theorem chain_ev (l : List Int) (hl : l.length ≤ 1000000) (b : Int) : Ev (fun k => dom_Chain.f k l b) (chainB l b) := by
  unfold dom_Chain.f chainB
  by_cases h1 : isN l.length b = true
  · by_cases h2 : rd l b = -2
    · simp only [if_pos h1, if_pos h2]
      rw [if_neg (fun h => h.2.1 h2)]
      exact Ev.now _
    · simp only [if_pos h1, if_neg h2]
      refine Ev.bind (sane_ev l hl) ?_
      by_cases h3 : saneB l = true
      · simp only [if_pos h3, if_pos hl]
        rw [if_pos ⟨h1, h2, h3⟩]
        exact Ev.now _
      · simp only [if_neg h3]
        rw [if_neg (fun h => h3 h.2.2)]
        exact Ev.now _
  · simp only [if_neg h1]
    rw [if_neg (fun h => h1 h.1)]
    exact Ev.now _
theorem chainB_len (l : List Int) (b : Int) : (chainB l b).length ≤ l.length := by
  unfold chainB
  split
  · exact upL_len _ _ _ _
  · exact Nat.zero_le _
theorem index_l0 (l : List Int) (x : Int) (hl : l.length ≤ 9223372036854775807) : ∀ d i : Nat, i + d = l.length → ∃ r, Ev (fun k => slices_Index_int_int.l0 k l x (l.length : Int) (i : Int)) r ∧ decide (r ≥ 0) = decide (x ∈ l.drop i)
  | 0, i, hd => by
    rw [List.drop_eq_nil_of_le (by omega)]
    exact ⟨-1, Ev.step (f := fun _ => some (-1)) (fun k => by rw [slices_Index_int_int.l0, if_neg (by omega)]) (Ev.now _), by simp⟩
  | d + 1, i, hd => by
    have hi : i < l.length := by omega
    rw [List.drop_eq_getElem_cons hi]
    by_cases e : x = l[i]
    · refine ⟨(i : Int), Ev.step (f := fun _ => some (i : Int)) (fun k => by rw [slices_Index_int_int.l0, if_pos (by omega), if_pos (by omega), if_pos (by omega), rd_nat' hi, if_pos e]) (Ev.now _), ?_⟩
      rw [decide_eq_true (by omega), decide_eq_true (by rw [e]; exact List.mem_cons_self)]
    · obtain ⟨r, h1, h2⟩ := index_l0 l x hl d (i + 1) (by omega)
      refine ⟨r, Ev.step (f := fun k => slices_Index_int_int.l0 k l x (l.length : Int) ((i + 1 : Nat) : Int)) (fun k => by rw [slices_Index_int_int.l0, if_pos (by omega), if_pos (by omega), if_pos (by omega), rd_nat' hi, if_neg e, wrap_succ (by omega)]) h1, ?_⟩
      rw [h2]
      have : (x ∈ l[i] :: l.drop (i + 1)) ↔ x ∈ l.drop (i + 1) := by rw [List.mem_cons]; exact ⟨fun h => h.elim (fun h => absurd h e) id, .inr⟩
      simp only [this]
theorem contains_ev (l : List Int) (x : Int) (hl : l.length ≤ 9223372036854775807) : Ev (fun k => slices_Contains_int_int.f k l x) (decide (x ∈ l)) := by
  obtain ⟨r, h1, h2⟩ := index_l0 l x hl l.length 0 (by omega)
  refine Ev.bind (f := fun _ t => some (decide (t ≥ 0))) h1 ?_
  rw [h2, List.drop_zero]
  exact Ev.now _
theorem dominates_ev (l : List Int) (hl : l.length ≤ 1000000) (a b : Int) : Ev (fun k => dom_Dominates.f k l a b) (decide (a ∈ chainB l b)) := by
  have hc := chainB_len l b
  exact Ev.bind (f := fun k t => (slices_Contains_int_int.f k t a).bind fun u => some u) (chain_ev l hl b) (Ev.bind (contains_ev _ a (by omega)) (Ev.now _))
def commonB (l : List Int) (a b : Int) : Int := ((chainB l a).find? fun x => decide (x ∈ chainB l b)).getD (-1)
theorem common_l0 (p q : List Int) (hp : p.length ≤ 9223372036854775806) (hq : q.length ≤ 9223372036854775807) : ∀ d i : Nat, i + d = p.length → Ev (fun k => dom_Common.l0 k q p (p.length : Int) (i : Int)) (((p.drop i).find? fun x => decide (x ∈ q)).getD (-1))
  | 0, i, hd => by
    rw [List.drop_eq_nil_of_le (by omega)]
    exact Ev.step (f := fun _ => some (-1)) (fun k => by rw [dom_Common.l0, if_neg (by omega)]) (Ev.now _)
  | d + 1, i, hd => by
    have hi : i < p.length := by omega
    rw [List.drop_eq_getElem_cons hi, List.find?_cons]
    refine Ev.step (f := fun k => (slices_Contains_int_int.f k q p[i]).bind fun t => if t = true then some p[i] else dom_Common.l0 k q p (p.length : Int) ((i + 1 : Nat) : Int)) (fun k => by rw [dom_Common.l0, if_pos (by omega), if_pos (by omega), if_pos (by omega), rd_nat' hi, wrap_succ (by omega)]) ?_
    refine Ev.bind (contains_ev q p[i] hq) ?_
    by_cases e : p[i] ∈ q
    · simp only [decide_eq_true e, if_true, Option.getD_some]
      exact Ev.now _
    · simp only [decide_eq_false e, Bool.false_eq_true, if_false]
      exact common_l0 p q hp hq d (i + 1) (by omega)
theorem common_ev (l : List Int) (hl : l.length ≤ 1000000) (a b : Int) : Ev (fun k => dom_Common.f k l a b) (commonB l a b) := by
  have h1 := chainB_len l a
  have h2 := chainB_len l b
  have h := common_l0 (chainB l a) (chainB l b) (by omega) (by omega) (chainB l a).length 0 (by omega)
  rw [List.drop_zero] at h
  exact Ev.bind (f := fun k t => (dom_Chain.f k l a).bind fun u => dom_Common.l0 k t u (u.length : Int) 0) (chain_ev l hl b) (Ev.bind (f := fun k u => dom_Common.l0 k (chainB l b) u (u.length : Int) 0) (chain_ev l hl a) h)
def belowB (l : List Int) (a : Int) : List Int := ((List.range l.length).filter fun b : Nat => decide (a ∈ chainB l (b : Int))).map fun b : Nat => (b : Int)
theorem below_l0 (l : List Int) (hl : l.length ≤ 1000000) (a : Int) : ∀ d i : Nat, i + d = l.length → ∀ out : List Int, out.length ≤ i → Ev (fun k => dom_Below.l0 k l a out (l.length : Int) (i : Int)) (out ++ (((List.range l.length).drop i).filter fun b : Nat => decide (a ∈ chainB l (b : Int))).map fun b : Nat => (b : Int))
  | 0, i, hd, out, _ => by
    rw [List.drop_eq_nil_of_le (by simp; omega), List.filter_nil, List.map_nil, List.append_nil]
    exact Ev.step (f := fun _ => some out) (fun k => by rw [dom_Below.l0, if_neg (by omega)]) (Ev.now _)
  | d + 1, i, hd, out, ho => by
    have hi : i < l.length := by omega
    refine Ev.step (f := fun k => (dom_Dominates.f k l a (i : Int)).bind fun t => if t = true then (if out.length < 17592186044416 then dom_Below.l0 k l a (out ++ [(i : Int)]) (l.length : Int) ((i + 1 : Nat) : Int) else none) else dom_Below.l0 k l a out (l.length : Int) ((i + 1 : Nat) : Int)) (fun k => by rw [dom_Below.l0, if_pos (by omega), wrap_succ (by omega)]) ?_
    refine Ev.bind (dominates_ev l hl a i) ?_
    rw [range_drop hi, List.filter_cons]
    by_cases e : a ∈ chainB l (i : Int)
    · simp only [decide_eq_true e, if_true, if_pos (show out.length < 17592186044416 by omega)]
      have := below_l0 l hl a d (i + 1) (by omega) (out ++ [(i : Int)]) (by rw [List.length_append, List.length_singleton]; omega)
      rw [List.append_assoc] at this
      exact this
    · simp only [decide_eq_false e, Bool.false_eq_true, if_false]
      exact below_l0 l hl a d (i + 1) (by omega) out (by omega)
theorem below_ev (l : List Int) (hl : l.length ≤ 1000000) (a : Int) : Ev (fun k => dom_Below.f k l a) (belowB l a) := by
  have h := below_l0 l hl a l.length 0 (by omega) [] (by simp)
  rw [List.drop_zero, List.nil_append] at h
  exact h
end Go.Proofs.Ytemcmcnhpdkdfaa.P
namespace Go.Proofs.Ytemcmcnhpdkdfaa.P
open Go.RowKit Go.Proofs.YtemcmcnhpdkdfaaW.PrintWords
section
variable {c : List (List Int)} {l : List Int}
def Rc (c : List (List Int)) (b : Int) : Prop := Node c b ∧ Way c 0 b
theorem IsDom.isN (h : IsDom c l) {b : Int} : isN l.length b = true ↔ Node c b := by rw [isN_iff, h.len]; exact Iff.rfl
theorem IsDom.top (h : IsDom c l) : idT l 0 = none := by
  unfold idT
  by_cases h0 : 0 < c.length
  · rw [if_neg (fun k => by rw [h.zero h0] at k; omega)]
  · rw [if_neg (fun k => by rw [h.len] at k; omega)]
theorem IsDom.idT_par (h : IsDom c l) {b p : Int} (hb : Rc c b) (hp : idT l b = some p) : Rc c p ∧ rd l b = p ∧ b ≠ 0 := by
  have hb0 : b ≠ 0 := fun e => by rw [e, h.top] at hp; cases hp
  obtain ⟨q, h1, h2, h3, h4⟩ := h.par b hb.1 hb.2 hb0
  rw [hp] at h1
  obtain rfl := Option.some.inj h1
  exact ⟨⟨h3, h4⟩, h2, hb0⟩
theorem IsDom.up_rc (h : IsDom c l) {b x : Int} (hb : Rc c b) (hu : Up (idT l) b x) : Rc c x := by
  induction hu with
  | refl => exact hb
  | step h1 _ ih => exact ih (h.idT_par hb h1).1
theorem IsDom.rd0 (h : IsDom c l) {b : Int} (hb : Rc c b) : rd l b ≠ -2 := by
  by_cases e : b = 0
  · subst e
    have h0 := (hb.1).2
    rw [h.zero (by omega)]
    decide
  · obtain ⟨p, _, h2, h3, _⟩ := h.par b hb.1 hb.2 e
    have := h3.1
    omega
theorem IsDom.lost_iff (h : IsDom c l) {b : Int} (hb : Node c b) : rd l b = -2 ↔ ¬ Way c 0 b :=
  ⟨fun e hw => h.rd0 ⟨hb, hw⟩ e, h.lost b hb⟩
theorem IsDom.mem_up (h : IsDom c l) {f : Int → Nat} (hf : ∀ b p, idT l b = some p → f p < f b) : ∀ (k : Nat) (b : Int), Rc c b → f b < k → ∀ x, x ∈ upL l l.length k b ↔ Up (idT l) b x
  | 0, b, _, hk, _ => by omega
  | k + 1, b, hb, hk, x => by
    rw [upL_yes (h.isN.2 hb.1), List.mem_cons]
    by_cases e : b = 0
    · subst e
      have h0 := hb.1.2
      rw [h.zero (by omega), upL_no (isN_no (by omega))]
      constructor
      · rintro (e | e)
        · rw [e]; exact .refl _
        · simp at e
      · intro hu
        rcases hu.cases with e | ⟨p, hp, _⟩
        · exact .inl e
        · rw [h.top] at hp; cases hp
    · obtain ⟨p, h1, h2, h3, h4⟩ := h.par b hb.1 hb.2 e
      have := hf b p h1
      rw [h2, h.mem_up hf k p ⟨h3, h4⟩ (by omega) x]
      constructor
      · rintro (e | hu)
        · rw [e]; exact .refl _
        · exact .step h1 hu
      · intro hu
        rcases hu.cases with e | ⟨q, hq, k⟩
        · exact .inl e
        · rw [h1] at hq
          obtain rfl := Option.some.inj hq
          exact .inr k
theorem IsDom.up_fuel (h : IsDom c l) {f : Int → Nat} (hf : ∀ b p, idT l b = some p → f p < f b) : ∀ (k k' : Nat) (b : Int), Rc c b → f b < k → f b < k' → upL l l.length k b = upL l l.length k' b
  | 0, _, b, _, hk, _ => by omega
  | k + 1, 0, b, _, _, hk => by omega
  | k + 1, k' + 1, b, hb, hk, hk' => by
    rw [upL_yes (h.isN.2 hb.1), upL_yes (h.isN.2 hb.1)]
    congr 1
    by_cases e : b = 0
    · subst e
      have h0 := hb.1.2
      rw [h.zero (by omega), upL_no (isN_no (by omega)), upL_no (isN_no (by omega))]
    · obtain ⟨p, h1, h2, h3, h4⟩ := h.par b hb.1 hb.2 e
      have := hf b p h1
      rw [h2]
      exact h.up_fuel hf k k' p ⟨h3, h4⟩ (by omega) (by omega)
theorem IsDom.top_up (h : IsDom c l) {b : Int} (hb : Rc c b) : Up (idT l) b 0 := (h.doms b hb.1 hb.2 0).2 (fun k => k.left rfl)
theorem IsDom.sane (h : IsDom c l) : saneB l = true := by
  obtain ⟨f, hf, hfl⟩ := h.rank
  unfold saneB
  rw [List.all_eq_true]
  intro i hi
  have hin : i < l.length := by simpa using hi
  have hn : Node c (i : Int) := ⟨by omega, by rw [← h.len]; omega⟩
  unfold okB
  by_cases hw : Way c 0 (i : Int)
  · have hb : Rc c (i : Int) := ⟨hn, hw⟩
    have hup : (0 : Int) ∈ upL l l.length l.length (i : Int) := (h.mem_up hf l.length i hb (by rw [h.len]; exact hfl _ hn hw) 0).2 (h.top_up hb)
    rw [decide_eq_true hup, Bool.or_true, Bool.and_true]
    by_cases e : (i : Int) = 0
    · have e1 : rd l (i : Int) = -1 := by rw [e]; exact h.zero (by have := hn.2; omega)
      rw [e1]
      simp [e]
      omega
    · obtain ⟨p, h1, h2, h3, h4⟩ := h.par _ hn hw e
      have h5 := h3.1
      have h6 := h3.2
      have h7 := h.rd0 (b := p) ⟨h3, h4⟩
      have hlen := h.len
      rw [h2]
      simp only [Bool.and_eq_true, decide_eq_true_eq, Bool.not_eq_true', decide_eq_false_iff_not]
      exact ⟨⟨⟨fun h => absurd h e, fun h => by omega⟩, by omega, by omega⟩, fun k => h7 k.2⟩
  · have e : (i : Int) ≠ 0 := fun e => hw (by rw [e]; exact .refl _)
    rw [h.lost _ hn hw]
    simp
    exact ⟨fun k => e (by omega), by omega⟩
theorem IsDom.mem_chain (h : IsDom c l) {b x : Int} : x ∈ chainB l b ↔ Rc c b ∧ Up (idT l) b x := by
  obtain ⟨f, hf, hfl⟩ := h.rank
  unfold chainB
  by_cases hb : Rc c b
  · rw [if_pos ⟨h.isN.2 hb.1, h.rd0 hb, h.sane⟩, h.mem_up hf l.length b hb (by rw [h.len]; exact hfl b hb.1 hb.2)]
    exact ⟨fun k => ⟨hb, k⟩, fun k => k.2⟩
  · rw [if_neg (fun k => hb ⟨h.isN.1 k.1, Classical.byContradiction fun hw => k.2.1 (h.lost b (h.isN.1 k.1) hw)⟩)]
    exact ⟨fun k => by simp at k, fun k => absurd k.1 hb⟩
theorem IsDom.chain_nil (h : IsDom c l) {b : Int} (hb : ¬ Rc c b) : chainB l b = [] := by
  cases hc : chainB l b with
  | nil => rfl
  | cons x xs => exact absurd ((h.mem_chain (x := x)).1 (by rw [hc]; simp)).1 hb
theorem IsDom.chain_cons (h : IsDom c l) {b : Int} (hb : Rc c b) : chainB l b = b :: (if b = 0 then [] else chainB l (rd l b)) := by
  obtain ⟨f, hf, hfl⟩ := h.rank
  have hlt := hfl b hb.1 hb.2
  rw [← h.len] at hlt
  unfold chainB
  rw [if_pos ⟨h.isN.2 hb.1, h.rd0 hb, h.sane⟩]
  obtain ⟨m, hm⟩ : ∃ m, l.length = m + 1 := ⟨l.length - 1, by omega⟩
  rw [h.up_fuel hf l.length (m + 1) b hb hlt (by omega), upL_yes (h.isN.2 hb.1)]
  congr 1
  by_cases e : b = 0
  · subst e
    rw [if_pos rfl, h.zero (by have := hb.1.2; omega), upL_no (isN_no (by omega))]
  · rw [if_neg e]
    obtain ⟨p, h1, h2, h3, h4⟩ := h.par b hb.1 hb.2 e
    have := hf b p h1
    rw [h2, if_pos ⟨h.isN.2 h3, h.rd0 ⟨h3, h4⟩, h.sane⟩]
    exact h.up_fuel hf m l.length p ⟨h3, h4⟩ (by omega) (by omega)
def Dm (c : List (List Int)) (a b : Int) : Prop := Rc c b ∧ ¬ Av c a 0 b
theorem IsDom.dm (h : IsDom c l) {a b : Int} : a ∈ chainB l b ↔ Dm c a b := by
  rw [h.mem_chain]
  exact ⟨fun k => ⟨k.1, (h.doms b k.1.1 k.1.2 a).1 k.2⟩, fun k => ⟨k.1, (h.doms b k.1.1 k.1.2 a).2 k.2⟩⟩
theorem IsDom.dm_up (h : IsDom c l) {a b : Int} : Dm c a b ↔ Rc c b ∧ Up (idT l) b a := by rw [← h.dm, h.mem_chain]
theorem IsDom.dm_trans (h : IsDom c l) {a b d : Int} (k : Dm c a b) (m : Dm c b d) : Dm c a d := by
  rw [h.dm_up] at k m ⊢
  exact ⟨m.1, m.2.trans k.2⟩
theorem IsDom.dm_refl (h : IsDom c l) {b : Int} : Dm c b b ↔ Rc c b := by
  rw [h.dm_up]
  exact ⟨fun k => k.1, fun k => ⟨k, .refl _⟩⟩
theorem IsDom.up_rank (_h : IsDom c l) {f : Int → Nat} (hf : ∀ b p, idT l b = some p → f p < f b) {b x : Int} (hu : Up (idT l) b x) : f x ≤ f b ∧ (f x = f b → x = b) := by
  induction hu with
  | refl => exact ⟨Nat.le_refl _, fun _ => rfl⟩
  | step h1 _ ih =>
    have := hf _ _ h1
    have := ih.1
    exact ⟨by omega, fun e => by omega⟩
theorem IsDom.dm_anti (h : IsDom c l) {a b : Int} (k : Dm c a b) (m : Dm c b a) : a = b := by
  obtain ⟨f, hf, _⟩ := h.rank
  rw [h.dm_up] at k m
  have h1 := h.up_rank hf k.2
  have h2 := h.up_rank hf m.2
  exact h1.2 (by omega)
theorem IsDom.dm_line (h : IsDom c l) {a b d : Int} (k : Dm c a d) (m : Dm c b d) : Dm c a b ∨ Dm c b a := by
  rw [h.dm_up] at k m
  rcases k.2.line m.2 with u | u
  · exact .inr (h.dm_up.2 ⟨h.up_rc k.1 k.2, u⟩)
  · exact .inl (h.dm_up.2 ⟨h.up_rc m.1 m.2, u⟩)
theorem IsDom.dm_zero (_h : IsDom c l) {b : Int} : Dm c 0 b ↔ Rc c b := ⟨fun k => k.1, fun k => ⟨k, fun q => q.left rfl⟩⟩
theorem IsDom.dm_par (h : IsDom c l) {a b : Int} (hb : Rc c b) (hb0 : b ≠ 0) : Dm c a b ↔ a = b ∨ Dm c a (rd l b) := by
  rw [← h.dm, ← h.dm, h.chain_cons hb, if_neg hb0, List.mem_cons]
theorem IsDom.common (h : IsDom c l) {a b : Int} : (Rc c a ∧ Rc c b → Dm c (commonB l a b) a ∧ Dm c (commonB l a b) b ∧ ∀ x, Dm c x a → Dm c x b → Dm c x (commonB l a b)) ∧ (¬ (Rc c a ∧ Rc c b) → commonB l a b = -1) := by
  unfold commonB
  cases hf : (chainB l a).find? (fun x => decide (x ∈ chainB l b)) with
  | none =>
    rw [List.find?_eq_none] at hf
    refine ⟨fun k => ?_, fun _ => rfl⟩
    have := hf 0 (h.dm.2 (h.dm_zero.2 k.1))
    simp only [decide_eq_true_eq] at this
    exact absurd (h.dm.2 (h.dm_zero.2 k.2)) this
  | some x =>
    rw [Option.getD_some]
    obtain ⟨hx, zs, bs, e, hno⟩ := List.find?_eq_some_iff_append.1 hf
    simp only [decide_eq_true_eq] at hx
    have hxa : Dm c x a := h.dm.1 (by rw [e]; simp)
    have hxb := h.dm.1 hx
    refine ⟨fun _ => ⟨hxa, hxb, fun y hya hyb => ?_⟩, fun k => absurd ⟨hxa.1, hxb.1⟩ k⟩

    rcases h.dm_line hxa hya with k | k
    ·
      have key : ∀ (zs' : List Int) (d : Int), Rc c d → chainB l d = zs' ++ x :: bs → (∀ z ∈ zs', ¬ Dm c z b) → Dm c y d → Dm c y x := by
        intro zs'
        induction zs' with
        | nil =>
          intro d hd e _ hy
          rw [h.chain_cons hd] at e
          injection e with e1 _
          rw [← e1]
          exact hy
        | cons z zs' ih =>
          intro d hd e hno hy
          rw [h.chain_cons hd] at e
          injection e with e1 e2
          subst e1
          by_cases ed : d = 0
          · rw [if_pos ed] at e2
            simp at e2
          · rw [if_neg ed] at e2
            rcases (h.dm_par hd ed).1 hy with e3 | e3
            · exact absurd (by rw [← e3]; exact hyb) (hno d (by simp))
            · obtain ⟨p, h1, h2, h3, h4⟩ := h.par d hd.1 hd.2 ed
              rw [h2] at e2 e3
              exact ih p ⟨h3, h4⟩ e2 (fun z hz => hno z (by simp [hz])) e3
      exact key zs a hxa.1 e (fun z hz k => by have := hno z hz; simp at this; exact this (h.dm.2 k)) hya
    · exact k
end
end Go.Proofs.Ytemcmcnhpdkdfaa.P
namespace Go.Proofs.Ytemcmcnhpdkdfaa.P
open Go.RowKit Go.Shelf Go.Lib Go.Sort Go.Proofs.YtemcmcnhpdkdfaaW.PrintWords Go.Proofs.YtemcmcnhpdkdfaaW.PrintLast Go.Proofs.YtemcmcnhpdkdfaaW.PrintMore
def anewB (bel : List Int) (top b : Int) : Bool := decide (b ≠ top) && decide (b ∈ bel)
set_option maxHeartbeats 4000000 in
set_option maxRecDepth 100000 in
theorem anew_c (bel : List Int) (top b : Int) (W : World) (Bt Bb : Nat) (Ab : Option Addr) (cb : Nat) (h1 : W.cell? ⟨Bt, 0, none⟩ = some (.int .i64 top)) (h2 : W.cell? ⟨Bb, 0, none⟩ = some (.slice Ab bel.length cb)) (h3 : dI.C W Ab bel.length bel) (hc : bel.length ≤ cb) (hb : bel.length ≤ 1000000) :
    Calls Try.prog 85 #[.int .i64 b, .pointer (some ⟨Bt, 0, none⟩), .pointer (some ⟨Bb, 0, none⟩)] W fun e w' => e = .returned (.bool (anewB bel top b)) ∧ ∃ m, w' = W.drewN m := by
  obtain ⟨k, hk⟩ := contains_ev bel b (by omega)
  have HCT := Aside0.mk (slices_Contains_int_int.calls k Ab cb bel b _ W h3 hc (hk k (Nat.le_refl _)))
  obtain ⟨q, eq⟩ : ∃ q, q = decide (b ∈ bel) := ⟨_, rfl⟩
  unfold anewB
  rw [← eq] at HCT ⊢
  obtain ⟨nb, enb⟩ : ∃ nb, nb = bel.length := ⟨_, rfl⟩
  rw [← enb] at h2 HCT
  clear hk h3 hc hb enb eq
  by_cases hbt : b = top
  · subst hbt
    have c1 : (b != b) = false := by simp
    have c2 : (b == b) = true := by simp
    have HR : Aside0 ((decide (b ≠ b) && q) = false) := ⟨by simp⟩
    rw [HR.out]
    clear HCT
    go_enter Try.func85, Try.ntmps85
    go_wp2
    go_ret
    exact ⟨rfl, 0, rfl⟩
  · have c1 : (b != top) = true := by simpa using hbt
    have c2 : (b == top) = false := by simpa using hbt
    have HR : Aside0 ((decide (b ≠ top) && q) = q) := ⟨by simp [hbt]⟩
    rw [HR.out]
    clear hbt
    go_enter Try.func85, Try.ntmps85
    go_wp2_with (go_at_call 44; refine HCT.out.mono ?_; rintro e w3 ⟨rfl, m3, rfl⟩)
    go_ret
    exact ⟨rfl, m3, rfl⟩
def lostSo (L : Int → Bool) (d : List Int) : Nat → List Int
  | 0 => d
  | i + 1 => if L (i : Int) = true then (lostSo L d i).set i (-2) else lostSo L d i
def unkSo (L : Int → Bool) (o d : List Int) : Nat → List Int
  | 0 => d
  | k + 1 => if L (o.getD k 0) = true then (unkSo L o d k).set (o.getD k 0).toNat (-3) else unkSo L o d k
def leftSo (L : Int → Bool) (o : List Int) : Nat → List Int
  | 0 => []
  | k + 1 => if L (o.getD k 0) = true then leftSo L o k ++ [o.getD k 0] else leftSo L o k
theorem leftSo_take (L : Int → Bool) (o : List Int) : ∀ k, k ≤ o.length → leftSo L o k = (o.take k).filter L
  | 0, _ => by simp [leftSo]
  | k + 1, hk => by
    have e : o.getD k 0 = o[k] := by rw [List.getD_eq_getElem?_getD, List.getElem?_eq_getElem (by omega)]; rfl
    rw [leftSo, e, leftSo_take L o k (by omega), List.take_succ_eq_append_getElem (by omega), List.filter_append]
    split
    · rename_i h; rw [List.filter_cons_of_pos h, List.filter_nil]
    · rename_i h; rw [List.filter_cons_of_neg h, List.filter_nil, List.append_nil]
theorem leftSo_all (L : Int → Bool) (o : List Int) : leftSo L o o.length = o.filter L := by rw [leftSo_take L o _ (Nat.le_refl _), List.take_length]
theorem leftSo_len (L : Int → Bool) (o : List Int) (k : Nat) (hk : k ≤ o.length) : (leftSo L o k).length ≤ k := by
  rw [leftSo_take L o k hk]
  refine Nat.le_trans (List.length_filter_le _ _) ?_
  rw [List.length_take]
  exact Nat.min_le_left ..
structure IdU (w W : World) (s n ga gd cd : Nat) (vg vp vo : Value) (pre : List (List Int)) (ord at' d : List Int) : Prop where
  bel : Below w.heap.size w W
  base : w.heap.size ≤ s ∧ w.heap.size ≤ ga ∧ w.heap.size ≤ gd
  ne : s ≠ ga ∧ s ≠ gd ∧ ga ≠ gd
  blk : W.heap[s]? = some (.cells #[vg, vp, vo, .slice (some ⟨ga, 0, none⟩) n n, .slice (some ⟨gd, 0, none⟩) n cd] 98 (0, 0))
  rat : dI.R 3 W w.heap.size (fun k => k = ga) (.slice (some ⟨ga, 0, none⟩) n n) at'
  rd_ : dI.R 3 W w.heap.size (fun k => k = gd) (.slice (some ⟨gd, 0, none⟩) n cd) d
  po : dI.R 3 W w.heap.size (fun k => k ≠ s ∧ k ≠ ga ∧ k ≠ gd) vo ord
  pp : Kd.S dG 25 W w.heap.size (fun k => k ≠ s ∧ k ≠ ga ∧ k ≠ gd) vp pre
theorem IdU_make {w wT wO wR WT WO WR W : World} {s n ga gd cd : Nat} {vg vT vO : Value} {pre : List (List Int)} {ord l : List Int} (hll : l.length = n)
    (hoT : Kd.S dG 25 wT WT.heap.size (fun _ => True) vT pre) (hbT : Below WT.heap.size WT wT) (hxT : Below wT.heap.size wT W)
    (hoO : dI.R 3 wO WO.heap.size (fun _ => True) vO ord) (hbO : Below WO.heap.size WO wO) (hxO : Below wO.heap.size wO W)
    (hoR : dI.R 3 wR WR.heap.size (fun _ => True) (.slice (some ⟨gd, 0, none⟩) n cd) l) (hbR : Below WR.heap.size WR wR) (hxR : Below wR.heap.size wR W)
    (hS : W.heap[s]? = some (.cells #[vg, vT, vO, .slice (some ⟨ga, 0, none⟩) n n, .slice (some ⟨gd, 0, none⟩) n cd] 98 (0, 0)))
    (hM : W.heap[ga]? = some (.cells (madeCells #[.int .i64 0] n) 3 (0, 0)))
    (hb : Below w.heap.size w W) (hn0 : 0 < n) (hn : n ≤ 100000)
    (h : w.heap.size ≤ WT.heap.size ∧ wT.heap.size ≤ WO.heap.size ∧ wO.heap.size ≤ WR.heap.size ∧ wR.heap.size ≤ s ∧ ga < s ∧ w.heap.size ≤ ga ∧ (ga < WT.heap.size ∨ wT.heap.size ≤ ga) ∧ (ga < WO.heap.size ∨ wO.heap.size ≤ ga) ∧ (ga < WR.heap.size ∨ wR.heap.size ≤ ga)) :
    IdU w W s n ga gd cd vg vT vO pre ord (List.replicate n 0) l := by
  have s1 := hbT.size
  have s2 := hbO.size
  have s3 := hbR.size
  obtain ⟨g', c', e, hg1, hg2, _⟩ := Kd.R_form hoR (by rw [hll]; exact hn0)
  injection e with e _ _
  injection e with e
  injection e with e _ _
  subst e
  refine ⟨hb, ⟨by omega, by omega, by omega⟩, ⟨by omega, by omega, by omega⟩, hS, ?_, ?_, ?_, ?_⟩
  · refine ints_R ⟨by simp, .inr ⟨ga, n, _, by simp, by omega, hM, by simp, by unfold maxLen; simp; omega, by simp [size_madeCells], by simp [toList_madeCells_one]⟩⟩ (fun k hk => ?_)
    simp only [Value.ownBlock] at hk
    exact (Option.some.inj hk).symm
  · refine Kd.R_lower (Kd.R_mono (Kd.R_tight rfl (Kd.R_below hoR hxR)) (fun k hk => ?_)) (by omega)
    simp only [Value.ownBlock] at hk
    exact Option.some.inj hk
  · exact Kd.R_lower (Kd.R_mono (Kd.R_below (Kd.R_bound hoO) hxO) (fun k hk => by have h1 := hk.2.1; have h2 := hk.2.2.1; omega)) (by omega)
  · exact Kd.S_lower (Kd.S_mono (Kd.S_below (Kd.S_bound hoT) hxT) (fun k hk => by have h1 := hk.2.1; have h2 := hk.2.2.1; omega)) (by omega)
structure UdS (w W : World) (s n ga gd gf cd : Nat) (vg vp vo : Value) (pre : List (List Int)) (ord at' d : List Int) : Prop where
  bel : Below w.heap.size w W
  base : w.heap.size ≤ s ∧ w.heap.size ≤ ga ∧ w.heap.size ≤ gd ∧ w.heap.size ≤ gf
  ne : s ≠ ga ∧ s ≠ gd ∧ ga ≠ gd
  lt : s < gf ∧ ga < gf ∧ gd < gf ∧ gf < W.heap.size
  blk : W.heap[s]? = some (.cells #[vg, vp, vo, .slice (some ⟨ga, 0, none⟩) n n, .slice (some ⟨gd, 0, none⟩) n cd] 98 (0, 0))
  rat : dI.R 3 W w.heap.size (fun k => k = ga) (.slice (some ⟨ga, 0, none⟩) n n) at'
  rd_ : dI.R 3 W w.heap.size (fun k => k = gd) (.slice (some ⟨gd, 0, none⟩) n cd) d
  po : dI.R 3 W w.heap.size (fun k => k ≠ s ∧ k ≠ ga ∧ k ≠ gd ∧ k < gf) vo ord
  pp : Kd.S dG 25 W w.heap.size (fun k => k ≠ s ∧ k ≠ ga ∧ k ≠ gd ∧ k < gf) vp pre
  fnd : ∃ cur : Array Value, W.heap[gf]? = some (.cells cur 4 (0, 0)) ∧ cur.size = n
theorem IdU.found {w W : World} {s n ga gd cd : Nat} {vg vp vo : Value} {pre : List (List Int)} {ord at' d : List Int} (h : IdU w W s n ga gd cd vg vp vo pre ord at' d) (cur : Array Value) (hc : cur.size = n) : UdS w (W.alloc (.cells cur 4)) s n ga gd W.heap.size cd vg vp vo pre ord at' d := by
  have hs : s < W.heap.size := by
    by_cases hk : s < W.heap.size
    · exact hk
    · have := h.blk
      rw [Array.getElem?_eq_none (by omega)] at this
      cases this
  have ha := Kd.R_lt h.rat ga rfl
  have hd := Kd.R_lt h.rd_ gd rfl
  have hb : Below W.heap.size W (W.alloc (.cells cur 4)) := below_alloc (Below.refl _ _) _
  refine ⟨below_alloc h.bel _, ⟨h.base.1, h.base.2.1, h.base.2.2, h.bel.size⟩, h.ne, ⟨hs, ha, hd, by rw [size_alloc1]; omega⟩, (heap_bel h.blk hb), Kd.R_below h.rat hb, Kd.R_below h.rd_ hb, ?_, ?_, cur, heap_new W _ _ rfl, hc⟩
  · exact Kd.R_mono (Kd.R_below (Kd.R_bound h.po) hb) (fun k hk => ⟨hk.1.1, hk.1.2.1, hk.1.2.2, hk.2.2.1⟩)
  · exact Kd.S_mono (Kd.S_below (Kd.S_bound h.pp) hb) (fun k hk => ⟨hk.1.1, hk.1.2.1, hk.1.2.2, hk.2.2.1⟩)
section
variable {w W : World} {s n ga gd gf cd : Nat} {vg vp vo : Value} {pre : List (List Int)} {ord at' d : List Int}
theorem UdS.drewN (h : UdS w W s n ga gd gf cd vg vp vo pre ord at' d) (m : Nat) : UdS w (W.drewN m) s n ga gd gf cd vg vp vo pre ord at' d :=
  ⟨pw_below_drewN h.bel m, h.base, h.ne, h.lt, h.blk, Kd.R_move h.rat (fun _ _ => rfl), Kd.R_move h.rd_ (fun _ _ => rfl), Kd.R_move h.po (fun _ _ => rfl), Kd.S_step (ok := _) (Kd.S_bound h.pp |> fun h => Kd.S_mono h (fun _ hk => hk.1)) (fun _ _ _ => rfl), h.fnd⟩
theorem UdS.solv (h : UdS w W s n ga gd gf cd vg vp vo pre ord at' d) : SolvU W s n ga n gd cd vg vp vo at' d :=
  ⟨h.blk, fun i hi => (R_int_cell h.rat i hi).1, fun i hi => (R_int_cell h.rd_ i hi).1⟩
theorem size_setCell1 (W : World) (p : Addr) (v : Value) : (W.setCell p v).heap.size = W.heap.size := by
  cases p; simp [World.setCell]
theorem UdS.setAt (h : UdS w W s n ga gd gf cd vg vp vo pre ord at' d) (i : Nat) (x : Int) : UdS w (W.setCell ⟨ga, i, none⟩ (.int .i64 x)) s n ga gd gf cd vg vp vo pre ord (at'.set i x) d := by
  have hne := h.ne
  have hlt := h.lt
  have hm : ∀ k, k ≠ ga → (W.setCell ⟨ga, i, none⟩ (.int .i64 x)).heap[k]? = W.heap[k]? := fun k hk => Below.heap_setCell _ _ _ _ hk
  refine ⟨h.bel.setCell h.base.2.1 _, h.base, h.ne, ⟨hlt.1, hlt.2.1, hlt.2.2.1, by rw [size_setCell1]; exact hlt.2.2.2⟩, (hm s hne.1).trans h.blk, ?_, Kd.R_move h.rd_ (fun k hk => hm k (by rw [hk]; exact fun e => hne.2.2 e.symm)), Kd.R_move h.po (fun k hk => hm k hk.2.1), Kd.S_step h.pp (fun k hk _ => hm k hk.2.1), ?_⟩
  · have := Kd.R_putn h.rat (i : Int) x
    rw [Int.toNat_natCast] at this
    exact this
  · obtain ⟨cur, h1, h2⟩ := h.fnd
    exact ⟨cur, (hm gf (by omega)).trans h1, h2⟩
theorem UdS.setD (h : UdS w W s n ga gd gf cd vg vp vo pre ord at' d) (i : Nat) (x : Int) : UdS w (W.setCell ⟨gd, i, none⟩ (.int .i64 x)) s n ga gd gf cd vg vp vo pre ord at' (d.set i x) := by
  have hne := h.ne
  have hlt := h.lt
  have hm : ∀ k, k ≠ gd → (W.setCell ⟨gd, i, none⟩ (.int .i64 x)).heap[k]? = W.heap[k]? := fun k hk => Below.heap_setCell _ _ _ _ hk
  refine ⟨h.bel.setCell h.base.2.2.1 _, h.base, h.ne, ⟨hlt.1, hlt.2.1, hlt.2.2.1, by rw [size_setCell1]; exact hlt.2.2.2⟩, (hm s hne.2.1).trans h.blk, Kd.R_move h.rat (fun k hk => hm k (by rw [hk]; exact hne.2.2)), ?_, Kd.R_move h.po (fun k hk => hm k hk.2.2.1), Kd.S_step h.pp (fun k hk _ => hm k hk.2.2.1), ?_⟩
  · have := Kd.R_putn h.rd_ (i : Int) x
    rw [Int.toNat_natCast] at this
    exact this
  · obtain ⟨cur, h1, h2⟩ := h.fnd
    exact ⟨cur, (hm gf (by omega)).trans h1, h2⟩
theorem UdS.setF (h : UdS w W s n ga gd gf cd vg vp vo pre ord at' d) (i : Nat) (v : Value) : UdS w (W.setCell ⟨gf, i, none⟩ v) s n ga gd gf cd vg vp vo pre ord at' d := by
  have hlt := h.lt
  have hm : ∀ k, k ≠ gf → (W.setCell ⟨gf, i, none⟩ v).heap[k]? = W.heap[k]? := fun k hk => Below.heap_setCell _ _ _ _ hk
  obtain ⟨cur, h1, h2⟩ := h.fnd
  obtain ⟨cur', h3, h4⟩ := (show ∃ cur', (W.setCell ⟨gf, i, none⟩ v).heap[gf]? = some (.cells cur' 4 (0, 0)) ∧ cur'.size = cur.size by
    simp only [World.setCell, Array.getElem?_modify, if_true, h1]
    exact ⟨_, rfl, by simp⟩)
  exact ⟨h.bel.setCell h.base.2.2.2 _, h.base, h.ne, ⟨hlt.1, hlt.2.1, hlt.2.2.1, by rw [size_setCell1]; exact hlt.2.2.2⟩, (hm s (by omega)).trans h.blk, Kd.R_move h.rat (fun k hk => hm k (by rw [hk]; omega)), Kd.R_move h.rd_ (fun k hk => hm k (by rw [hk]; omega)), Kd.R_move h.po (fun k hk => hm k (by omega)), Kd.S_step h.pp (fun k hk _ => hm k (by omega)), cur', h3, h4.trans h2⟩
theorem UdS.fcell (h : UdS w W s n ga gd gf cd vg vp vo pre ord at' d) {i : Nat} (hi : i < n) : (∃ v, W.cell? ⟨gf, i, none⟩ = some v) ∧ W.frozen? ⟨gf, i, none⟩ = false := by
  obtain ⟨cur, h1, h2⟩ := h.fnd
  refine ⟨⟨cur[i]'(by omega), by simp [World.cell?, h1, show i < cur.size by omega]⟩, by simp [World.frozen?, h1]⟩
theorem UdS.grown {w1 : World} {ob : Option Nat} (h : UdS w W s n ga gd gf cd vg vp vo pre ord at' d) (hg : W.grownBy w1 ob) (hob : ∀ k, ob = some k → gf < k) : UdS w w1 s n ga gd gf cd vg vp vo pre ord at' d := by
  have hlt := h.lt
  have hba := h.base
  have hm : ∀ k, k ≤ gf → w1.heap[k]? = W.heap[k]? := fun k hk => hg.block k (by omega) (fun e => by have := hob k e.symm; omega)
  have hb := h.bel.grown hg h.bel.size (fun k e => by have := hob k e; omega)
  obtain ⟨cur, h1, h2⟩ := h.fnd
  have hsz : gf < w1.heap.size := by
    have h3 := hm gf (Nat.le_refl _)
    rw [h1] at h3
    by_cases hk : gf < w1.heap.size
    · exact hk
    · rw [Array.getElem?_eq_none (by omega)] at h3
      cases h3
  exact ⟨hb, h.base, h.ne, ⟨hlt.1, hlt.2.1, hlt.2.2.1, hsz⟩, (hm s (by omega)).trans h.blk, Kd.R_move h.rat (fun k hk => hm k (by rw [hk]; omega)), Kd.R_move h.rd_ (fun k hk => hm k (by rw [hk]; omega)), Kd.R_move h.po (fun k hk => hm k (by omega)), Kd.S_step h.pp (fun k hk _ => hm k (by omega)), cur, (hm gf (Nat.le_refl _)).trans h1, h2⟩
end
end Go.Proofs.Ytemcmcnhpdkdfaa.P
namespace Go.Proofs.Ytemcmcnhpdkdfaa.P
open Go.RowKit Go.Shelf Go.Lib Go.Sort Go.Proofs.YtemcmcnhpdkdfaaW.PrintWords Go.Proofs.YtemcmcnhpdkdfaaW.PrintLast Go.Proofs.YtemcmcnhpdkdfaaW.PrintMore
set_option maxHeartbeats 8000000 in
set_option maxRecDepth 100000 in
theorem solve_c (A0 : Option Addr) (c0 : Nat) (l0 : List (List Int)) (Al : Option Addr) (cl : Nat) (l : List Int) (bel : List Int) (top : Int) (Bt Bb : Nat) (Ab : Option Addr) (cb : Nat) (k : Nat) (o dfin : List Int) (w : World)
    (hr0 : Kd.C (Kd.slice 3 (Kd.int .i64)) w A0 l0.length l0) (hc0 : l0.length ≤ c0) (hf : fits l0 = true) (hn0 : 0 < l0.length) (ho : graph_Order.f l0 0 = some o) (hon : ∀ x ∈ o, 0 ≤ x ∧ x < (l0.length : Int)) (hol : o.length ≤ l0.length) (ho0 : 0 < o.length)
    (hl : dI.C w Al l.length l) (hll : l.length = l0.length)
    (h1 : w.cell? ⟨Bt, 0, none⟩ = some (.int .i64 top)) (h2 : w.cell? ⟨Bb, 0, none⟩ = some (.slice Ab bel.length cb)) (h3 : dI.C w Ab bel.length bel) (hcb : bel.length ≤ cb) (hbb : bel.length ≤ 1000000)
    (hit : itF l0.length (atSo o l0.length o.length) (turn (clean l0)) (leftSo (anewB bel top) o o.length) k (unkSo (anewB bel top) o (lostSo (anewB bel top) l l0.length) o.length) = some dfin) :
    Calls Try.prog 63 #[.slice A0 l0.length c0, .slice Al l.length cl, .func (.func 85) #[] #[.pointer (some ⟨Bt, 0, none⟩), .pointer (some ⟨Bb, 0, none⟩)]] w fun e w' => ∃ v0_ : Value, e = .returned v0_ ∧ dI.R 3 w' w.heap.size (fun _ => True) v0_ dfin ∧ Below w.heap.size w w' := by
  have HT := Aside0.mk (fun W (hW : Below w.heap.size w W) => graph_Turn.calls A0 c0 l0 (turn (clean l0)) W (Kd.C_below hr0 hW) hc0 (by unfold graph_Turn.f; rw [if_pos hf]))
  have HO := Aside0.mk (fun W (hW : Below w.heap.size w W) => graph_Order.calls A0 c0 l0 0 o W (Kd.C_below hr0 hW) hc0 ho)
  have hn : l0.length ≤ 100000 := by
    have := hf
    unfold fits at this
    simp at this
    exact this.1
  have HR := Aside0.mk (fun W (hW : Below w.heap.size w W) => clone_c Al cl l W (Kd.C_below hl hW) (by omega))
  have HNW := Aside0.mk (fun W (hW : Below w.heap.size w W) (b : Int) => anew_c bel top b W Bt Bb Ab cb (cell_bel hW h1) (cell_bel hW h2) (Kd.C_below h3 hW) hcb hbb)
  obtain ⟨L, eL⟩ : ∃ L, L = anewB bel top := ⟨_, rfl⟩
  rw [← eL] at hit HNW
  obtain ⟨n, en⟩ : ∃ n, n = l0.length := ⟨_, rfl⟩
  rw [hll] at HR ⊢
  rw [← en] at HT HO HR hn hn0 hon hol hit hll ⊢
  have HIT := Aside0.mk hit
  have HON := Aside0.mk hon
  have HPR := Aside0.mk (pre_rows hf)
  have HPL : Aside0 ((turn (clean l0)).length = n) := ⟨by rw [turn_len, clean_len, en]⟩
  have HLL := Aside0.mk hll
  have hne0 : ((n : Int) == 0) = false := beq_eq_false_iff_ne.2 (by omega)
  have hmk := run_make_row' (P := Try.prog) 25 3 (.int .i64 0) 8 Try.underlying25 info3 rfl .i64 .i64 n (by omega) (by omega)
  have hmk2 := run_make_row' (P := Try.prog) 32 4 (.bool false) 1 Try.underlying32 info4 rfl .i64 .i64 n (by omega) (by omega)
  obtain ⟨m, em⟩ : ∃ m, m = o.length := ⟨_, rfl⟩
  rw [← em] at hol HIT ho0
  have HEM := Aside0.mk em
  clear hr0 hc0 hf ho en hon hit hl hll h1 h2 h3 hcb hbb eL em
  go_enter Try.func63, Try.ntmps63
  go_upto_region 1 with (fail)
  go_cut [7] from 18 to 29 (fun v7 wx => ∃ s ga gd cd vp vo, v7 = .pointer (some ⟨s, 0, none⟩) ∧ Aside0 (IdU w wx s n ga gd cd (.slice A0 n c0) vp vo (turn (clean l0)) o (List.replicate n 0) l))
  case first =>
    go_region_with (first
      | (go_at_call 18; refine bel_call (HT.out _) (by repeat (first | exact Below.refl _ _ | apply pw_below_drewN | apply below_drew1 | apply below_drew | apply below_alloc)) ?_; rintro e wT ⟨vT, rfl, hoT, hbT⟩ hW; obtain ⟨AT, cT, rfl, _⟩ := Kd.S_reads hoT; have HOT := Aside0.mk hoT; have HBc := Aside0.mk (bel_next hW hbT); have HBT := Aside0.mk hbT; clear hoT hbT hW)
      | (go_at_call 41; refine bel_call (HO.out _) (by repeat (first | exact Below.refl _ _ | exact HBc.out | apply pw_below_drewN | apply below_drew1 | apply below_drew | apply below_alloc)) ?_; rintro e wO ⟨vO, rfl, hoO, hbO⟩ hW; obtain ⟨AO, cO, rfl, _⟩ := Kd.R_reads hoO; have HOO := Aside0.mk hoO; have HBc := Aside0.mk (bel_next hW hbO); have HBO := Aside0.mk hbO; clear hoO hbO hW)
      | (go_at_call 46; refine bel_call (HR.out _) (by repeat (first | exact Below.refl _ _ | exact HBc.out | apply pw_below_drewN | apply below_drew1 | apply below_drew | apply below_alloc)) ?_; rintro e wR ⟨vR, rfl, hoR, hbR⟩ hW; obtain ⟨gd, cd, rfl, hgd, hgd2, _⟩ := Kd.R_form hoR (by rw [HLL.out]; exact hn0); rw [HLL.out] at hoR ⊢; have HOR := Aside0.mk hoR; have HBc := Aside0.mk (bel_next hW hbR); have HBR := Aside0.mk hbR; clear hoR hbR hW))
    all_goals (go_wp2_with (fail))
    all_goals go_meet
    all_goals exact ⟨_, _, _, _, _, _, rfl, ⟨IdU_make HLL.out HOT.out HBT.out (by repeat (first | with_reducible exact Below.refl _ _ | apply below_alloc | apply pw_below_drewN | refine bel_next ?_ HBR.out | refine bel_next ?_ HBO.out | refine bel_next ?_ HBT.out)) HOO.out HBO.out (by repeat (first | with_reducible exact Below.refl _ _ | apply below_alloc | apply pw_below_drewN | refine bel_next ?_ HBR.out | refine bel_next ?_ HBO.out | refine bel_next ?_ HBT.out)) HOR.out HBR.out (by repeat (first | with_reducible exact Below.refl _ _ | apply below_alloc | apply pw_below_drewN | refine bel_next ?_ HBR.out | refine bel_next ?_ HBO.out | refine bel_next ?_ HBT.out)) (by repeat (first | exact heap_new _ _ _ (by simp) | apply heap_old | refine heap_bel ?_ HBR.out | refine heap_bel ?_ HBO.out | refine heap_bel ?_ HBT.out)) (by repeat (first | exact heap_new _ _ _ (by simp) | apply heap_old | refine heap_bel ?_ HBR.out | refine heap_bel ?_ HBO.out | refine heap_bel ?_ HBT.out)) (by repeat (first | with_reducible exact Below.refl _ _ | apply below_alloc | apply pw_below_drewN | refine bel_next ?_ HBR.out | refine bel_next ?_ HBO.out | refine bel_next ?_ HBT.out)) hn0 hn (by have h1 := HBT.out.size; have h2 := HBO.out.size; have h3 := HBR.out.size; simp only [size_alloc1, size_drew1] at h1 h2 h3 ⊢; omega)⟩⟩
  case rest =>
    obtain ⟨s, ga, gd, cd, vp, vo, rfl, HS⟩ := hcut
    rw [HEM.out] at ho0
    obtain ⟨go, co, rfl, _, _, _⟩ := Kd.R_form HS.out.po ho0
    rw [← HEM.out] at HS ho0
    clear HT HO HR hmk
    go_upto_region 3 with (fail)
    have HS1 : Aside0 (UdS w (wc.alloc (.cells (madeCells #[.bool false] n) 4)) s n ga gd wc.heap.size cd (.slice A0 n c0) vp (.slice (some ⟨go, 0, none⟩) m co) (turn (clean l0)) o (atSo o n 0) l) := ⟨HS.out.found _ (by simp [size_madeCells])⟩
    obtain ⟨W1, hW1⟩ : ∃ W1, W1 = wc.alloc (.cells (madeCells #[.bool false] n) 4) := ⟨_, rfl⟩
    obtain ⟨gf, egf⟩ : ∃ gf, gf = wc.heap.size := ⟨_, rfl⟩
    rw [← hW1, ← egf] at HS1
    rw [← hW1, ← egf]
    clear hW1 egf hmk2 HS
    obtain ⟨z0, z1, z2, z3, z4⟩ := cells5 HS1.out.blk
    clear z0 z1 z3 z4
    go_wp2
    go_loopw [38] (fun v38 w' => ∃ i : Nat, i ≤ m ∧ v38 = .int .i64 i ∧ Aside0 (UdS w w' s n ga gd gf cd (.slice A0 n c0) vp (.slice (some ⟨go, 0, none⟩) m co) (turn (clean l0)) o (atSo o n i) l)) (fun v38 _ => m - (intOf v38).toNat)
    case atStart => exact ⟨0, Nat.zero_le _, rfl, HS1⟩
    case round =>
      clear HS1 z2
      obtain ⟨i, hi, rfl, HI⟩ := hrel
      by_cases hlt : i < m
      · obtain ⟨b, eb⟩ : ∃ b, b = o.getD i 0 := ⟨_, rfl⟩
        have hb : 0 ≤ b ∧ b < (n : Int) := by
          have hil : i < o.length := by have := HEM.out; omega
          have := HON.out (o.getD i 0) (by rw [List.getD_eq_getElem?_getD, List.getElem?_eq_getElem hil]; exact List.getElem_mem hil)
          rw [← eb] at this
          exact this
        obtain ⟨x, rfl⟩ : ∃ x : Nat, b = (x : Int) := ⟨b.toNat, by omega⟩
        have hx : x < n := by omega
        have co_ := (R_int_cell HI.out.po i hlt).1
        rw [← eb] at co_
        have HEB := Aside0.mk eb
        clear eb hb
        obtain ⟨z0, z1, z2, z3, z4⟩ := cells5 HI.out.blk
        have ca := HI.out.solv.at_ x hx
        have fa := (R_int_cell HI.out.rat x hx).2
        obtain ⟨⟨fv, cf⟩, ff⟩ := HI.out.fcell hx
        have hne1 : ga ≠ gf := by have := HI.out.lt; omega
        clear z0 z1 z2 z4
        go_wp2
        go_roundw
        case rel =>
          refine ⟨i + 1, by omega, by go_num, ⟨?_⟩⟩
          rw [atSo, ← HEB.out, Int.toNat_natCast]
          exact (HI.out.setAt x (i : Int)).setF x _
        case measure => simp [intOf]; omega
      · obtain rfl : i = m := by omega
        obtain ⟨at', eat⟩ : ∃ at', at' = atSo o n i := ⟨_, rfl⟩
        rw [← eat] at HI HIT
        clear eat
        go_wp2
        go_loopw [56] (fun v56 w' => ∃ j : Nat, j ≤ n ∧ v56 = .int .i64 j ∧ Aside0 (UdS w w' s n ga gd gf cd (.slice A0 n c0) vp (.slice (some ⟨go, 0, none⟩) i co) (turn (clean l0)) o at' (lostSo L l j))) (fun v56 _ => n - (intOf v56).toNat)
        case atStart => exact ⟨0, Nat.zero_le _, rfl, HI⟩
        case round =>
          clear HI
          obtain ⟨j, hj, rfl, HI⟩ := hrel
          by_cases hjn : j < n
          · obtain ⟨q, eq⟩ : ∃ q, q = L (j : Int) := ⟨_, rfl⟩
            have HQ := Aside0.mk (HNW.out wr HI.out.bel (j : Int))
            rw [← eq] at HQ
            obtain ⟨z0, z1, z2, z3, z4⟩ := cells5 HI.out.blk
            have cd_ := HI.out.solv.d_ j hjn
            have fd := (R_int_cell HI.out.rd_ j hjn).2
            have HEQ := Aside0.mk eq
            clear z0 z1 z2 z3 eq
            cases q with
            | true =>
              go_wp2_with (go_at_call 85; refine HQ.out.mono ?_; rintro e w2 ⟨rfl, m2, rfl⟩; have fz : (wr.drewN m2).frozen? ⟨gd, j, none⟩ = false := fd)
              go_roundw
              case rel =>
                refine ⟨j + 1, by omega, by go_num, ⟨?_⟩⟩
                rw [lostSo, if_pos HEQ.out.symm]
                exact (HI.out.drewN m2).setD j (-2)
              case measure => simp [intOf]; omega
            | false =>
              go_wp2_with (go_at_call 85; refine HQ.out.mono ?_; rintro e w2 ⟨rfl, m2, rfl⟩)
              go_roundw
              case rel =>
                refine ⟨j + 1, by omega, by go_num, ⟨?_⟩⟩
                rw [lostSo, if_neg (by rw [← HEQ.out]; decide)]
                exact HI.out.drewN m2
              case measure => simp [intOf]; omega
          · obtain rfl : j = n := by omega
            obtain ⟨d1, ed1⟩ : ∃ d1, d1 = lostSo L l j := ⟨_, rfl⟩
            rw [← ed1] at HI HIT
            clear ed1
            obtain ⟨z0, z1, z2, z3, z4⟩ := cells5 HI.out.blk
            clear z0 z1 z3 z4
            go_wp2
            go_loopw [11, 74] (fun v11 v74 w' => ∃ p : Nat, p ≤ i ∧ v74 = .int .i64 p ∧ Aside0 (UdS w w' s j ga gd gf cd (.slice A0 j c0) vp (.slice (some ⟨go, 0, none⟩) i co) (turn (clean l0)) o at' (unkSo L o d1 p)) ∧ Aside0 (dI.R 3 w' w.heap.size (fun k => gf < k) v11 (leftSo L o p))) (fun _ v74 _ => i - (intOf v74).toNat)
            case atStart => exact ⟨0, Nat.zero_le _, rfl, HI, ⟨Kd.R_nil _ _ _ _ _⟩⟩
            case round =>
              clear HI z2
              obtain ⟨p, hp, rfl, HI, HR⟩ := hrel
              by_cases hlt2 : p < i
              · obtain ⟨b, eb⟩ : ∃ b, b = o.getD p 0 := ⟨_, rfl⟩
                have hb : 0 ≤ b ∧ b < (j : Int) := by
                  have hil : p < o.length := by have := HEM.out; omega
                  have := HON.out (o.getD p 0) (by rw [List.getD_eq_getElem?_getD, List.getElem?_eq_getElem hil]; exact List.getElem_mem hil)
                  rw [← eb] at this
                  exact this
                obtain ⟨x, rfl⟩ : ∃ x : Nat, b = (x : Int) := ⟨b.toNat, by omega⟩
                have hx : x < j := by omega
                have co_ := (R_int_cell HI.out.po p hlt2).1
                rw [← eb] at co_
                have HEB := Aside0.mk eb
                clear eb hb
                obtain ⟨q, eq⟩ : ∃ q, q = L (x : Int) := ⟨_, rfl⟩
                have HQ := Aside0.mk (HNW.out wr HI.out.bel (x : Int))
                rw [← eq] at HQ
                obtain ⟨z0, z1, z2, z3, z4⟩ := cells5 HI.out.blk
                have cd_ := HI.out.solv.d_ x hx
                have fd := (R_int_cell HI.out.rd_ x hx).2
                have HEQ := Aside0.mk eq
                clear z0 z1 z2 z3 eq
                cases q with
                | true =>
                  go_upto_region 20 with (go_at_call 85; refine HQ.out.mono ?_; rintro e w2 ⟨rfl, m2, rfl⟩; have fz : (wr.drewN m2).frozen? ⟨gd, x, none⟩ = false := fd)
                  have HU3 : Aside0 (UdS w ((wr.drewN m2).setCell ⟨gd, x, none⟩ (.int .i64 (-3))) s j ga gd gf cd (.slice A0 j c0) vp (.slice (some ⟨go, 0, none⟩) i co) (turn (clean l0)) o at' (unkSo L o d1 (p + 1))) := ⟨by
                    rw [unkSo, ← HEB.out, if_pos HEQ.out.symm, Int.toNat_natCast]
                    exact (HI.out.drewN m2).setD x (-3)⟩
                  have HR3 : Aside0 (dI.R 3 ((wr.drewN m2).setCell ⟨gd, x, none⟩ (.int .i64 (-3))) w.heap.size (fun k => gf < k) u11 (leftSo L o p)) := ⟨Kd.R_move (Kd.R_drewN HR.out m2) (fun k hk => Below.heap_setCell _ _ _ _ (by have := HI.out.lt; show k ≠ gd; omega))⟩
                  have HL4 : Aside0 ((leftSo L o p).length ≤ 1000000) := ⟨by have := leftSo_len L o p (by have := HEM.out; omega); omega⟩
                  obtain ⟨W3, hW3⟩ : ∃ W3, W3 = (wr.drewN m2).setCell ⟨gd, x, none⟩ (.int .i64 (-3)) := ⟨_, rfl⟩
                  rw [← hW3] at HU3 HR3
                  rw [← hW3]
                  clear hW3 cd_ fd fz z4 co_ HI HR
                  have HBw := Aside0.mk HU3.out.bel
                  go_wp2_with (at_builtin; refine Kd.R_append (Kd.int .i64) (w0 := w) w.heap.size rfl (.tmp 87) (.tmp 89) 25 3 (.int .i64 0) 8 rfl Try.underlying25 info3 rfl (by decide) (by omega) u11 (leftSo L o p) (x : Int) [.int .i64 x] (fun k => gf < k) (fun _ => False) rfl rfl ?aP (fun _ hk => hk.elim) ?aF ?aO ?aB ?aS ?aL ?_; (case aP => exact rfl); (case aB => exact HBw.out); (case aF => exact (fun k hk => Nat.lt_of_lt_of_le HU3.out.lt.2.2.2 hk)); (case aO => exact HR3.out); (case aS => exact HBw.out.size); (case aL => have := HL4.out; omega); intro v8 w8 ho8 _ hg8 _; have HO8 := Aside0.mk ho8; have HI8 := Aside0.mk (HU3.out.grown hg8 (fun k e => HR3.out.1 k e)); clear ho8 hg8)
                  go_roundw
                  case rel => exact ⟨p + 1, by omega, by go_num, HI8, ⟨by rw [leftSo, ← HEB.out, if_pos HEQ.out.symm]; exact HO8.out⟩⟩
                  case measure => simp [intOf]; omega
                | false =>
                  go_wp2_with (go_at_call 85; refine HQ.out.mono ?_; rintro e w2 ⟨rfl, m2, rfl⟩)
                  go_roundw
                  case rel =>
                    refine ⟨p + 1, by omega, by go_num, ⟨?_⟩, ⟨?_⟩⟩
                    · rw [unkSo, ← HEB.out, if_neg (by rw [← HEQ.out]; decide)]
                      exact HI.out.drewN m2
                    · rw [leftSo, ← HEB.out, if_neg (by rw [← HEQ.out]; decide)]
                      exact Kd.R_drewN HR.out m2
                  case measure => simp [intOf]; omega
              · obtain rfl : p = i := by omega
                have hfo : ∀ x ∈ leftSo L o p, 0 ≤ x ∧ x < (j : Int) := fun x hx => by
                  rw [leftSo_take L o p (by have := HEM.out; omega)] at hx
                  exact HON.out x (List.mem_of_mem_take (List.mem_filter.1 hx).1)
                have hfl := leftSo_len L o p (by have := HEM.out; omega)
                obtain ⟨lf, elf⟩ : ∃ lf, lf = leftSo L o p := ⟨_, rfl⟩
                obtain ⟨d2, ed2⟩ : ∃ d2, d2 = unkSo L o d1 p := ⟨_, rfl⟩
                rw [← elf] at HR HIT hfo hfl
                rw [← ed2] at HI HIT
                obtain ⟨pre, epre⟩ : ∃ pre, pre = turn (clean l0) := ⟨_, rfl⟩
                rw [← epre] at HI HIT HPR HPL
                have HFO := Aside0.mk hfo
                clear elf ed2 epre hfo HNW
                obtain ⟨gp, cp, e, _, _, _⟩ := Kd.S_form HI.out.pp (by rw [HPL.out]; exact hn0)
                rw [HPL.out] at e
                subst e
                obtain ⟨AL, cL, rfl⟩ := Kd.R_slice HR.out
                obtain ⟨ql, eql⟩ : ∃ ql, ql = lf.length := ⟨_, rfl⟩
                have HQL := Aside0.mk eql
                rw [← eql] at HR hfl
                rw [← eql]
                clear eql
                go_wp2
                go_loopg [15] k (fun kq v15 w' => ∃ (c : Bool) (d : List Int), v15 = .bool c ∧ Aside0 (UdS w w' s j ga gd gf cd (.slice A0 j c0) (.slice (some ⟨gp, 0, none⟩) j cp) (.slice (some ⟨go, 0, none⟩) p co) pre o at' d) ∧ Aside0 (dI.R 3 w' w.heap.size (fun k => gf < k) (.slice AL ql cL) lf) ∧ Aside0 ((c = true ∧ itF j at' pre lf kq d = some dfin) ∨ (c = false ∧ d = dfin)))
                case atStart => exact ⟨true, d2, rfl, HI, HR, ⟨.inl ⟨rfl, HIT.out⟩⟩⟩
                case round =>
                  clear HI HIT HR
                  obtain ⟨c, d, rfl, HI, HR, HC⟩ := hrel
                  cases c with
                  | false =>
                    obtain rfl : d = dfin := by
                      rcases HC.out with h | h
                      · exact absurd h.1 (by simp)
                      · exact h.2
                    obtain ⟨z0, z1, z2, z3, z4⟩ := cells5 HI.out.blk
                    clear z0 z1 z2 z3
                    go_wp2
                    go_ret
                    exact ⟨_, rfl, Kd.R_mono HI.out.rd_ (fun _ _ => trivial), HI.out.bel⟩
                  | true =>
                    cases gk with
                    | zero =>
                      rcases HC.out with h | h
                      · rw [itF] at h
                        exact absurd h.2 (by simp)
                      · exact absurd h.1 (by simp)
                    | succ k1 =>
                      obtain ⟨r, hr, hr2⟩ : ∃ r, passF j at' pre k1 (lf.drop 0) d false = some r ∧ (if r.2 = true then itF j at' pre lf k1 r.1 else some r.1) = some dfin := by
                        rcases HC.out with h | h
                        · have h2 := h.2
                          rw [itF] at h2
                          rw [List.drop_zero]
                          exact Option.bind_eq_some_iff.1 h2
                        · exact absurd h.1 (by simp)
                      have HR1 := Aside0.mk hr
                      have HR2 := Aside0.mk hr2
                      clear hr hr2 HC
                      go_wp2
                      go_loopw [15, 95] (fun v15 v95 w' => ∃ (t : Nat) (ch : Bool) (d1 : List Int), v15 = .bool ch ∧ v95 = .int .i64 t ∧ t ≤ ql ∧ Aside0 (UdS w w' s j ga gd gf cd (.slice A0 j c0) (.slice (some ⟨gp, 0, none⟩) j cp) (.slice (some ⟨go, 0, none⟩) p co) pre o at' d1) ∧ Aside0 (dI.R 3 w' w.heap.size (fun k => gf < k) (.slice AL ql cL) lf) ∧ Aside0 (passF j at' pre k1 (lf.drop t) d1 ch = some r)) (fun _ v95 _ => ql - (intOf v95).toNat)
                      case atStart => exact ⟨0, false, d, rfl, rfl, Nat.zero_le _, HI, HR, HR1⟩
                      case round =>
                        clear HI HR1 HR
                        obtain ⟨t, ch, d1, rfl, rfl, ht, HI, HR, HP⟩ := hrel
                        by_cases htl : t < ql
                        · have hil : t < lf.length := by have := HQL.out; omega
                          obtain ⟨b, eb⟩ : ∃ b, b = lf.getD t 0 := ⟨_, rfl⟩
                          have hbo : lf.getD t 0 = lf[t] := by rw [List.getD_eq_getElem?_getD, List.getElem?_eq_getElem hil]; rfl
                          have hb : 0 ≤ b ∧ b < (j : Int) := by
                            rw [eb, hbo]
                            exact HFO.out _ (List.getElem_mem hil)
                          have h := HP.out
                          rw [List.drop_eq_getElem_cons hil, passF, ← hbo, ← eb] at h
                          obtain ⟨z, hz, hrest⟩ := Option.bind_eq_some_iff.1 h
                          clear h hbo
                          obtain ⟨x, rfl⟩ : ∃ x : Nat, b = (x : Int) := ⟨b.toNat, by omega⟩
                          have hx : x < j := by omega
                          rw [Int.toNat_natCast] at hz hrest
                          have hC2 := (Kd.R_reads' HR.out).2.2
                          obtain ⟨bb, off, e, _, hc⟩ := C_ints hC2 (by omega)
                          subst e
                          have cl_ := hc t hil
                          rw [← eb] at cl_
                          clear eb hb hc hC2
                          obtain ⟨q, eq⟩ : ∃ q, q = (rd d1 (x : Int) != z) := ⟨_, rfl⟩
                          rw [← eq] at hrest
                          have HPN := Aside0.mk hrest
                          obtain ⟨ad, A', c', e, hrow, hlc, hC⟩ := C_row (Kd.S_reads' HI.out.pp).2.2 (i := x) (by rw [HPL.out]; exact hx)
                          injection e with e
                          subst e
                          rw [Addr.add_lit, Nat.zero_add] at hrow
                          have HST := Aside0.mk (ustep_c HI.out.solv hx hrow hC (HPR.out x) (R_int_cell HI.out.rd_ x hx).2 k1 z hz)
                          rw [← eq] at HST
                          have hne2 : ∀ k, gf < k → k ≠ gd := fun k hk => by have := HI.out.lt; omega
                          have HN2 := Aside0.mk hne2
                          clear hrest hz eq hrow hlc hC hne2
                          cases q with
                          | true =>
                            go_wp2_with (go_at_call 84; refine HST.out.mono ?_; rintro e w3 ⟨rfl, m3, rfl⟩)
                            go_roundw
                            case rel => exact ⟨t + 1, true, d1.set x z, rfl, by go_num, by omega, ⟨(HI.out.drewN m3).setD x z⟩, ⟨Kd.R_move (Kd.R_drewN HR.out m3) (fun k hk => Below.heap_setCell _ _ _ _ (HN2.out k hk))⟩, ⟨HPN.out⟩⟩
                            case measure => simp [intOf]; omega
                          | false =>
                            rw [Bool.false_or] at HPN
                            go_wp2_with (go_at_call 84; refine HST.out.mono ?_; rintro e w3 ⟨rfl, m3, rfl⟩)
                            go_roundw
                            case rel => exact ⟨t + 1, ch, d1.set x z, rfl, by go_num, by omega, ⟨(HI.out.drewN m3).setD x z⟩, ⟨Kd.R_move (Kd.R_drewN HR.out m3) (fun k hk => Below.heap_setCell _ _ _ _ (HN2.out k hk))⟩, ⟨HPN.out⟩⟩
                            case measure => simp [intOf]; omega
                        · obtain rfl : t = ql := by omega
                          obtain ⟨d2, ch2⟩ := r
                          have h := HP.out
                          rw [List.drop_eq_nil_of_le (by have := HQL.out; omega), passF] at h
                          have h2 := Option.some.inj h
                          injection h2 with h3 h4
                          have hfin : Aside0 ((ch = true ∧ itF j at' pre lf k1 d1 = some dfin) ∨ (ch = false ∧ d1 = dfin)) := ⟨by
                            have h5 := HR2.out
                            rw [← h3, ← h4] at h5
                            cases ch with
                            | true => exact .inl ⟨rfl, by simpa using h5⟩
                            | false => exact .inr ⟨rfl, by simpa using h5⟩⟩
                          clear h h3 h4 HP HR2
                          go_wp2
                          go_roundg k1
                          case measure => omega
                          case rel => exact ⟨ch, d1, rfl, HI, HR, hfin⟩
end Go.Proofs.Ytemcmcnhpdkdfaa.P
namespace Go.Proofs.Ytemcmcnhpdkdfaa.P
open Go.RowKit Go.Lib Go.Sort Go.Shelf Go.Proofs.YtemcmcnhpdkdfaaW.PrintWords Go.Proofs.YtemcmcnhpdkdfaaW.PrintLast Go.Proofs.YtemcmcnhpdkdfaaW.PrintMore
theorem setCell_block {w : World} {g t : Nat} {cur : Array Value} (h : w.heap[g]? = some (.cells cur t (0, 0))) (b o : Nat) (u : Value) :
    ∃ cur', (w.setCell ⟨b, o, none⟩ u).heap[g]? = some (.cells cur' t (0, 0)) ∧ cur'.size = cur.size := by
  simp only [World.setCell, Array.getElem?_modify]
  by_cases e : b = g
  · subst e
    rw [if_pos rfl, h]
    exact ⟨_, rfl, by simp⟩
  · rw [if_neg e]
    exact ⟨cur, h, rfl⟩
theorem setCells_block {g t : Nat} (b : Nat) : ∀ (vs : List Value) (o : Nat) (w : World) (cur : Array Value), w.heap[g]? = some (.cells cur t (0, 0)) → ∃ cur', (w.setCells b o vs).heap[g]? = some (.cells cur' t (0, 0)) ∧ cur'.size = cur.size
  | [], _, _, cur, h => ⟨cur, h, rfl⟩
  | v :: vs, o, w, cur, h => by
    obtain ⟨c1, h1, e1⟩ := setCell_block h b o v
    obtain ⟨c2, h2, e2⟩ := setCells_block b vs (o + 1) _ c1 h1
    exact ⟨c2, h2, e2.trans e1⟩
theorem fr_setCells (g : Nat) : ∀ (vs : List Value) (o : Nat) (w : World), Fr (fun k => k = g) w (w.setCells g o vs)
  | [], _, w => Fr.refl _ w
  | v :: vs, o, w => ((Fr.refl (fun k => k = g) w).setCell (p := ⟨g, o, none⟩) (.inl rfl) v).trans (fr_setCells g vs (o + 1) _) (fun _ h => .inl h)
theorem own_of_cells {w : World} {base g t cap : Nat} {cur : Array Value} {ys : List Value} (hh : w.heap[g]? = some (.cells cur t (0, 0))) (hs : cur.size = cap) (hc : cap ≤ maxLen) (hb : base ≤ g) (hl : ys.length ≤ cap) (h : ∀ j (hj : j < ys.length), w.cell? ⟨g, j, none⟩ = some ys[j]) :
    w.ownsRow base t 1 (.slice (some ⟨g, 0, none⟩) ys.length cap) ys.length ys := by
  refine ⟨by omega, .inr ⟨g, cap, cur, rfl, hb, hh, hl, hc, by omega, ?_⟩⟩
  apply List.ext_getElem?
  intro j
  rw [Nat.mul_one, List.getElem?_take]
  by_cases hj : j < ys.length
  · rw [if_pos hj, List.getElem?_eq_getElem hj, Array.getElem?_toList]
    have := h j hj
    simp only [World.cell?, hh] at this
    simpa using this
  · rw [if_neg hj, List.getElem?_eq_none (by omega)]
section
variable {xs : List Int} {x : Int} {i : Nat}
theorem ins_len (hi : i ≤ xs.length) : ((xs.take i ++ x :: xs.drop i).map (Value.int .i64)).length = xs.length + 1 := by simp; omega
theorem ins_get (hi : i ≤ xs.length) (j : Nat) (hj : j < ((xs.take i ++ x :: xs.drop i).map (Value.int .i64)).length) :
    ((xs.take i ++ x :: xs.drop i).map (Value.int .i64))[j] = .int .i64 (if j < i then xs.getD j 0 else if j = i then x else xs.getD (j - 1) 0) := by
  rw [ins_len hi] at hj
  rw [List.getElem_map]
  congr 1
  have hl : (xs.take i).length = i := by rw [List.length_take]; omega
  by_cases h1 : j < i
  · rw [if_pos h1, List.getElem_append_left (by omega), List.getElem_take, List.getD_eq_getElem?_getD, List.getElem?_eq_getElem (by omega)]
    rfl
  · rw [if_neg h1, List.getElem_append_right (by omega)]
    by_cases h2 : j = i
    · subst h2
      rw [if_pos rfl]
      simp only [hl, Nat.sub_self, List.getElem_cons_zero]
    · rw [if_neg h2]
      obtain ⟨m, hm⟩ : ∃ m, j - i = m + 1 := ⟨j - i - 1, by omega⟩
      simp only [hl, hm, List.getElem_cons_succ, List.getElem_drop]
      rw [List.getD_eq_getElem?_getD, List.getElem?_eq_getElem (by omega), Option.getD_some]
      congr 1
      omega
end
theorem zero_cells (n : Nat) : (Builtin.zeroCells (Value.int .i64 0).cells n).size = n := by
  unfold Builtin.zeroCells
  simp [Value.cells]
theorem own_alloc_lit (W : World) (base t cap : Nat) (ys : List Value) (Z : Array Value) (hs : ys.length + Z.size = cap) (hc : cap ≤ maxLen) (hb : base ≤ W.heap.size) :
    (W.alloc (.cells (ys.toArray ++ Z) t)).ownsRow base t 1 (.slice (some ⟨W.heap.size, 0, none⟩) ys.length cap) ys.length ys :=
  ⟨by omega, .inr ⟨W.heap.size, cap, _, rfl, hb, heap_alloc_new W _, by omega, hc, by simp; omega, by simp⟩⟩
theorem ins_end_grow (a : Option Addr) (n c vb : Nat) (cs vs : List Value) (w : World) (hnc : n ≤ c) (hroom : c < n + 1) (hbig : (n + 1) * 8 ≤ 140737488355328) (hcl : cs.length = n) (hvl : vs.length = 1) (hnil : a = none → n = 0)
    (hcs : ∀ b, a = some b → ∀ j v, cs[j]? = some v → w.cell? (b.add j) = some v) (hvs : ∀ j v, vs[j]? = some v → w.cell? ⟨vb, 0 + j, none⟩ = some v) (h1v : ∀ v ∈ vs, v.oneCell' = true) :
    Calls Try.prog 83 #[.slice a n c, .int .i64 n, .slice (some ⟨vb, 0, none⟩) 1 1] w fun e w' => e = .returned (.slice (some ⟨w.heap.size, 0, none⟩) (n + 1) (grownCap w (n + 1) c 3)) ∧
      w' = w.drew.alloc (.cells ((cs ++ vs).toArray ++ Builtin.zeroCells (Value.int .i64 0).cells (grownCap w (n + 1) c 3 - (n + 1))) 3) :=
  Any2.slices_Insert_int_end_grow Try.laysIns a n c vb 0 1 1 cs vs w Nat.one_pos hnc hroom hbig hcl hvl hnil hcs hvs h1v
theorem ins_grow (g n c i vb : Nat) (cs vs : List Value) (w : World) (hi : i < n) (hnc : n ≤ c) (hroom : c < n + 1) (hbig : (n + 1) * 8 ≤ 140737488355328) (hcl : cs.length = n) (hvl : vs.length = 1)
    (hcs : ∀ j v, cs[j]? = some v → w.cell? ⟨g, 0 + j, none⟩ = some v) (hvs : ∀ j v, vs[j]? = some v → w.cell? ⟨vb, 0 + j, none⟩ = some v) (h1c : ∀ v ∈ cs, v.oneCell' = true) (h1v : ∀ v ∈ vs, v.oneCell' = true) :
    Calls Try.prog 83 #[.slice (some ⟨g, 0, none⟩) n c, .int .i64 i, .slice (some ⟨vb, 0, none⟩) 1 1] w fun e w' => e = .returned (.slice (some ⟨w.heap.size, 0, none⟩) (n + 1) (grownCap w (n + 1) c 3)) ∧
      w' = (((w.alloc (.cells ((cs.take i).toArray ++ Builtin.zeroCells (Value.int .i64 0).cells (n + 1 - i) ++ Builtin.zeroCells (Value.int .i64 0).cells (grownCap w (n + 1) c 3 - (n + 1))) 3)).drew.setCells w.heap.size i vs).drew).setCells w.heap.size (i + 1) (cs.drop i) :=
  Any2.slices_Insert_int_grow Try.laysIns g 0 n c i vb 0 1 1 cs vs w hi Nat.one_pos hnc hroom hbig hcl hvl hcs hvs h1c h1v
theorem ins_shift (g n c i vb : Nat) (cs vs : List Value) (w : World) (hi : i < n) (hroom : n + 1 ≤ c) (hc63 : c ≤ 9223372036854775807) (hvb : vb ≠ g) (hcl : cs.length = n) (hvl : vs.length = 1)
    (hcs : ∀ j v, cs[j]? = some v → w.cell? ⟨g, 0 + j, none⟩ = some v) (hsp : ∀ j, j < n + 1 → (w.cell? ⟨g, 0 + j, none⟩).isSome = true) (hfz : ∀ j, j < n + 1 → w.frozen? ⟨g, 0 + j, none⟩ = false)
    (hvs : ∀ j v, vs[j]? = some v → w.cell? ⟨vb, 0 + j, none⟩ = some v) (h1c : ∀ v ∈ cs, v.oneCell' = true) (h1v : ∀ v ∈ vs, v.oneCell' = true)
    (tA tB : TypeId) (kA kB : Nat) (hsa : w.shape? vb = some (tA, kA)) (hsb : w.shape? g = some (tB, kB)) (hkB : kB ≠ 0) (hfa : w.frozen? ⟨vb, 0, none⟩ = false) (hfe : w.frozen? ⟨vb, kA, none⟩ = false) :
    Calls Try.prog 83 #[.slice (some ⟨g, 0, none⟩) n c, .int .i64 i, .slice (some ⟨vb, 0, none⟩) 1 1] w fun e w' => e = .returned (.slice (some ⟨g, 0, none⟩) (n + 1) c) ∧ w' = (w.drew.setCells g (0 + (i + 1)) (cs.drop i)).setCells g (0 + i) vs :=
  Any2.slices_Insert_int_shift Try.laysIns g 0 n c i vb 0 1 1 cs vs w hi Nat.one_pos hroom hc63 hvb hcl hvl hcs hsp hfz hvs h1c h1v tA tB kA kB hsa hsb hkB hfa hfe
theorem ins_end_room (g n c vb : Nat) (vs : List Value) (w : World) (hroom : n + 1 ≤ c) (hc63 : c ≤ 9223372036854775807) (hvl : vs.length = 1) (hsp : ∀ j, j < 1 → (w.cell? ⟨g, 0 + n + j, none⟩).isSome = true) (hfz : ∀ j, j < 1 → w.frozen? ⟨g, 0 + n + j, none⟩ = false)
    (hvs : ∀ j v, vs[j]? = some v → w.cell? ⟨vb, 0 + j, none⟩ = some v) (h1v : ∀ v ∈ vs, v.oneCell' = true) :
    Calls Try.prog 83 #[.slice (some ⟨g, 0, none⟩) n c, .int .i64 n, .slice (some ⟨vb, 0, none⟩) 1 1] w fun e w' => e = .returned (.slice (some ⟨g, 0, none⟩) (n + 1) c) ∧ w' = w.setCells g (0 + n) vs :=
  Any2.slices_Insert_int_end_room Try.laysIns g 0 n c vb 0 1 1 vs w Nat.one_pos hroom hc63 hvl hsp hfz hvs h1v
theorem insert_c (v : Value) (xs : List Int) (x : Int) (i base : Nat) (ok : Nat → Prop) (w : World) (vb : Nat) (h : dI.R 3 w base ok v xs) (hi : i ≤ xs.length) (hsm : xs.length ≤ 1000000) (hvb : w.heap[vb]? = some (.cells #[.int .i64 x] 3 (0, 0))) (hne : v.ownBlock ≠ some vb) (hbase : base ≤ w.heap.size) :
    Calls Try.prog 83 #[v, .int .i64 i, .slice (some ⟨vb, 0, none⟩) 1 1] w fun e w' => ∃ v', e = .returned v' ∧ w'.ownsRow base 3 1 v' (xs.length + 1) ((xs.take i ++ x :: xs.drop i).map (Value.int .i64)) ∧ Fr (fun k => v.ownBlock = some k) w w' ∧ (v'.ownBlock = v.ownBlock ∨ ∃ b, v'.ownBlock = some b ∧ w.heap.size ≤ b) := by
  have hvs : ∀ (j : Nat) (u : Value), [Value.int .i64 x][j]? = some u → w.cell? ⟨vb, 0 + j, none⟩ = some u := by
    intro j u hu
    match j, hu with
    | 0, hu => injection hu with hu; subst hu; simp [World.cell?, hvb]
    | j + 1, hu => simp at hu
  have h1v : ∀ u ∈ [Value.int .i64 x], u.oneCell' = true := by intro u hu; simp at hu; subst hu; rfl
  have hc1 : ∀ u ∈ xs.map (Value.int .i64), u.oneCell' = true := by
    intro u hu
    obtain ⟨y, _, rfl⟩ := List.mem_map.1 hu
    rfl
  rcases R_ints_form h with ⟨rfl, rfl⟩ | ⟨g, cap, rfl, hbg, hlt, hn, hH⟩
  ·
    obtain rfl : i = 0 := by simpa using hi
    refine (ins_end_grow none 0 0 vb [] [.int .i64 x] w (by omega) (by omega) (by omega) rfl rfl (fun _ => rfl) (fun a ha => by cases ha) hvs h1v).mono ?_
    rintro e w' ⟨rfl, rfl⟩
    have hg1 := grownCap_ge w 1 0 3
    refine ⟨_, rfl, ?_, (Fr.drewN _ w 1).alloc _, .inr ⟨w.heap.size, rfl, Nat.le_refl _⟩⟩
    exact own_alloc_lit w.drew base 3 (grownCap w 1 0 3) [Value.int .i64 x] _ (by rw [zero_cells]; simp; omega) (grownCap_le_maxLen _ _ _ _ (by decide)) hbase
  · have hown := R_ints h
    obtain ⟨cur, hcur, hcs, hcm⟩ : ∃ cur, w.heap[g]? = some (.cells cur 3 (0, 0)) ∧ cur.size = cap ∧ cap ≤ maxLen := by
      rcases hown.2 with ⟨e0, _⟩ | ⟨g', cap', cur, e0, _, hh, _, hm, hs, _⟩
      · cases e0
      · injection e0 with e1 _ e3
        injection e1 with e1
        injection e1 with e1
        subst e1; subst e3
        exact ⟨cur, hh, by omega, hm⟩
    have hcap63 : cap ≤ 9223372036854775807 := hcm
    have hgv : vb ≠ g := fun e => hne (by simp [Value.ownBlock, e])
    have hcell : ∀ j, j < xs.length → w.cell? ⟨g, j, none⟩ = some (.int .i64 (xs.getD j 0)) := by
      intro j hj
      rw [hown.cellAt j (by omega), List.getElem?_map, List.getElem?_eq_getElem hj, List.getD_eq_getElem?_getD, List.getElem?_eq_getElem hj]
      rfl
    have hcx : ∀ (j : Nat) (u : Value), (xs.map (Value.int .i64))[j]? = some u → w.cell? ⟨g, 0 + j, none⟩ = some u := by
      intro j u hu
      rw [Nat.zero_add]
      have hj : j < xs.length := by simpa using (List.getElem?_eq_some_iff.1 hu).1
      rw [hown.cellAt j (by omega)]
      exact hu
    have hsome : ∀ j, j < cap → (w.cell? ⟨g, j, none⟩).isSome = true := by
      intro j hj
      simp only [World.cell?, hcur]
      simp [Array.getElem?_eq_getElem (show j < cur.size by omega)]
    have hfz : ∀ j, w.frozen? ⟨g, j, none⟩ = false := fun j => hown.frozenAt j
    by_cases hroom : xs.length + 1 ≤ cap
    · by_cases hil : i < xs.length
      ·
        refine (ins_shift g xs.length cap i vb (xs.map (Value.int .i64)) [.int .i64 x] w hil hroom hcap63 hgv (by simp) rfl hcx (fun j hj => by rw [Nat.zero_add]; exact hsome j (by omega)) (fun j hj => hfz _) hvs hc1 h1v
          3 3 1 cap (by simp [World.shape?, hvb]) (by simp [World.shape?, hcur, hcs]) (by omega) (by simp [World.frozen?, hvb]) (by simp [World.frozen?, hvb])).mono ?_
        rintro e w' ⟨rfl, rfl⟩
        have hcur' : (w.drew).heap[g]? = some (.cells cur 3 (0, 0)) := hcur
        obtain ⟨c1, hc1', e1⟩ := setCells_block (t := 3) g ((xs.map (Value.int .i64)).drop i) (0 + (i + 1)) w.drew cur hcur'
        obtain ⟨c2, hc2', e2⟩ := setCells_block (t := 3) g [Value.int .i64 x] (0 + i) _ c1 hc1'
        refine ⟨_, rfl, ?_, ?_, .inl rfl⟩
        · have hl := ins_len (x := x) hi
          have := own_of_cells (base := base) (ys := (xs.take i ++ x :: xs.drop i).map (Value.int .i64)) hc2' (by omega) hcm hbg (by rw [hl]; omega) (fun j hj => by
            rw [ins_get hi j hj]
            rw [hl] at hj
            have hs1 : ∀ k, k < ((xs.map (Value.int .i64)).drop i).length → ((w.drew).cell? ⟨g, 0 + (i + 1) + k, none⟩).isSome = true := fun k hk => by
              rw [List.length_drop, List.length_map] at hk
              exact hsome _ (by omega)
            have hin : ∀ k (hk : k < ((xs.map (Value.int .i64)).drop i).length), ((w.drew).setCells g (0 + (i + 1)) ((xs.map (Value.int .i64)).drop i)).cell? ⟨g, 0 + (i + 1) + k, none⟩ = some ((xs.map (Value.int .i64)).drop i)[k] := World.cell?_setCells_in g _ _ _ hs1
            by_cases h1 : j < i
            · rw [if_pos h1, World.cell?_setCells_out g _ _ _ _ (fun _ _ => .inl (by show j < 0 + i; omega)), World.cell?_setCells_out g _ _ _ _ (fun _ _ => .inl (by show j < 0 + (i + 1); omega))]
              exact hcell j (by omega)
            · rw [if_neg h1]
              by_cases h2 : j = i
              · subst h2
                rw [if_pos rfl]
                have := World.cell?_setCells_in g [Value.int .i64 x] (0 + j) ((w.drew).setCells g (0 + (j + 1)) ((xs.map (Value.int .i64)).drop j)) (fun k hk => by
                  obtain rfl : k = 0 := by simpa using hk
                  rw [World.cell?_setCells_out g _ _ _ _ (fun _ _ => .inl (by show 0 + j + 0 < 0 + (j + 1); omega))]
                  exact hsome _ (by omega)) 0 (by simp)
                simpa using this
              · rw [if_neg h2, World.cell?_setCells_out g _ _ _ _ (fun _ _ => .inr (by show 0 + i + 1 ≤ j; omega))]
                have := hin (j - i - 1) (by rw [List.length_drop, List.length_map]; omega)
                rw [show 0 + (i + 1) + (j - i - 1) = j by omega] at this
                rw [this, List.getElem_drop, List.getElem_map, List.getD_eq_getElem?_getD, List.getElem?_eq_getElem (by omega), Option.getD_some]
                congr 3
                omega)
          rw [hl] at this
          exact this
        · have := ((Fr.drewN (fun k => k = g) w 1).trans (fr_setCells g ((xs.map (Value.int .i64)).drop i) (0 + (i + 1)) (w.drewN 1)) (fun _ hh => .inl hh)).trans (fr_setCells g [Value.int .i64 x] (0 + i) _) (fun _ hh => .inl hh)
          exact ⟨this.os, this.tape, this.output, this.size, fun k hk hn' => this.block k hk (fun e => hn' (by simp [Value.ownBlock, e]))⟩
      ·
        obtain rfl : i = xs.length := by omega
        refine (ins_end_room g xs.length cap vb [.int .i64 x] w hroom hcap63 rfl (fun j hj => by rw [Nat.zero_add]; exact hsome _ (by omega)) (fun j hj => hfz _) hvs h1v).mono ?_
        rintro e w' ⟨rfl, rfl⟩
        obtain ⟨c2, hc2', e2⟩ := setCells_block (t := 3) g [Value.int .i64 x] (0 + xs.length) w cur hcur
        refine ⟨_, rfl, ?_, ?_, .inl rfl⟩
        · have hl := ins_len (x := x) (Nat.le_refl xs.length)
          have := own_of_cells (base := base) (ys := (xs.take xs.length ++ x :: xs.drop xs.length).map (Value.int .i64)) hc2' (by omega) hcm hbg (by rw [hl]; omega) (fun j hj => by
            rw [ins_get (Nat.le_refl _) j hj]
            rw [hl] at hj
            by_cases h1 : j < xs.length
            · rw [if_pos h1, World.cell?_setCells_out g _ _ _ _ (fun _ _ => .inl (by show j < 0 + xs.length; omega))]
              exact hcell j h1
            · obtain rfl : j = xs.length := by omega
              rw [if_neg h1, if_pos rfl]
              have := World.cell?_setCells_in g [Value.int .i64 x] (0 + xs.length) w (fun k hk => by
                obtain rfl : k = 0 := by simpa using hk
                exact hsome _ (by omega)) 0 (by simp)
              simpa using this)
          rw [hl] at this
          exact this
        · have := fr_setCells g [Value.int .i64 x] (0 + xs.length) w
          exact ⟨this.os, this.tape, this.output, this.size, fun k hk hn' => this.block k hk (fun e => hn' (by simp [Value.ownBlock, e]))⟩
    · have hg1 := grownCap_ge w (xs.length + 1) cap 3
      have hg2 := grownCap_le_maxLen w (xs.length + 1) cap 3 (by unfold maxLen; omega)
      by_cases hil : i < xs.length
      ·
        refine (ins_grow g xs.length cap i vb (xs.map (Value.int .i64)) [.int .i64 x] w hil hn (by omega) (by omega) (by simp) rfl hcx hvs hc1 h1v).mono ?_
        rintro e w' ⟨rfl, hw'⟩
        obtain ⟨nb, enb⟩ : ∃ nb, nb = w.alloc (.cells (((xs.map (Value.int .i64)).take i).toArray ++ Builtin.zeroCells (Value.int .i64 0).cells (xs.length + 1 - i) ++ Builtin.zeroCells (Value.int .i64 0).cells (grownCap w (xs.length + 1) cap 3 - (xs.length + 1))) 3) := ⟨_, rfl⟩
        have hnb : nb.heap[w.heap.size]? = some (.cells (((xs.map (Value.int .i64)).take i).toArray ++ Builtin.zeroCells (Value.int .i64 0).cells (xs.length + 1 - i) ++ Builtin.zeroCells (Value.int .i64 0).cells (grownCap w (xs.length + 1) cap 3 - (xs.length + 1))) 3 (0, 0)) := by rw [enb]; exact heap_alloc_new w _
        have hnsz : (((xs.map (Value.int .i64)).take i).toArray ++ Builtin.zeroCells (Value.int .i64 0).cells (xs.length + 1 - i) ++ Builtin.zeroCells (Value.int .i64 0).cells (grownCap w (xs.length + 1) cap 3 - (xs.length + 1))).size = grownCap w (xs.length + 1) cap 3 := by
          simp only [Array.size_append, List.size_toArray, List.length_take, List.length_map, zero_cells]
          omega
        have hnsome : ∀ j, j < grownCap w (xs.length + 1) cap 3 → (nb.cell? ⟨w.heap.size, j, none⟩).isSome = true := by
          intro j hj
          simp only [World.cell?, hnb]
          rw [Array.getElem?_eq_getElem (by rw [hnsz]; exact hj)]
          rfl
        have hfn : Fr (fun k => (Value.slice (some ⟨g, 0, none⟩) xs.length cap).ownBlock = some k) w nb := by rw [enb]; exact (Fr.refl _ w).alloc _
        rw [← enb] at hw'
        subst hw'
        obtain ⟨c1, hc1', e1⟩ := setCells_block (t := 3) w.heap.size [Value.int .i64 x] i nb.drew _ hnb
        obtain ⟨c2, hc2', e2⟩ := setCells_block (t := 3) w.heap.size ((xs.map (Value.int .i64)).drop i) (i + 1) ((nb.drew.setCells w.heap.size i [Value.int .i64 x]).drew) c1 hc1'
        refine ⟨_, rfl, ?_, ?_, .inr ⟨w.heap.size, rfl, Nat.le_refl _⟩⟩
        · have hl := ins_len (x := x) hi
          have := own_of_cells (base := base) (ys := (xs.take i ++ x :: xs.drop i).map (Value.int .i64)) hc2' (by omega) hg2 hbase (by rw [hl]; exact hg1) (fun j hj => by
            rw [ins_get hi j hj]
            rw [hl] at hj
            by_cases h1 : j < i
            · rw [if_pos h1, World.cell?_setCells_out _ _ _ _ _ (fun _ _ => .inl (by show j < i + 1; omega))]
              show (nb.drew.setCells w.heap.size i [Value.int .i64 x]).cell? _ = _
              rw [World.cell?_setCells_out _ _ _ _ _ (fun _ _ => .inl (by show j < i; omega))]
              show nb.cell? _ = _
              simp only [World.cell?, hnb]
              rw [Array.append_assoc, Array.getElem?_append_left (by simp; omega)]
              simp [h1, List.getElem?_eq_getElem (show j < xs.length by omega)]
            · rw [if_neg h1]
              by_cases h2 : j = i
              · subst h2
                rw [if_pos rfl, World.cell?_setCells_out _ _ _ _ _ (fun _ _ => .inl (by show j < j + 1; omega))]
                have := World.cell?_setCells_in w.heap.size [Value.int .i64 x] j nb.drew (fun k hk => by
                  obtain rfl : k = 0 := by simpa using hk
                  exact hnsome _ (by omega)) 0 (by simp)
                simpa using this
              · rw [if_neg h2]
                have := World.cell?_setCells_in w.heap.size ((xs.map (Value.int .i64)).drop i) (i + 1) ((nb.drew.setCells w.heap.size i [Value.int .i64 x]).drew) (fun k hk => by
                  rw [List.length_drop, List.length_map] at hk
                  show ((nb.drew.setCells w.heap.size i [Value.int .i64 x]).cell? _).isSome = true
                  rw [World.cell?_setCells_out _ _ _ _ _ (fun _ _ => .inr (by show i + 1 ≤ i + 1 + k; omega))]
                  exact hnsome _ (by omega)) (j - i - 1) (by rw [List.length_drop, List.length_map]; omega)
                rw [show i + 1 + (j - i - 1) = j by omega] at this
                rw [this, List.getElem_drop, List.getElem_map, List.getD_eq_getElem?_getD, List.getElem?_eq_getElem (by omega), Option.getD_some]
                congr 3
                omega)
          rw [hl] at this
          exact this
        · have f1 := hfn.trans (Fr.drewN (fun k => k = w.heap.size) nb 1) (fun k e => .inr (by omega))
          have f2 := f1.trans (fr_setCells w.heap.size [Value.int .i64 x] i (nb.drewN 1)) (fun k e => .inr (by omega))
          have f3 := f2.trans (Fr.drewN (fun k => k = w.heap.size) _ 1) (fun k e => .inr (by omega))
          exact f3.trans (fr_setCells w.heap.size ((xs.map (Value.int .i64)).drop i) (i + 1) _) (fun k e => .inr (by omega))
      ·
        obtain rfl : i = xs.length := by omega
        refine (ins_end_grow (some ⟨g, 0, none⟩) xs.length cap vb (xs.map (Value.int .i64)) [.int .i64 x] w hn (by omega) (by omega) (by simp) rfl (fun e => by cases e) (fun a ha j u hu => by
          injection ha with ha
          subst ha
          rw [Go.WideShapes.add_plain]
          exact hcx j u hu) hvs h1v).mono ?_
        rintro e w' ⟨rfl, rfl⟩
        refine ⟨_, rfl, ?_, (Fr.drewN _ w 1).alloc _, .inr ⟨w.heap.size, rfl, Nat.le_refl _⟩⟩
        have hl : (xs.map (Value.int .i64) ++ [Value.int .i64 x]).length = xs.length + 1 := by simp
        have e1 : (xs.take xs.length ++ x :: xs.drop xs.length).map (Value.int .i64) = xs.map (Value.int .i64) ++ [Value.int .i64 x] := by simp
        rw [e1]
        have := own_alloc_lit w.drew base 3 (grownCap w (xs.length + 1) cap 3) (xs.map (Value.int .i64) ++ [Value.int .i64 x]) (Builtin.zeroCells (Value.int .i64 0).cells (grownCap w (xs.length + 1) cap 3 - (xs.length + 1))) (by rw [zero_cells, hl]; omega) hg2 hbase
        rw [hl] at this
        exact this
end Go.Proofs.Ytemcmcnhpdkdfaa.P
namespace Go.Proofs.Ytemcmcnhpdkdfaa.P
open Go.RowKit Go.Lib Go.Sort Go.Shelf Go.Proofs.YtemcmcnhpdkdfaaW.PrintWords Go.Proofs.YtemcmcnhpdkdfaaW.PrintLast Go.Proofs.YtemcmcnhpdkdfaaW.PrintMore
theorem S_newelem {w : World} {base go n cap j : Nat} {xs : List (List Int)} {ok : Nat → Prop} (h : Kd.S dG 25 w base ok (.slice (some ⟨go, 0, none⟩) n cap) xs) (hnew : ∀ k, w.heap.size ≤ k → ok k) (hj : j < n) :
    ∃ A c, w.cell? ⟨go, j, none⟩ = some (.slice A (xs.getD j []).length c) ∧ dI.R 3 w base (fun k => ok k ∧ k ≠ go) (.slice A (xs.getD j []).length c) (xs.getD j []) ∧ ok go ∧
      ∀ w2 v2 ys, w2.ownsRow base 3 1 v2 ys.length (ys.map (Value.int .i64)) → Fr (fun k => (Value.slice A (xs.getD j []).length c).ownBlock = some k) w w2 →
        (v2.ownBlock = (Value.slice A (xs.getD j []).length c).ownBlock ∨ ∃ b, v2.ownBlock = some b ∧ w.heap.size ≤ b) →
        (∃ u, w2.cell? ⟨go, j, none⟩ = some u ∧ w2.frozen? ⟨go, j, none⟩ = false) ∧ Kd.S dG 25 (w2.setCell ⟨go, j, none⟩ v2) base ok (.slice (some ⟨go, 0, none⟩) n cap) (xs.set j ys) := by
  have hgo : go < w.heap.size := Kd.S_lt h go (by simp [Value.ownBlock])
  have hgb : base ≤ go := Kd.S_base h go (by simp [Value.ownBlock])
  have h2 : Kd.S dG 25 w base (fun k => ok k ∧ ¬ (w.heap.size ≤ k)) (.slice (some ⟨go, 0, none⟩) n cap) xs := Kd.S_mono (Kd.S_bound h) (fun k hk => ⟨hk.1, by have := hk.2.2.1; omega⟩)
  obtain ⟨oki, c, hcl, hM, hcc, hfr, hoki, hH⟩ := Kd.S_elem h2 [] (j : Int) (by omega) (by omega)
  have hs1 : dG.sz = 1 := rfl
  obtain ⟨u, rfl⟩ : ∃ u, c = [u] := List.length_eq_one_iff.1 (hcl.trans hs1)
  have hu := hcc 0 u rfl
  have hf := hfr 0
  rw [hs1, Int.toNat_natCast, Nat.mul_one, Nat.add_zero] at hu
  rw [Int.toNat_natCast] at hM
  obtain ⟨u', e, hR⟩ := hM
  injection e with e
  subst e
  obtain ⟨A, cc, rfl⟩ := Kd.R_slice hR
  refine ⟨A, cc, hu, Kd.R_mono hR (fun k hk => ⟨(hoki k hk).1.1, (hoki k hk).2⟩), (Kd.S_R h).1 go (by simp [Value.ownBlock]), fun w2 v2 ys ho hf2 hat => ?_⟩
  have hb : ∀ k, (Value.slice A (xs.getD j []).length cc).ownBlock = some k → oki k := fun k hk => hR.1 k hk
  have hg : w.grownBy w2 (Value.slice A (xs.getD j []).length cc).ownBlock := ⟨hf2.os, hf2.tape, hf2.output, hf2.size, fun k hk hne => hf2.block k hk (fun e => hne e.symm)⟩
  have hH2 := Kd.H_grown hH hg hb
  have hs2 := hf2.size
  have hne : (Value.slice A (xs.getD j []).length cc).ownBlock ≠ some go := fun e => (hoki go (hb go e)).2 rfl
  have hbk : w2.heap[go]? = w.heap[go]? := hf2.block go hgo hne
  have hcell : ∀ p : Nat, w2.cell? ⟨go, p, none⟩ = w.cell? ⟨go, p, none⟩ := fun p => by simp only [World.cell?, hbk]
  have hfrz : ∀ p : Nat, w2.frozen? ⟨go, p, none⟩ = w.frozen? ⟨go, p, none⟩ := fun p => by simp only [World.frozen?, hbk]
  refine ⟨⟨_, (hcell j).trans hu, (hfrz j).trans (by rw [hs1, Int.toNat_natCast, Nat.mul_one, Nat.add_zero] at hf; exact hf)⟩, ?_⟩
  have hR2 : dI.R 3 w2 base (fun k => oki k ∨ w.heap.size ≤ k) v2 ys := by
    refine ints_R ho (fun k hk => ?_)
    rcases hat with e | ⟨b, e, hbs⟩
    · exact .inl (hb k (by rw [← e]; exact hk))
    · rw [e] at hk
      injection hk with hk
      exact .inr (by omega)
  have hP := Kd.S_seg (okg := fun k => w.heap.size ≤ k) hH2 (by omega) (by omega) (seg := [v2]) (j := 0) (show 0 + 1 ≤ 1 from Nat.le_refl _) (x' := ys) (okp := fun k => oki k ∨ w.heap.size ≤ k)
    ⟨v2, rfl, hR2⟩ (fun k hk => hk) (fun k hk => ⟨hnew k hk, by omega⟩)
  have hP1 := hP.1
  rw [hs1, Int.toNat_natCast, Nat.mul_one, Nat.add_zero] at hP1
  exact hP1
theorem del_f (g : Nat) (lb : Array Value) (p : Int → Bool) (eg : ∀ args w, (callFunc g args).run Try.prog w = .ok (.enter g args) w) (v : Value) (xs : List Int) (base : Nat) (ok : Nat → Prop) (w : World)
    (hp : ∀ W x, Fr (fun k => v.ownBlock = some k) w W → FnGives Try.prog g lb #[.int .i64 x] (.bool (p x)) W) (h : dI.R 3 w base ok v xs) (hb : xs.length ≤ 9223372036854775807) :
    Calls Try.prog 45 #[v, .func (.func g) #[] lb] w fun e w' => ∃ v', e = .returned v' ∧ dI.R 3 w' base ok v' (xs.filter fun x => !p x) ∧ Fr (fun k => v.ownBlock = some k) w w' ∧ v'.ownBlock = v.ownBlock := by
  rcases R_ints_form h with ⟨rfl, rfl⟩ | ⟨gb, cap, rfl, hbg, hlt, hn, hH⟩
  · refine (del_nil_c _ w).mono ?_
    rintro e w' ⟨rfl, rfl⟩
    exact ⟨_, rfl, h, Fr.refl _ _, rfl⟩
  · have hle : (xs.filter fun x => !p x).length ≤ xs.length := List.length_filter_le _ _
    have hput : ∀ q d, Fr (fun k => (Value.slice (some ⟨gb, 0, none⟩) xs.length cap).ownBlock = some k) w (putRow (Value.int .i64) (Sort.ahead w q) gb 0 d) := fun q d => by
      have := fr_putRow w gb q d
      exact ⟨this.os, this.tape, this.output, this.size, fun k hk hn => this.block k hk (fun e => hn (by simp [Value.ownBlock, e]))⟩
    have hc := Try.slices_DeleteFunc (Value.int .i64) (fun _ => rfl) p g lb eg 0 Try.zeroValue3 gb 0 cap xs.toArray w
      (fun W x hB => hp W x ⟨hB.os, hB.tape, hB.output, hB.size, fun k hk _ => hB.block k hk⟩) (fun n os dk x hd => hp _ x (by
        have h1 := hput n dk
        refine ⟨h1.os, h1.tape, h1.output, by have := h1.size; simp only [sortWorld, grow, Array.size_append]; omega, fun k hk hn => ?_⟩
        rw [← h1.block k hk hn]
        show ((putRow (Value.int .i64) (Sort.ahead w n) gb 0 dk).heap ++ os)[k]? = _
        rw [Array.getElem?_append_left (Nat.lt_of_lt_of_le hk h1.size)])) hH (by simpa using hb) (by simpa using hn)
    simp only [List.size_toArray] at hc
    refine hc.mono ?_
    rintro e w' ⟨rfl, q, rfl⟩
    refine ⟨_, rfl, R_put h ?_ rfl ?_ hle, hput _ _, rfl⟩
    · rw [List.length_append, List.length_replicate]; omega
    · rw [List.take_left']; rfl
set_option maxHeartbeats 1000000 in
theorem withoutfn_gives (x b : Int) (B : Nat) (W : World) (hc : W.cell? ⟨B, 0, none⟩ = some (.int .i64 b)) :
    FnGives Try.prog 86 #[.pointer (some ⟨B, 0, none⟩)] #[.int .i64 x] (.bool (decide (x = b))) W := by
  show Calls Try.prog 86 #[.int .i64 x, .pointer (some ⟨B, 0, none⟩)] W _
  go_enter Try.func86, Try.ntmps86
  go_wp2
  go_ret
  refine ⟨?_, 0, rfl⟩
  first | rfl | (congr 2; by_cases h : x = b <;> simp [h])
set_option maxHeartbeats 4000000 in
set_option maxRecDepth 100000 in
theorem graph_Without.calls (A0 : Option Addr) (c0 : Nat) (l0 : List (List Int)) (a1 : Int) (a2 : Int) (r : List (List Int)) (w : World) (hr0 : Kd.C (Kd.slice 3 (Kd.int .i64)) w A0 l0.length l0) (hc0 : l0.length ≤ c0) (h : graph_Without.f l0 a1 a2 = some r) :
    Calls Try.prog 66 #[.slice A0 l0.length c0, .int .i64 a1, .int .i64 a2] w fun e w' => ∃ v0_ : Value, e = .returned v0_ ∧ Kd.S (Kd.slice 3 (Kd.int .i64)) 25 w' w.heap.size (fun _ => True) v0_ r ∧ Below w.heap.size w w' := by
  have HR0 := Aside0.mk hr0
  have HC0 := Aside0.mk hc0
  have HF : Aside0 (fits l0 = true ∧ r = withoutE (clean l0) a1 a2) := by
    unfold graph_Without.f at h
    split at h
    · exact ⟨⟨by assumption, (Option.some.inj h).symm⟩⟩
    · cases h
  clear hr0 hc0 h
  have HCL' : Aside0 (∀ W, Below w.heap.size w W → Calls Try.prog 19 #[.slice A0 l0.length c0] W fun e w' => ∃ v0_ : Value, e = .returned v0_ ∧ Kd.S (Kd.slice 3 (Kd.int .i64)) 25 w' W.heap.size (fun _ => True) v0_ (clean l0) ∧ Below W.heap.size W w') :=
    ⟨fun W hW => graph_Clean.calls A0 c0 l0 (clean l0) W (Kd.C_below HR0.out hW) HC0.out (by unfold graph_Clean.f; rw [if_pos HF.out.1])⟩
  have HIS : ∀ W, Calls Try.prog 48 #[.slice A0 l0.length c0, .int .i64 a1] W fun e w' => e = .returned (.bool (isN l0.length a1)) ∧ W = w' := fun W => is_c a1 A0 l0.length c0 W
  rcases Bool.eq_false_or_eq_true (isN l0.length a1) with hna | hna
  · rw [hna] at HIS
    obtain ⟨ha0, ha1⟩ := isN_iff.1 hna
    have HRS : Aside0 (r = (clean l0).set a1.toNat (((clean l0).getD a1.toNat []).filter fun x => !decide (x = a2))) := by
      have := HF.out.2
      unfold withoutE at this
      rw [clean_len, if_pos hna] at this
      exact ⟨this⟩
    clear hna
    go_enter Try.func66, Try.ntmps66
    go_wp2_with (first | (go_at_call 19; refine (HCL'.out _ (below_alloc (Below.refl _ _) _)).mono ?_; rintro e w2 ⟨v2, rfl, ho2, hb2⟩; rw [size_alloc1] at ho2 hb2; obtain ⟨go, cap, e2, hgo1, hgo2, _⟩ := Kd.S_form ho2 (by rw [clean_len]; omega); rw [clean_len] at e2; subst e2; have hbx := box_cell hb2 (Nat.lt_succ_self _); have HO2 := Aside0.mk ho2; have HB2 := Aside0.mk hb2; have HGO := Aside0.mk (And.intro hgo1 hgo2); (obtain ⟨Au, cu, hcu, hRu, _, hnx⟩ := S_newelem ho2 (fun _ _ => trivial) (j := a1.toNat) (by omega)); have HRU := Aside0.mk hRu; have HNX := Aside0.mk hnx; clear ho2 hb2 hgo1 hgo2 hRu hnx) | (go_at_call 48; (with_reducible refine (HIS _).mono ?_); rintro e w' ⟨rfl, rfl⟩))
    have hln : Aside0 (((clean l0).getD a1.toNat []).length ≤ 100000) := by
      rw [List.getD_eq_getElem?_getD, List.getElem?_eq_getElem (by rw [clean_len]; omega)]
      exact ⟨clean_small HF.out.1 _ (List.getElem_mem _)⟩
    go_wp2_with (go_at_call 45; refine (del_f 86 _ (fun x => decide (x = a2)) (enters_of Try.func86 (by kernel_rfl) rfl) _ _ _ _ w2 (fun W x hW => withoutfn_gives x a2 _ W (by
      have hlt : w.heap.size < w2.heap.size := by have := HB2.out.size; rw [size_alloc1] at this; omega
      have hbk := hW.block w.heap.size hlt (fun e => by have := own_base (R_ints HRU.out) _ e; omega)
      simp only [World.cell?, hbk]
      exact hbx)) HRU.out (by have := hln.out; omega)).mono ?_; rintro e w3 ⟨v3, rfl, ho3, hf3, he3⟩; (obtain ⟨⟨u5, hu5, hf5⟩, hs5⟩ := HNX.out w3 v3 _ (R_ints ho3) hf3 (.inl he3)); have HS5 := Aside0.mk hs5; have HF3 := Aside0.mk hf3; obtain ⟨A3, c3, rfl⟩ := Kd.R_slice ho3; clear ho3 hf3 he3 hs5)
    go_ret
    refine ⟨_, rfl, ?_, ?_⟩
    · rw [HRS.out]
      exact Kd.S_lower HS5.out (Nat.le_succ _)
    · have h2 : Below w.heap.size w w2 := (below_alloc (Below.refl _ _) _).trans (HB2.out.mono (Nat.le_succ _))
      have h3 := below_fr h2 HF3.out (fun k hk => by have := own_base (R_ints HRU.out) k hk; omega) h2.size
      exact h3.setCell (by have := HGO.out.1; show w.heap.size ≤ go; omega) _
  · rw [hna] at HIS
    have HRS : Aside0 (r = clean l0) := by
      have := HF.out.2
      unfold withoutE at this
      rw [clean_len, if_neg (by rw [hna]; simp)] at this
      exact ⟨this⟩
    clear hna
    go_enter Try.func66, Try.ntmps66
    go_wp2_with (first | (go_at_call 19; refine (HCL'.out _ (below_alloc (Below.refl _ _) _)).mono ?_; rintro e w2 ⟨v2, rfl, ho2, hb2⟩; rw [size_alloc1] at ho2 hb2; have HO2 := Aside0.mk ho2; have HB2 := Aside0.mk hb2; clear ho2 hb2) | (go_at_call 48; (with_reducible refine (HIS _).mono ?_); rintro e w' ⟨rfl, rfl⟩))
    go_ret
    refine ⟨_, rfl, ?_, (below_alloc (Below.refl _ _) _).trans (HB2.out.mono (Nat.le_succ _))⟩
    rw [HRS.out]
    exact Kd.S_lower HO2.out (Nat.le_succ _)
theorem bs_c (A : Option Addr) (c : Nat) (xs : List Int) (x : Int) (w : World) (h : dI.C w A xs.length xs) (hb : xs.length ≤ 1000000) (hs : xs.Pairwise (· ≤ ·)) :
    Calls Try.prog 82 #[.slice A xs.length c, .int .i64 x] w fun e w' => e = .returned (.tuple #[.int .i64 (xs.countP (fun y => decide (y < x)) : Nat), .bool (xs.contains x)]) ∧ ∃ q, w' = w.drewN q := by
  rcases Nat.eq_zero_or_pos xs.length with h0 | h0
  · obtain rfl := List.eq_nil_of_length_eq_zero h0
    refine (Try.slices_BinarySearch_int_empty A c x w).mono ?_
    rintro e w' ⟨rfl, hw⟩
    exact ⟨rfl, 0, by rw [hw]; rfl⟩
  · obtain ⟨b, off, he, _, hc⟩ := C_ints h h0
    subst he
    have := Try.slices_BinarySearch_int b off xs.length c xs x w (Nat.le_refl _) (by omega) hc (by rw [List.take_length]; exact hs)
    rw [List.take_length] at this
    exact this
set_option maxHeartbeats 4000000 in
set_option maxRecDepth 100000 in
theorem graph_With.calls (A0 : Option Addr) (c0 : Nat) (l0 : List (List Int)) (a1 : Int) (a2 : Int) (r : List (List Int)) (w : World) (hr0 : Kd.C (Kd.slice 3 (Kd.int .i64)) w A0 l0.length l0) (hc0 : l0.length ≤ c0) (h : graph_With.f l0 a1 a2 = some r) :
    Calls Try.prog 61 #[.slice A0 l0.length c0, .int .i64 a1, .int .i64 a2] w fun e w' => ∃ v0_ : Value, e = .returned v0_ ∧ Kd.S (Kd.slice 3 (Kd.int .i64)) 25 w' w.heap.size (fun _ => True) v0_ r ∧ Below w.heap.size w w' := by
  have HR0 := Aside0.mk hr0
  have HC0 := Aside0.mk hc0
  have HF : Aside0 (fits l0 = true ∧ r = withE (clean l0) a1 a2) := by
    unfold graph_With.f at h
    split at h
    · exact ⟨⟨by assumption, (Option.some.inj h).symm⟩⟩
    · cases h
  clear hr0 hc0 h
  have HCL' : Aside0 (∀ W, Below w.heap.size w W → Calls Try.prog 19 #[.slice A0 l0.length c0] W fun e w' => ∃ v0_ : Value, e = .returned v0_ ∧ Kd.S (Kd.slice 3 (Kd.int .i64)) 25 w' W.heap.size (fun _ => True) v0_ (clean l0) ∧ Below W.heap.size W w') :=
    ⟨fun W hW => graph_Clean.calls A0 c0 l0 (clean l0) W (Kd.C_below HR0.out hW) HC0.out (by unfold graph_Clean.f; rw [if_pos HF.out.1])⟩
  have HIS : ∀ W, Calls Try.prog 48 #[.slice A0 l0.length c0, .int .i64 a1] W fun e w' => e = .returned (.bool (isN l0.length a1)) ∧ W = w' := fun W => is_c a1 A0 l0.length c0 W
  have HIT : ∀ W, Calls Try.prog 48 #[.slice A0 l0.length c0, .int .i64 a2] W fun e w' => e = .returned (.bool (isN l0.length a2)) ∧ W = w' := fun W => is_c a2 A0 l0.length c0 W
  have hno : ∀ (hx : ¬ (isN l0.length a1 = true ∧ isN l0.length a2 = true)), Aside0 (r = clean l0) := by
    intro hx
    have := HF.out.2
    unfold withE at this
    rw [clean_len, if_neg (fun hh => hx ⟨hh.1, hh.2.1⟩)] at this
    exact ⟨this⟩
  have HNO := Aside0.mk hno
  clear hno
  have CLN := HCL'.out w (Below.refl _ _)
  have CL := Aside0.mk CLN
  clear CLN HCL'
  rcases Bool.eq_false_or_eq_true (isN l0.length a1) with hna | hna
  · rw [hna] at HIS
    rcases Bool.eq_false_or_eq_true (isN l0.length a2) with hnb | hnb
    · rw [hnb] at HIT
      obtain ⟨ha0, ha1⟩ := isN_iff.1 hna
      obtain ⟨row_, erow⟩ : ∃ row_, row_ = (clean l0).getD a1.toNat [] := ⟨_, rfl⟩
      have hmem : row_ ∈ clean l0 := by
        rw [erow, List.getD_eq_getElem?_getD, List.getElem?_eq_getElem (by rw [clean_len]; omega)]
        exact List.getElem_mem _
      have HRW : Aside0 (row_.length ≤ 100000 ∧ row_.Pairwise (· ≤ ·) ∧ row_ = (clean l0).getD a1.toNat []) := by
        refine ⟨clean_small HF.out.1 _ hmem, ?_, erow⟩
        obtain ⟨q, _, e⟩ := List.mem_map.1 hmem
        rw [← e]
        exact (cleanRow_rises _ _).imp (fun h => by omega)
      have HRS : Aside0 ((row_.contains a2 = true → r = clean l0) ∧ (row_.contains a2 = false → r = (clean l0).set a1.toNat (row_.take (row_.countP (fun y => decide (y < a2))) ++ a2 :: row_.drop (row_.countP (fun y => decide (y < a2)))))) := by
        have hr := HF.out.2
        unfold withE at hr
        rw [clean_len, ← erow] at hr
        refine ⟨fun hc => ?_, fun hc => ?_⟩
        · rw [if_neg (fun hh => hh.2.2 (by simpa using hc))] at hr
          exact hr
        · rw [if_pos ⟨hna, hnb, by simpa using hc⟩] at hr
          exact hr
      clear hna hnb hmem HNO erow
      obtain ⟨con, hcon⟩ : ∃ con, con = row_.contains a2 := ⟨_, rfl⟩
      rw [← hcon] at HRS
      have HCON := Aside0.mk hcon
      clear hcon
      cases con with
      | true =>
        have HRT := Aside0.mk (HRS.out.1 rfl)
        have HBS : Aside0 (∀ W A c, dI.C W A row_.length row_ → Calls Try.prog 82 #[.slice A row_.length c, .int .i64 a2] W fun e w' => (∃ kk : Nat, e = .returned (.tuple #[.int .i64 kk, .bool true])) ∧ ∃ q, w' = W.drewN q) :=
          ⟨fun W A c hC => (bs_c A c row_ a2 W hC (by have := HRW.out.1; omega) HRW.out.2.1).mono fun e w' hh => ⟨⟨_, by rw [HCON.out]; exact hh.1⟩, hh.2⟩⟩
        go_enter Try.func61, Try.ntmps61
        go_wp2_with (first | (go_at_call 19; refine CL.out.mono ?_; rintro e w2 ⟨v2, rfl, ho2, hb2⟩; obtain ⟨go, cap, e2, hgo1, hgo2, _⟩ := Kd.S_form ho2 (by rw [clean_len]; omega); rw [clean_len] at e2; subst e2; have HO2 := Aside0.mk ho2; have HB2 := Aside0.mk hb2; have HGO := Aside0.mk (And.intro hgo1 hgo2); (obtain ⟨Au, cu, hcu, hRu, _, hnx⟩ := S_newelem ho2 (fun _ _ => trivial) (j := a1.toNat) (by omega)); rw [← HRW.out.2.2] at hcu hRu hnx; have HRU := Aside0.mk hRu; have HNX := Aside0.mk hnx; clear ho2 hb2 hgo1 hgo2 hRu hnx) | (go_at_call 48; (with_reducible refine (HIS _).mono ?_); rintro e w' ⟨rfl, rfl⟩) | (go_at_call 48; (with_reducible refine (HIT _).mono ?_); rintro e w' ⟨rfl, rfl⟩))
        go_wp2_with (go_at_call 82; refine (HBS.out _ _ _ (Kd.R_reads' HRU.out).2.2).mono ?_; rintro e w3 ⟨⟨kk, rfl⟩, q, rfl⟩)
        go_ret
        refine ⟨_, rfl, ?_, by repeat (first | exact HB2.out | apply pw_below_drewN | apply below_drew1)⟩
        rw [HRT.out]
        exact Kd.S_drewN HO2.out _
      | false =>
        obtain ⟨kk, hkk⟩ : ∃ kk, kk = row_.countP (fun y => decide (y < a2)) := ⟨_, rfl⟩
        rw [← hkk] at HRS
        obtain ⟨ys, hys⟩ : ∃ ys, ys = row_.take kk ++ a2 :: row_.drop kk := ⟨_, rfl⟩
        rw [← hys] at HRS
        have HRT := Aside0.mk (HRS.out.2 rfl)
        have HYS := Aside0.mk hys
        have HBS : Aside0 (∀ W A c, dI.C W A row_.length row_ → Calls Try.prog 82 #[.slice A row_.length c, .int .i64 a2] W fun e w' => e = .returned (.tuple #[.int .i64 kk, .bool false]) ∧ ∃ q, w' = W.drewN q) :=
          ⟨fun W A c hC => (bs_c A c row_ a2 W hC (by have := HRW.out.1; omega) HRW.out.2.1).mono fun e w' hh => ⟨by rw [HCON.out, hkk]; exact hh.1, hh.2⟩⟩
        have HKK : Aside0 (kk ≤ row_.length) := by
          rw [hkk]
          exact ⟨List.countP_le_length⟩
        have hyl : Aside0 (ys.length = row_.length + 1) := by
          have := HKK.out
          refine ⟨?_⟩
          rw [hys]
          simp
          omega
        clear hkk hys
        go_enter Try.func61, Try.ntmps61
        go_wp2_with (first | (go_at_call 19; refine CL.out.mono ?_; rintro e w2 ⟨v2, rfl, ho2, hb2⟩; obtain ⟨go, cap, e2, hgo1, hgo2, _⟩ := Kd.S_form ho2 (by rw [clean_len]; omega); rw [clean_len] at e2; subst e2; have HO2 := Aside0.mk ho2; have HB2 := Aside0.mk hb2; have HGO := Aside0.mk (And.intro hgo1 hgo2); (obtain ⟨Au, cu, hcu, hRu, _, hnx⟩ := S_newelem ho2 (fun _ _ => trivial) (j := a1.toNat) (by omega)); rw [← HRW.out.2.2] at hcu hRu hnx; have HRU := Aside0.mk hRu; have HNX := Aside0.mk hnx; clear ho2 hb2 hgo1 hgo2 hRu hnx) | (go_at_call 48; (with_reducible refine (HIS _).mono ?_); rintro e w' ⟨rfl, rfl⟩) | (go_at_call 48; (with_reducible refine (HIT _).mono ?_); rintro e w' ⟨rfl, rfl⟩))
        go_wp2_with (go_at_call 82; refine (HBS.out _ _ _ (Kd.R_reads' HRU.out).2.2).mono ?_; rintro e w3 ⟨rfl, q, rfl⟩)
        go_wp2_with (go_at_call 83; refine (insert_c _ row_ a2 kk (w.heap.size) (fun k => True ∧ k ≠ go) _ _ (Kd.R_alloc (Kd.R_drewN HRU.out q) _) HKK.out (by have := HRW.out.1; omega) (heap_alloc_new (w2.drewN q) _) (fun e => absurd (show w2.heap.size < w2.heap.size from own_lt (R_ints HRU.out) _ e) (Nat.lt_irrefl _)) (by rw [size_alloc1]; have := HB2.out.size; show w.heap.size ≤ w2.heap.size + 1; omega)).mono ?_; rintro e w4 ⟨v4, rfl, ho4, hf4, hat4⟩; rw [← HYS.out, ← hyl.out] at ho4; (have hf5 := (((Fr.drewN (fun k => (Value.slice Au row_.length cu).ownBlock = some k) w2 q).alloc (.cells #[.int .i64 a2] 3)).trans hf4 (fun _ hh => .inl hh))); (obtain ⟨⟨u5, hu5, hf6⟩, hs5⟩ := HNX.out w4 v4 _ ho4 hf5 (hat4.imp id (fun ⟨b, h1, h2⟩ => ⟨b, h1, by rw [size_alloc1] at h2; exact Nat.le_trans (Nat.le_succ _) h2⟩))); have HS5 := Aside0.mk hs5; have HF5 := Aside0.mk hf5; obtain ⟨A4, c4, rfl⟩ := own_slice ho4; clear ho4 hf4 hat4 hf5 hs5)
        go_ret
        refine ⟨_, rfl, ?_, ?_⟩
        · rw [HRT.out]
          exact HS5.out
        · have h3 := below_fr HB2.out HF5.out (fun k hk => own_base (R_ints HRU.out) k hk) HB2.out.size
          exact h3.setCell (by have := HGO.out.1; show w.heap.size ≤ go; omega) _
    · rw [hnb] at HIT
      have HRS := HNO.out (by rw [hnb]; simp)
      clear hna hnb HNO
      go_enter Try.func61, Try.ntmps61
      go_wp2_with (first | (go_at_call 19; refine CL.out.mono ?_; rintro e w2 ⟨v2, rfl, ho2, hb2⟩; have HO2 := Aside0.mk ho2; have HB2 := Aside0.mk hb2; clear ho2 hb2) | (go_at_call 48; (with_reducible refine (HIS _).mono ?_); rintro e w' ⟨rfl, rfl⟩) | (go_at_call 48; (with_reducible refine (HIT _).mono ?_); rintro e w' ⟨rfl, rfl⟩))
      go_ret
      exact ⟨_, rfl, by rw [HRS.out]; exact HO2.out, HB2.out⟩
  · rw [hna] at HIS
    have HRS := HNO.out (by rw [hna]; simp)
    clear hna HNO
    go_enter Try.func61, Try.ntmps61
    go_wp2_with (first | (go_at_call 19; refine CL.out.mono ?_; rintro e w2 ⟨v2, rfl, ho2, hb2⟩; have HO2 := Aside0.mk ho2; have HB2 := Aside0.mk hb2; clear ho2 hb2) | (go_at_call 48; (with_reducible refine (HIS _).mono ?_); rintro e w' ⟨rfl, rfl⟩))
    go_ret
    exact ⟨_, rfl, by rw [HRS.out]; exact HO2.out, HB2.out⟩
end Go.Proofs.Ytemcmcnhpdkdfaa.P
namespace Go.Proofs.Ytemcmcnhpdkdfaa.P
open Go.RowKit Go.Proofs.YtemcmcnhpdkdfaaW.PrintWords Go.Proofs.YtemcmcnhpdkdfaaW.PrintLast Go.Proofs.YtemcmcnhpdkdfaaW.PrintMore
attribute [local go_sem] max2_int min2_int max_two min_two max_three min_three max_four min_four
set_option linter.unusedVariables false
set_option linter.unusedSimpArgs false
def domup_New.f (k : Nat) (l0 : List (List Int)) : Option ((List (List Int)) × List Int × Bool) := (graph_Clean.f l0).bind fun t442 => ((dom_Idoms.f k l0).bind fun t445 => (some (t442, t445, true)))
theorem domup_New.mono : ∀ a0 k, LeO (domup_New.f k a0) (domup_New.f (k + 1) a0) := by
  intro a0 k
  unfold domup_New.f
  repeat' first
      | (with_reducible exact dom_Idoms.mono _ _)
      | (with_reducible exact LeO.refl _)
      | (with_reducible exact LeO.none _)
      | (with_reducible refine LeO.ite ?_ ?_)
      | (with_reducible refine LeO.bind ?_ (fun _ => ?_))
      | exact dom_Idoms.mono _ _
      | exact LeO.none _
      | refine LeO.ite ?_ ?_
      | refine LeO.bind ?_ (fun _ => ?_)
set_option maxHeartbeats 8000000 in
set_option maxRecDepth 100000 in
theorem domup_New.calls (k : Nat) (A0 : Option Addr) (c0 : Nat) (l0 : List (List Int)) (r1 : List (List Int)) (r2 : List Int) (r3 : Bool) (w : World) (hr0 : Kd.C (Kd.slice 3 (Kd.int .i64)) w A0 l0.length l0) (hc0 : l0.length ≤ c0) (h : domup_New.f k l0 = some (r1, r2, r3)) :
    Calls Try.prog 32 #[.slice A0 l0.length c0] w fun e w' => ∃ v0_ v1_ : Value, e = .returned (.agg #[v0_, v1_, .bool r3]) ∧ Kd.S (Kd.slice 3 (Kd.int .i64)) 25 w' w.heap.size (fun k_ => some k_ ≠ (v1_ : Value).ownBlock) v0_ r1 ∧ Kd.R (Kd.int .i64) 3 w' w.heap.size (fun _ => True) v1_ r2 ∧ Below w.heap.size w w' := by
  have hu40 := Try.underlying40
  have HR0 := Aside0.mk hr0
  have HC0 := Aside0.mk hc0
  clear hr0 hc0
  have HB := Aside0.mk (Below.refl w.heap.size w)
  have H : ((graph_Clean.f l0).bind fun t442 => ((dom_Idoms.f k l0).bind fun t445 => (some (t442, t445, true)))) = some (r1, r2, r3) := h
  clear h
  replace H := Option.bind_eq_some_iff.mp H
  obtain ⟨t442, A20, H⟩ := H
  replace H : ((dom_Idoms.f k l0).bind fun t445 => (some (t442, t445, true))) = some (r1, r2, r3) := H
  have A2 := Aside0.mk A20
  clear A20
  replace H := Option.bind_eq_some_iff.mp H
  obtain ⟨t445, A30, H⟩ := H
  replace H : (some (t442, t445, true)) = some (r1, r2, r3) := H
  have A3 := Aside0.mk A30
  clear A30
  simp only [Option.some.injEq, Prod.mk.injEq] at H
  obtain ⟨rfl, rfl, rfl⟩ := H
  go_enter Try.func32, Try.ntmps32
  go_wp2_with (first | ((with_reducible refine gate_dst (N := 2) rfl ?_); refine box_event ?hg (N := 2) ?hd (cs := #[.slice none 0 0, .slice none 0 0, .bool false]) (t := 40) ?hr ?_; (case hd => rfl); (case hg => rfl); (case hr => first | (go_simp; done) | (go_simp; rfl)); intro gb441 hg w4 hbox hb; have n0_ := Aside0.mk (below_step (by repeat (first | (with_reducible first | exact HB.out | apply below_alloc | apply pw_below_drewN | apply below_drew1) | exact HB.out)) hb); have n1_ := Aside0.mk (hbox); have n2_ := Aside0.mk ((by rw [hg]; exact (below_size (by repeat (first | (with_reducible first | exact HB.out | apply below_alloc | apply pw_below_drewN | apply below_drew1) | exact HB.out))) : w.heap.size ≤ gb441)); have n3_ := Aside0.mk ((by rw [hg]; exact (below_size (by repeat (first | (with_reducible first | exact HB.out | apply below_alloc | apply pw_below_drewN | apply below_drew1) | exact HB.out))) : w.heap.size ≤ gb441)); clear HB; have HB := n0_; have BK441 := n1_; have GW441 := n2_; have GE441 := n3_; clear n0_ n1_ n2_ n3_; clear hb hbox hg) | ((with_reducible refine gate_callee (f := 19) rfl ?_); refine goesL_ (some 4) rfl rfl Try.func19 (by kernel_rfl) rfl #[.slice A0 l0.length c0] rfl (by (try simp only [List.map_toArray, List.map_cons, List.map_nil]); first | done | rfl | (simp only [List.length_drop, List.length_take]; rfl)) ?_; (with_reducible refine (graph_Clean.calls _ _ l0 t442 _ ?side1 ?side2 A2.out).mono ?_); (case side1 => repeat (first | exact (Kd.C_below HR0.out HB.out) | (with_reducible refine Kd.C_alloc ?_ _) | (with_reducible refine Kd.C_drewN ?_ _) | (with_reducible refine Kd.C_drew ?_))); (case side2 => exact HC0.out); rintro e w5 ⟨v443, rfl, ho0, hb⟩; refine ⟨_, rfl, ?_⟩; have n0_ := Aside0.mk (Kd.S_lower ho0 (below_size (by repeat (first | (with_reducible first | exact HB.out | apply below_alloc | apply pw_below_drewN | apply below_drew1 | refine below_set ?_ GE441.out) | exact HB.out)))); have n1_ := Aside0.mk (blk_below (g := gb441) (o := .cells #[.slice none 0 0, .slice none 0 0, .bool false] 40 (0, 0)) (by (with_reducible repeat (first | refine blk_drewN ?_ _ | refine blk_drew ?_ | refine blk_alloc ?_ _)); exact BK441.out) hb); have n2_ := Aside0.mk (below_step (by repeat (first | (with_reducible first | exact HB.out | apply below_alloc | apply pw_below_drewN | apply below_drew1 | refine below_set ?_ GE441.out) | exact HB.out)) hb); clear BK441; clear HB; have HO444 := n0_; have BK441 := n1_; have HB := n2_; clear n0_ n1_ n2_; (try clear hb); (try clear hb2); (try clear hk); (try clear hi); (try clear ho0)) | ((with_reducible refine gate_callee (f := 15) rfl ?_); refine goesL_ (some 6) rfl rfl Try.func15 (by kernel_rfl) rfl #[.slice A0 l0.length c0] rfl (by (try simp only [List.map_toArray, List.map_cons, List.map_nil]); first | done | rfl | (simp only [List.length_drop, List.length_take]; rfl)) ?_; (with_reducible refine (dom_Idoms.calls k _ _ l0 t445 _ ?side1 ?side2 A3.out).mono ?_); (case side1 => repeat (first | exact (Kd.C_below HR0.out HB.out) | (with_reducible refine Kd.C_alloc ?_ _) | (with_reducible refine Kd.C_drewN ?_ _) | (with_reducible refine Kd.C_drew ?_))); (case side2 => exact HC0.out); rintro e w6 ⟨v446, rfl, ho0, hb⟩; refine ⟨_, rfl, ?_⟩; have n0_ := Aside0.mk (Kd.S_elder' (by (with_reducible repeat (first | apply Kd.S_alloc | apply Kd.S_drewN | apply Kd.S_drew)); exact HO444.out) (Kd.R_base ho0) hb); have n1_ := Aside0.mk (Kd.R_lower ho0 (below_size (by repeat (first | (with_reducible first | exact HB.out | apply below_alloc | apply pw_below_drewN | apply below_drew1 | refine below_set ?_ GE441.out) | exact HB.out)))); have n2_ := Aside0.mk (blk_below (g := gb441) (o := .cells #[.slice none 0 0, .slice none 0 0, .bool false] 40 (0, 0)) (by (with_reducible repeat (first | refine blk_drewN ?_ _ | refine blk_drew ?_ | refine blk_alloc ?_ _)); exact BK441.out) hb); have n3_ := Aside0.mk (below_step (by repeat (first | (with_reducible first | exact HB.out | apply below_alloc | apply pw_below_drewN | apply below_drew1 | refine below_set ?_ GE441.out) | exact HB.out)) hb); clear HO444; clear BK441; clear HB; have HO444 := n0_; have HO447 := n1_; have BK441 := n2_; have HB := n3_; clear n0_ n1_ n2_ n3_; (try clear hb); (try clear hb2); (try clear hk); (try clear hi); (try clear ho0); obtain ⟨Ao7, co7, eo7⟩ := Kd.R_slice HO447.out; subst eo7; obtain ⟨Ao8, co8, eo8⟩ := Kd.S_slice HO444.out; subst eo8; have hcz9_0 : w6.cell? ⟨gb441, 0, none⟩ = some (.slice none 0 0) := (blk_cell BK441.out 0).trans rfl; have hcz9_1 : w6.cell? ⟨gb441, 1, none⟩ = some (.slice none 0 0) := (blk_cell BK441.out 1).trans rfl; have hcz9_2 : w6.cell? ⟨gb441, 2, none⟩ = some (.bool false) := (blk_cell BK441.out 2).trans rfl; have hfz9_0 := blk_frozen BK441.out 0; have hfz9_1 := blk_frozen BK441.out 1; have hfz9_2 := blk_frozen BK441.out 2))
  refine bodyPost_ret (results_cell_row rfl _ _ gb441 40 #[.slice Ao8 t442.length co8, .slice Ao7 t445.length co7, .bool true] (0, 0) _ rfl (by (with_reducible repeat (first | refine blk_drewN ?_ _ | refine blk_drew ?_ | refine blk_alloc ?_ _)); refine blk_put (cs := #[.slice Ao8 t442.length co8, .slice Ao7 t445.length co7, .bool false]) ?_ 2 _ rfl; (with_reducible repeat (first | refine blk_drewN ?_ _ | refine blk_drew ?_ | refine blk_alloc ?_ _)); refine blk_put (cs := #[.slice Ao8 t442.length co8, .slice none 0 0, .bool false]) ?_ 1 _ rfl; (with_reducible repeat (first | refine blk_drewN ?_ _ | refine blk_drew ?_ | refine blk_alloc ?_ _)); refine blk_put (cs := #[.slice none 0 0, .slice none 0 0, .bool false]) ?_ 0 _ rfl; (with_reducible repeat (first | refine blk_drewN ?_ _ | refine blk_drew ?_ | refine blk_alloc ?_ _)); exact BK441.out) Try.underlying40 rfl (by kernel_rfl)) rfl ?_
  exact ⟨_, _, by first | rfl | (simp [errW_none, errW_some] <;> rfl) | (simp [*, errW_none, errW_some] <;> rfl) | (exfalso; (try simp_all); (try omega); done), by (with_reducible repeat (first | apply Kd.S_alloc | apply Kd.S_drewN | apply Kd.S_drew)); exact Kd.S_mono (Kd.S_far (p := ⟨gb441, 2, none⟩) (Kd.S_far (p := ⟨gb441, 1, none⟩) (Kd.S_far (p := ⟨gb441, 0, none⟩) (Kd.S_types HO444.out BK441.out (by decide)) (fun _ hk => hk.2) (.slice Ao8 t442.length co8)) (fun _ hk => hk.2) (.slice Ao7 t445.length co7)) (fun _ hk => hk.2) (.bool true)) (fun _ hk => hk.1.2), by (with_reducible repeat (first | apply Kd.R_alloc | apply Kd.R_drewN | apply Kd.R_drew)); exact Kd.R_mono (Kd.R_far (p := ⟨gb441, 2, none⟩) (Kd.R_far (p := ⟨gb441, 1, none⟩) (Kd.R_far (p := ⟨gb441, 0, none⟩) (Kd.R_types HO447.out BK441.out (by decide)) (fun _ hk => hk.2) (.slice Ao8 t442.length co8)) (fun _ hk => hk.2) (.slice Ao7 t445.length co7)) (fun _ hk => hk.2) (.bool true)) (fun _ hk => trivial), by repeat (first | (with_reducible first | exact HB.out | apply below_alloc | apply pw_below_drewN | apply below_drew1 | refine below_set ?_ GE441.out) | exact HB.out)⟩
def domup_changed.l0 : Nat → List Int → List Int → Int → Int → List (List Int) → List Int → Bool → Option (List Int)
  | 0, _, _, _, _, _, _, _ => none
  | k + 1, x5, x9, x10, x11, x704000, x704001, x704002 => if x11 < x10 then (if 0 ≤ x11 then (if x11 < (x9.length : Int) then (if x11 < (x704001.length : Int) then (if (rd x704001 x11) = (rd x9 x11) then (domup_changed.l0 k x5 x9 x10 (wrap64 (x11 + 1)) x704000 x704001 x704002) else (if x5.length < 17592186044416 then (domup_changed.l0 k (x5 ++ [x11]) x9 x10 (wrap64 (x11 + 1)) x704000 x704001 x704002) else (none))) else (none)) else (none)) else (none)) else (some x5)
def domup_changed.f (k : Nat) (l0_0 : List (List Int)) (l0_1 : List Int) (a0_2 : Bool) (l1_0 : List (List Int)) (l1_1 : List Int) (a1_2 : Bool) : Option (List Int) := domup_changed.l0 k ([] : List Int) l0_1 (l0_1.length : Int) 0 l1_0 l1_1 a1_2
theorem domup_changed.mono_l : ∀ k, (∀ y0 y1 y2 y3 y4 y5 y6, LeO (domup_changed.l0 k y0 y1 y2 y3 y4 y5 y6) (domup_changed.l0 (k + 1) y0 y1 y2 y3 y4 y5 y6))
  | 0 => fun _ _ _ _ _ _ _ r h => by simp [domup_changed.l0] at h
  | k + 1 => by
    have ih0 := domup_changed.mono_l k
    · intro y0 y1 y2 y3 y4 y5 y6
      unfold domup_changed.l0
      repeat' first
      | (with_reducible exact ih0 _ _ _ _ _ _ _)
      | (with_reducible exact LeO.refl _)
      | (with_reducible exact LeO.none _)
      | (with_reducible refine LeO.ite ?_ ?_)
      | (with_reducible refine LeO.bind ?_ (fun _ => ?_))
      | exact ih0 _ _ _ _ _ _ _
      | exact LeO.none _
      | refine LeO.ite ?_ ?_
      | refine LeO.bind ?_ (fun _ => ?_)
theorem domup_changed.mono : ∀ a0 a1 a2 a3 a4 a5 k, LeO (domup_changed.f k a0 a1 a2 a3 a4 a5) (domup_changed.f (k + 1) a0 a1 a2 a3 a4 a5) := by
  intro a0 a1 a2 a3 a4 a5 k
  have ih0 := domup_changed.mono_l k
  unfold domup_changed.f
  repeat' first
      | (with_reducible exact ih0 _ _ _ _ _ _ _)
      | (with_reducible exact LeO.refl _)
      | (with_reducible exact LeO.none _)
      | (with_reducible refine LeO.ite ?_ ?_)
      | (with_reducible refine LeO.bind ?_ (fun _ => ?_))
      | exact ih0 _ _ _ _ _ _ _
      | exact LeO.none _
      | refine LeO.ite ?_ ?_
      | refine LeO.bind ?_ (fun _ => ?_)
set_option maxHeartbeats 8000000 in
set_option maxRecDepth 100000 in
theorem domup_changed.calls (k : Nat) (A0_0 : Option Addr) (c0_0 : Nat) (l0_0 : List (List Int)) (A0_1 : Option Addr) (c0_1 : Nat) (l0_1 : List Int) (a0_2 : Bool) (A1_0 : Option Addr) (c1_0 : Nat) (l1_0 : List (List Int)) (A1_1 : Option Addr) (c1_1 : Nat) (l1_1 : List Int) (a1_2 : Bool) (r : List Int) (w : World) (hr0_0 : Kd.C (Kd.slice 3 (Kd.int .i64)) w A0_0 l0_0.length l0_0) (hc0_0 : l0_0.length ≤ c0_0) (hr0_1 : Kd.C (Kd.int .i64) w A0_1 l0_1.length l0_1) (hc0_1 : l0_1.length ≤ c0_1) (hr1_0 : Kd.C (Kd.slice 3 (Kd.int .i64)) w A1_0 l1_0.length l1_0) (hc1_0 : l1_0.length ≤ c1_0) (hr1_1 : Kd.C (Kd.int .i64) w A1_1 l1_1.length l1_1) (hc1_1 : l1_1.length ≤ c1_1) (h : domup_changed.f k l0_0 l0_1 a0_2 l1_0 l1_1 a1_2 = some r) :
    Calls Try.prog 65 #[.agg #[.slice A0_0 l0_0.length c0_0, .slice A0_1 l0_1.length c0_1, .bool a0_2], .agg #[.slice A1_0 l1_0.length c1_0, .slice A1_1 l1_1.length c1_1, .bool a1_2]] w fun e w' => ∃ v0_ : Value, e = .returned (v0_) ∧ Kd.R (Kd.int .i64) 3 w' w.heap.size (fun _ => True) v0_ r ∧ Below w.heap.size w w' := by
  have hu40 := Try.underlying40
  have HR0_0 := Aside0.mk hr0_0
  have HC0_0 := Aside0.mk hc0_0
  clear hr0_0 hc0_0
  have HR0_1 := Aside0.mk hr0_1
  have HC0_1 := Aside0.mk hc0_1
  clear hr0_1 hc0_1
  have HR1_0 := Aside0.mk hr1_0
  have HC1_0 := Aside0.mk hc1_0
  clear hr1_0 hc1_0
  have HR1_1 := Aside0.mk hr1_1
  have HC1_1 := Aside0.mk hc1_1
  clear hr1_1 hc1_1
  have HB := Aside0.mk (Below.refl w.heap.size w)
  have H : (domup_changed.l0 k ([] : List Int) l0_1 (l0_1.length : Int) 0 l1_0 l1_1 a1_2) = some r := h
  clear h
  have H' := Aside0.mk H
  clear H
  go_enter Try.func65, Try.ntmps65
  go_wp2_with (first | ((with_reducible refine gate_dst (N := 2) rfl ?_); refine box_event ?hg (N := 2) ?hd (cs := #[.slice A0_0 l0_0.length c0_0, .slice A0_1 l0_1.length c0_1, .bool a0_2]) (t := 40) ?hr ?_; (case hd => rfl); (case hg => rfl); (case hr => first | (go_simp; done) | (go_simp; rfl)); intro gb702 hg w3 hbox hb; have n0_ := Aside0.mk (below_step (by repeat (first | (with_reducible first | exact HB.out | apply below_alloc | apply pw_below_drewN | apply below_drew1) | exact HB.out)) hb); have n1_ := Aside0.mk (hbox); have n2_ := Aside0.mk ((by rw [hg]; exact (below_size (by repeat (first | (with_reducible first | exact HB.out | apply below_alloc | apply pw_below_drewN | apply below_drew1) | exact HB.out))) : w.heap.size ≤ gb702)); have n3_ := Aside0.mk ((by rw [hg]; exact (below_size (by repeat (first | (with_reducible first | exact HB.out | apply below_alloc | apply pw_below_drewN | apply below_drew1) | exact HB.out))) : w.heap.size ≤ gb702)); clear HB; have HB := n0_; have BK702 := n1_; have GW702 := n2_; have GE702 := n3_; clear n0_ n1_ n2_ n3_; clear hb hbox hg) | ((with_reducible refine gate_dst (N := 3) rfl ?_); refine box_event ?hg (N := 3) ?hd (cs := #[.slice A1_0 l1_0.length c1_0, .slice A1_1 l1_1.length c1_1, .bool a1_2]) (t := 40) ?hr ?_; (case hd => rfl); (case hg => rfl); (case hr => first | (go_simp; done) | (go_simp; rfl)); intro gb703 hg w4 hbox hb; have n0_ := Aside0.mk (blk_below (g := gb702) (o := .cells #[.slice A0_0 l0_0.length c0_0, .slice A0_1 l0_1.length c0_1, .bool a0_2] 40 (0, 0)) (by (with_reducible repeat (first | refine blk_drewN ?_ _ | refine blk_drew ?_ | refine blk_alloc ?_ _)); exact BK702.out) hb); have n1_ := Aside0.mk (below_step (by repeat (first | (with_reducible first | exact HB.out | apply below_alloc | apply pw_below_drewN | apply below_drew1 | refine below_set ?_ GE702.out) | exact HB.out)) hb); have n2_ := Aside0.mk (hbox); have n3_ := Aside0.mk ((by rw [hg]; exact (below_size (by repeat (first | (with_reducible first | exact HB.out | apply below_alloc | apply pw_below_drewN | apply below_drew1 | refine below_set ?_ GE702.out) | exact HB.out))) : w.heap.size ≤ gb703)); have n4_ := Aside0.mk ((by rw [hg]; exact (below_size (by repeat (first | (with_reducible first | exact HB.out | apply below_alloc | apply pw_below_drewN | apply below_drew1 | refine below_set ?_ GE702.out) | exact HB.out))) : w.heap.size ≤ gb703)); have n5_ := Aside0.mk ((by rw [hg]; exact Nat.ne_of_lt (blk_lt (g := gb702) (o := .cells #[.slice A0_0 l0_0.length c0_0, .slice A0_1 l0_1.length c0_1, .bool a0_2] 40 (0, 0)) (by (with_reducible repeat (first | refine blk_drewN ?_ _ | refine blk_drew ?_ | refine blk_alloc ?_ _)); exact BK702.out)) : gb702 ≠ gb703)); have n6_ := Aside0.mk ((by rw [hg]; exact Nat.ne_of_gt (blk_lt (g := gb702) (o := .cells #[.slice A0_0 l0_0.length c0_0, .slice A0_1 l0_1.length c0_1, .bool a0_2] 40 (0, 0)) (by (with_reducible repeat (first | refine blk_drewN ?_ _ | refine blk_drew ?_ | refine blk_alloc ?_ _)); exact BK702.out)) : gb703 ≠ gb702)); clear BK702; clear HB; have BK702 := n0_; have HB := n1_; have BK703 := n2_; have GW703 := n3_; have GE703 := n4_; have NB702_703 := n5_; have NB703_702 := n6_; clear n0_ n1_ n2_ n3_ n4_ n5_ n6_; clear hb hbox hg; have hnb5 := NB702_703.out; have hnc5 := NB703_702.out; have hcz6_0 : w4.cell? ⟨gb702, 0, none⟩ = some (.slice A0_0 l0_0.length c0_0) := (blk_cell BK702.out 0).trans rfl; have hcz6_1 : w4.cell? ⟨gb702, 1, none⟩ = some (.slice A0_1 l0_1.length c0_1) := (blk_cell BK702.out 1).trans rfl; have hcz6_2 : w4.cell? ⟨gb702, 2, none⟩ = some (.bool a0_2) := (blk_cell BK702.out 2).trans rfl; have hfz6_0 := blk_frozen BK702.out 0; have hfz6_1 := blk_frozen BK702.out 1; have hfz6_2 := blk_frozen BK702.out 2))
  go_loopg [5, 11] k (fun kq v5 v11 w' => ∃ (x5_1 : List Int) (x11_1 : Int), v11 = .int .i64 x11_1 ∧ Aside0 (domup_changed.l0 kq x5_1 l0_1 (l0_1.length : Int) x11_1 l1_0 l1_1 a1_2 = some r) ∧ Aside0 (kq ≤ k) ∧ Aside0 (Kd.R (Kd.int .i64) 3 w' w.heap.size (fun _ => True) v5 x5_1) ∧ Aside0 (w'.heap[gb702]? = some (.cells #[(.slice A0_0 l0_0.length c0_0), (.slice A0_1 l0_1.length c0_1), .bool a0_2] 40 (0, 0))) ∧ Aside0 (w'.heap[gb703]? = some (.cells #[(.slice A1_0 l1_0.length c1_0), (.slice A1_1 l1_1.length c1_1), .bool a1_2] 40 (0, 0))) ∧ Aside0 (Below w.heap.size w w'))
  case atStart => exact ⟨(([] : List Int)), (0), (by first | rfl | (simp; done) | (simp [*]; done)), H', ⟨Nat.le_refl _⟩, ⟨by first | exact Kd.R_nil _ _ _ _ _ | exact Kd.N_nil _ _ _ _ _ | exact Kd.V_nil _ _ _ _ _ | exact Kd.Q_nil _ _ _ _ _ | exact Kd.S_nil _ _ _ _ _⟩, ⟨by (with_reducible repeat (first | refine blk_drewN ?_ _ | refine blk_drew ?_ | refine blk_alloc ?_ _)); exact BK702.out⟩, ⟨by (with_reducible repeat (first | refine blk_drewN ?_ _ | refine blk_drew ?_ | refine blk_alloc ?_ _)); exact BK703.out⟩, ⟨by repeat (first | (with_reducible first | exact HB.out | apply below_alloc | apply pw_below_drewN | apply below_drew1 | refine below_set ?_ GE702.out | refine below_set ?_ GE703.out) | exact HB.out)⟩⟩
  case round =>
    clear H'
    try clear c1
    try clear p2
    try clear c5
    try clear c6
    try clear hcz6_0
    try clear hcz6_1
    try clear hcz6_2
    try clear hfz6_0
    try clear hfz6_1
    try clear hfz6_2
    obtain ⟨x5_1, x11_1, rfl, HA, HK1, HO_5, BK702, BK703, HB⟩ := hrel
    cases gk with
    | zero => exact absurd HA.out (by simp [domup_changed.l0])
    | succ k1 =>
      have H := HA.out
      clear HA
      simp only [domup_changed.l0] at H
      by_cases c7 : x11_1 < (l0_1.length : Int)
      · rw [if_pos c7] at H
        have c7b0 : decide (x11_1 < (l0_1.length : Int)) = true := decide_eq_true c7
        clear c7
        by_cases c8 : 0 ≤ x11_1
        · rw [if_pos c8] at H
          have c8b0 : decide (0 ≤ x11_1) = true := decide_eq_true c8
          clear c8
          by_cases c9 : x11_1 < (l0_1.length : Int)
          · rw [if_pos c9] at H
            have c9b0 : decide (x11_1 < (l0_1.length : Int)) = true := decide_eq_true c9
            clear c9
            by_cases c10 : x11_1 < (l1_1.length : Int)
            · rw [if_pos c10] at H
              have c10b0 : decide (x11_1 < (l1_1.length : Int)) = true := decide_eq_true c10
              clear c10
              by_cases c11 : (rd l1_1 x11_1) = (rd l0_1 x11_1)
              · rw [if_pos c11] at H
                have c11b0 : ((rd l1_1 x11_1) == (rd l0_1 x11_1)) = true := beq_iff_eq.mpr c11
                have c11b1 : ((rd l1_1 x11_1) != (rd l0_1 x11_1)) = false := bne_eq_false_iff_eq.mpr c11
                clear c11
                have H' := Aside0.mk H
                clear H
                have p704 : 0 ≤ (x11_1 : Int) := of_decide_eq_true (by first | (with_reducible assumption) | assumption)
                have q704 : x11_1 < (l0_1.length : Int) := of_decide_eq_true (by first | (with_reducible assumption) | assumption)
                obtain ⟨ad704, e704, hx704_0⟩ := Kd.at_int HR0_1.out x11_1 p704 q704
                cases e704
                replace hx704_0 := (HB.out.cell (World.block_lt_of_cell? w _ hx704_0)).trans hx704_0
                replace p704 := eq_true p704
                replace q704 := eq_true q704
                have hnb12 := NB703_702.out
                have hnc12 := NB702_703.out
                have hcz13_0 : wr.cell? ⟨gb703, 0, none⟩ = some (.slice A1_0 l1_0.length c1_0) := (blk_cell BK703.out 0).trans rfl
                have hcz13_1 : wr.cell? ⟨gb703, 1, none⟩ = some (.slice A1_1 l1_1.length c1_1) := (blk_cell BK703.out 1).trans rfl
                have hcz13_2 : wr.cell? ⟨gb703, 2, none⟩ = some (.bool a1_2) := (blk_cell BK703.out 2).trans rfl
                have hfz13_0 := blk_frozen BK703.out 0
                have hfz13_1 := blk_frozen BK703.out 1
                have hfz13_2 := blk_frozen BK703.out 2
                have p705 : 0 ≤ (x11_1 : Int) := of_decide_eq_true (by first | (with_reducible assumption) | assumption)
                have q705 : x11_1 < (l1_1.length : Int) := of_decide_eq_true (by first | (with_reducible assumption) | assumption)
                obtain ⟨ad705, e705, hx705_0⟩ := Kd.at_int HR1_1.out x11_1 p705 q705
                cases e705
                replace hx705_0 := (HB.out.cell (World.block_lt_of_cell? w _ hx705_0)).trans hx705_0
                replace p705 := eq_true p705
                replace q705 := eq_true q705
                go_wp2
                go_roundg k1
                case measure => have := HK1.out; omega
                case rel => exact ⟨(x5_1), (wrap64 (x11_1 + 1)), (by first | rfl | (simp; done) | (simp [*]; done)), H', ⟨by have := HK1.out; omega⟩, ⟨by (with_reducible repeat (first | apply Kd.R_alloc | apply Kd.R_drewN | apply Kd.R_drew)); exact HO_5.out⟩, ⟨by (with_reducible repeat (first | refine blk_drewN ?_ _ | refine blk_drew ?_ | refine blk_alloc ?_ _)); exact BK702.out⟩, ⟨by (with_reducible repeat (first | refine blk_drewN ?_ _ | refine blk_drew ?_ | refine blk_alloc ?_ _)); exact BK703.out⟩, ⟨by repeat (first | (with_reducible first | exact HB.out | apply below_alloc | apply pw_below_drewN | apply below_drew1 | refine below_set ?_ GE702.out | refine below_set ?_ GE703.out) | exact HB.out)⟩⟩
              · rw [if_neg c11] at H
                have c11b0 : ((rd l1_1 x11_1) == (rd l0_1 x11_1)) = false := beq_eq_false_iff_ne.mpr c11
                have c11b1 : ((rd l1_1 x11_1) != (rd l0_1 x11_1)) = true := bne_iff_ne.mpr c11
                by_cases c14 : x5_1.length < 17592186044416
                · rw [if_pos c14] at H
                  have LMc14 := Aside0.mk c14
                  clear c14
                  obtain ⟨y706, hy706⟩ : ∃ y_ : List Int, y_ = (x5_1 ++ [x11_1]) := ⟨_, rfl⟩
                  replace H : (domup_changed.l0 k1 y706 l0_1 (l0_1.length : Int) (wrap64 (x11_1 + 1)) l1_0 l1_1 a1_2) = some r := by first | (rw [hy706]; with_reducible exact H) | (have H2_ := (Option.bind_some _ _).symm.trans H; rw [hy706]; with_reducible exact H2_) | (have H2_ := (Option.bind_some _ _).symm.trans H; with_reducible exact H2_) | with_reducible exact H | (rw [hy706]; exact H) | exact H
                  have Ny706 := Aside0.mk hy706
                  clear hy706
                  have H' := Aside0.mk H
                  clear H
                  have p704 : 0 ≤ (x11_1 : Int) := of_decide_eq_true (by first | (with_reducible assumption) | assumption)
                  have q704 : x11_1 < (l0_1.length : Int) := of_decide_eq_true (by first | (with_reducible assumption) | assumption)
                  obtain ⟨ad704, e704, hx704_0⟩ := Kd.at_int HR0_1.out x11_1 p704 q704
                  cases e704
                  replace hx704_0 := (HB.out.cell (World.block_lt_of_cell? w _ hx704_0)).trans hx704_0
                  replace p704 := eq_true p704
                  replace q704 := eq_true q704
                  have hnb15 := NB703_702.out
                  have hnc15 := NB702_703.out
                  have hcz16_0 : wr.cell? ⟨gb703, 0, none⟩ = some (.slice A1_0 l1_0.length c1_0) := (blk_cell BK703.out 0).trans rfl
                  have hcz16_1 : wr.cell? ⟨gb703, 1, none⟩ = some (.slice A1_1 l1_1.length c1_1) := (blk_cell BK703.out 1).trans rfl
                  have hcz16_2 : wr.cell? ⟨gb703, 2, none⟩ = some (.bool a1_2) := (blk_cell BK703.out 2).trans rfl
                  have hfz16_0 := blk_frozen BK703.out 0
                  have hfz16_1 := blk_frozen BK703.out 1
                  have hfz16_2 := blk_frozen BK703.out 2
                  have p705 : 0 ≤ (x11_1 : Int) := of_decide_eq_true (by first | (with_reducible assumption) | assumption)
                  have q705 : x11_1 < (l1_1.length : Int) := of_decide_eq_true (by first | (with_reducible assumption) | assumption)
                  obtain ⟨ad705, e705, hx705_0⟩ := Kd.at_int HR1_1.out x11_1 p705 q705
                  cases e705
                  replace hx705_0 := (HB.out.cell (World.block_lt_of_cell? w _ hx705_0)).trans hx705_0
                  replace p705 := eq_true p705
                  replace q705 := eq_true q705
                  go_wp2_with (first | ((with_reducible refine gate_builtin (b := .append) (xs := #[.tmp 23, .tmp 25]) rfl ?_); at_builtin; refine Kd.R_append (Kd.int .i64) (w0 := w) w.heap.size rfl (.tmp 23) (.tmp 25) 25 3 (.int .i64 0) 8 rfl Try.underlying25 info3 rfl (by decide) (by omega) u5 x5_1 x11_1 [.int .i64 x11_1] (fun _ => True) (fun _ => False) rfl rfl ?aP (fun _ hk => hk.elim) ?aF ?aO ?aB ?aS ?aL ?_; (case aP => exact rfl); (case aB => exact (by repeat (first | (with_reducible first | exact HB.out | apply below_alloc | apply pw_below_drewN | apply below_drew1 | refine below_set ?_ GE702.out | refine below_set ?_ GE703.out) | exact HB.out))); (case aF => exact (fun _ _ => trivial)); (case aO => exact (by (with_reducible repeat (first | apply Kd.R_alloc | apply Kd.R_drewN | apply Kd.R_drew)); exact HO_5.out)); (case aS => exact (below_size (by repeat (first | (with_reducible first | exact HB.out | apply below_alloc | apply pw_below_drewN | apply below_drew1 | refine below_set ?_ GE702.out | refine below_set ?_ GE703.out) | exact HB.out)))); (case aL => have := LMc14.out; omega); intro v707 w17 ho hb hg hat; rw [← Ny706.out] at ho; have n0_ := Aside0.mk (blk_grown (g := gb702) (o := .cells #[.slice A0_0 l0_0.length c0_0, .slice (some ad704) l0_1.length c0_1, .bool a0_2] 40 (0, 0)) (by (with_reducible repeat (first | refine blk_drewN ?_ _ | refine blk_drew ?_ | refine blk_alloc ?_ _)); exact BK702.out) hg (Kd.R_ne HO_5.out BK702.out (by decide))); have n1_ := Aside0.mk (blk_grown (g := gb703) (o := .cells #[.slice A1_0 l1_0.length c1_0, .slice (some ad705) l1_1.length c1_1, .bool a1_2] 40 (0, 0)) (by (with_reducible repeat (first | refine blk_drewN ?_ _ | refine blk_drew ?_ | refine blk_alloc ?_ _)); exact BK703.out) hg (Kd.R_ne HO_5.out BK703.out (by decide))); have n2_ := Aside0.mk (hb); have n3_ := Aside0.mk (ho); clear BK702; clear BK703; clear HB; clear HO_5; have BK702 := n0_; have BK703 := n1_; have HB := n2_; have HO708 := n3_; clear n0_ n1_ n2_ n3_; clear ho hb hg hat))
                  go_roundg k1
                  case measure => have := HK1.out; omega
                  case rel => exact ⟨(y706), (wrap64 (x11_1 + 1)), (by first | rfl | (simp; done) | (simp [*]; done)), H', ⟨by have := HK1.out; omega⟩, ⟨by (with_reducible repeat (first | apply Kd.R_alloc | apply Kd.R_drewN | apply Kd.R_drew)); exact HO708.out⟩, ⟨by (with_reducible repeat (first | refine blk_drewN ?_ _ | refine blk_drew ?_ | refine blk_alloc ?_ _)); exact BK702.out⟩, ⟨by (with_reducible repeat (first | refine blk_drewN ?_ _ | refine blk_drew ?_ | refine blk_alloc ?_ _)); exact BK703.out⟩, ⟨by repeat (first | (with_reducible first | exact HB.out | apply below_alloc | apply pw_below_drewN | apply below_drew1 | refine below_set ?_ GE702.out | refine below_set ?_ GE703.out) | exact HB.out)⟩⟩
                · rw [if_neg c14] at H
                  exact absurd H (by simp)
            · rw [if_neg c10] at H
              exact absurd H (by simp)
          · rw [if_neg c9] at H
            exact absurd H (by simp)
        · rw [if_neg c8] at H
          exact absurd H (by simp)
      · rw [if_neg c7] at H
        have c7b0 : decide (x11_1 < (l0_1.length : Int)) = false := decide_eq_false c7
        clear c7
        obtain rfl := Option.some.inj H
        go_wp2
        go_ret
        exact ⟨_, by first | rfl | (simp [errW_none, errW_some] <;> rfl) | (simp [*, errW_none, errW_some] <;> rfl) | (exfalso; (try simp_all); (try omega); done), by (with_reducible repeat (first | apply Kd.R_alloc | apply Kd.R_drewN | apply Kd.R_drew)); exact HO_5.out, by repeat (first | (with_reducible first | exact HB.out | apply below_alloc | apply pw_below_drewN | apply below_drew1 | refine below_set ?_ GE702.out | refine below_set ?_ GE703.out) | exact HB.out)⟩
def domup_State_lost.f (l0_0 : List (List Int)) (l0_1 : List Int) (a0_2 : Bool) (a1 : Int) : Option (Bool) := if a1 < 0 then (some true) else (if a1 ≥ (l0_1.length : Int) then (some true) else (if 0 ≤ a1 then (if a1 < (l0_1.length : Int) then (some ((rd l0_1 a1) == (-2))) else (none)) else (none)))
set_option maxHeartbeats 8000000 in
set_option maxRecDepth 100000 in
theorem domup_State_lost.calls (A0_0 : Option Addr) (c0_0 : Nat) (l0_0 : List (List Int)) (A0_1 : Option Addr) (c0_1 : Nat) (l0_1 : List Int) (a0_2 : Bool) (a1 : Int) (r : Bool) (w : World) (hr0_0 : Kd.C (Kd.slice 3 (Kd.int .i64)) w A0_0 l0_0.length l0_0) (hc0_0 : l0_0.length ≤ c0_0) (hr0_1 : Kd.C (Kd.int .i64) w A0_1 l0_1.length l0_1) (hc0_1 : l0_1.length ≤ c0_1) (h : domup_State_lost.f l0_0 l0_1 a0_2 a1 = some r) :
    Calls Try.prog 62 #[.agg #[.slice A0_0 l0_0.length c0_0, .slice A0_1 l0_1.length c0_1, .bool a0_2], .int .i64 a1] w fun e w' => e = .returned (.bool r) ∧ Below w.heap.size w w' := by
  have hu40 := Try.underlying40
  have HR0_0 := Aside0.mk hr0_0
  have HC0_0 := Aside0.mk hc0_0
  clear hr0_0 hc0_0
  have HR0_1 := Aside0.mk hr0_1
  have HC0_1 := Aside0.mk hc0_1
  clear hr0_1 hc0_1
  have HB := Aside0.mk (Below.refl w.heap.size w)
  have H : (if a1 < 0 then (some true) else (if a1 ≥ (l0_1.length : Int) then (some true) else (if 0 ≤ a1 then (if a1 < (l0_1.length : Int) then (some ((rd l0_1 a1) == (-2))) else (none)) else (none)))) = some r := h
  clear h
  by_cases c3 : a1 < 0
  · rw [if_pos c3] at H
    have c3b0 : decide (a1 < 0) = true := decide_eq_true c3
    clear c3
    obtain rfl := Option.some.inj H
    go_enter Try.func62, Try.ntmps62
    go_wp2_with (first | ((with_reducible refine gate_dst (N := 2) rfl ?_); (try (refine gate_guard (by rfl) ?_; dsimp only)); refine box_event ?hg (N := 2) ?hd (cs := #[.slice A0_0 l0_0.length c0_0, .slice A0_1 l0_1.length c0_1, .bool a0_2]) (t := 40) ?hr ?_; (case hd => rfl); (case hg => rfl); (case hr => first | (go_simp; done) | (go_simp; rfl)); intro gb709 hg w4 hbox hb; have n0_ := Aside0.mk (below_step (by repeat (first | (with_reducible first | exact HB.out | apply below_alloc | apply pw_below_drewN | apply below_drew1) | exact HB.out)) hb); have n1_ := Aside0.mk (hbox); have n2_ := Aside0.mk ((by rw [hg]; exact (below_size (by repeat (first | (with_reducible first | exact HB.out | apply below_alloc | apply pw_below_drewN | apply below_drew1) | exact HB.out))) : w.heap.size ≤ gb709)); have n3_ := Aside0.mk ((by rw [hg]; exact (below_size (by repeat (first | (with_reducible first | exact HB.out | apply below_alloc | apply pw_below_drewN | apply below_drew1) | exact HB.out))) : w.heap.size ≤ gb709)); clear HB; have HB := n0_; have BK709 := n1_; have GW709 := n2_; have GE709 := n3_; clear n0_ n1_ n2_ n3_; clear hb hbox hg))
    go_ret
    exact ⟨by first | rfl | (simp [errW_none, errW_some] <;> rfl) | (simp [*, errW_none, errW_some] <;> rfl) | (exfalso; (try simp_all); (try omega); done), by repeat (first | (with_reducible first | exact HB.out | apply below_alloc | apply pw_below_drewN | apply below_drew1 | refine below_set ?_ GE709.out) | exact HB.out)⟩
  · rw [if_neg c3] at H
    have c3b0 : decide (a1 < 0) = false := decide_eq_false c3
    clear c3
    by_cases c5 : a1 ≥ (l0_1.length : Int)
    · rw [if_pos c5] at H
      have c5b0 : decide ((l0_1.length : Int) ≤ a1) = true := decide_eq_true c5
      clear c5
      obtain rfl := Option.some.inj H
      go_enter Try.func62, Try.ntmps62
      go_wp2_with (first | ((with_reducible refine gate_dst (N := 2) rfl ?_); (try (refine gate_guard (by rfl) ?_; dsimp only)); refine box_event ?hg (N := 2) ?hd (cs := #[.slice A0_0 l0_0.length c0_0, .slice A0_1 l0_1.length c0_1, .bool a0_2]) (t := 40) ?hr ?_; (case hd => rfl); (case hg => rfl); (case hr => first | (go_simp; done) | (go_simp; rfl)); intro gb709 hg w6 hbox hb; have n0_ := Aside0.mk (below_step (by repeat (first | (with_reducible first | exact HB.out | apply below_alloc | apply pw_below_drewN | apply below_drew1) | exact HB.out)) hb); have n1_ := Aside0.mk (hbox); have n2_ := Aside0.mk ((by rw [hg]; exact (below_size (by repeat (first | (with_reducible first | exact HB.out | apply below_alloc | apply pw_below_drewN | apply below_drew1) | exact HB.out))) : w.heap.size ≤ gb709)); have n3_ := Aside0.mk ((by rw [hg]; exact (below_size (by repeat (first | (with_reducible first | exact HB.out | apply below_alloc | apply pw_below_drewN | apply below_drew1) | exact HB.out))) : w.heap.size ≤ gb709)); clear HB; have HB := n0_; have BK709 := n1_; have GW709 := n2_; have GE709 := n3_; clear n0_ n1_ n2_ n3_; clear hb hbox hg; have hcz7_0 : w6.cell? ⟨gb709, 0, none⟩ = some (.slice A0_0 l0_0.length c0_0) := (blk_cell BK709.out 0).trans rfl; have hcz7_1 : w6.cell? ⟨gb709, 1, none⟩ = some (.slice A0_1 l0_1.length c0_1) := (blk_cell BK709.out 1).trans rfl; have hcz7_2 : w6.cell? ⟨gb709, 2, none⟩ = some (.bool a0_2) := (blk_cell BK709.out 2).trans rfl; have hfz7_0 := blk_frozen BK709.out 0; have hfz7_1 := blk_frozen BK709.out 1; have hfz7_2 := blk_frozen BK709.out 2))
      go_ret
      exact ⟨by first | rfl | (simp [errW_none, errW_some] <;> rfl) | (simp [*, errW_none, errW_some] <;> rfl) | (exfalso; (try simp_all); (try omega); done), by repeat (first | (with_reducible first | exact HB.out | apply below_alloc | apply pw_below_drewN | apply below_drew1 | refine below_set ?_ GE709.out) | exact HB.out)⟩
    · rw [if_neg c5] at H
      have c5b0 : decide ((l0_1.length : Int) ≤ a1) = false := decide_eq_false c5
      clear c5
      by_cases c8 : 0 ≤ a1
      · rw [if_pos c8] at H
        have c8b0 : decide (0 ≤ a1) = true := decide_eq_true c8
        clear c8
        by_cases c9 : a1 < (l0_1.length : Int)
        · rw [if_pos c9] at H
          have c9b0 : decide (a1 < (l0_1.length : Int)) = true := decide_eq_true c9
          clear c9
          obtain rfl := Option.some.inj H
          go_enter Try.func62, Try.ntmps62
          go_wp2_with (first | ((with_reducible refine gate_dst (N := 2) rfl ?_); (try (refine gate_guard (by rfl) ?_; dsimp only)); refine box_event ?hg (N := 2) ?hd (cs := #[.slice A0_0 l0_0.length c0_0, .slice A0_1 l0_1.length c0_1, .bool a0_2]) (t := 40) ?hr ?_; (case hd => rfl); (case hg => rfl); (case hr => first | (go_simp; done) | (go_simp; rfl)); intro gb709 hg w10 hbox hb; have n0_ := Aside0.mk (below_step (by repeat (first | (with_reducible first | exact HB.out | apply below_alloc | apply pw_below_drewN | apply below_drew1) | exact HB.out)) hb); have n1_ := Aside0.mk (hbox); have n2_ := Aside0.mk ((by rw [hg]; exact (below_size (by repeat (first | (with_reducible first | exact HB.out | apply below_alloc | apply pw_below_drewN | apply below_drew1) | exact HB.out))) : w.heap.size ≤ gb709)); have n3_ := Aside0.mk ((by rw [hg]; exact (below_size (by repeat (first | (with_reducible first | exact HB.out | apply below_alloc | apply pw_below_drewN | apply below_drew1) | exact HB.out))) : w.heap.size ≤ gb709)); clear HB; have HB := n0_; have BK709 := n1_; have GW709 := n2_; have GE709 := n3_; clear n0_ n1_ n2_ n3_; clear hb hbox hg; have hcz11_0 : w10.cell? ⟨gb709, 0, none⟩ = some (.slice A0_0 l0_0.length c0_0) := (blk_cell BK709.out 0).trans rfl; have hcz11_1 : w10.cell? ⟨gb709, 1, none⟩ = some (.slice A0_1 l0_1.length c0_1) := (blk_cell BK709.out 1).trans rfl; have hcz11_2 : w10.cell? ⟨gb709, 2, none⟩ = some (.bool a0_2) := (blk_cell BK709.out 2).trans rfl; have hfz11_0 := blk_frozen BK709.out 0; have hfz11_1 := blk_frozen BK709.out 1; have hfz11_2 := blk_frozen BK709.out 2; have p710 : 0 ≤ (a1 : Int) := of_decide_eq_true (by first | (with_reducible assumption) | assumption); have q710 : a1 < (l0_1.length : Int) := of_decide_eq_true (by first | (with_reducible assumption) | assumption); obtain ⟨ad710, e710, hx710_0⟩ := Kd.at_int HR0_1.out a1 p710 q710; cases e710; replace hx710_0 := (HB.out.cell (World.block_lt_of_cell? w _ hx710_0)).trans hx710_0; replace p710 := eq_true p710; replace q710 := eq_true q710))
          go_ret
          exact ⟨by first | rfl | (simp [errW_none, errW_some] <;> rfl) | (simp [*, errW_none, errW_some] <;> rfl) | (exfalso; (try simp_all); (try omega); done), by repeat (first | (with_reducible first | exact HB.out | apply below_alloc | apply pw_below_drewN | apply below_drew1 | refine below_set ?_ GE709.out) | exact HB.out)⟩
        · rw [if_neg c9] at H
          exact absurd H (by simp)
      · rw [if_neg c8] at H
        exact absurd H (by simp)
end Go.Proofs.Ytemcmcnhpdkdfaa.P
namespace Go.Proofs.Ytemcmcnhpdkdfaa.P
open Go.RowKit Go.Shelf Go.Lib Go.Sort Go.Proofs.YtemcmcnhpdkdfaaW.PrintWords Go.Proofs.YtemcmcnhpdkdfaaW.PrintLast Go.Proofs.YtemcmcnhpdkdfaaW.PrintMore
theorem cell_of_blk {w : World} {b t j : Nat} {cs : Array Value} {v : Value} (h : w.heap[b]? = some (.cells cs t (0, 0))) (hj : cs[j]? = some v) : w.cell? ⟨b, j, none⟩ = some v := by simp [World.cell?, h, hj]
theorem frozen_of_blk {w : World} {b t : Nat} {cs : Array Value} (j : Nat) (h : w.heap[b]? = some (.cells cs t (0, 0))) : w.frozen? ⟨b, j, none⟩ = false := by simp [World.frozen?, h]
theorem two_boxes {w w3 : World} {v1 v2 : Array Value} {t1 t2 : TypeId} (h : Below ((w.alloc (.cells v1 t1)).alloc (.cells v2 t2)).heap.size ((w.alloc (.cells v1 t1)).alloc (.cells v2 t2)) w3) :
    w3.heap[w.heap.size]? = some (.cells v1 t1 (0, 0)) ∧ w3.heap[w.heap.size + 1]? = some (.cells v2 t2 (0, 0)) ∧ w.heap.size + 2 ≤ w3.heap.size ∧ Below w.heap.size w w3 := by
  have hs := h.size
  simp only [size_alloc1] at hs
  refine ⟨heap_bel (heap_old (heap_new w _ _ rfl)) h, heap_bel (heap_new _ _ _ (by rw [size_alloc1])) h, by omega, (below_alloc (below_alloc (Below.refl _ w) _) _).trans (h.mono (by simp only [size_alloc1]; omega))⟩
theorem three_put {W : World} {b t : Nat} {z0 z1 z2 : Value} (h : W.heap[b]? = some (.cells #[z0, z1, z2] t (0, 0))) (v0 v1 v2 : Value) : (((W.setCell ⟨b, 0, none⟩ v0).setCell ⟨b, 1, none⟩ v1).setCell ⟨b, 2, none⟩ v2).heap[b]? = some (.cells #[v0, v1, v2] t (0, 0)) := by
  refine blk_put (cs := #[v0, v1, z2]) ?_ 2 _ rfl
  refine blk_put (cs := #[v0, z1, z2]) ?_ 1 _ rfl
  exact blk_put (cs := #[z0, z1, z2]) h 0 _ rfl
theorem three_other {W : World} {b k : Nat} (h : k ≠ b) (v0 v1 v2 : Value) : (((W.setCell ⟨b, 0, none⟩ v0).setCell ⟨b, 1, none⟩ v1).setCell ⟨b, 2, none⟩ v2).heap[k]? = W.heap[k]? := by
  rw [Below.heap_setCell _ _ _ _ h, Below.heap_setCell _ _ _ _ h, Below.heap_setCell _ _ _ _ h]
theorem three_below {w W : World} {n b : Nat} (h : Below n w W) (hB : n ≤ b) (v0 v1 v2 : Value) : Below n w (((W.setCell ⟨b, 0, none⟩ v0).setCell ⟨b, 1, none⟩ v1).setCell ⟨b, 2, none⟩ v2) :=
  ((h.setCell (p := ⟨b, 0, none⟩) hB v0).setCell (p := ⟨b, 1, none⟩) hB v1).setCell (p := ⟨b, 2, none⟩) hB v2
theorem equal_c (A : Option Addr) (c : Nat) (xs : List Int) (B : Option Addr) (d : Nat) (ys : List Int) (w : World) (h1 : dI.C w A xs.length xs) (h2 : dI.C w B ys.length ys) (hb1 : xs.length ≤ 1000000) (hb2 : ys.length ≤ 1000000) :
    Calls Try.prog 69 #[.slice A xs.length c, .slice B ys.length d] w fun e w' => e = .returned (.bool (decide (xs = ys))) ∧ ∃ q, w' = w.drewN q := by
  by_cases hl : xs.length = ys.length
  · by_cases h0 : xs.length = 0
    · have e1 := List.eq_nil_of_length_eq_zero h0
      have e2 : ys = [] := List.eq_nil_of_length_eq_zero (by omega)
      subst e1 e2
      exact (Try.slices_Equal_int_empty A B c 0 d w (by omega)).mono (by rintro e w' ⟨rfl, rfl⟩; exact ⟨rfl, 0, rfl⟩)
    · obtain ⟨b1, o1, rfl, _, c1⟩ := C_ints h1 (by omega)
      obtain ⟨b2, o2, rfl, _, c2⟩ := C_ints h2 (by omega)
      refine (Try.slices_Equal_int b1 o1 xs.length c b2 o2 ys.length d xs ys w (Nat.le_refl _) (Nat.le_refl _) (by omega) (by omega) (fun j hj => c1 j hj) (fun j hj => c2 j hj)).mono ?_
      rintro e w' ⟨rfl, q, rfl⟩
      refine ⟨?_, q, rfl⟩
      rw [List.take_length, List.take_length]
      by_cases e : xs = ys
      · subst e; simp
      · rw [decide_eq_false e]
        congr 2
        simpa using e
  · refine (Try.slices_Equal_int_lens A B xs.length c ys.length d w hl).mono ?_
    rintro e w' ⟨rfl, rfl⟩
    exact ⟨by rw [decide_eq_false (fun e => hl (by rw [e]))], 0, rfl⟩
set_option maxHeartbeats 4000000 in
set_option maxRecDepth 100000 in
theorem eqf_c (A : Option Addr) (c : Nat) (g1 : List (List Int)) (B : Option Addr) (d : Nat) (g2 : List (List Int)) (w : World) (h1 : dG.C w A g1.length g1) (h2 : dG.C w B g2.length g2) (hb1 : g1.length ≤ 1000000) (hb2 : g2.length ≤ 1000000)
    (hr1 : ∀ r ∈ g1, r.length ≤ 1000000) (hr2 : ∀ r ∈ g2, r.length ≤ 1000000) :
    Calls Try.prog 68 #[.slice A g1.length c, .slice B g2.length d, .func (.func 69) #[] #[]] w fun e w' => e = .returned (.bool (decide (g1 = g2))) ∧ ∃ q, w' = w.drewN q := by
  have H1 := Aside0.mk h1
  have H2 := Aside0.mk h2
  have HR1 := Aside0.mk hr1
  have HR2 := Aside0.mk hr2
  obtain ⟨n, en⟩ : ∃ n, n = g1.length := ⟨_, rfl⟩
  obtain ⟨m, em⟩ : ∃ m, m = g2.length := ⟨_, rfl⟩
  rw [← en] at hb1
  rw [← em] at hb2
  rw [← en, ← em]
  have HEN := Aside0.mk en
  have HEM := Aside0.mk em
  clear h1 h2 hr1 hr2 en em
  by_cases hnm : n = m
  · subst hnm
    have c0 : ((n : Int) != (n : Int)) = false := by simp
    go_enter Try.func68, Try.ntmps68
    go_wp2
    go_loopw [17] (fun v17 w' => ∃ i : Nat, i ≤ n ∧ v17 = .int .i64 i ∧ Aside0 (g1.take i = g2.take i) ∧ ∃ q, w' = w.drewN q) (fun v17 _ => n - (intOf v17).toNat)
    case atStart => exact ⟨0, Nat.zero_le _, rfl, ⟨by simp⟩, 0, rfl⟩
    case round =>
      obtain ⟨i, hi, rfl, HT, q, rfl⟩ := hrel
      by_cases hlt : i < n
      · have hl1 : i < g1.length := by have := HEN.out; omega
        have hl2 : i < g2.length := by have := HEM.out; omega
        have k1 := H1.out
        have k2 := H2.out
        rw [← HEN.out] at k1
        rw [← HEM.out] at k2
        obtain ⟨ad, A1, c1, e, hrow, hlc, hC⟩ := C_row k1 (i := i) hlt
        obtain ⟨ad2, A2, c2, e2_, hrow2, hlc2, hC2⟩ := C_row k2 (i := i) hlt
        clear k1 k2
        subst e e2_
        have e1 : g1.getD i [] = g1[i] := by rw [List.getD_eq_getElem?_getD, List.getElem?_eq_getElem hl1]; rfl
        have e2 : g2.getD i [] = g2[i] := by rw [List.getD_eq_getElem?_getD, List.getElem?_eq_getElem hl2]; rfl
        obtain ⟨r1, er1⟩ : ∃ r, r = g1.getD i [] := ⟨_, rfl⟩
        obtain ⟨r2, er2⟩ : ∃ r, r = g2.getD i [] := ⟨_, rfl⟩
        rw [← er1] at hrow hlc hC e1
        rw [← er2] at hrow2 hlc2 hC2 e2
        have HQ := Aside0.mk (equal_c A1 c1 r1 A2 c2 r2 (w.drewN q) (Kd.C_drewN hC q) (Kd.C_drewN hC2 q) (by rw [e1]; exact HR1.out _ (List.getElem_mem hl1)) (by rw [e2]; exact HR2.out _ (List.getElem_mem hl2)))
        have HE1 := Aside0.mk e1
        have HE2 := Aside0.mk e2
        obtain ⟨n1, en1⟩ : ∃ n, n = r1.length := ⟨_, rfl⟩
        obtain ⟨n2, en2⟩ : ∃ n, n = r2.length := ⟨_, rfl⟩
        rw [← en1] at HQ hrow
        rw [← en2] at HQ hrow2
        obtain ⟨b, eb⟩ : ∃ b, b = decide (r1 = r2) := ⟨_, rfl⟩
        rw [← eb] at HQ
        have HEB := Aside0.mk eb
        clear e1 e2 er1 er2 hlc hC hlc2 hC2 en1 en2 eb
        cases b with
        | true =>
          go_wp2_with (go_at_call 69; refine HQ.out.mono ?_; rintro e w2 ⟨rfl, m2, rfl⟩)
          go_roundw
          case rel =>
            refine ⟨i + 1, by omega, by go_num, ⟨?_⟩, _, rfl⟩
            rw [List.take_succ_eq_append_getElem hl1, List.take_succ_eq_append_getElem hl2, HT.out, ← HE1.out, ← HE2.out, of_decide_eq_true HEB.out.symm]
          case measure => simp [intOf]; omega
        | false =>
          go_wp2_with (go_at_call 69; refine HQ.out.mono ?_; rintro e w2 ⟨rfl, m2, rfl⟩)
          go_ret
          refine ⟨?_, _, rfl⟩
          rw [decide_eq_false (fun e => of_decide_eq_false HEB.out.symm (by rw [HE1.out, HE2.out]; simp only [e]))]
          rfl
      · obtain rfl : i = n := by omega
        go_wp2
        go_ret
        refine ⟨?_, q, rfl⟩
        have := HT.out
        rw [List.take_of_length_le (by have := HEN.out; omega), List.take_of_length_le (by have := HEM.out; omega)] at this
        rw [decide_eq_true this]
        rfl
  · have c0 : ((n : Int) != (m : Int)) = true := by simp; omega
    go_enter Try.func68, Try.ntmps68
    go_wp2
    go_ret
    exact ⟨by rw [decide_eq_false (fun e => hnm (by rw [HEN.out, HEM.out, e]))]; rfl, 0, rfl⟩
def domup_Sane.f (k : Nat) (g : List (List Int)) (l : List Int) (_kp : Bool) : Option Bool :=
  if fits g = true ∧ l.length ≤ 100000 then (dom_Idoms.f k g).bind fun l2 => if l2.length ≤ 100000 then some (decide (g = clean g) && decide (l = l2)) else none else none
theorem domup_Sane.mono : ∀ a0 a1 a2 k, LeO (domup_Sane.f k a0 a1 a2) (domup_Sane.f (k + 1) a0 a1 a2) := fun _ _ _ _ => leO_ite (leO_bind (dom_Idoms.mono _ _) fun _ => leO_refl _) (leO_refl _)
theorem fits_rows {g : List (List Int)} (h : fits g = true) : g.length ≤ 100000 ∧ ∀ r ∈ g, r.length ≤ 1000000 := by
  unfold fits at h
  simp at h
  exact ⟨h.1, fun r hr => by have := h.2 r hr; omega⟩
end Go.Proofs.Ytemcmcnhpdkdfaa.P
namespace Go.Proofs.Ytemcmcnhpdkdfaa.P
open Go.RowKit Go.Shelf Go.Lib Go.Sort Go.Proofs.YtemcmcnhpdkdfaaW.PrintWords Go.Proofs.YtemcmcnhpdkdfaaW.PrintLast Go.Proofs.YtemcmcnhpdkdfaaW.PrintMore
set_option maxHeartbeats 4000000 in
set_option maxRecDepth 100000 in
theorem under_c (A0 : Option Addr) (n0 c0 : Nat) (A1 : Option Addr) (c1 : Nat) (l : List Int) (kp : Bool) (top : Int) (w : World) (h : dI.C w A1 l.length l) (hc : l.length ≤ c1) (hl : l.length ≤ 1000000) :
    Calls Try.prog 64 #[.agg #[.slice A0 n0 c0, .slice A1 l.length c1, .bool kp], .int .i64 top] w fun e w' => ∃ Bt Bb Ab cb, e = .returned (.func (.func 85) #[] #[.pointer (some ⟨Bt, 0, none⟩), .pointer (some ⟨Bb, 0, none⟩)]) ∧ w'.cell? ⟨Bt, 0, none⟩ = some (.int .i64 top) ∧ w'.cell? ⟨Bb, 0, none⟩ = some (.slice Ab (belowB l top).length cb) ∧ dI.C w' Ab (belowB l top).length (belowB l top) ∧ (belowB l top).length ≤ cb ∧ Below w.heap.size w w' := by
  have hu := Try.underlying40
  obtain ⟨k, hk⟩ := below_ev l hl top
  have HBE := Aside0.mk (fun W (hW : Below w.heap.size w W) => dom_Below.calls k A1 c1 l top (belowB l top) W (Kd.C_below h hW) hc (hk k (Nat.le_refl _)))
  obtain ⟨bel, ebel⟩ : ∃ bel, bel = belowB l top := ⟨_, rfl⟩
  obtain ⟨n1, en1⟩ : ∃ n1, n1 = l.length := ⟨_, rfl⟩
  rw [← ebel, ← en1] at HBE
  rw [← ebel, ← en1]
  clear h hc hl hk ebel en1
  go_enter Try.func64, Try.ntmps64
  go_upto_region 2 with (go_at_call 29; refine (HBE.out _ (below_alloc (below_alloc (Below.refl _ _) _) _)).mono ?_; rintro e w3 ⟨v3, rfl, ho3, hb3⟩; obtain ⟨Ab, cb, rfl⟩ := Kd.R_slice ho3; have HO3 := Aside0.mk ho3; have HB3 := Aside0.mk hb3; clear ho3 hb3)
  go_wp2
  go_ret
  have hs : w.heap.size + 2 ≤ w3.heap.size := by have := HB3.out.size; simp only [size_alloc1] at this; omega
  have hC := Kd.R_reads' HO3.out
  have hx : Below w3.heap.size w3 (w3.alloc (.cells #[.slice Ab bel.length cb] 25)) := below_alloc (Below.refl _ _) _
  refine ⟨w.heap.size + 1, w3.heap.size, Ab, cb, rfl, ?_, ?_, Kd.C_below hC.2.2 hx, hC.2.1, ?_⟩
  · refine cell_bel hx (cell_bel HB3.out ?_)
    have := cell_new (w.alloc (.cells #[.slice A0 n0 c0, .slice A1 n1 c1, .bool kp] 40)) (.int .i64 top) 3
    rw [size_alloc1] at this
    exact this
  · simp
  · exact below_alloc ((below_alloc (below_alloc (Below.refl _ w) _) _).trans (HB3.out.mono (by simp only [size_alloc1]; omega))) _
set_option maxHeartbeats 4000000 in
set_option maxRecDepth 100000 in
theorem domup_Sane.calls (k : Nat) (A0 : Option Addr) (c0 : Nat) (g : List (List Int)) (A1 : Option Addr) (c1 : Nat) (l : List Int) (kp : Bool) (r : Bool) (w : World) (hr0 : Kd.C (Kd.slice 3 (Kd.int .i64)) w A0 g.length g) (hc0 : g.length ≤ c0) (hr1 : Kd.C (Kd.int .i64) w A1 l.length l) (_hc1 : l.length ≤ c1) (h : domup_Sane.f k g l kp = some r) :
    Calls Try.prog 40 #[.agg #[.slice A0 g.length c0, .slice A1 l.length c1, .bool kp]] w fun e w' => e = .returned (.bool r) ∧ Below w.heap.size w w' := by
  unfold domup_Sane.f at h
  split at h
  case isFalse => cases h
  rename_i hf
  obtain ⟨hf, hl⟩ := hf
  obtain ⟨l2, hl2, h⟩ := Option.bind_eq_some_iff.1 h
  split at h
  case isFalse => cases h
  rename_i hl2n
  have h := Option.some.inj h
  have hu := Try.underlying40
  have HN := Aside0.mk (fun W (hW : Below w.heap.size w W) => domup_New.calls k A0 c0 g (clean g) l2 true W (Kd.C_below hr0 hW) hc0 (by unfold domup_New.f graph_Clean.f; rw [if_pos hf, Option.bind_some, hl2]; rfl))
  have HF := Aside0.mk hf
  have HC0 := Aside0.mk hr0
  have HC1 := Aside0.mk hr1
  have HH := Aside0.mk h
  have HLL := Aside0.mk (And.intro hl hl2n)
  obtain ⟨n0, en0⟩ : ∃ n0, n0 = g.length := ⟨_, rfl⟩
  obtain ⟨n1, en1⟩ : ∃ n1, n1 = l.length := ⟨_, rfl⟩
  have HE0 := Aside0.mk en0
  have HE1 := Aside0.mk en1
  rw [← en0] at HN
  rw [← en0, ← en1]
  clear hr0 hr1 hc0 hf hl hl2n h hl2 en0 en1
  go_enter Try.func40, Try.ntmps40
  go_upto_region 2 with (go_at_call 32; refine (HN.out _ (below_alloc (Below.refl _ _) _)).mono ?_; rintro e w3 ⟨v3, v4, rfl, ho3, ho4, hb3⟩; obtain ⟨AS, cS, rfl, _⟩ := Kd.S_reads ho3; obtain ⟨AR, cR, rfl⟩ := Kd.R_slice ho4; have HO3 := Aside0.mk ho3; have HO4 := Aside0.mk ho4; have HB3 := Aside0.mk hb3; clear ho3 ho4 hb3)
  have hx : Below w3.heap.size w3 (w3.alloc (.cells #[.slice AS (clean g).length cS, .slice AR l2.length cR, .bool true] 40)) := below_alloc (Below.refl _ _) _
  have hw : Below w.heap.size w (w3.alloc (.cells #[.slice AS (clean g).length cS, .slice AR l2.length cR, .bool true] 40)) := below_alloc ((below_alloc (Below.refl _ w) _).trans (HB3.out.mono (by simp only [size_alloc1]; omega))) _
  have hp : (w3.alloc (.cells #[.slice AS (clean g).length cS, .slice AR l2.length cR, .bool true] 40)).heap[w.heap.size]? = some (.cells #[.slice A0 n0 c0, .slice A1 n1 c1, .bool kp] 40 (0, 0)) := heap_bel (heap_bel (heap_new w _ _ rfl) HB3.out) hx
  have hq : (w3.alloc (.cells #[.slice AS (clean g).length cS, .slice AR l2.length cR, .bool true] 40)).heap[w3.heap.size]? = some (.cells #[.slice AS (clean g).length cS, .slice AR l2.length cR, .bool true] 40 (0, 0)) := heap_new w3 _ _ rfl
  have hC3 := Kd.C_below (Kd.S_reads' HO3.out).2.2 hx
  have hC4 := Kd.C_below (Kd.R_reads' HO4.out).2.2 hx
  have hD0 := Kd.C_below HC0.out hw
  have hD1 := Kd.C_below HC1.out hw
  obtain ⟨W, hW⟩ : ∃ W, W = w3.alloc (.cells #[.slice AS (clean g).length cS, .slice AR l2.length cR, .bool true] 40) := ⟨_, rfl⟩
  rw [← hW] at hw hp hq hC3 hC4 hD0 hD1
  rw [← hW]
  have p0 := cell_of_blk (j := 0) hp rfl
  have p1 := cell_of_blk (j := 1) hp rfl
  have q0 := cell_of_blk (j := 0) hq rfl
  have q1 := cell_of_blk (j := 1) hq rfl
  have HW := Aside0.mk hw
  have HEF := Aside0.mk (eqf_c A0 c0 g AS cS (clean g) W hD0 hC3 (by have := fits_rows HF.out; omega) (by rw [clean_len]; have := fits_rows HF.out; omega) (fits_rows HF.out).2 (fits_rows (fits_clean HF.out)).2)
  have HEQ := Aside0.mk (fun q => equal_c A1 c1 l AR cR l2 (W.drewN q) (Kd.C_drewN hD1 q) (Kd.C_drewN hC4 q) (by have := HLL.out; omega) (by have := HLL.out; omega))
  rw [← HE0.out] at HEF
  rw [← HE1.out] at HEQ
  obtain ⟨ns, ens⟩ : ∃ ns, ns = (clean g).length := ⟨_, rfl⟩
  obtain ⟨nr, enr⟩ : ∃ nr, nr = l2.length := ⟨_, rfl⟩
  rw [← ens] at HEF q0
  rw [← enr] at HEQ q1
  obtain ⟨b1, eb1⟩ : ∃ b1, b1 = decide (g = clean g) := ⟨_, rfl⟩
  obtain ⟨b2, eb2⟩ : ∃ b2, b2 = decide (l = l2) := ⟨_, rfl⟩
  rw [← eb1] at HEF HH
  rw [← eb2] at HEQ HH
  clear hx hw hp hq hC3 hC4 hD0 hD1 hW ens enr eb1 eb2 HO3 HO4 HB3
  cases b1 with
  | false =>
    go_wp2_with (go_at_call 68; refine HEF.out.mono ?_; rintro e w4 ⟨rfl, q, rfl⟩)
    go_ret
    exact ⟨by rw [← HH.out]; rfl, pw_below_drewN HW.out _⟩
  | true =>
    rw [Bool.true_and] at HH
    go_wp2_with (first | (go_at_call 68; refine HEF.out.mono ?_; rintro e w4 ⟨rfl, q, rfl⟩) | (go_at_call 69; refine (HEQ.out _).mono ?_; rintro e w5 ⟨rfl, q2, rfl⟩))
    go_ret
    exact ⟨by rw [← HH.out]; rfl, by repeat (first | exact HW.out | apply pw_below_drewN)⟩
structure StC (w : World) (AG : Option Addr) (cG : Nat) (AI : Option Addr) (cI : Nat) (g : List (List Int)) (l : List Int) : Prop where
  gr : dG.C w AG g.length g
  gc : g.length ≤ cG
  ii : dI.C w AI l.length l
  ic : l.length ≤ cI
theorem StC.below {w w' : World} {AG : Option Addr} {cG : Nat} {AI : Option Addr} {cI : Nat} {g : List (List Int)} {l : List Int} (h : StC w AG cG AI cI g l) (hb : Below w.heap.size w w') : StC w' AG cG AI cI g l :=
  ⟨Kd.C_below h.gr hb, h.gc, Kd.C_below h.ii hb, h.ic⟩
def SaneP (w0 w : World) (g2 : List (List Int)) (l2 : List Int) (e : Ending) (w' : World) : Prop := ∃ AG cG AI cI kp', e = .returned (.agg #[.slice AG g2.length cG, .slice AI l2.length cI, .bool kp']) ∧ (∀ W', Below w0.heap.size w0 W' → (∀ k, w.heap.size ≤ k → k < w'.heap.size → W'.heap[k]? = w'.heap[k]?) → StC W' AG cG AI cI g2 l2) ∧ Below w.heap.size w w'
set_option maxHeartbeats 4000000 in
set_option maxRecDepth 100000 in
theorem sane_c (A0 : Option Addr) (c0 : Nat) (g : List (List Int)) (A1 : Option Addr) (c1 : Nat) (l : List Int) (kp : Bool) (l2 : List Int) (w0 w : World) (hB0 : Below w0.heap.size w0 w) (hst : StC w0 A0 c0 A1 c1 g l) (hf : fits g = true) (hll : l.length ≤ 100000 ∧ l2.length ≤ 100000) (hl2 : Ev (fun k => dom_Idoms.f k g) l2) (hkp : kp = true → g = clean g ∧ l = l2) :
    Calls Try.prog 60 #[.agg #[.slice A0 g.length c0, .slice A1 l.length c1, .bool kp]] w (SaneP w0 w (clean g) l2) := by
  have hu := Try.underlying40
  obtain ⟨k, hk⟩ := hl2
  have hk : dom_Idoms.f k g = some l2 := hk k (Nat.le_refl _)
  obtain ⟨b, eb⟩ : ∃ b, b = (decide (g = clean g) && decide (l = l2)) := ⟨_, rfl⟩
  have HSA := Aside0.mk (fun W (hW : Below w.heap.size w W) => domup_Sane.calls k A0 c0 g A1 c1 l kp b W (Kd.C_below hst.gr (hB0.trans (hW.mono hB0.size))) hst.gc (Kd.C_below hst.ii (hB0.trans (hW.mono hB0.size))) hst.ic (by unfold domup_Sane.f; rw [if_pos ⟨hf, hll.1⟩, hk, Option.bind_some, if_pos hll.2, eb]))
  have HN := Aside0.mk (fun W (hW : Below w.heap.size w W) => domup_New.calls k A0 c0 g (clean g) l2 true W (Kd.C_below hst.gr (hB0.trans (hW.mono hB0.size))) hst.gc (by unfold domup_New.f graph_Clean.f; rw [if_pos hf, Option.bind_some, hk]; rfl))
  have HST := Aside0.mk hst
  have HEB := Aside0.mk eb
  have HKP := Aside0.mk hkp
  obtain ⟨n0, en0⟩ : ∃ n0, n0 = g.length := ⟨_, rfl⟩
  obtain ⟨n1, en1⟩ : ∃ n1, n1 = l.length := ⟨_, rfl⟩
  have HE0 := Aside0.mk en0
  have HE1 := Aside0.mk en1
  rw [← en0] at HN HSA
  rw [← en1] at HSA
  rw [← en0, ← en1]
  clear hst hf hll hk hkp eb en0 en1
  have same : g = clean g → l = l2 → ∀ W, Below w.heap.size w W → SaneP w0 w (clean g) l2 (.returned (.agg #[.slice A0 n0 c0, .slice A1 n1 c1, .bool kp])) W := by
    intro e1 e2 W hW
    refine ⟨A0, c0, A1, c1, kp, by rw [← e1, ← e2, HE0.out, HE1.out], ?_, hW⟩
    rw [← e1, ← e2]
    exact fun W' hW' _ => HST.out.below hW'
  have HSM := Aside0.mk same
  clear same
  go_enter Try.func60, Try.ntmps60
  cases kp with
  | true =>
    go_wp2
    refine bodyPost_ret (results_cell_row rfl _ _ (w.heap.size + 1) 40 #[.slice A0 n0 c0, .slice A1 n1 c1, .bool true] (0, 0) _ rfl (heap_new _ _ _ (by rw [size_alloc1])) hu rfl (by kernel_rfl)) rfl ?_
    exact HSM.out (HKP.out (by simp)).1 (HKP.out (by simp)).2 _ (below_alloc (below_alloc (Below.refl _ _) _) _)
  | false =>
    cases b with
    | true =>
      go_wp2_with (go_at_call 40; refine (HSA.out _ (below_alloc (below_alloc (Below.refl _ _) _) _)).mono ?_; rintro e w3 ⟨rfl, hb3⟩; obtain ⟨hp, hq, hs3, hw3⟩ := two_boxes hb3; have p0 := cell_of_blk (j := 0) hp rfl; have p1 := cell_of_blk (j := 1) hp rfl; have p2 := cell_of_blk (j := 2) hp rfl; have q0 := frozen_of_blk 0 hq; have q1 := frozen_of_blk 1 hq; have q2 := frozen_of_blk 2 hq; have c0 := cell_of_blk (j := 0) hq rfl; have c1 := cell_of_blk (j := 1) hq rfl; have c2 := cell_of_blk (j := 2) hq rfl; have HQ := Aside0.mk hq; have HW3 := Aside0.mk hw3; clear hb3 hp hq hw3)
      refine bodyPost_ret (results_cell_row rfl _ _ (w.heap.size + 1) 40 #[.slice A0 n0 _, .slice A1 n1 _, .bool false] (0, 0) _ rfl (three_put HQ.out _ _ _) hu rfl (by kernel_rfl)) rfl ?_
      have hbb := HEB.out.symm
      rw [Bool.and_eq_true] at hbb
      exact HSM.out (of_decide_eq_true hbb.1) (of_decide_eq_true hbb.2) _ (three_below HW3.out (Nat.le_succ _) _ _ _)
    | false =>
      go_wp2_with (first | (go_at_call 40; refine (HSA.out _ (below_alloc (below_alloc (Below.refl _ _) _) _)).mono ?_; rintro e w3 ⟨rfl, hb3⟩; obtain ⟨hp, hq, hs3, hw3⟩ := two_boxes hb3; have p0 := cell_of_blk (j := 0) hp rfl; have p1 := cell_of_blk (j := 1) hp rfl; have p2 := cell_of_blk (j := 2) hp rfl; have HQ := Aside0.mk hq; have HW3 := Aside0.mk hw3; clear hb3 hp hq hw3) | (go_at_call 32; refine (HN.out _ HW3.out).mono ?_; rintro e w4 ⟨v3, v4, rfl, ho3, ho4, hb4⟩; obtain ⟨AS, cS, rfl, _⟩ := Kd.S_reads ho3; obtain ⟨AR, cR, rfl⟩ := Kd.R_slice ho4; have hq := heap_bel HQ.out hb4; have HO3 := Aside0.mk ho3; have HO4 := Aside0.mk ho4; have HB4 := Aside0.mk hb4; have q0 := frozen_of_blk 0 hq; have q1 := frozen_of_blk 1 hq; have q2 := frozen_of_blk 2 hq; have c0 := cell_of_blk (j := 0) hq rfl; have c1 := cell_of_blk (j := 1) hq rfl; have c2 := cell_of_blk (j := 2) hq rfl; have HQ4 := Aside0.mk hq; clear ho3 ho4 hb4 hq))
      refine bodyPost_ret (results_cell_row rfl _ _ (w.heap.size + 1) 40 #[.slice AS (clean g).length cS, .slice AR l2.length cR, .bool true] (0, 0) _ rfl (three_put HQ4.out _ _ _) hu rfl (by kernel_rfl)) rfl ?_
      have hsz : (((w4.setCell ⟨w.heap.size + 1, 0, none⟩ (.slice AS (clean g).length cS)).setCell ⟨w.heap.size + 1, 1, none⟩ (.slice AR l2.length cR)).setCell ⟨w.heap.size + 1, 2, none⟩ (.bool true)).heap.size = w4.heap.size := by simp only [size_setCell1]
      have hs4 := HB4.out.size
      refine ⟨AS, cS, AR, cR, true, rfl, fun W' hW' hk' => ?_, three_below (HW3.out.trans (HB4.out.mono (by have := HW3.out.size; omega))) (Nat.le_succ _) _ _ _⟩
      have hsm : ∀ k, w3.heap.size ≤ k → k < w4.heap.size → W'.heap[k]? = w4.heap[k]? := fun k h1 h2 => (hk' k (by omega) (by rw [hsz]; exact h2)).trans (three_other (by omega) _ _ _)
      have k1 := Kd.S_reads' (Kd.S_step (Kd.S_bound HO3.out) (w1 := W') (fun k hk _ => hsm k hk.2.1 hk.2.2.1))
      have k2 := Kd.R_reads' (Kd.R_move (Kd.R_bound HO4.out) (w1 := W') (fun k hk => hsm k hk.2.1 hk.2.2.1))
      exact ⟨k1.2.2, k1.2.1, k2.2.2, k2.2.1⟩
end Go.Proofs.Ytemcmcnhpdkdfaa.P
namespace Go.Proofs.Ytemcmcnhpdkdfaa.P
open Go.Proofs.YtemcmcnhpdkdfaaW.PrintWords
structure DJ (g : List (List Int)) (o : List Int) (par : Int → Option Int) (L : Int → Bool) (T : Int → Option Int) : Prop where
  t1 : ∀ b p, T b = some p → b ∈ o ∧ b ≠ 0 ∧ p ∈ o ∧ o.idxOf p < o.idxOf b ∧ Kn T p
  t2 : ∀ b x, Kn T b → Up T b x → Up par b x
  t3 : ∀ b x, Kn T b → ¬ Av g x 0 b → Up T b x
  t4 : ∀ b p, L b = true → T b = some p → ∀ x, x ∈ o → (∀ a, Kn T a → b ∈ row g a → Up T a x) → o.idxOf x ≤ o.idxOf p
  t5 : ∀ b, b ∈ o → L b = false → Kn T b
  t6 : ∀ b p, L b = false → T b = some p → L p = false
  t7 : ∀ b x, b ∈ o → L b = false → Up T b x → ¬ Av g x 0 b
structure RepJ (n : Nat) (o : List Int) (at' d : List Int) (T : Int → Option Int) : Prop where
  node : ∀ x ∈ o, 0 ≤ x ∧ x < (n : Int)
  at_ : ∀ x ∈ o, rd at' x = (o.idxOf x : Int)
  zero : rd d 0 = -1
  known : ∀ b p, T b = some p → rd d b = p
  unk : ∀ b, b ∈ o → b ≠ 0 → T b = none → rd d b = -3
  lost : ∀ b, 0 ≤ b → b < (n : Int) → ¬ b ∈ o → rd d b = -2
section
variable {g : List (List Int)} {o : List Int} {par T : Int → Option Int} {L : Int → Bool}
theorem DJ.kn_mem (hd : Dfs g o par) (h : DJ g o par L T) {b : Int} (hb : Kn T b) : b ∈ o := by
  rcases hb with rfl | ⟨p, hp⟩
  · exact hd.zero
  · exact (h.t1 b p hp).1
theorem DJ.up (h : DJ g o par L T) {b x : Int} (hu : Up T b x) (hb : b ∈ o) : x ∈ o ∧ o.idxOf x ≤ o.idxOf b := by
  induction hu with
  | refl => exact ⟨hb, Nat.le_refl _⟩
  | step h1 _ ih =>
    have h2 := h.t1 _ _ h1
    have := ih h2.2.2.1
    exact ⟨this.1, by have := this.2; have := h2.2.2.2.1; omega⟩
theorem DJ.up_kn (h : DJ g o par L T) {b x : Int} (hu : Up T b x) (hb : Kn T b) : Kn T x := by
  induction hu with
  | refl => exact hb
  | step h1 _ ih => exact ih (h.t1 _ _ h1).2.2.2.2
theorem DJ.line (h : DJ g o par L T) {a x y : Int} (ha : a ∈ o) (hx : Up T a x) (hy : Up T a y) (hle : o.idxOf x ≤ o.idxOf y) : Up T y x := by
  rcases hx.line hy with k | k
  · have hxo := h.up hx ha
    have := h.up k hxo.1
    obtain rfl : x = y := idx_inj hxo.1 this.1 (by omega)
    exact .refl _
  · exact k
variable {c N : Int}
theorem DJ.above (hd : Dfs g o par) (h : DJ g o par L T) (he : Eq0 o par T (o.idxOf c)) (hs : StepOk g T c N) {u : Int} (hu : par c = some u) : Up T u N ∧ N ∈ o ∧ o.idxOf N < o.idxOf c ∧ Kn T N := by
  have hp := hd.ok _ _ hu
  have hk := DI.kn_par hd he hu
  have h1 := hs.all u hk hp.2.2.1
  have h2 := h.up h1 hp.2.2.2.1
  exact ⟨h1, h2.1, by have := h2.2; have := hp.2.2.2.2; omega, h.up_kn h1 hk⟩
theorem DJ.higher (hd : Dfs g o par) (hL : L c = true) (h : DJ g o par L T) (he : Eq0 o par T (o.idxOf c)) (hs : StepOk g T c N) {p : Int} (hp : T c = some p) : Up T p N := by
  have h1 := h.t1 c p hp
  obtain ⟨u, hu⟩ := hd.has c h1.1 h1.2.1
  obtain ⟨a1, a2, a3, a4⟩ := h.above hd he hs hu
  have hle := h.t4 c p hL hp N a2 hs.all
  have hup := h.t2 c p (.inr ⟨p, hp⟩) (.step hp (.refl _))
  have hpu : Up par u p := by
    rcases hup.cases with e | ⟨q, hq, k⟩
    · rw [e] at h1; omega
    · rw [hu] at hq
      obtain rfl := Option.some.inj hq
      exact k
  have go : ∀ v w, Up par v w → w = p → o.idxOf v < o.idxOf c → v ∈ o → Up T v N → Up T p N := by
    intro v w hvw
    induction hvw with
    | refl b => intro e _ _ k; rw [← e]; exact k
    | @step b q x h2 h3 ih =>
      intro e hb hbo k
      have h4 := hd.ok _ _ h2
      have hx := (hd.up h3 h4.2.2.2.1).2
      rcases (he b h4.1 h4.2.1 hb).2 N k with e2 | ⟨q', hq', k2⟩
      · rw [e2, ← e] at hle
        omega
      · rw [h2] at hq'
        obtain rfl := Option.some.inj hq'
        exact ih e (by omega) h4.2.2.2.1 k2
  exact go u p hpu rfl (hd.ok _ _ hu).2.2.2.2 (hd.ok _ _ hu).2.2.2.1 a1
theorem updJ_part (h : DJ g o par L T) {b x : Int} (hb : b ∈ o) (h1 : Up T b x) (h2 : Up T x c) : Up (upd T c N) b x := by
  induction h1 with
  | refl => exact .refl _
  | @step b p x h3 h4 ih =>
    have h5 := h.t1 _ _ h3
    have hbc : b ≠ c := fun e => by
      have h6 := h.up h4 h5.2.2.1
      have h7 := h.up h2 h6.1
      rw [e] at h5
      omega
    exact .step (by rw [upd_ne _ hbc]; exact h3) (ih h5.2.2.1 h2)
theorem DJ.step (hd : Dfs g o par) (hL : L c = true) (h : DJ g o par L T) (he : Eq0 o par T (o.idxOf c)) (hs : StepOk g T c N) (hc : c ∈ o) (hc0 : c ≠ 0) : DJ g o par L (upd T c N) ∧ Eq0 o par (upd T c N) (o.idxOf c + 1) := by
  obtain ⟨u, hu⟩ := hd.has c hc hc0
  obtain ⟨a1, a2, a3, a4⟩ := h.above hd he hs hu
  have hup := hd.ok _ _ hu
  have hku := DI.kn_par hd he hu
  have nN : ¬ Up T N c := fun k => by have := (h.up k a2).2; omega
  have toN : ∀ x, Up (upd T c N) N x → Up T N x := fun x k => by
    rcases upd_back k with k | ⟨k, _⟩
    · exact k
    · exact absurd k nN
  have kmono : ∀ b, Kn T b → Kn (upd T c N) b := fun b hb => by
    rcases hb with hb | ⟨p, hp⟩
    · exact .inl hb
    · by_cases e : b = c
      · exact .inr ⟨N, by rw [e]; exact upd_at ..⟩
      · exact .inr ⟨p, by rw [upd_ne _ e]; exact hp⟩
  have kback : ∀ b, Kn (upd T c N) b → b = c ∨ Kn T b := fun b hb => by
    by_cases e : b = c
    · exact .inl e
    · rcases hb with hb | ⟨p, hp⟩
      · exact .inr (.inl hb)
      · rw [upd_ne _ e] at hp
        exact .inr (.inr ⟨p, hp⟩)
  have shrink : ∀ b x, Kn T b → Up (upd T c N) b x → Up T b x := fun b x hb k => by
    rcases upd_back k with k | ⟨k1, k2⟩
    · exact k
    · rcases h.up_kn k1 hb with e | ⟨p, hp⟩
      · exact absurd e hc0
      · exact k1.trans (.step hp ((h.higher hd hL he hs hp).trans (toN x k2)))
  have parN : ∀ x, Up T N x → Up par c x := fun x k => .step hu (h.t2 u x hku (a1.trans k))
  have hcx : ∀ x, ¬ Av g x 0 c → Up (upd T c N) c x := fun x hx => by
    by_cases e : x = c
    · rw [e]; exact .refl _
    · refine .step (upd_at ..) (upd_off (hs.best x (fun a ha hrow => h.t3 a x ha (fun k => hx (k.snoc hrow (fun e2 => e e2.symm))))) nN)
  refine ⟨⟨?_, ?_, ?_, ?_, fun b hb hl => kmono b (h.t5 b hb hl), fun b p hl hp => ?_, fun b x hb hl k => h.t7 b x hb hl (shrink b x (h.t5 b hb hl) k)⟩, ?_⟩
  · intro b p hp
    by_cases e : b = c
    · subst e
      rw [upd_at] at hp
      obtain rfl := Option.some.inj hp
      exact ⟨hc, hc0, a2, a3, kmono _ a4⟩
    · rw [upd_ne _ e] at hp
      have := h.t1 b p hp
      exact ⟨this.1, this.2.1, this.2.2.1, this.2.2.2.1, kmono _ this.2.2.2.2⟩
  · intro b x hb k
    rcases kback b hb with e | hb
    · subst e
      rcases k.cases with e | ⟨p, hp, k2⟩
      · rw [e]; exact .refl _
      · rw [upd_at] at hp
        obtain rfl := Option.some.inj hp
        exact parN x (toN x k2)
    · rcases upd_back k with k | ⟨k1, k2⟩
      · exact h.t2 b x hb k
      · exact (h.t2 b c hb k1).trans (parN x (toN x k2))
  · intro b x hb hx
    rcases kback b hb with e | hb
    · subst e
      exact hcx x hx
    · have k := h.t3 b x hb hx
      have hbo := h.kn_mem hd hb
      by_cases hbc : Up T b c
      · rcases Nat.lt_or_ge (o.idxOf x) (o.idxOf c) with hlt | hge
        · have hxo := (h.up k hbo).1
          exact (upd_to hbc).trans (hcx x (fun k2 => hx (k2.trans (hd.around (h.t2 b c hb hbc) hbo hlt))))
        · exact updJ_part h hbo k (h.line hbo hbc k hge)
      · exact upd_off k hbc
  · intro b p hLb hp x hx hall
    have hall' : ∀ a, Kn T a → b ∈ row g a → Up T a x := fun a ha hr => shrink a x ha (hall a (kmono a ha) hr)
    by_cases e : b = c
    · subst e
      rw [upd_at] at hp
      obtain rfl := Option.some.inj hp
      exact (h.up (hs.best x hall') a2).2
    · rw [upd_ne _ e] at hp
      exact h.t4 b p hLb hp x hx hall'
  · have hbc : b ≠ c := fun e => by rw [e, hL] at hl; cases hl
    rw [upd_ne _ hbc] at hp
    exact h.t6 b p hl hp
  · intro v hv hv0 hlt
    by_cases e : v = c
    · subst e
      refine ⟨.inr ⟨N, upd_at ..⟩, fun x k => ?_⟩
      rcases k.cases with e | ⟨p, hp, k2⟩
      · exact .inl e
      · rw [upd_at] at hp
        obtain rfl := Option.some.inj hp
        refine .inr ⟨u, hu, upd_off (a1.trans (toN x k2)) (fun k => ?_)⟩
        have := (h.up k hup.2.2.2.1).2
        omega
    · have hlt' : o.idxOf v < o.idxOf c := by
        have : o.idxOf v ≠ o.idxOf c := fun e2 => e (idx_inj hv hc e2)
        omega
      obtain ⟨h1, h2⟩ := he v hv hv0 hlt'
      refine ⟨kmono v h1, fun x k => ?_⟩
      rcases upd_back k with k | ⟨k, _⟩
      · rcases h2 x k with e2 | ⟨u', hu', k2⟩
        · exact .inl e2
        · have h3 := hd.ok _ _ hu'
          refine .inr ⟨u', hu', upd_off k2 (fun k3 => ?_)⟩
          have := (h.up k3 h3.2.2.2.1).2
          omega
      · have := (h.up k hv).2
        omega
theorem DJ.skip (hd : Dfs g o par) (h : DJ g o par L T) (he : Eq0 o par T (o.idxOf c)) (hc : c ∈ o) (hc0 : c ≠ 0) (hL : L c = false) : Eq0 o par T (o.idxOf c + 1) := by
  intro v hv hv0 hlt
  by_cases e : v = c
  · subst e
    refine ⟨h.t5 v hv hL, fun x k => ?_⟩
    by_cases ex : x = v
    · exact .inl ex
    · obtain ⟨u, hu⟩ := hd.has v hv hv0
      exact .inr ⟨u, hu, h.t3 u x (DI.kn_par hd he hu) (fun ha => h.t7 v x hv hL k (ha.snoc (hd.ok _ _ hu).2.2.1 (Ne.symm ex)))⟩
  · have : o.idxOf v ≠ o.idxOf c := fun e2 => e (idx_inj hv hc e2)
    exact he v hv hv0 (by omega)
theorem DJ.done (hd : Dfs g o par) (h : DJ g o par L T) (hf : ∀ c, c ∈ o → c ≠ 0 → L c = true → ∃ p, T c = some p ∧ StepOk g T c p) {b x : Int} (hb : b ∈ o) : Up T b x ↔ ¬ Av g x 0 b := by
  have hk : ∀ c, c ∈ o → Kn T c := fun c hc => by
    cases hL : L c with
    | false => exact h.t5 c hc hL
    | true =>
      by_cases e : c = 0
      · exact .inl e
      · obtain ⟨p, hp, _⟩ := hf c hc e hL
        exact .inr ⟨p, hp⟩
  refine ⟨fun hu ha => ?_, h.t3 b x (hk b hb)⟩
  have := ha.closed (P := fun b => b ∈ o ∧ Av g x 0 b ∧ ¬ Up T b x) (fun a b ⟨h1, h3, h2⟩ hr hne => by
    have hbo : b ∈ o := (hd.mem b).2 (((hd.mem a).1 h1).trans (.edge hr))
    refine ⟨hbo, h3.snoc hr hne, fun k => ?_⟩
    cases hL : L b with
    | false => exact h.t7 b x hbo hL k (h3.snoc hr hne)
    | true =>
      rcases k.cases with e | ⟨p, hp, k2⟩
      · exact hne e.symm
      · obtain ⟨p', hp', hs⟩ := hf b hbo (h.t1 b p hp).2.1 hL
        rw [hp] at hp'
        obtain rfl := Option.some.inj hp'
        exact h2 ((hs.all a (hk a h1) hr).trans k2)) ⟨hd.zero, .refl ha.left, fun k => by
    rcases k.cases with e | ⟨p, hp, _⟩
    · exact ha.left e.symm
    · exact (h.t1 0 p hp).2.1 rfl⟩
  exact this.2.2 hu
end
section
variable {g : List (List Int)} {n : Nat} {o at' d : List Int} {par T : Int → Option Int} {L : Int → Bool}
theorem meetA_evJ (hd : Dfs g o par) (h : DJ g o par L T) (hr : RepJ n o at' d T) {b : Int} (hb : b ∈ o) : ∀ (m : Nat) (a : Int), Kn T a → a ∈ o → o.idxOf a ≤ m →
    ∃ a', Ev (fun k => meetA n at' d k a b) a' ∧ Up T a a' ∧ o.idxOf a' ≤ o.idxOf b ∧ (∀ y, Up T a y → o.idxOf y ≤ o.idxOf b → Up T a' y) ∧ (o.idxOf b < o.idxOf a → o.idxOf a' < o.idxOf a) ∧ (o.idxOf a ≤ o.idxOf b → a' = a) := by
  intro m
  induction m with
  | zero =>
    intro a ha hao hm
    refine ⟨a, ?_, .refl _, by omega, fun y hy _ => hy, fun hlt => by omega, fun _ => rfl⟩
    refine Ev.step (f := fun _ => some a) (fun k => ?_) (Ev.now _)
    rw [meetA, if_pos ⟨isN_iff.2 (hr.node a hao), isN_iff.2 (hr.node b hb)⟩, hr.at_ a hao, hr.at_ b hb, if_neg (by omega)]
  | succ m ih =>
    intro a ha hao hm
    by_cases hlt : o.idxOf b < o.idxOf a
    · have ha0 : a ≠ 0 := fun e => by
        by_cases e0 : b = 0
        · rw [e, e0] at hlt; omega
        · have := zero_first hd hb e0
          rw [e] at hlt
          omega
      rcases ha with e | ⟨p, hp⟩
      · exact absurd e ha0
      · have h1 := h.t1 a p hp
        obtain ⟨a', e1, e2, e3, e4, e5, e6⟩ := ih p h1.2.2.2.2 h1.2.2.1 (by omega)
        refine ⟨a', ?_, .step hp e2, e3, fun y hy hyb => ?_, fun _ => ?_, fun hle => by omega⟩
        · refine Ev.step (f := fun k => meetA n at' d k p b) (fun k => ?_) e1
          rw [meetA, if_pos ⟨isN_iff.2 (hr.node a hao), isN_iff.2 (hr.node b hb)⟩, hr.at_ a hao, hr.at_ b hb, if_pos (by omega), hr.known a p hp]
        · rcases hy.cases with e | ⟨q, hq, k⟩
          · rw [e] at hyb; omega
          · rw [hp] at hq
            obtain rfl := Option.some.inj hq
            exact e4 y k hyb
        · have := (h.up e2 h1.2.2.1).2
          omega
    · refine ⟨a, ?_, .refl _, by omega, fun y hy _ => hy, fun h => by omega, fun _ => rfl⟩
      refine Ev.step (f := fun _ => some a) (fun k => ?_) (Ev.now _)
      rw [meetA, if_pos ⟨isN_iff.2 (hr.node a hao), isN_iff.2 (hr.node b hb)⟩, hr.at_ a hao, hr.at_ b hb, if_neg (by omega)]
theorem meetO_evJ (hd : Dfs g o par) (h : DJ g o par L T) (hr : RepJ n o at' d T) : ∀ (m : Nat) (a b : Int), Kn T a → a ∈ o → Kn T b → b ∈ o → o.idxOf a + o.idxOf b ≤ m →
    ∃ N, Ev (fun k => meetO n at' d k a b) N ∧ Up T a N ∧ Up T b N ∧ ∀ y, Up T a y → Up T b y → Up T N y := by
  intro m
  induction m with
  | zero =>
    intro a b _ hao _ hbo hm
    obtain rfl : a = b := idx_inj hao hbo (by omega)
    exact ⟨a, Ev.step (f := fun _ => some a) (fun k => by rw [meetO, if_pos rfl]) (Ev.now _), .refl _, .refl _, fun y hy _ => hy⟩
  | succ m ih =>
    intro a b ha hao hb hbo hm
    by_cases e : a = b
    · subst e
      exact ⟨a, Ev.step (f := fun _ => some a) (fun k => by rw [meetO, if_pos rfl]) (Ev.now _), .refl _, .refl _, fun y hy _ => hy⟩
    · have hne : o.idxOf a ≠ o.idxOf b := fun h => e (idx_inj hao hbo h)
      obtain ⟨a', a1, a2, a3, a4, a5, a6⟩ := meetA_evJ hd h hr hbo _ a ha hao (Nat.le_refl _)
      have hao' := (h.up a2 hao).1
      obtain ⟨b', b1, b2, b3, b4, b5, b6⟩ := meetA_evJ hd h hr hao' _ b hb hbo (Nat.le_refl _)
      have hbo' := (h.up b2 hbo).1
      have hlt : o.idxOf a' + o.idxOf b' ≤ m := by
        have h1 := (h.up a2 hao).2
        have h2 := (h.up b2 hbo).2
        rcases Nat.lt_or_ge (o.idxOf b) (o.idxOf a) with k | k
        · have := a5 k; omega
        · have := a6 k
          rw [this] at b5
          have := b5 (by omega)
          omega
      obtain ⟨N, n1, n2, n3, n4⟩ := ih a' b' (h.up_kn a2 ha) hao' (h.up_kn b2 hb) hbo' hlt
      refine ⟨N, Ev.step (f := fun k => (meetA n at' d k a b).bind fun x => (meetA n at' d k b x).bind fun y => meetO n at' d k x y) (fun k => by rw [meetO, if_neg e]) (Ev.bind a1 (Ev.bind b1 n1)), a2.trans n2, b2.trans n3, fun y hy hy2 => ?_⟩
      have h1 := a4 y hy (h.up hy2 hbo).2
      exact n4 y h1 (b4 y hy2 (h.up h1 hao').2)
theorem toF_evJ (hd : Dfs g o par) (h : DJ g o par L T) (hr : RepJ n o at' d T) : ∀ (ps : List Int), (∀ a ∈ ps, 0 ≤ a ∧ a < (n : Int)) → ∀ (z : Int) (S : Int → Prop), ((z = -3 ∧ ∀ a, ¬ S a) ∨ (Kn T z ∧ z ∈ o ∧ (∀ a, S a → Up T a z) ∧ ∀ y, (∀ a, S a → Up T a y) → Up T z y)) →
    ∃ z', Ev (fun k => toF n at' d k ps z) z' ∧ ((z' = -3 ∧ ∀ a, ¬ (S a ∨ (a ∈ ps ∧ Kn T a))) ∨ (Kn T z' ∧ z' ∈ o ∧ (∀ a, S a ∨ (a ∈ ps ∧ Kn T a) → Up T a z') ∧ ∀ y, (∀ a, S a ∨ (a ∈ ps ∧ Kn T a) → Up T a y) → Up T z' y)) := by
  intro ps
  induction ps with
  | nil =>
    intro _ z S hz
    refine ⟨z, Ev.congr (f := fun _ => some z) (fun k => by rw [toF]) (Ev.now _), ?_⟩
    simpa using hz
  | cons a ps ih =>
    intro hps z S hz
    have han := hps a (by simp)
    have hps' : ∀ x ∈ ps, 0 ≤ x ∧ x < (n : Int) := fun x hx => hps x (by simp [hx])
    have skip : ∀ (S' : Int → Prop), (∀ x, S' x ↔ S x) → ¬ Kn T a → ((∃ z', Ev (fun k => toF n at' d k ps z) z' ∧ ((z' = -3 ∧ ∀ x, ¬ (S x ∨ (x ∈ ps ∧ Kn T x))) ∨ (Kn T z' ∧ z' ∈ o ∧ (∀ x, S x ∨ (x ∈ ps ∧ Kn T x) → Up T x z') ∧ ∀ y, (∀ x, S x ∨ (x ∈ ps ∧ Kn T x) → Up T x y) → Up T z' y))) →
        ∃ z', Ev (fun k => toF n at' d k ps z) z' ∧ ((z' = -3 ∧ ∀ x, ¬ (S x ∨ (x ∈ a :: ps ∧ Kn T x))) ∨ (Kn T z' ∧ z' ∈ o ∧ (∀ x, S x ∨ (x ∈ a :: ps ∧ Kn T x) → Up T x z') ∧ ∀ y, (∀ x, S x ∨ (x ∈ a :: ps ∧ Kn T x) → Up T x y) → Up T z' y))) := by
      rintro _ _ hk ⟨z', h1, h2⟩
      refine ⟨z', h1, ?_⟩
      have e : ∀ x, (S x ∨ (x ∈ a :: ps ∧ Kn T x)) ↔ (S x ∨ (x ∈ ps ∧ Kn T x)) := fun x => by
        rw [List.mem_cons]
        constructor
        · rintro (k | ⟨rfl | k, k2⟩)
          · exact .inl k
          · exact absurd k2 hk
          · exact .inr ⟨k, k2⟩
        · rintro (k | ⟨k, k2⟩)
          · exact .inl k
          · exact .inr ⟨.inr k, k2⟩
      simp only [e]
      exact h2
    by_cases hk : Kn T a
    · have hao := h.kn_mem hd hk
      have hda : ¬ (rd d a = -3 ∨ rd d a = -2) := by
        rcases hk with e | ⟨p, hp⟩
        · rw [e, hr.zero]; omega
        · rw [hr.known a p hp]
          have := hr.node p (h.t1 a p hp).2.2.1
          omega
      have main : ∀ z2, Kn T z2 ∧ z2 ∈ o ∧ (∀ x, (S x ∨ x = a) → Up T x z2) ∧ (∀ y, (∀ x, (S x ∨ x = a) → Up T x y) → Up T z2 y) →
          ∃ z', Ev (fun k => toF n at' d k ps z2) z' ∧ ((z' = -3 ∧ ∀ x, ¬ (S x ∨ (x ∈ a :: ps ∧ Kn T x))) ∨ (Kn T z' ∧ z' ∈ o ∧ (∀ x, S x ∨ (x ∈ a :: ps ∧ Kn T x) → Up T x z') ∧ ∀ y, (∀ x, S x ∨ (x ∈ a :: ps ∧ Kn T x) → Up T x y) → Up T z' y)) := by
        intro z2 hz2
        obtain ⟨z', h1, h2⟩ := ih hps' z2 (fun x => S x ∨ x = a) (.inr hz2)
        refine ⟨z', h1, ?_⟩
        have e : ∀ x, (S x ∨ (x ∈ a :: ps ∧ Kn T x)) ↔ ((S x ∨ x = a) ∨ (x ∈ ps ∧ Kn T x)) := fun x => by
          rw [List.mem_cons]
          constructor
          · rintro (k | ⟨k | k, k2⟩)
            · exact .inl (.inl k)
            · exact .inl (.inr k)
            · exact .inr ⟨k, k2⟩
          · rintro ((k | k) | ⟨k, k2⟩)
            · exact .inl k
            · exact .inr ⟨.inl k, by rw [k]; exact hk⟩
            · exact .inr ⟨.inr k, k2⟩
        simp only [e]
        exact h2
      rcases hz with ⟨rfl, hS⟩ | ⟨hkz, hzo, hall, hbest⟩
      · obtain ⟨z', h1, h2⟩ := main a ⟨hk, hao, fun x hx => hx.elim (fun k => absurd k (hS x)) (fun e => by rw [e]; exact .refl _), fun y hy => hy a (.inr rfl)⟩
        exact ⟨z', Ev.congr (f := fun k => toF n at' d k ps a) (fun k => by rw [toF, if_pos (isN_iff.2 han), if_neg hda, if_pos rfl]) h1, h2⟩
      · have hz3 : z ≠ -3 := fun e => by have := hr.node z hzo; omega
        obtain ⟨N, n1, n2, n3, n4⟩ := meetO_evJ hd h hr _ z a hkz hzo hk hao (Nat.le_refl _)
        obtain ⟨z', h1, h2⟩ := main N ⟨h.up_kn n2 hkz, (h.up n2 hzo).1, fun x hx => hx.elim (fun k => (hall x k).trans n2) (fun e => by rw [e]; exact n3), fun y hy => n4 y (hbest y (fun x hx => hy x (.inl hx))) (hy a (.inr rfl))⟩
        exact ⟨z', Ev.congr (f := fun k => (meetO n at' d k z a).bind fun m => toF n at' d k ps m) (fun k => by rw [toF, if_pos (isN_iff.2 han), if_neg hda, if_neg hz3]) (Ev.bind n1 h1), h2⟩
    · have hda : rd d a = -3 ∨ rd d a = -2 := by
        by_cases hao : a ∈ o
        · left
          refine hr.unk a hao (fun e => hk (.inl e)) ?_
          cases hT : T a with
          | none => rfl
          | some p => exact absurd (.inr ⟨p, hT⟩) hk
        · right
          exact hr.lost a han.1 han.2 hao
      obtain ⟨z', h1, h2⟩ := skip S (fun _ => Iff.rfl) hk (ih hps' z S hz)
      exact ⟨z', Ev.congr (f := fun k => toF n at' d k ps z) (fun k => by rw [toF, if_pos (isN_iff.2 han), if_pos hda]) h1, h2⟩
end
theorem RepJ.upd {n : Nat} {o at' d : List Int} {T : Int → Option Int} (h : RepJ n o at' d T) (hl : d.length = n) {c N : Int} (hc : c ∈ o) (hc0 : c ≠ 0) : RepJ n o at' (d.set c.toNat N) (upd T c N) := by
  have hn := h.node c hc
  have hs : ∀ y, 0 ≤ y → rd (d.set c.toNat N) y = if y = c then N else rd d y := fun y hy => rd_setn hn.1 (by omega) hy
  refine ⟨h.node, h.at_, by rw [hs 0 (by omega), if_neg (Ne.symm hc0)]; exact h.zero, fun b p hp => ?_, fun b hb hb0 hT => ?_, fun b h0 h1 hb => ?_⟩
  · by_cases e : b = c
    · subst e
      rw [upd_at] at hp
      rw [hs b hn.1, if_pos rfl]
      exact Option.some.inj hp
    · rw [upd_ne _ e] at hp
      have h2 := h.known b p hp
      by_cases hb : 0 ≤ b
      · rw [hs b hb, if_neg e, h2]
      · rw [← h2]
        show (d.set c.toNat N).getD b.toNat 0 = d.getD b.toNat 0
        have hb' : b.toNat = (0 : Int).toNat := by omega
        have h3 := hs 0 (by omega)
        rw [if_neg (Ne.symm hc0)] at h3
        rw [hb']
        exact h3
  · by_cases e : b = c
    · subst e
      rw [upd_at] at hT
      cases hT
    · rw [upd_ne _ e] at hT
      rw [hs b (h.node b hb).1, if_neg e]
      exact h.unk b hb hb0 hT
  · have e : b ≠ c := fun e => hb (by rw [e]; exact hc)
    rw [hs b h0, if_neg e]
    exact h.lost b h0 h1 hb
section
variable {g pre : List (List Int)} {n : Nat} {o at' : List Int} {par : Int → Option Int} {L : Int → Bool}
theorem pass_evJ (hd : Dfs g o par) (hnd : o.Nodup) (hp1 : ∀ b, b ∈ o → ∀ a ∈ pre.getD b.toNat [], 0 ≤ a ∧ a < (n : Int)) (hp2 : ∀ a b, a ∈ o → b ∈ o → (a ∈ pre.getD b.toNat [] ↔ b ∈ row g a)) :
    ∀ (bs s : List Int), o = s ++ bs → 0 ∈ s → ∀ (T : Int → Option Int) (d : List Int) (ch : Bool), DJ g o par L T → RepJ n o at' d T → d.length = n → Eq0 o par T s.length →
      ∃ T' d' e, Ev (fun k => passF n at' pre k (bs.filter L) d ch) (d', e || ch) ∧ DJ g o par L T' ∧ RepJ n o at' d' T' ∧ d'.length = n ∧
        ((e = false ∧ d' = d ∧ T' = T ∧ ∀ c ∈ bs, L c = true → ∃ p, T c = some p ∧ StepOk g T c p) ∨ (e = true ∧ mes o T' < mes o T)) := by
  intro bs
  induction bs with
  | nil =>
    intro s _ _ T d ch h hr hl _
    exact ⟨T, d, false, Ev.congr (f := fun _ => some (d, ch)) (fun k => by rw [List.filter_nil, passF]) (by rw [Bool.false_or]; exact Ev.now _), h, hr, hl, .inl ⟨rfl, rfl, rfl, fun c hc => by simp at hc⟩⟩
  | cons c bs ih =>
    intro s ho h0s T d ch h hr hl he
    have hco : c ∈ o := by rw [ho]; simp
    have hnd' := hnd
    rw [ho, List.nodup_append] at hnd'
    have hcs : ¬ c ∈ s := fun k => hnd'.2.2 c k c (by simp) rfl
    have hc0 : c ≠ 0 := fun e => hcs (by rw [e]; exact h0s)
    have hix : o.idxOf c = s.length := by
      rw [ho, List.idxOf_append, if_neg hcs, List.idxOf_cons_self]
      omega
    rw [← hix] at he
    obtain ⟨u, hu⟩ := hd.has c hco hc0
    have hpu := hd.ok _ _ hu
    have hku := DI.kn_par hd he hu
    cases hL : L c with
    | false =>
      have he' := h.skip hd he hco hc0 hL
      obtain ⟨T', d', e, i1, i2, i3, i4, i5⟩ := ih (s ++ [c]) (by rw [ho]; simp) (by simp [h0s]) T d ch h hr hl (by rw [List.length_append, ← hix]; exact he')
      refine ⟨T', d', e, by rw [List.filter_cons_of_neg (by rw [hL]; decide)]; exact i1, i2, i3, i4, ?_⟩
      rcases i5 with ⟨q1, q2, q3, q4⟩ | q
      · exact .inl ⟨q1, q2, q3, fun x hx hx2 => by
          rcases List.mem_cons.1 hx with rfl | hx
          · rw [hL] at hx2; cases hx2
          · exact q4 x hx hx2⟩
      · exact .inr q
    | true =>
      obtain ⟨z, hz, hzz⟩ := toF_evJ hd h hr (pre.getD c.toNat []) (hp1 c hco) (-3) (fun _ => False) (.inl ⟨rfl, fun _ h => h⟩)
      have hup : u ∈ pre.getD c.toNat [] := (hp2 u c hpu.2.2.2.1 hco).2 hpu.2.2.1
      rcases hzz with ⟨_, hno⟩ | ⟨hkz, hzo, hall, hbest⟩
      · exact absurd (.inr ⟨hup, hku⟩) (hno u)
      · have hs : StepOk g T c z := by
          refine ⟨fun a ha hrow => hall a (.inr ⟨(hp2 a c (h.kn_mem hd ha) hco).2 hrow, ha⟩), fun x hx => hbest x (fun a ha => ?_)⟩
          rcases ha with ha | ⟨ha, hk⟩
          · exact ha.elim
          · exact hx a hk ((hp2 a c (h.kn_mem hd hk) hco).1 ha)
        obtain ⟨h', he'⟩ := h.step hd hL he hs hco hc0
        have hr' := hr.upd (N := z) hl hco hc0
        have hl' : (d.set c.toNat z).length = n := by rw [List.length_set]; exact hl
        obtain ⟨T', d', e, i1, i2, i3, i4, i5⟩ := ih (s ++ [c]) (by rw [ho]; simp) (by simp [h0s]) (upd T c z) (d.set c.toNat z) ((rd d c != z) || ch) h' hr' hl' (by rw [List.length_append, ← hix]; exact he')
        refine ⟨T', d', e || (rd d c != z), Ev.congr (f := fun k => (toF n at' d k (pre.getD c.toNat []) (-3)).bind fun z => passF n at' pre k (bs.filter L) (d.set c.toNat z) ((rd d c != z) || ch)) (fun k => by rw [List.filter_cons_of_pos hL, passF]) (Ev.bind hz (by rw [Bool.or_assoc]; exact i1)), i2, i3, i4, ?_⟩
        by_cases hch : rd d c = z
        · have hTc : T c = some z := by
            cases hT : T c with
            | none =>
              have := hr.unk c hco hc0 hT
              have := hr.node z hzo
              omega
            | some p => rw [← hch, hr.known c p hT]
          have hT' : upd T c z = T := by
            funext b
            unfold P.upd
            split
            · rename_i e; rw [e, hTc]
            · rfl
          have hd' : d.set c.toNat z = d := by
            apply List.ext_getElem
            · simp
            · intro i h1 h2
              rw [List.getElem_set]
              split
              · rename_i e
                subst e
                rw [← hch]
                show d.getD c.toNat 0 = _
                rw [List.getD_eq_getElem?_getD, List.getElem?_eq_getElem h2]
                rfl
              · rfl
          have hne : (rd d c != z) = false := by simp [hch]
          rw [hne, Bool.or_false]
          rcases i5 with ⟨q1, q2, q3, q4⟩ | ⟨q1, q2⟩
          · refine .inl ⟨q1, by rw [q2, hd'], by rw [q3, hT'], fun x hx hx2 => ?_⟩
            rcases List.mem_cons.1 hx with rfl | hx
            · exact ⟨z, hTc, hs⟩
            · rw [hT'] at q4
              exact q4 x hx hx2
          · rw [hT'] at q2
            exact .inr ⟨q1, q2⟩
        · have hne : (rd d c != z) = true := by simp [hch]
          rw [hne, Bool.or_true]
          have hm : mes o (upd T c z) < mes o T := by
            refine sum_less o hnd hco (fun x hx => by unfold wt; rw [upd_ne _ hx]) ?_
            unfold wt
            rw [upd_at]
            have hzl := List.idxOf_lt_length_of_mem hzo
            cases hT : T c with
            | none => exact hzl
            | some p =>
              have hup := h.higher hd hL he hs hT
              have h1 := h.t1 c p hT
              have h2 := (h.up hup h1.2.2.1).2
              have h3 : o.idxOf z ≠ o.idxOf p := fun e => hch (by rw [hr.known c p hT]; exact (idx_inj hzo h1.2.2.1 e).symm)
              show o.idxOf z < o.idxOf p
              omega
          refine .inr ⟨rfl, ?_⟩
          rcases i5 with ⟨_, _, q3, _⟩ | ⟨_, q2⟩
          · rw [q3]; exact hm
          · omega
end
section
variable {g pre : List (List Int)} {n : Nat} {bs at' : List Int} {par : Int → Option Int} {L : Int → Bool}
theorem it_evJ (hd : Dfs g (0 :: bs) par) (hnd : (0 :: bs).Nodup) (hp1 : ∀ b, b ∈ (0 :: bs) → ∀ a ∈ pre.getD b.toNat [], 0 ≤ a ∧ a < (n : Int)) (hp2 : ∀ a b, a ∈ (0 :: bs) → b ∈ (0 :: bs) → (a ∈ pre.getD b.toNat [] ↔ b ∈ row g a)) :
    ∀ (m : Nat) (T : Int → Option Int) (d : List Int), mes (0 :: bs) T ≤ m → DJ g (0 :: bs) par L T → RepJ n (0 :: bs) at' d T → d.length = n →
      ∃ T' d', Ev (fun k => itF n at' pre (bs.filter L) k d) d' ∧ DJ g (0 :: bs) par L T' ∧ RepJ n (0 :: bs) at' d' T' ∧ d'.length = n ∧ ∀ c ∈ bs, L c = true → ∃ p, T' c = some p ∧ StepOk g T' c p := by
  intro m
  induction m with
  | zero =>
    intro T d hm h hr hl
    obtain ⟨T', d', e, i1, i2, i3, i4, i5⟩ := pass_evJ hd hnd hp1 hp2 bs [0] rfl (by simp) T d false h hr hl (eq0_one T)
    rcases i5 with ⟨q1, q2, q3, q4⟩ | ⟨_, q2⟩
    · subst q1 q2 q3
      refine ⟨T', d', Ev.step (f := fun k => (passF n at' pre k (bs.filter L) d' false).bind fun r => if r.2 = true then itF n at' pre (bs.filter L) k r.1 else some r.1) (fun k => by rw [itF]) (Ev.bind i1 ?_), i2, i3, i4, q4⟩
      simp only [Bool.or_self, Bool.false_eq_true, if_false]
      exact Ev.now _
    · omega
  | succ m ih =>
    intro T d hm h hr hl
    obtain ⟨T', d', e, i1, i2, i3, i4, i5⟩ := pass_evJ hd hnd hp1 hp2 bs [0] rfl (by simp) T d false h hr hl (eq0_one T)
    rcases i5 with ⟨q1, q2, q3, q4⟩ | ⟨q1, q2⟩
    · subst q1 q2 q3
      refine ⟨T', d', Ev.step (f := fun k => (passF n at' pre k (bs.filter L) d' false).bind fun r => if r.2 = true then itF n at' pre (bs.filter L) k r.1 else some r.1) (fun k => by rw [itF]) (Ev.bind i1 ?_), i2, i3, i4, q4⟩
      simp only [Bool.or_self, Bool.false_eq_true, if_false]
      exact Ev.now _
    · subst q1
      obtain ⟨T2, d2, j1, j2⟩ := ih T' d' (by omega) i2 i3 i4
      refine ⟨T2, d2, Ev.step (f := fun k => (passF n at' pre k (bs.filter L) d false).bind fun r => if r.2 = true then itF n at' pre (bs.filter L) k r.1 else some r.1) (fun k => by rw [itF]) (Ev.bind i1 ?_), j2⟩
      simp only [Bool.or_false, if_true]
      exact j1
end
end Go.Proofs.Ytemcmcnhpdkdfaa.P
namespace Go.Proofs.Ytemcmcnhpdkdfaa.P
open Go.Proofs.YtemcmcnhpdkdfaaW.PrintWords
theorem IsDom.unique {c : List (List Int)} {l l' : List Int} (h : IsDom c l) (h' : IsDom c l') : l = l' := by
  have key : ∀ b, Node c b → rd l b = rd l' b := fun b hb => by
    by_cases hw : Way c 0 b
    · have hr : Rc c b := ⟨hb, hw⟩
      by_cases h0 : b = 0
      · subst h0
        rw [h.zero (by have := hb.2; omega), h'.zero (by have := hb.2; omega)]
      · obtain ⟨p, hp, e, _⟩ := h.par b hb hw h0
        obtain ⟨p', hp', e', _⟩ := h'.par b hb hw h0
        have s1 : Dm c (rd l b) b := (h.dm_par hr h0).2 (.inr (by rw [e]; exact h.dm_refl.2 (h.idT_par hr hp).1))
        have s2 : Dm c (rd l' b) b := (h'.dm_par hr h0).2 (.inr (by rw [e']; exact h'.dm_refl.2 (h'.idT_par hr hp').1))
        obtain ⟨f, hf, _⟩ := h.rank
        obtain ⟨f', hf', _⟩ := h'.rank
        have n1 : rd l b ≠ b := fun k => by have := hf b p hp; rw [e] at k; rw [k] at this; omega
        have n2 : rd l' b ≠ b := fun k => by have := hf' b p' hp'; rw [e'] at k; rw [k] at this; omega
        have t1 : Dm c (rd l b) (rd l' b) := by
          rcases (h'.dm_par hr h0).1 s1 with k | k
          · exact absurd k n1
          · exact k
        have t2 : Dm c (rd l' b) (rd l b) := by
          rcases (h.dm_par hr h0).1 s2 with k | k
          · exact absurd k n2
          · exact k
        exact h.dm_anti t1 t2
    · rw [h.lost b hb hw, h'.lost b hb hw]
  apply List.ext_getElem
  · rw [h.len, h'.len]
  · intro i h1 h2
    have := key (i : Int) ⟨by omega, by rw [← h.len]; omega⟩
    rw [rd_nat' h1, rd_nat' h2] at this
    exact this
theorem IsDom.same {c c2 : List (List Int)} {l : List Int} (h : IsDom c l) (hlen : c2.length = c.length) (hw : ∀ b, Way c 0 b ↔ Way c2 0 b) (hd : ∀ b x, Way c 0 b → (Av c x 0 b ↔ Av c2 x 0 b)) : IsDom c2 l := by
  have hn : ∀ b, Node c2 b ↔ Node c b := fun b => by unfold Node; rw [hlen]
  obtain ⟨f, hf, hf2⟩ := h.rank
  refine ⟨by rw [h.len, hlen], fun h0 => h.zero (by rw [← hlen]; exact h0), fun b hb hx => h.lost b ((hn b).1 hb) (fun k => hx ((hw b).1 k)), fun b hb hx h0 => ?_, fun b hb hx x => ?_, f, hf, fun b hb hx => by rw [hlen]; exact hf2 b ((hn b).1 hb) ((hw b).2 hx)⟩
  · obtain ⟨p, h1, h2, h3, h4⟩ := h.par b ((hn b).1 hb) ((hw b).2 hx) h0
    exact ⟨p, h1, h2, (hn p).2 h3, (hw p).1 h4⟩
  · rw [h.doms b ((hn b).1 hb) ((hw b).2 hx) x, hd b x ((hw b).2 hx)]
theorem Dfs.tree_av {g : List (List Int)} {o : List Int} {par : Int → Option Int} (hd : Dfs g o par) {x : Int} : ∀ (m : Nat) (b : Int), o.idxOf b ≤ m → b ∈ o → ¬ Up par b x → Av g x 0 b := by
  intro m
  induction m with
  | zero =>
    intro b hm hb hn
    by_cases e : b = 0
    · rw [e] at hn ⊢
      exact .refl (fun e => hn (by rw [e]; exact .refl _))
    · obtain ⟨u, hu⟩ := hd.has b hb e
      have := (hd.ok _ _ hu).2.2.2.2
      omega
  | succ m ih =>
    intro b hm hb hn
    by_cases e : b = 0
    · rw [e] at hn ⊢
      exact .refl (fun e => hn (by rw [e]; exact .refl _))
    · obtain ⟨u, hu⟩ := hd.has b hb e
      have h1 := hd.ok _ _ hu
      exact (ih u (by omega) h1.2.2.2.1 (fun k => hn (.step hu k))).snoc h1.2.2.1 (fun e => hn (by rw [e]; exact .refl _))
set_option maxHeartbeats 1000000 in
theorem anew_is {c : List (List Int)} {l : List Int} (h : IsDom c l) {g2 : List (List Int)} (hs : Small g2) (hlen : c.length = g2.length) (h0 : 0 < g2.length) (L : Int → Bool)
    (hL1 : ∀ b, L b = true → Rc c b ∧ b ≠ 0) (hL2 : ∀ b p, Rc c b → L b = false → idT l b = some p → L p = false)
    (hw : ∀ b, Way c 0 b ↔ Way (clean g2) 0 b) (hdd : ∀ b x, Rc c b → L b = false → (Av c x 0 b ↔ Av (clean g2) x 0 b))
    (d0 : List Int) (hd0l : d0.length = g2.length) (hd0 : ∀ b : Int, 0 ≤ b → b < (g2.length : Int) → rd d0 b = if L b = true then -3 else rd l b) :
    ∃ o l', graph_Order.f g2 0 = some o ∧ (∀ x ∈ o, 0 ≤ x ∧ x < (g2.length : Int)) ∧ (o.length ≤ g2.length ∧ 0 < o.length) ∧ Ev (fun k => itF g2.length (atSo o g2.length o.length) (turn (clean g2)) (o.filter L) k d0) l' ∧ IsDom (clean g2) l' := by
  obtain ⟨bs, par, h1, hd, hnd, ho⟩ := dfs_ctx hs h0
  obtain ⟨n, en⟩ : ∃ n, n = g2.length := ⟨_, rfl⟩
  have hcl := clean_len g2
  have hv := clean_Valid g2
  have hri := clean_rises g2
  rw [← en] at ho hcl h0 hd0 hd0l hlen ⊢
  have hp1 : ∀ b, b ∈ (0 :: bs) → ∀ a ∈ (turn (clean g2)).getD b.toNat [], 0 ≤ a ∧ a < (n : Int) := fun b hb a ha => by
    have := (mem_turn hv hri (ho b hb).1).1 ha
    rw [hcl] at this
    exact this.1
  have hp2 : ∀ a b, a ∈ (0 :: bs) → b ∈ (0 :: bs) → (a ∈ (turn (clean g2)).getD b.toNat [] ↔ b ∈ row (clean g2) a) := fun a b ha hb => by
    have := mem_turn hv hri (a := a) (ho b hb).1
    rw [hcl] at this
    exact ⟨fun h => (this.1 h).2, fun h => this.2 ⟨ho a ha, h⟩⟩
  have hg := atSo_get hnd ho (0 :: bs).length (Nat.le_refl _)
  have hmem : ∀ b, b ∈ (0 :: bs) ↔ Way (clean g2) 0 b := hd.mem
  have hmc : ∀ b, b ∈ (0 :: bs) ↔ Rc c b := fun b => ⟨fun hb => ⟨⟨(ho b hb).1, by rw [hlen]; exact (ho b hb).2⟩, (hw b).2 ((hmem b).1 hb)⟩, fun hb => (hmem b).2 ((hw b).1 hb.2)⟩
  have hLf : L 0 = false := by
    cases hL : L 0 with
    | false => rfl
    | true => exact absurd rfl (hL1 0 hL).2
  have hidc : ∀ b p, idT l b = some p → Rc c b ∧ Rc c p ∧ rd l b = p ∧ b ≠ 0 := fun b p hp => by
    have hb : Rc c b := by
      have hp2 := hp
      unfold idT at hp2
      split at hp2
      · rename_i hc
        have hb : Node c b := ⟨hc.1.1, by have := hc.1.2; rw [h.len] at this; exact this⟩
        refine ⟨hb, ?_⟩
        by_cases hw2 : Way c 0 b
        · exact hw2
        · have := h.lost b hb hw2
          omega
      · cases hp2
    exact ⟨hb, h.idT_par hb hp⟩
  obtain ⟨T, hT⟩ : ∃ T : Int → Option Int, T = fun b => if L b = true then none else idT l b := ⟨_, rfl⟩
  have hTs : ∀ b p, T b = some p → L b = false ∧ idT l b = some p := fun b p hp => by
    rw [hT] at hp
    dsimp only at hp
    split at hp
    · cases hp
    · rename_i hL
      exact ⟨by simpa using hL, hp⟩
  have hTn : ∀ b, L b = false → T b = idT l b := fun b hL => by rw [hT]; dsimp only; rw [hL, if_neg (by decide)]
  have hup : ∀ b x, b ∈ (0 :: bs) → L b = false → (Up T b x ↔ ¬ Av (clean g2) x 0 b) := fun b x hb hL => by
    have hbc := (hmc b).1 hb
    rw [← hdd b x hbc hL, ← h.doms b hbc.1 hbc.2 x]
    have hP : ∀ b p, (Rc c b ∧ L b = false) → idT l b = some p → (Rc c p ∧ L p = false) := fun b p ⟨k1, k2⟩ hp => ⟨(hidc b p hp).2.1, hL2 b p k1 k2 hp⟩
    exact ⟨fun k => k.congr (fun b => Rc c b ∧ L b = false) (fun b hb => hTn b hb.2) (fun b p hb hp => hP b p hb (by rw [← hTn b hb.2]; exact hp)) ⟨hbc, hL⟩, fun k => k.congr (fun b => Rc c b ∧ L b = false) (fun b hb => (hTn b hb.2).symm) hP ⟨hbc, hL⟩⟩
  have hpar : ∀ b x, b ∈ (0 :: bs) → L b = false → Up T b x → Up par b x := fun b x hb hL k => by
    by_cases hp : Up par b x
    · exact hp
    · exact absurd (hd.tree_av _ b (Nat.le_refl _) hb hp) ((hup b x hb hL).1 k)
  have hknL : ∀ b, Kn T b → b ∈ (0 :: bs) ∧ L b = false := fun b hb => by
    rcases hb with e | ⟨p, hp⟩
    · exact ⟨by rw [e]; exact hd.zero, by rw [e]; exact hLf⟩
    · have k := hTs b p hp
      exact ⟨(hmc b).2 (hidc b p k.2).1, k.1⟩
  have hLkn : ∀ b, b ∈ (0 :: bs) → L b = false → Kn T b := fun b hb hL => by
    by_cases e : b = 0
    · exact .inl e
    · have hbc := (hmc b).1 hb
      obtain ⟨p, hp, _⟩ := h.par b hbc.1 hbc.2 e
      exact .inr ⟨p, by rw [hTn b hL]; exact hp⟩
  have hDJ : DJ (clean g2) (0 :: bs) par L T := by
    refine ⟨fun b p hp => ?_, fun b x hb k => hpar b x (hknL b hb).1 (hknL b hb).2 k, fun b x hb k => (hup b x (hknL b hb).1 (hknL b hb).2).2 k, fun b p hL hp => ?_, hLkn, fun b p hL hp => ?_, fun b x hb hL k => (hup b x hb hL).1 k⟩
    · obtain ⟨k1, k2⟩ := hTs b p hp
      obtain ⟨i1, i2, i3, i4⟩ := hidc b p k2
      have hbo := (hmc b).2 i1
      have hpo := (hmc p).2 i2
      refine ⟨hbo, i4, hpo, ?_, hLkn p hpo (hL2 b p i1 k1 k2)⟩
      have h2 := (hd.up (hpar b p hbo k1 (.step hp (.refl _))) hbo).2
      obtain ⟨f, hf, _⟩ := h.rank
      have h3 : (0 :: bs).idxOf p ≠ (0 :: bs).idxOf b := fun e => by
        have e2 := idx_inj hpo hbo e
        have := hf b p k2
        rw [e2] at this
        omega
      omega
    · have := (hTs b p hp).1
      rw [hL] at this
      cases this
    · have k := hTs b p hp
      exact hL2 b p (hidc b p k.2).1 k.1 k.2
  have hRep : RepJ n (0 :: bs) (atSo (0 :: bs) n (0 :: bs).length) d0 T := by
    refine ⟨ho, fun x hx => ?_, ?_, fun b p hp => ?_, fun b hb hb0 hTb => ?_, fun b hb0 hb1 hb => ?_⟩
    · rw [(hg.2.2 x (ho x hx).1 (ho x hx).2).1, List.take_length, if_pos hx]
    · rw [hd0 0 (by omega) (by omega), hLf, if_neg (by decide)]
      exact h.zero (by omega)
    · obtain ⟨k1, k2⟩ := hTs b p hp
      obtain ⟨i1, i2, i3, i4⟩ := hidc b p k2
      have := i1.1
      unfold Node at this
      rw [hlen] at this
      rw [hd0 b this.1 this.2, k1, if_neg (by decide)]
      exact i3
    · rw [hd0 b (ho b hb).1 (ho b hb).2]
      cases hL : L b with
      | true => rw [if_pos rfl]
      | false =>
        rcases hLkn b hb hL with e | ⟨p, hp⟩
        · exact absurd e hb0
        · rw [hTb] at hp; cases hp
    · have hnb : Node c b := ⟨hb0, by rw [hlen]; exact hb1⟩
      have hnr : ¬ Rc c b := fun k => hb ((hmc b).2 k)
      rw [hd0 b hb0 hb1]
      cases hL : L b with
      | true => exact absurd (hL1 b hL).1 hnr
      | false =>
        rw [if_neg (by decide)]
        exact h.lost b hnb (fun k => hnr ⟨hnb, k⟩)
  obtain ⟨T', d, e1, hD, hR, hl, hall⟩ := it_evJ hd hnd hp1 hp2 _ T d0 (Nat.le_refl _) hDJ hRep hd0l
  have hdone : ∀ b x, b ∈ (0 :: bs) → (Up T' b x ↔ ¬ Av (clean g2) x 0 b) := fun b x hb => hD.done hd (fun c hc hc0 hL => hall c (by rcases List.mem_cons.1 hc with e | e; exact absurd e hc0; exact e) hL) hb
  have hT0 : T' 0 = none := by
    cases hT : T' 0 with
    | none => rfl
    | some p => exact absurd rfl (hD.t1 0 p hT).2.1
  have hkn : ∀ b, b ∈ (0 :: bs) → b ≠ 0 → ∃ p, T' b = some p := fun b hb hb0 => by
    cases hL : L b with
    | false =>
      rcases hD.t5 b hb hL with e | k
      · exact absurd e hb0
      · exact k
    | true =>
      obtain ⟨p, hp, _⟩ := hall b (by rcases List.mem_cons.1 hb with h | h; exact absurd h hb0; exact h) hL
      exact ⟨p, hp⟩
  have hidT : ∀ b, b ∈ (0 :: bs) → idT d b = T' b := fun b hb => by
    have hn := ho b hb
    unfold idT
    rw [hl]
    by_cases e : b = 0
    · rw [e, hT0, hR.zero, if_neg (by omega)]
    · obtain ⟨p, hp⟩ := hkn b hb e
      have hk := hR.known b p hp
      have hpn := ho p (hD.t1 b p hp).2.2.1
      rw [hk, if_pos ⟨hn, hpn.1⟩, hp]
  have hidN : ∀ b p, idT d b = some p → b ∈ (0 :: bs) := fun b p h => by
    unfold idT at h
    rw [hl] at h
    split at h
    · rename_i hc
      by_cases hb : b ∈ (0 :: bs)
      · exact hb
      · rw [hR.lost b hc.1.1 hc.1.2 hb] at hc
        omega
    · cases h
  have hTc : ∀ b p, b ∈ (0 :: bs) → T' b = some p → p ∈ (0 :: bs) := fun b p _ h => (hD.t1 b p h).2.2.1
  refine ⟨0 :: bs, d, h1, ho, ⟨few_nodes hnd ho, by simp⟩, ?_, by rw [hl, hcl], fun _ => hR.zero, fun b hb hwb => ?_, fun b hb hwb hb0 => ?_, fun b hb hwb x => ?_, fun b => (0 :: bs).idxOf b, fun b p hp => ?_, fun b hb hwb => ?_⟩
  · rw [List.filter_cons_of_neg (by rw [hLf]; decide)]
    exact e1
  · have hb' := (clean_node.1 hb)
    rw [← en] at hb'
    exact hR.lost b hb'.1 hb'.2 (fun h => hwb ((hmem b).1 h))
  · have hbo := (hmem b).2 hwb
    obtain ⟨p, hp⟩ := hkn b hbo hb0
    have hpo := (hD.t1 b p hp).2.2.1
    refine ⟨p, by rw [hidT b hbo, hp], hR.known b p hp, clean_node.2 (by rw [← en]; exact ho p hpo), (hmem p).1 hpo⟩
  · have hbo := (hmem b).2 hwb
    rw [← hdone b x hbo]
    refine ⟨fun h => h.congr (fun b => b ∈ (0 :: bs)) hidT (fun b p hb h => hTc b p hb (by rw [← hidT b hb]; exact h)) hbo, fun h => h.congr (fun b => b ∈ (0 :: bs)) (fun b hb => (hidT b hb).symm) hTc hbo⟩
  · have hbo := hidN b p hp
    rw [hidT b hbo] at hp
    exact (hD.t1 b p hp).2.2.2.1
  · have hbo := (hmem b).2 hwb
    have := List.idxOf_lt_length_of_mem hbo
    have hle := few_nodes hnd ho
    rw [hcl]
    exact Nat.lt_of_lt_of_le this hle
structure Dif (big small : List (List Int)) (a b : Int) : Prop where
  sub : ∀ x y, 0 ≤ x → y ∈ row small x → y ∈ row big x
  but : ∀ x y, 0 ≤ x → y ∈ row big x → y ∈ row small x ∨ (x = a ∧ y = b)
  val : ∀ x y, y ∈ row big x → 0 ≤ y
section
variable {big small : List (List Int)} {a b : Int}
theorem Dif.av (h : Dif big small a b) {x s y : Int} (k : Av small x s y) : 0 ≤ s → Av big x s y := by
  induction k with
  | refl k => exact fun _ => .refl k
  | step k1 k2 _ ih => exact fun hs => .step k1 (h.sub _ _ hs k2) (ih (h.val _ _ (h.sub _ _ hs k2)))
theorem Dif.way (h : Dif big small a b) {s y : Int} (k : Way small s y) : 0 ≤ s → Way big s y := by
  induction k with
  | refl => exact fun _ => .refl _
  | step k _ ih => exact fun hs => .step (h.sub _ _ hs k) (ih (h.val _ _ (h.sub _ _ hs k)))
theorem Dif.cut (h : Dif big small a b) {x s y : Int} (k : Av big x s y) : 0 ≤ s → Av small x s y ∨ (Av small x s a ∧ Av small x b y ∧ b ∈ row big a) := by
  induction k with
  | refl k => exact fun _ => .inl (.refl k)
  | step k1 k2 _ ih =>
    intro hs
    rcases h.but _ _ hs k2 with e | ⟨rfl, rfl⟩
    · rcases ih (h.val _ _ k2) with i | ⟨i1, i2, i3⟩
      · exact .inl (.step k1 e i)
      · exact .inr ⟨.step k1 e i1, i2, i3⟩
    · rcases ih (h.val _ _ k2) with i | ⟨i1, i2, i3⟩
      · exact .inr ⟨.refl k1, i, k2⟩
      · exact .inr ⟨.refl k1, i2, i3⟩
theorem Dif.cutw (h : Dif big small a b) {s y : Int} (k : Way big s y) : 0 ≤ s → Way small s y ∨ (Way small s a ∧ Way small b y ∧ b ∈ row big a) := by
  induction k with
  | refl => exact fun _ => .inl (.refl _)
  | step k2 _ ih =>
    intro hs
    rcases h.but _ _ hs k2 with e | ⟨rfl, rfl⟩
    · rcases ih (h.val _ _ k2) with i | ⟨i1, i2, i3⟩
      · exact .inl (.step e i)
      · exact .inr ⟨.step e i1, i2, i3⟩
    · rcases ih (h.val _ _ k2) with i | ⟨i1, i2, i3⟩
      · exact .inr ⟨.refl _, i, k2⟩
      · exact .inr ⟨.refl _, i2, i3⟩
theorem Dif.hit (h : Dif big small a b) {x top s e : Int} (k : Av big x s e) (he : e = b) (hb : b ≠ top) : 0 ≤ s → Av big top s b ∨ Av small x s top := by
  induction k with
  | refl => exact fun _ => .inl (by rw [he]; exact .refl hb)
  | @step s s' y k1 k2 _ ih =>
    intro hs
    by_cases es : s = top
    · exact .inr (by rw [es] at k1 ⊢; exact .refl k1)
    · rcases ih he (h.val _ _ k2) with i | i
      · exact .inl (.step es k2 i)
      · rcases h.but _ _ hs k2 with e | ⟨rfl, rfl⟩
        · exact .inr (.step k1 e i)
        · exact .inl (.step es k2 (.refl hb))
end
theorem Av.hits {g : List (List Int)} {t s y : Int} (x : Int) (h : Av g t s y) : Av g x s y ∨ Av g t s x := by
  induction h with
  | @refl s hs =>
    by_cases e : s = x
    · exact .inr (by rw [← e]; exact .refl hs)
    · exact .inl (.refl e)
  | @step s s' y k1 k2 _ ih =>
    by_cases e : s = x
    · exact .inr (by rw [← e]; exact .refl k1)
    · rcases ih with i | i
      · exact .inl (.step e k2 i)
      · exact .inr (.step k1 k2 i)
theorem Way.last2 {g : List (List Int)} {s b : Int} (h : Way g s b) {x t : Int} (hx : b ≠ x) (ht : b ≠ t) (hxt : x ≠ t) : (Av g x s b ∧ Av g t s b) ∨ Av g t x b ∨ Av g x t b := by
  induction h with
  | refl => exact .inl ⟨.refl hx, .refl ht⟩
  | @step s s' y k _ ih =>
    rcases ih hx ht with ⟨i1, i2⟩ | i | i
    · by_cases e : s = x
      · exact .inr (.inl (by rw [← e] at hxt ⊢; exact .step hxt k i2))
      · by_cases e2 : s = t
        · exact .inr (.inr (by rw [← e2] at hxt ⊢; exact .step (Ne.symm hxt) k i1))
        · exact .inl ⟨.step e k i1, .step e2 k i2⟩
    · exact .inr (.inl i)
    · exact .inr (.inr i)
section
variable {c c2 : List (List Int)} {l : List Int} {a b : Int}
theorem not_dm {c : List (List Int)} {x y : Int} (hy : Rc c y) (h : ¬ Dm c x y) : Av c x 0 y := by
  by_cases k : Av c x 0 y
  · exact k
  · exact absurd ⟨hy, k⟩ h
theorem add_ways (hdf : Dif c2 c a b) (hb : Way c 0 b) (y : Int) : Way c 0 y ↔ Way c2 0 y :=
  ⟨fun k => hdf.way k (Int.le_refl 0), fun k => by
    rcases hdf.cutw k (Int.le_refl 0) with i | ⟨_, i, _⟩
    · exact i
    · exact hb.trans i⟩
theorem add_doms (h : IsDom c l) (hdf : Dif c2 c a b) {top : Int} (ht1 : Dm c top a) (ht2 : Dm c top b) {x y : Int} (hy : Rc c y) (hL : y = top ∨ ¬ Dm c top y) : Av c x 0 y ↔ Av c2 x 0 y := by
  refine ⟨fun k => hdf.av k (Int.le_refl 0), fun k => ?_⟩
  rcases hdf.cut k (Int.le_refl 0) with i | ⟨i1, i2, _⟩
  · exact i
  · by_cases hxb : Dm c x b
    · have hxa : ¬ Dm c x a := fun k => k.2 i1
      have htx : Dm c top x := by
        rcases h.dm_line hxb ht2 with k | k
        · exact absurd (h.dm_trans k ht1) hxa
        · exact k
      refine not_dm hy (fun hxy => ?_)
      rcases hL with e | hL
      · rw [e] at hxy
        exact hxa (h.dm_trans hxy ht1)
      · exact hL (h.dm_trans htx hxy)
    · exact (not_dm ht2.1 hxb).trans i2
theorem del_ways (hdf : Dif c c2 a b) (hb : Way c2 0 b) (y : Int) : Way c 0 y ↔ Way c2 0 y :=
  ⟨fun k => by
    rcases hdf.cutw k (Int.le_refl 0) with i | ⟨_, i, _⟩
    · exact i
    · exact hb.trans i, fun k => hdf.way k (Int.le_refl 0)⟩
theorem del_doms (hdf : Dif c c2 a b) (hb : Way c2 0 b) {top : Int} (ht : Dm c top b) (htb : b ≠ top) {x y : Int} (hy : Rc c y) (hL : y = top ∨ ¬ Dm c top y) : Av c x 0 y ↔ Av c2 x 0 y := by
  refine ⟨fun k => ?_, fun k => hdf.av k (Int.le_refl 0)⟩
  by_cases hg : Av c2 x 0 y
  · exact hg
  · exfalso
    rcases hdf.cut k (Int.le_refl 0) with i | ⟨i1, i2, i3⟩
    · exact hg i
    · have hxb : ¬ Av c2 x 0 b := fun k => hg (k.trans i2)
      have hbx : b ≠ x := i2.left
      have hcb : Av c x 0 b := (hdf.av i1 (Int.le_refl 0)).snoc i3 hbx
      have htop : Av c2 x 0 top := by
        rcases hdf.hit hcb rfl htb (Int.le_refl 0) with k | k
        · exact absurd k ht.2
        · exact k
      rcases hL with e | hL
      · rw [e] at hg
        exact hg htop
      · have hty : Av c2 top 0 y := by
          rcases hdf.cut (not_dm hy hL) (Int.le_refl 0) with k | ⟨k1, _, k3⟩
          · exact k
          · exact absurd ((hdf.av k1 (Int.le_refl 0)).snoc k3 htb) ht.2
        have htx : Av c2 top 0 x := by
          rcases hty.hits x with k | k
          · exact absurd k hg
          · exact k
        rcases hb.last2 hbx htb htx.right with ⟨k, _⟩ | k | k
        · exact hxb k
        · exact ht.2 (hdf.av (htx.trans k) (Int.le_refl 0))
        · exact hxb (htop.trans k)
theorem not_below (h : IsDom c l) {top y p : Int} (hy : Rc c y) (hL : y = top ∨ ¬ Dm c top y) (hp : idT l y = some p) : p = top ∨ ¬ Dm c top p := by
  by_cases e : p = top
  · exact .inl e
  · refine .inr (fun k => ?_)
    have hpy : Dm c p y := h.dm_up.2 ⟨hy, .step hp (.refl _)⟩
    rcases hL with e2 | hL
    · rw [e2] at hpy
      exact e (h.dm_anti hpy k)
    · exact hL (h.dm_trans k hpy)
theorem edge_no {big small : List (List Int)} {a b : Int} (hdf : Dif big small a b) (hno : ¬ Way small 0 a ∨ b = 0 ∨ ¬ b ∈ row big a) : (∀ y, Way small 0 y ↔ Way big 0 y) ∧ ∀ x y, Av small x 0 y ↔ Av big x 0 y := by
  refine ⟨fun y => ⟨fun k => hdf.way k (Int.le_refl 0), fun k => ?_⟩, fun x y => ⟨fun k => hdf.av k (Int.le_refl 0), fun k => ?_⟩⟩
  · rcases hdf.cutw k (Int.le_refl 0) with i | ⟨i1, i2, i3⟩
    · exact i
    · rcases hno with e | e | e
      · exact absurd i1 e
      · rw [e] at i2; exact i2
      · exact absurd i3 e
  · rcases hdf.cut k (Int.le_refl 0) with i | ⟨i1, i2, i3⟩
    · exact i
    · rcases hno with e | e | e
      · exact absurd i1.way e
      · rw [e] at i2; exact i2
      · exact absurd i3 e
end
end Go.Proofs.Ytemcmcnhpdkdfaa.P
namespace Go.Proofs.Ytemcmcnhpdkdfaa.P
open Go.Proofs.YtemcmcnhpdkdfaaW.PrintWords
def lostB (l : List Int) (a : Int) : Bool := decide (a < 0) || decide ((l.length : Int) ≤ a) || (rd l a == -2)
theorem lostB_iff {c : List (List Int)} {l : List Int} (h : IsDom c l) (a : Int) : lostB l a = true ↔ ¬ Rc c a := by
  unfold lostB Rc
  rw [Bool.or_eq_true, Bool.or_eq_true, decide_eq_true_iff, decide_eq_true_iff, beq_iff_eq]
  have hn : Node c a ↔ ¬ (a < 0 ∨ (l.length : Int) ≤ a) := by unfold Node; rw [h.len]; omega
  by_cases k : a < 0 ∨ (l.length : Int) ≤ a
  · exact ⟨fun _ hc => (hn.1 hc.1) k, fun _ => .inl k⟩
  · have hnd := hn.2 k
    rw [h.lost_iff hnd]
    exact ⟨fun hc hd => hc.elim (fun hc => k hc) (fun hc => hc hd.2), fun hc => .inr (fun hw => hc ⟨hnd, hw⟩)⟩
theorem dif_self (c : List (List Int)) (hv : Valid c) (a b : Int) : Dif c c a b := ⟨fun _ _ _ h => h, fun _ _ _ h => .inl h, fun _ _ h => (row_node hv h).1⟩
theorem dif_with {c : List (List Int)} (hv : Valid c) (a b : Int) : Dif (withE c a b) c a b := by
  by_cases k : Node c a ∧ Node c b
  · refine ⟨fun x y hx h => (mem_withE k.1 k.2 hx).2 (.inl h), fun x y hx h => (mem_withE k.1 k.2 hx).1 h, fun x y h => (row_node (withE_Valid hv) h).1⟩
  · have e : withE c a b = c := by
      unfold withE
      rw [if_neg (fun h => k ⟨isN_iff.1 h.1, isN_iff.1 h.2.1⟩)]
    rw [e]
    exact dif_self c hv a b
theorem dif_without {c : List (List Int)} (hv : Valid c) (a b : Int) : Dif c (withoutE c a b) a b := by
  by_cases k : Node c a
  · refine ⟨fun x y hx h => ((mem_withoutE k hx).1 h).1, fun x y hx h => ?_, fun x y h => (row_node hv h).1⟩
    by_cases e : x = a ∧ y = b
    · exact .inr e
    · exact .inl ((mem_withoutE k hx).2 ⟨h, e⟩)
  · have e : withoutE c a b = c := by
      unfold withoutE
      rw [if_neg (fun h => k (isN_iff.1 h))]
    rw [e]
    exact dif_self c hv a b
theorem lostSo_get (L : Int → Bool) (l : List Int) : ∀ i, i ≤ l.length → (lostSo L l i).length = l.length ∧ ∀ x : Int, 0 ≤ x → x < (l.length : Int) → rd (lostSo L l i) x = if x < (i : Int) ∧ L x = true then -2 else rd l x
  | 0, _ => ⟨rfl, fun x h0 _ => by rw [if_neg (fun h => by have := h.1; omega)]; rfl⟩
  | i + 1, hi => by
    obtain ⟨h1, h2⟩ := lostSo_get L l i (by omega)
    unfold lostSo
    by_cases hL : L (i : Int) = true
    · rw [if_pos hL]
      refine ⟨by rw [List.length_set, h1], fun x h0 hx => ?_⟩
      have := rd_setn (d := lostSo L l i) (c := (i : Int)) (v := -2) (by omega) (by omega) h0
      rw [Int.toNat_natCast] at this
      rw [this]
      by_cases e : x = (i : Int)
      · rw [if_pos e, if_pos ⟨by omega, by rw [e]; exact hL⟩]
      · rw [if_neg e, h2 x h0 hx]
        by_cases hc : x < (i : Int) ∧ L x = true
        · rw [if_pos hc, if_pos ⟨by omega, hc.2⟩]
        · rw [if_neg hc, if_neg (fun h => hc ⟨by have := h.1; omega, h.2⟩)]
    · rw [if_neg hL]
      refine ⟨h1, fun x h0 hx => ?_⟩
      rw [h2 x h0 hx]
      by_cases hc : x < (i : Int) ∧ L x = true
      · rw [if_pos hc, if_pos ⟨by omega, hc.2⟩]
      · rw [if_neg hc, if_neg (fun h => hc ⟨by
          have := h.1
          have e : x ≠ (i : Int) := fun e => hL (by rw [← e]; exact h.2)
          omega, h.2⟩)]
theorem unkSo_get (L : Int → Bool) (o d : List Int) (ho : ∀ x ∈ o, 0 ≤ x ∧ x < (d.length : Int)) : ∀ k, k ≤ o.length → (unkSo L o d k).length = d.length ∧ ∀ x : Int, 0 ≤ x → x < (d.length : Int) → rd (unkSo L o d k) x = if x ∈ o.take k ∧ L x = true then -3 else rd d x
  | 0, _ => ⟨rfl, fun x h0 _ => by rw [if_neg (fun h => by simp at h)]; rfl⟩
  | k + 1, hk => by
    obtain ⟨h1, h2⟩ := unkSo_get L o d ho k (by omega)
    have hko : k < o.length := by omega
    have e : o.getD k 0 = o[k] := by rw [List.getD_eq_getElem?_getD, List.getElem?_eq_getElem hko]; rfl
    have hm := ho o[k] (List.getElem_mem hko)
    unfold unkSo
    rw [e, List.take_succ_eq_append_getElem hko]
    by_cases hL : L o[k] = true
    · rw [if_pos hL]
      refine ⟨by rw [List.length_set, h1], fun x h0 hx => ?_⟩
      rw [rd_setn hm.1 (by rw [h1]; exact hm.2) h0]
      by_cases ex : x = o[k]
      · rw [if_pos ex, if_pos ⟨List.mem_append.2 (.inr (List.mem_singleton.2 ex)), by rw [ex]; exact hL⟩]
      · rw [if_neg ex, h2 x h0 hx]
        by_cases hc : x ∈ o.take k ∧ L x = true
        · rw [if_pos hc, if_pos ⟨List.mem_append.2 (.inl hc.1), hc.2⟩]
        · rw [if_neg hc, if_neg (fun h => hc ⟨by
            rcases List.mem_append.1 h.1 with q | q
            · exact q
            · exact absurd (List.mem_singleton.1 q) ex, h.2⟩)]
    · rw [if_neg hL]
      refine ⟨h1, fun x h0 hx => ?_⟩
      rw [h2 x h0 hx]
      by_cases hc : x ∈ o.take k ∧ L x = true
      · rw [if_pos hc, if_pos ⟨List.mem_append.2 (.inl hc.1), hc.2⟩]
      · rw [if_neg hc, if_neg (fun h => hc ⟨by
          rcases List.mem_append.1 h.1 with q | q
          · exact q
          · exact absurd h.2 (by rw [List.mem_singleton.1 q]; exact hL), h.2⟩)]
theorem mem_belowB {c : List (List Int)} {l : List Int} (h : IsDom c l) {top b : Int} : b ∈ belowB l top ↔ Dm c top b := by
  unfold belowB
  rw [List.mem_map]
  constructor
  · rintro ⟨i, hi, rfl⟩
    rw [List.mem_filter] at hi
    exact h.dm.1 (of_decide_eq_true hi.2)
  · intro k
    have hb := k.1.1
    refine ⟨b.toNat, List.mem_filter.2 ⟨List.mem_range.2 (by have := hb.1; have := hb.2; rw [h.len]; omega), ?_⟩, by have := hb.1; omega⟩
    rw [show ((b.toNat : Nat) : Int) = b from by have := hb.1; omega]
    exact decide_eq_true (h.dm.2 k)
theorem anewB_iff {c : List (List Int)} {l : List Int} (h : IsDom c l) {top b : Int} : anewB (belowB l top) top b = true ↔ b ≠ top ∧ Dm c top b := by
  unfold anewB
  rw [Bool.and_eq_true, decide_eq_true_iff, decide_eq_true_iff, mem_belowB h]
set_option maxHeartbeats 1000000 in
theorem solve_pure {c c2 : List (List Int)} {l l3 : List Int} (h : IsDom c l) (hs2 : Small c2) (hcc : clean c2 = c2) (hlen : c.length = c2.length) (h0 : 0 < c2.length) (top : Int)
    (hw : ∀ b, Way c 0 b ↔ Way c2 0 b) (hdd : ∀ b x, Rc c b → (b = top ∨ ¬ Dm c top b) → (Av c x 0 b ↔ Av c2 x 0 b)) (h3 : IsDom c2 l3) :
    ∃ o, graph_Order.f c2 0 = some o ∧ (∀ x ∈ o, 0 ≤ x ∧ x < (c2.length : Int)) ∧ o.length ≤ c2.length ∧ 0 < o.length ∧
      Ev (fun k => itF c2.length (atSo o c2.length o.length) (turn (clean c2)) (leftSo (anewB (belowB l top) top) o o.length) k (unkSo (anewB (belowB l top) top) o (lostSo (anewB (belowB l top) top) l c2.length) o.length)) l3 := by
  obtain ⟨bs, par, h1, hd, _, ho⟩ := dfs_ctx hs2 h0
  rw [hcc] at hd
  obtain ⟨L, eL⟩ : ∃ L, L = anewB (belowB l top) top := ⟨_, rfl⟩
  have hLi : ∀ b, L b = true ↔ b ≠ top ∧ Dm c top b := fun b => by rw [eL]; exact anewB_iff h
  have hLn : ∀ b, L b = false → b = top ∨ ¬ Dm c top b := fun b hb => by
    by_cases e : b = top
    · exact .inl e
    · exact .inr (fun k => by rw [(hLi b).2 ⟨e, k⟩] at hb; cases hb)
  have hL1 : ∀ b, L b = true → Rc c b ∧ b ≠ 0 := fun b hb => by
    have k := (hLi b).1 hb
    refine ⟨k.2.1, fun e => ?_⟩
    rw [e] at k
    exact k.2.2 (.refl k.1)
  have hL2 : ∀ b p, Rc c b → L b = false → idT l b = some p → L p = false := fun b p hb hL hp => by
    cases hLp : L p with
    | false => rfl
    | true =>
      have k := (hLi p).1 hLp
      rcases not_below h hb (hLn b hL) hp with e | e
      · exact absurd e k.1
      · exact absurd k.2 e
  have hll : l.length = c2.length := by rw [h.len, hlen]
  have g1 := lostSo_get L l c2.length (by omega)
  have g2 := unkSo_get L (0 :: bs) (lostSo L l c2.length) (by rw [g1.1, hll]; exact ho) (0 :: bs).length (Nat.le_refl _)
  obtain ⟨o', l', e1, e2, e3, e4, e5⟩ := anew_is h hs2 hlen h0 L hL1 hL2 (by rw [hcc]; exact hw) (fun b x hb hL => by rw [hcc]; exact hdd b x hb (hLn b hL)) (unkSo L (0 :: bs) (lostSo L l c2.length) (0 :: bs).length)
    (by rw [g2.1, g1.1, hll]) (fun b hb0 hb1 => by
      rw [g2.2 b hb0 (by rw [g1.1, hll]; exact hb1), List.take_length, g1.2 b hb0 (by rw [hll]; exact hb1)]
      by_cases hL : L b = true
      · rw [if_pos hL, if_pos ⟨(hd.mem b).2 ((hw b).1 (hL1 b hL).1.2), hL⟩]
      · rw [if_neg hL, if_neg (fun k => hL k.2), if_neg (fun k => hL k.2)])
  rw [h1] at e1
  obtain rfl := Option.some.inj e1
  rw [hcc] at e5
  obtain rfl := e5.unique h3
  rw [← eL]
  refine ⟨_, h1, e2, e3.1, e3.2, ?_⟩
  rw [leftSo_all]
  exact e4
section
variable {c : List (List Int)} {l l3 : List Int} {a b : Int}
theorem add_same (hv : Valid c) (h : IsDom c l) (hno : lostB l a = true ∨ b < 0 ∨ (c.length : Int) ≤ b ∨ b = 0) (h3 : IsDom (withE c a b) l3) : l3 = l := by
  have hno' : ¬ Way c 0 a ∨ b = 0 ∨ ¬ b ∈ row (withE c a b) a := by
    rcases hno with k | k | k | k
    · rw [lostB_iff h] at k
      by_cases hn : Node c a
      · exact .inl (fun hw => k ⟨hn, hw⟩)
      · have e : withE c a b = c := by unfold withE; rw [if_neg (fun h => hn (isN_iff.1 h.1))]
        by_cases hz : 0 < c.length
        · exact .inl (fun hw => hn (hw.closed (P := Node c) (fun x y _ hy => row_node hv hy) ⟨Int.le_refl 0, by omega⟩))
        · refine .inr (.inr (fun hm => ?_))
          rw [e] at hm
          have := row_node hv hm
          have := this.1
          have := this
          unfold Node at *
          omega
    · refine .inr (.inr (fun hm => ?_))
      have := (row_node (withE_Valid hv) hm).1
      omega
    · refine .inr (.inr (fun hm => ?_))
      have := (row_node (withE_Valid hv) hm).2
      rw [withE_len] at this
      omega
    · exact .inr (.inl k)
  obtain ⟨k1, k2⟩ := edge_no (dif_with hv a b) hno'
  exact h3.unique (h.same withE_len k1 (fun y x _ => k2 x y))
theorem add_anew (hv : Valid c) (hr : ∀ l ∈ c, l.Pairwise (· < ·)) (hn : c.length ≤ 900) (h : IsDom c l) (ha : lostB l a = false) (hb : lostB l b = false) (h3 : IsDom (withE c a b) l3) :
    ∃ o, graph_Order.f (withE c a b) 0 = some o ∧ (∀ x ∈ o, 0 ≤ x ∧ x < ((withE c a b).length : Int)) ∧ o.length ≤ (withE c a b).length ∧ 0 < o.length ∧
      Ev (fun k => itF (withE c a b).length (atSo o (withE c a b).length o.length) (turn (clean (withE c a b))) (leftSo (anewB (belowB l (commonB l a b)) (commonB l a b)) o o.length) k (unkSo (anewB (belowB l (commonB l a b)) (commonB l a b)) o (lostSo (anewB (belowB l (commonB l a b)) (commonB l a b)) l (withE c a b).length) o.length)) l3 := by
  have hra : Rc c a := by
    by_cases k : Rc c a
    · exact k
    · rw [(lostB_iff h a).2 k] at ha; cases ha
  have hrb : Rc c b := by
    by_cases k : Rc c b
    · exact k
    · rw [(lostB_iff h b).2 k] at hb; cases hb
  have ht := h.common.1 ⟨hra, hrb⟩
  have hdf := dif_with hv a b
  exact solve_pure h (small_of (withE_Valid hv) (withE_rises hr) (by rw [withE_len]; exact hn)) (clean_self (withE_Valid hv) (withE_rises hr)) withE_len.symm (by rw [withE_len]; have := hra.1.1; have := hra.1.2; omega) _
    (add_ways hdf hrb.2) (fun y x hy hL => add_doms h hdf ht.1 ht.2.1 hy hL) h3
theorem del_same (hv : Valid c) (h : IsDom c l) (hno : lostB l a = true ∨ lostB l b = true ∨ b = 0) (h3 : IsDom (withoutE c a b) l3) : l3 = l := by
  have hdf := dif_without hv a b
  have hno' : ¬ Way (withoutE c a b) 0 a ∨ b = 0 ∨ ¬ b ∈ row c a := by
    rcases hno with k | k | k
    · rw [lostB_iff h] at k
      by_cases hn : Node c a
      · exact .inl (fun hw => k ⟨hn, hdf.way hw (Int.le_refl 0)⟩)
      · by_cases hz : 0 < c.length
        · exact .inl (fun hw => hn ((hdf.way hw (Int.le_refl 0)).closed (P := Node c) (fun x y _ hy => row_node hv hy) ⟨Int.le_refl 0, by omega⟩))
        · refine .inr (.inr (fun hm => ?_))
          have := row_node hv hm
          unfold Node at this
          omega
    · rw [lostB_iff h] at k
      by_cases hm : b ∈ row c a
      · exact .inl (fun hw => k ⟨row_node hv hm, (hdf.way hw (Int.le_refl 0)).trans (.edge hm)⟩)
      · exact .inr (.inr hm)
    · exact .inr (.inl k)
  obtain ⟨k1, k2⟩ := edge_no hdf hno'
  exact h3.unique (h.same withoutE_len (fun y => (k1 y).symm) (fun y x _ => (k2 x y).symm))
theorem del_anew (hv : Valid c) (hr : ∀ l ∈ c, l.Pairwise (· < ·)) (hn : c.length ≤ 900) (h : IsDom c l) (hb : lostB l b = false) (hb0 : b ≠ 0) (hre : Way (withoutE c a b) 0 b) (h3 : IsDom (withoutE c a b) l3) :
    ∃ o, graph_Order.f (withoutE c a b) 0 = some o ∧ (∀ x ∈ o, 0 ≤ x ∧ x < ((withoutE c a b).length : Int)) ∧ o.length ≤ (withoutE c a b).length ∧ 0 < o.length ∧
      Ev (fun k => itF (withoutE c a b).length (atSo o (withoutE c a b).length o.length) (turn (clean (withoutE c a b))) (leftSo (anewB (belowB l (rd l b)) (rd l b)) o o.length) k (unkSo (anewB (belowB l (rd l b)) (rd l b)) o (lostSo (anewB (belowB l (rd l b)) (rd l b)) l (withoutE c a b).length) o.length)) l3 := by
  have hrb : Rc c b := by
    by_cases k : Rc c b
    · exact k
    · rw [(lostB_iff h b).2 k] at hb; cases hb
  obtain ⟨p, hp, e, _⟩ := h.par b hrb.1 hrb.2 hb0
  have ht : Dm c (rd l b) b := (h.dm_par hrb hb0).2 (.inr (by rw [e]; exact h.dm_refl.2 (h.idT_par hrb hp).1))
  have htb : b ≠ rd l b := fun k => by
    obtain ⟨f, hf, _⟩ := h.rank
    have := hf b p hp
    rw [← e, ← k] at this
    omega
  have hdf := dif_without hv a b
  exact solve_pure h (small_of (withoutE_Valid hv) (withoutE_rises hr) (by rw [withoutE_len]; exact hn)) (clean_self (withoutE_Valid hv) (withoutE_rises hr)) withoutE_len.symm (by rw [withoutE_len]; have := hrb.1.1; have := hrb.1.2; omega) _
    (del_ways hdf hre) (fun y x hy hL => del_doms hdf hre ht htb hy hL) h3
end
def changedB (l l3 : List Int) : List Int := ((List.range l.length).filter fun i : Nat => decide (rd l3 (i : Int) ≠ rd l (i : Int))).map fun i : Nat => (i : Int)
end Go.Proofs.Ytemcmcnhpdkdfaa.P
