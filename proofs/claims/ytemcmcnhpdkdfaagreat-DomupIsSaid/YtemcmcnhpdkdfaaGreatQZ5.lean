/- What the claim uses of: Pdom Gtree Gcut Gref14 Gref14c Hdstep Hdsolve Hdsolve2 Hinsert Hwith PdomupA Hdup0 Hdup1 Gdup -/
import Derived.Test.YtemcmcnhpdkdfaaGreatQZ4
namespace Go.Proofs.YtemcmcnhpdkdfaaGreat.P
open Go.RowKit Go.Proofs.YtemcmcnhpdkdfaaGreatW.PrintWords Go.Proofs.YtemcmcnhpdkdfaaGreatW.PrintLast Go.Proofs.YtemcmcnhpdkdfaaGreatW.PrintMore
attribute [local go_sem] max2_int min2_int max_two min_two max_three min_three max_four min_four
set_option linter.unusedVariables false
set_option linter.unusedSimpArgs false
def dom_Dominates.f (k : Nat) (l0 : List Int) (a1 : Int) (a2 : Int) : Option (Bool) := (dom_Chain.f k l0 a2).bind fun t454 => ((slices_Contains_int_int.f k t454 a1).bind fun t457 => (some t457))
set_option maxHeartbeats 8000000 in
set_option maxRecDepth 100000 in
theorem dom_Dominates.calls (k : Nat) (A0 : Option Addr) (c0 : Nat) (l0 : List Int) (a1 : Int) (a2 : Int) (r : Bool) (w : World) (hr0 : Kd.C (Kd.int .i64) w A0 l0.length l0) (hc0 : l0.length ≤ c0) (h : dom_Dominates.f k l0 a1 a2 = some r) :
  Calls Tryz.prog 77 #[.slice A0 l0.length c0, .int .i64 a1, .int .i64 a2] w fun e w' => e = .returned (.bool r) ∧ Below w.heap.size w w' := by
 have HR0 := Aside0.mk hr0
 have HC0 := Aside0.mk hc0
 clear hr0 hc0
 have HB := Aside0.mk (Below.refl w.heap.size w)
 have H : ((dom_Chain.f k l0 a2).bind fun t454 => ((slices_Contains_int_int.f k t454 a1).bind fun t457 => (some t457))) = some r := h
 clear h
 replace H := Option.bind_eq_some_iff.mp H
 obtain ⟨t454, A40, H⟩ := H
 replace H : ((slices_Contains_int_int.f k t454 a1).bind fun t457 => (some t457)) = some r := H
 have A4 := Aside0.mk A40
 clear A40
 replace H := Option.bind_eq_some_iff.mp H
 obtain ⟨t457, A50, H⟩ := H
 replace H : (some t457) = some r := H
 have A5 := Aside0.mk A50
 clear A50
 obtain rfl := Option.some.inj H
 go_enter Tryz.func77, Tryz.ntmps77
 go_wp2_with (first | ((with_reducible refine gate_callee (f := 54) rfl ?_); refine goesL_ (some 9) rfl rfl Tryz.func54 (by kernel_rfl) rfl #[.slice A0 l0.length c0, .int .i64 a2] rfl (by (try simp only [List.map_toArray, List.map_cons, List.map_nil]); first | done | rfl | (simp only [List.length_drop, List.length_take]; rfl)) ?_; (with_reducible refine (dom_Chain.calls k _ _ l0 a2 t454 _ ?side1 ?side2 A4.out).mono ?_); (case side1 => repeat (first | exact HR0.out | (with_reducible refine Kd.C_alloc ?_ _) | (with_reducible refine Kd.C_drewN ?_ _) | (with_reducible refine Kd.C_drew ?_))); (case side2 => exact HC0.out); rintro e w6 ⟨v455, rfl, ho0, hb⟩; refine ⟨_, rfl, ?_⟩; have n0_ := Aside0.mk (Kd.R_lower ho0 (below_size (by repeat (first | (with_reducible first | exact HB.out | apply below_alloc | apply pw_below_drewN | apply below_drew1) | exact HB.out)))); have n1_ := Aside0.mk (below_step (by repeat (first | (with_reducible first | exact HB.out | apply below_alloc | apply pw_below_drewN | apply below_drew1) | exact HB.out)) hb); clear HB; have HO456 := n0_; have HB := n1_; clear n0_ n1_; (try clear hb); (try clear hb2); (try clear hk); (try clear hi); (try clear ho0); obtain ⟨Ao7, co7, eo7⟩ := Kd.R_slice HO456.out; subst eo7) | ((with_reducible refine gate_callee (f := 53) rfl ?_); refine goesL_ (some 11) rfl rfl Tryz.func53 (by kernel_rfl) rfl #[.slice Ao7 t454.length co7, .int .i64 a1] rfl (by (try simp only [List.map_toArray, List.map_cons, List.map_nil]); first | done | rfl | (simp only [List.length_drop, List.length_take]; rfl)) ?_; (with_reducible refine (slices_Contains_int_int.calls k _ _ t454 a1 t457 _ ?side1 ?side2 A5.out).mono ?_); (case side1 => repeat (first | exact (Kd.R_reads' HO456.out).2.2 | (with_reducible refine Kd.C_alloc ?_ _) | (with_reducible refine Kd.C_drewN ?_ _) | (with_reducible refine Kd.C_drew ?_))); (case side2 => exact (Kd.R_reads' HO456.out).2.1); rintro e w' ⟨rfl, ⟨nd, rfl⟩⟩; refine ⟨_, rfl, ?_⟩))
 go_ret
 exact ⟨by first | rfl | (simp [errW_none, errW_some] <;> rfl) | (simp [*, errW_none, errW_some] <;> rfl) | (exfalso; (try simp_all); (try omega); done), by repeat (first | (with_reducible first | exact HB.out | apply below_alloc | apply pw_below_drewN | apply below_drew1) | exact HB.out)⟩
def dom_Below.l0 : Nat → List Int → Int → List Int → Int → Int → Option (List Int)
 | 0, _, _, _, _, _ => none
 | k + 1, x0, x1, x5, x8, x9 => if x9 < x8 then ((dom_Dominates.f k x0 x1 x9).bind fun t458 => (if t458 = true then (if x5.length < 17592186044416 then (dom_Below.l0 k x0 x1 (x5 ++ [x9]) x8 (wrap64 (x9 + 1))) else (none)) else (dom_Below.l0 k x0 x1 x5 x8 (wrap64 (x9 + 1))))) else (some x5)
def dom_Below.f (k : Nat) (l0 : List Int) (a1 : Int) : Option (List Int) := dom_Below.l0 k l0 a1 ([] : List Int) (l0.length : Int) 0
set_option maxHeartbeats 8000000 in
set_option maxRecDepth 100000 in
theorem dom_Below.calls (k : Nat) (A0 : Option Addr) (c0 : Nat) (l0 : List Int) (a1 : Int) (r : List Int) (w : World) (hr0 : Kd.C (Kd.int .i64) w A0 l0.length l0) (hc0 : l0.length ≤ c0) (h : dom_Below.f k l0 a1 = some r) :
  Calls Tryz.prog 51 #[.slice A0 l0.length c0, .int .i64 a1] w fun e w' => ∃ v0_ : Value, e = .returned (v0_) ∧ Kd.R (Kd.int .i64) 3 w' w.heap.size (fun _ => True) v0_ r ∧ Below w.heap.size w w' := by
 have HR0 := Aside0.mk hr0
 have HC0 := Aside0.mk hc0
 clear hr0 hc0
 have HB := Aside0.mk (Below.refl w.heap.size w)
 have H : (dom_Below.l0 k l0 a1 ([] : List Int) (l0.length : Int) 0) = some r := h
 clear h
 have H' := Aside0.mk H
 clear H
 go_enter Tryz.func51, Tryz.ntmps51
 go_wp2
 go_loopg [5, 9] k (fun kq v5 v9 w' => ∃ (x5_1 : List Int) (x9_1 : Int), v9 = .int .i64 x9_1 ∧ Aside0 (dom_Below.l0 kq l0 a1 x5_1 (l0.length : Int) x9_1 = some r) ∧ Aside0 (kq ≤ k) ∧ Aside0 (Kd.R (Kd.int .i64) 3 w' w.heap.size (fun _ => True) v5 x5_1) ∧ Aside0 (Below w.heap.size w w'))
 case atStart => exact ⟨(([] : List Int)), (0), (by first | rfl | (simp; done) | (simp [*]; done)), H', ⟨Nat.le_refl _⟩, ⟨by first | exact Kd.R_nil _ _ _ _ _ | exact Kd.N_nil _ _ _ _ _ | exact Kd.V_nil _ _ _ _ _ | exact Kd.Q_nil _ _ _ _ _ | exact Kd.S_nil _ _ _ _ _⟩, ⟨by repeat (first | (with_reducible first | exact HB.out | apply below_alloc | apply pw_below_drewN | apply below_drew1) | exact HB.out)⟩⟩
 case round =>
  clear H'
  try clear p2
  obtain ⟨x5_1, x9_1, rfl, HA, HK1, HO_5, HB⟩ := hrel
  cases gk with
  | zero => exact absurd HA.out (by simp [dom_Below.l0])
  | succ k1 =>
   have H := HA.out
   clear HA
   simp only [dom_Below.l0] at H
   by_cases c3 : x9_1 < (l0.length : Int)
   ·rw [if_pos c3] at H
    have c3b0 : decide (x9_1 < (l0.length : Int)) = true := decide_eq_true c3
    clear c3
    replace H := Option.bind_eq_some_iff.mp H
    obtain ⟨t458, A40, H⟩ := H
    replace H : (if t458 = true then (if x5_1.length < 17592186044416 then (dom_Below.l0 k1 l0 a1 (x5_1 ++ [x9_1]) (l0.length : Int) (wrap64 (x9_1 + 1))) else (none)) else (dom_Below.l0 k1 l0 a1 x5_1 (l0.length : Int) (wrap64 (x9_1 + 1)))) = some r := H
    have A4 := Aside0.mk A40
    clear A40
    by_cases c5 : t458 = true
    ·subst c5
     have H1 : (if x5_1.length < 17592186044416 then (dom_Below.l0 k1 l0 a1 (x5_1 ++ [x9_1]) (l0.length : Int) (wrap64 (x9_1 + 1))) else (none)) = some r := by rw [if_pos rfl] at H; exact H
     clear H
     have H := H1
     clear H1
     by_cases c6 : x5_1.length < 17592186044416
     ·rw [if_pos c6] at H
      have LMc6 := Aside0.mk c6
      clear c6
      obtain ⟨y459, hy459⟩ : ∃ y_ : List Int, y_ = (x5_1 ++ [x9_1]) := ⟨_, rfl⟩
      replace H : (dom_Below.l0 k1 l0 a1 y459 (l0.length : Int) (wrap64 (x9_1 + 1))) = some r := by first | (rw [hy459]; with_reducible exact H) | (have H2_ := (Option.bind_some _ _).symm.trans H; rw [hy459]; with_reducible exact H2_) | (have H2_ := (Option.bind_some _ _).symm.trans H; with_reducible exact H2_) | with_reducible exact H | (rw [hy459]; exact H) | exact H
      have Ny459 := Aside0.mk hy459
      clear hy459
      have H' := Aside0.mk H
      clear H
      go_wp2_with (first | ((with_reducible refine gate_callee (f := 77) rfl ?_); refine goesL_ (some 15) rfl rfl Tryz.func77 (by kernel_rfl) rfl #[.slice A0 l0.length c0, .int .i64 a1, .int .i64 x9_1] rfl (by (try simp only [List.map_toArray, List.map_cons, List.map_nil]); first | done | rfl | (simp only [List.length_drop, List.length_take]; rfl)) ?_; (with_reducible refine (dom_Dominates.calls k1 _ _ l0 a1 x9_1 true _ ?side1 ?side2 A4.out).mono ?_); (case side1 => repeat (first | exact (Kd.C_below HR0.out HB.out) | (with_reducible refine Kd.C_alloc ?_ _) | (with_reducible refine Kd.C_drewN ?_ _) | (with_reducible refine Kd.C_drew ?_))); (case side2 => exact HC0.out); rintro e w7 ⟨rfl, hb⟩; refine ⟨_, rfl, ?_⟩; have n0_ := Aside0.mk (Kd.R_below (by (with_reducible repeat (first | apply Kd.R_alloc | apply Kd.R_drewN | apply Kd.R_drew)); exact HO_5.out) hb); have n1_ := Aside0.mk (below_step (by repeat (first | (with_reducible first | exact HB.out | apply below_alloc | apply pw_below_drewN | apply below_drew1) | exact HB.out)) hb); clear HO_5; clear HB; have HO_5 := n0_; have HB := n1_; clear n0_ n1_; (try clear hb); (try clear hb2); (try clear hk); (try clear hi)) | ((with_reducible refine gate_builtin (b := .append) (xs := #[.tmp 16, .tmp 18]) rfl ?_); at_builtin; refine Kd.R_append (Kd.int .i64) (w0 := w) w.heap.size rfl (.tmp 16) (.tmp 18) 23 3 (.int .i64 0) 8 rfl Tryz.underlying23 info3 rfl (by decide) (by omega) u5 x5_1 x9_1 [.int .i64 x9_1] (fun _ => True) (fun _ => False) rfl rfl ?aP (fun _ hk => hk.elim) ?aF ?aO ?aB ?aS ?aL ?_; (case aP => exact rfl); (case aB => exact (by repeat (first | (with_reducible first | exact HB.out | apply below_alloc | apply pw_below_drewN | apply below_drew1) | exact HB.out))); (case aF => exact (fun _ _ => trivial)); (case aO => exact (by (with_reducible repeat (first | apply Kd.R_alloc | apply Kd.R_drewN | apply Kd.R_drew)); exact HO_5.out)); (case aS => exact (below_size (by repeat (first | (with_reducible first | exact HB.out | apply below_alloc | apply pw_below_drewN | apply below_drew1) | exact HB.out)))); (case aL => have := LMc6.out; omega); intro v460 w8 ho hb hg hat; rw [← Ny459.out] at ho; have n0_ := Aside0.mk (hb); have n1_ := Aside0.mk (ho); clear HB; clear HO_5; have HB := n0_; have HO461 := n1_; clear n0_ n1_; clear ho hb hg hat))
      go_roundg k1
      case measure => have := HK1.out; omega
      case rel => exact ⟨(y459), (wrap64 (x9_1 + 1)), (by first | rfl | (simp; done) | (simp [*]; done)), H', ⟨by have := HK1.out; omega⟩, ⟨by (with_reducible repeat (first | apply Kd.R_alloc | apply Kd.R_drewN | apply Kd.R_drew)); exact HO461.out⟩, ⟨by repeat (first | (with_reducible first | exact HB.out | apply below_alloc | apply pw_below_drewN | apply below_drew1) | exact HB.out)⟩⟩
     ·rw [if_neg c6] at H
      exact absurd H (by simp)
    ·replace c5 := Bool.eq_false_iff.mpr c5
     subst c5
     have H1 : (dom_Below.l0 k1 l0 a1 x5_1 (l0.length : Int) (wrap64 (x9_1 + 1))) = some r := by rw [if_neg (show ¬ (false = true) by decide)] at H; exact H
     clear H
     have H := H1
     clear H1
     have H' := Aside0.mk H
     clear H
     go_wp2_with (first | ((with_reducible refine gate_callee (f := 77) rfl ?_); refine goesL_ (some 15) rfl rfl Tryz.func77 (by kernel_rfl) rfl #[.slice A0 l0.length c0, .int .i64 a1, .int .i64 x9_1] rfl (by (try simp only [List.map_toArray, List.map_cons, List.map_nil]); first | done | rfl | (simp only [List.length_drop, List.length_take]; rfl)) ?_; (with_reducible refine (dom_Dominates.calls k1 _ _ l0 a1 x9_1 false _ ?side1 ?side2 A4.out).mono ?_); (case side1 => repeat (first | exact (Kd.C_below HR0.out HB.out) | (with_reducible refine Kd.C_alloc ?_ _) | (with_reducible refine Kd.C_drewN ?_ _) | (with_reducible refine Kd.C_drew ?_))); (case side2 => exact HC0.out); rintro e w9 ⟨rfl, hb⟩; refine ⟨_, rfl, ?_⟩; have n0_ := Aside0.mk (Kd.R_below (by (with_reducible repeat (first | apply Kd.R_alloc | apply Kd.R_drewN | apply Kd.R_drew)); exact HO_5.out) hb); have n1_ := Aside0.mk (below_step (by repeat (first | (with_reducible first | exact HB.out | apply below_alloc | apply pw_below_drewN | apply below_drew1) | exact HB.out)) hb); clear HO_5; clear HB; have HO_5 := n0_; have HB := n1_; clear n0_ n1_; (try clear hb); (try clear hb2); (try clear hk); (try clear hi)))
     go_roundg k1
     case measure => have := HK1.out; omega
     case rel => exact ⟨(x5_1), (wrap64 (x9_1 + 1)), (by first | rfl | (simp; done) | (simp [*]; done)), H', ⟨by have := HK1.out; omega⟩, ⟨by (with_reducible repeat (first | apply Kd.R_alloc | apply Kd.R_drewN | apply Kd.R_drew)); exact HO_5.out⟩, ⟨by repeat (first | (with_reducible first | exact HB.out | apply below_alloc | apply pw_below_drewN | apply below_drew1) | exact HB.out)⟩⟩
   ·rw [if_neg c3] at H
    have c3b0 : decide (x9_1 < (l0.length : Int)) = false := decide_eq_false c3
    clear c3
    obtain rfl := Option.some.inj H
    go_wp2
    go_ret
    exact ⟨_, by first | rfl | (simp [errW_none, errW_some] <;> rfl) | (simp [*, errW_none, errW_some] <;> rfl) | (exfalso; (try simp_all); (try omega); done), by (with_reducible repeat (first | apply Kd.R_alloc | apply Kd.R_drewN | apply Kd.R_drew)); exact HO_5.out, by repeat (first | (with_reducible first | exact HB.out | apply below_alloc | apply pw_below_drewN | apply below_drew1) | exact HB.out)⟩
def dom_Common.l0 : Nat → List Int → List Int → Int → Int → Option (Int)
 | 0, _, _, _, _ => none
 | k + 1, x7, x15, x16, x17 => if x17 < x16 then (if 0 ≤ x17 then (if x17 < (x15.length : Int) then ((slices_Contains_int_int.f k x7 (rd x15 x17)).bind fun t469 => (if t469 = true then (some (rd x15 x17)) else (dom_Common.l0 k x7 x15 x16 (wrap64 (x17 + 1))))) else (none)) else (none)) else (some (-1))
def dom_Common.f (k : Nat) (l0 : List Int) (a1 : Int) (a2 : Int) : Option (Int) := (dom_Chain.f k l0 a2).bind fun t462 => ((dom_Chain.f k l0 a1).bind fun t465 => (dom_Common.l0 k t462 t465 (t465.length : Int) 0))
set_option maxHeartbeats 8000000 in
set_option maxRecDepth 100000 in
theorem dom_Common.calls (k : Nat) (A0 : Option Addr) (c0 : Nat) (l0 : List Int) (a1 : Int) (a2 : Int) (r : Int) (w : World) (hr0 : Kd.C (Kd.int .i64) w A0 l0.length l0) (hc0 : l0.length ≤ c0) (h : dom_Common.f k l0 a1 a2 = some r) :
  Calls Tryz.prog 29 #[.slice A0 l0.length c0, .int .i64 a1, .int .i64 a2] w fun e w' => e = .returned (.int .i64 r) ∧ Below w.heap.size w w' := by
 have HR0 := Aside0.mk hr0
 have HC0 := Aside0.mk hc0
 clear hr0 hc0
 have HB := Aside0.mk (Below.refl w.heap.size w)
 have H : ((dom_Chain.f k l0 a2).bind fun t462 => ((dom_Chain.f k l0 a1).bind fun t465 => (dom_Common.l0 k t462 t465 (t465.length : Int) 0))) = some r := h
 clear h
 replace H := Option.bind_eq_some_iff.mp H
 obtain ⟨t462, A40, H⟩ := H
 replace H : ((dom_Chain.f k l0 a1).bind fun t465 => (dom_Common.l0 k t462 t465 (t465.length : Int) 0)) = some r := H
 have A4 := Aside0.mk A40
 clear A40
 replace H := Option.bind_eq_some_iff.mp H
 obtain ⟨t465, A50, H⟩ := H
 replace H : (dom_Common.l0 k t462 t465 (t465.length : Int) 0) = some r := H
 have A5 := Aside0.mk A50
 clear A50
 have H' := Aside0.mk H
 clear H
 go_enter Tryz.func29, Tryz.ntmps29
 go_wp2_with (first | ((with_reducible refine gate_callee (f := 54) rfl ?_); refine goesL_ (some 12) rfl rfl Tryz.func54 (by kernel_rfl) rfl #[.slice A0 l0.length c0, .int .i64 a2] rfl (by (try simp only [List.map_toArray, List.map_cons, List.map_nil]); first | done | rfl | (simp only [List.length_drop, List.length_take]; rfl)) ?_; (with_reducible refine (dom_Chain.calls k _ _ l0 a2 t462 _ ?side1 ?side2 A4.out).mono ?_); (case side1 => repeat (first | exact HR0.out | (with_reducible refine Kd.C_alloc ?_ _) | (with_reducible refine Kd.C_drewN ?_ _) | (with_reducible refine Kd.C_drew ?_))); (case side2 => exact HC0.out); rintro e w6 ⟨v463, rfl, ho0, hb⟩; refine ⟨_, rfl, ?_⟩; have n0_ := Aside0.mk (Kd.R_lower ho0 (below_size (by repeat (first | (with_reducible first | exact HB.out | apply below_alloc | apply pw_below_drewN | apply below_drew1) | exact HB.out)))); have n1_ := Aside0.mk (below_step (by repeat (first | (with_reducible first | exact HB.out | apply below_alloc | apply pw_below_drewN | apply below_drew1) | exact HB.out)) hb); clear HB; have HO464 := n0_; have HB := n1_; clear n0_ n1_; (try clear hb); (try clear hb2); (try clear hk); (try clear hi); (try clear ho0)) | ((with_reducible refine gate_callee (f := 54) rfl ?_); refine goesL_ (some 15) rfl rfl Tryz.func54 (by kernel_rfl) rfl #[.slice A0 l0.length c0, .int .i64 a1] rfl (by (try simp only [List.map_toArray, List.map_cons, List.map_nil]); first | done | rfl | (simp only [List.length_drop, List.length_take]; rfl)) ?_; (with_reducible refine (dom_Chain.calls k _ _ l0 a1 t465 _ ?side1 ?side2 A5.out).mono ?_); (case side1 => repeat (first | exact (Kd.C_below HR0.out HB.out) | (with_reducible refine Kd.C_alloc ?_ _) | (with_reducible refine Kd.C_drewN ?_ _) | (with_reducible refine Kd.C_drew ?_))); (case side2 => exact HC0.out); rintro e w7 ⟨v466, rfl, ho0, hb⟩; refine ⟨_, rfl, ?_⟩; have n0_ := Aside0.mk (Kd.R_elder' (by (with_reducible repeat (first | apply Kd.R_alloc | apply Kd.R_drewN | apply Kd.R_drew)); exact HO464.out) (Kd.R_base ho0) hb); have n1_ := Aside0.mk (Kd.R_lower (Kd.R_new' ho0 (Kd.R_lt (by (with_reducible repeat (first | apply Kd.R_alloc | apply Kd.R_drewN | apply Kd.R_drew)); exact HO464.out))) (below_size (by repeat (first | (with_reducible first | exact HB.out | apply below_alloc | apply pw_below_drewN | apply below_drew1) | exact HB.out)))); have n2_ := Aside0.mk (below_step (by repeat (first | (with_reducible first | exact HB.out | apply below_alloc | apply pw_below_drewN | apply below_drew1) | exact HB.out)) hb); clear HO464; clear HB; have HO464 := n0_; have HO467 := n1_; have HB := n2_; clear n0_ n1_ n2_; (try clear hb); (try clear hb2); (try clear hk); (try clear hi); (try clear ho0); obtain ⟨Ao8, co8, eo8⟩ := Kd.R_slice HO467.out; subst eo8))
 go_loopg [17] k (fun kq v17 w' => ∃ (x17_1 : Int), v17 = .int .i64 x17_1 ∧ Aside0 (dom_Common.l0 kq t462 t465 (t465.length : Int) x17_1 = some r) ∧ Aside0 (kq ≤ k) ∧ Aside0 (Kd.R (Kd.int .i64) 3 w' w.heap.size (fun k_ => some k_ ≠ ((.slice Ao8 t465.length co8) : Value).ownBlock) v463 t462) ∧ Aside0 (Kd.R (Kd.int .i64) 3 w' w.heap.size (fun k_ => some k_ ≠ (v463 : Value).ownBlock) (.slice Ao8 t465.length co8) t465) ∧ Aside0 (Below w.heap.size w w'))
 case atStart => exact ⟨(0), (by first | rfl | (simp; done) | (simp [*]; done)), H', ⟨Nat.le_refl _⟩, ⟨by (with_reducible repeat (first | apply Kd.R_alloc | apply Kd.R_drewN | apply Kd.R_drew)); exact Kd.R_mono HO464.out (fun _ hk => hk.2)⟩, ⟨by (with_reducible repeat (first | apply Kd.R_alloc | apply Kd.R_drewN | apply Kd.R_drew)); exact Kd.R_mono HO467.out (fun _ hk => hk.2)⟩, ⟨by repeat (first | (with_reducible first | exact HB.out | apply below_alloc | apply pw_below_drewN | apply below_drew1) | exact HB.out)⟩⟩
 case round =>
  clear H'
  try clear c2
  try clear p2
  try clear c5
  obtain ⟨x17_1, rfl, HA, HK1, HO_7, HO_15, HB⟩ := hrel
  cases gk with
  | zero => exact absurd HA.out (by simp [dom_Common.l0])
  | succ k1 =>
   have H := HA.out
   clear HA
   simp only [dom_Common.l0] at H
   by_cases c9 : x17_1 < (t465.length : Int)
   ·rw [if_pos c9] at H
    have c9b0 : decide (x17_1 < (t465.length : Int)) = true := decide_eq_true c9
    clear c9
    by_cases c10 : 0 ≤ x17_1
    ·rw [if_pos c10] at H
     have c10b0 : decide (0 ≤ x17_1) = true := decide_eq_true c10
     clear c10
     by_cases c11 : x17_1 < (t465.length : Int)
     ·rw [if_pos c11] at H
      have c11b0 : decide (x17_1 < (t465.length : Int)) = true := decide_eq_true c11
      clear c11
      replace H := Option.bind_eq_some_iff.mp H
      obtain ⟨t469, A120, H⟩ := H
      replace H : (if t469 = true then (some (rd t465 x17_1)) else (dom_Common.l0 k1 t462 t465 (t465.length : Int) (wrap64 (x17_1 + 1)))) = some r := H
      have A12 := Aside0.mk A120
      clear A120
      by_cases c13 : t469 = true
      ·subst c13
       have H1 : (some (rd t465 x17_1)) = some r := by rw [if_pos rfl] at H; exact H
       clear H
       have H := H1
       clear H1
       obtain rfl := Option.some.inj H
       have p468 : 0 ≤ (x17_1 : Int) := of_decide_eq_true (by first | (with_reducible assumption) | assumption)
       have q468 : x17_1 < (t465.length : Int) := of_decide_eq_true (by first | (with_reducible assumption) | assumption)
       obtain ⟨ad468, e468, hx468_0⟩ := Kd.at_int (Kd.R_reads' HO_15.out).2.2 x17_1 p468 q468
       cases e468
       replace p468 := eq_true p468
       replace q468 := eq_true q468
       obtain ⟨Ao14, co14, eo14⟩ := Kd.R_slice HO_7.out
       subst eo14
       go_wp2_with (first | ((with_reducible refine gate_callee (f := 53) rfl ?_); refine goesL_ (some 23) rfl rfl Tryz.func53 (by kernel_rfl) rfl #[.slice Ao14 t462.length co14, .int .i64 (rd t465 x17_1)] rfl (by (try simp only [List.map_toArray, List.map_cons, List.map_nil]); first | done | rfl | (simp only [List.length_drop, List.length_take]; rfl)) ?_; (with_reducible refine (slices_Contains_int_int.calls k1 _ _ t462 (rd t465 x17_1) true _ ?side1 ?side2 A12.out).mono ?_); (case side1 => repeat (first | exact (Kd.R_reads' HO_7.out).2.2 | (with_reducible refine Kd.C_alloc ?_ _) | (with_reducible refine Kd.C_drewN ?_ _) | (with_reducible refine Kd.C_drew ?_))); (case side2 => exact (Kd.R_reads' HO_7.out).2.1); rintro e w' ⟨rfl, ⟨nd, rfl⟩⟩; refine ⟨_, rfl, ?_⟩))
       go_ret
       exact ⟨by first | rfl | (simp [errW_none, errW_some] <;> rfl) | (simp [*, errW_none, errW_some] <;> rfl) | (exfalso; (try simp_all); (try omega); done), by repeat (first | (with_reducible first | exact HB.out | apply below_alloc | apply pw_below_drewN | apply below_drew1) | exact HB.out)⟩
      ·replace c13 := Bool.eq_false_iff.mpr c13
       subst c13
       have H1 : (dom_Common.l0 k1 t462 t465 (t465.length : Int) (wrap64 (x17_1 + 1))) = some r := by rw [if_neg (show ¬ (false = true) by decide)] at H; exact H
       clear H
       have H := H1
       clear H1
       have H' := Aside0.mk H
       clear H
       have p468 : 0 ≤ (x17_1 : Int) := of_decide_eq_true (by first | (with_reducible assumption) | assumption)
       have q468 : x17_1 < (t465.length : Int) := of_decide_eq_true (by first | (with_reducible assumption) | assumption)
       obtain ⟨ad468, e468, hx468_0⟩ := Kd.at_int (Kd.R_reads' HO_15.out).2.2 x17_1 p468 q468
       cases e468
       replace p468 := eq_true p468
       replace q468 := eq_true q468
       obtain ⟨Ao15, co15, eo15⟩ := Kd.R_slice HO_7.out
       subst eo15
       go_wp2_with (first | ((with_reducible refine gate_callee (f := 53) rfl ?_); refine goesL_ (some 23) rfl rfl Tryz.func53 (by kernel_rfl) rfl #[.slice Ao15 t462.length co15, .int .i64 (rd t465 x17_1)] rfl (by (try simp only [List.map_toArray, List.map_cons, List.map_nil]); first | done | rfl | (simp only [List.length_drop, List.length_take]; rfl)) ?_; (with_reducible refine (slices_Contains_int_int.calls k1 _ _ t462 (rd t465 x17_1) false _ ?side1 ?side2 A12.out).mono ?_); (case side1 => repeat (first | exact (Kd.R_reads' HO_7.out).2.2 | (with_reducible refine Kd.C_alloc ?_ _) | (with_reducible refine Kd.C_drewN ?_ _) | (with_reducible refine Kd.C_drew ?_))); (case side2 => exact (Kd.R_reads' HO_7.out).2.1); rintro e w' ⟨rfl, ⟨nd, rfl⟩⟩; refine ⟨_, rfl, ?_⟩))
       go_roundg k1
       case measure => have := HK1.out; omega
       case rel => exact ⟨(wrap64 (x17_1 + 1)), (by first | rfl | (simp; done) | (simp [*]; done)), H', ⟨by have := HK1.out; omega⟩, ⟨by (with_reducible repeat (first | apply Kd.R_alloc | apply Kd.R_drewN | apply Kd.R_drew)); exact HO_7.out⟩, ⟨by (with_reducible repeat (first | apply Kd.R_alloc | apply Kd.R_drewN | apply Kd.R_drew)); exact HO_15.out⟩, ⟨by repeat (first | (with_reducible first | exact HB.out | apply below_alloc | apply pw_below_drewN | apply below_drew1) | exact HB.out)⟩⟩
     ·rw [if_neg c11] at H
      exact absurd H (by simp)
    ·rw [if_neg c10] at H
     exact absurd H (by simp)
   ·rw [if_neg c9] at H
    have c9b0 : decide (x17_1 < (t465.length : Int)) = false := decide_eq_false c9
    clear c9
    obtain rfl := Option.some.inj H
    go_wp2
    go_ret
    exact ⟨by first | rfl | (simp [errW_none, errW_some] <;> rfl) | (simp [*, errW_none, errW_some] <;> rfl) | (exfalso; (try simp_all); (try omega); done), by repeat (first | (with_reducible first | exact HB.out | apply below_alloc | apply pw_below_drewN | apply below_drew1) | exact HB.out)⟩
end Go.Proofs.YtemcmcnhpdkdfaaGreat.P
namespace Go.Proofs.YtemcmcnhpdkdfaaGreat.P
open Go.RowKit Go.Proofs.YtemcmcnhpdkdfaaGreatW.PrintWords
def okB (l : List Int) (b : Nat) : Bool :=
 decide (((b : Int) = 0 ↔ rd l b = -1) ∧ -2 ≤ rd l b ∧ rd l b < (l.length : Int)) && (!decide (0 ≤ rd l b ∧ rd l (rd l b) = -2) && (decide (rd l b = -2) || decide ((0 : Int) ∈ upL l l.length l.length b)))
def saneB (l : List Int) : Bool := (List.range l.length).all (okB l)
theorem range_drop {n i : Nat} (h : i < n) : (List.range n).drop i = i :: (List.range n).drop (i + 1) := by
 rw [List.drop_eq_getElem_cons (by simpa using h)]
 simp
theorem sane_l0 (l : List Int) (hl : l.length ≤ 1000000) : ∀ d i : Nat, i + d = l.length → Ev (fun k => dom_Sane.l0 k l l (l.length : Int) (i : Int)) (((List.range l.length).drop i).all (okB l))
 | 0, i, hd => by
  rw [List.drop_eq_nil_of_le (by simp; omega)]
  exact Ev.step (f := fun _ => some true) (fun k => by rw [dom_Sane.l0, if_neg (by omega)]) (Ev.now _)
 | d + 1, i, hd => by
  have hi : i < l.length := by omega
  rw [range_drop hi, List.all_cons]
  have next := sane_l0 l hl d (i + 1) (by omega)
  obtain ⟨x, ex⟩ : ∃ x, x = rd l (i : Int) := ⟨_, rfl⟩
  have hw := wrap_succ (i := i) (by omega)

  have j1yes : Ev (fun k => dom_Sane.j1 k l (i : Int) x l (l.length : Int) (i : Int) true) false :=
   Ev.step (f := fun _ => some false) (fun k => by rw [dom_Sane.j1, if_pos rfl]) (Ev.now _)
  have j1no : -2 ≤ x → x < (l.length : Int) → Ev (fun k => dom_Sane.j1 k l (i : Int) x l (l.length : Int) (i : Int) false) ((!decide (0 ≤ x ∧ rd l x = -2) && (decide (x = -2) || decide ((0 : Int) ∈ upL l l.length l.length i))) && ((List.range l.length).drop (i + 1)).all (okB l)) := by
   intro h1 h2
   have hr : dom_rises.f l (i : Int) = some (decide ((0 : Int) ∈ upL l l.length l.length i)) := by unfold dom_rises.f; rw [if_pos hl]
   have rest : Ev (fun k => if x = -2 then dom_Sane.l0 k l l (l.length : Int) (wrap64 ((i : Int) + 1)) else (dom_rises.f l (i : Int)).bind fun t => if t = true then dom_Sane.l0 k l l (l.length : Int) (wrap64 ((i : Int) + 1)) else some false) ((decide (x = -2) || decide ((0 : Int) ∈ upL l l.length l.length i)) && ((List.range l.length).drop (i + 1)).all (okB l)) := by
    by_cases e : x = -2
    ·simp only [if_pos e, hw, decide_eq_true e, Bool.true_or, Bool.true_and]
     exact next
    ·simp only [if_neg e, hr, Option.bind_some, hw, decide_eq_false e, Bool.false_or]
     by_cases e2 : (0 : Int) ∈ upL l l.length l.length i
     ·simp only [decide_eq_true e2, if_true, Bool.true_and]
      exact next
     ·simp only [decide_eq_false e2, Bool.false_eq_true, if_false, Bool.false_and]
      exact Ev.now _
   by_cases h0 : 0 ≤ x
   ·by_cases e3 : rd l x = -2
    ·refine Ev.step (f := fun _ => some false) (fun k => by rw [dom_Sane.j1, if_neg (by simp), if_pos h0, if_pos h0, if_pos h2, if_pos e3]) ?_
     rw [decide_eq_true (And.intro h0 e3), Bool.not_true, Bool.false_and, Bool.false_and]
     exact Ev.now _
    ·refine Ev.step (fun k => by rw [dom_Sane.j1, if_neg (by simp), if_pos h0, if_pos h0, if_pos h2, if_neg e3]) ?_
     rw [decide_eq_false (fun h => e3 h.2), Bool.not_false, Bool.true_and]
     exact rest
   ·refine Ev.step (fun k => by rw [dom_Sane.j1, if_neg (by simp), if_neg h0]) ?_
    rw [decide_eq_false (fun h => h0 h.1), Bool.not_false, Bool.true_and]
    exact rest
  unfold okB
  rw [← ex]
  by_cases h1 : ((i : Int) = 0 ↔ x = -1)
  ·have hne : ¬ ((((i : Int) == 0) != (x == -1)) = true) := by
    by_cases a : (i : Int) = 0
    ·have := h1.1 a
     simp [a, this]
    ·have : ¬ x = -1 := fun e => a (h1.2 e)
     have a' : ((i : Int) == 0) = false := by simpa using a
     have b' : (x == -1) = false := by simpa using this
     rw [a', b']
     simp
   by_cases h2 : x < -2
   ·refine Ev.step (f := fun k => dom_Sane.j1 k l (i : Int) x l (l.length : Int) (i : Int) true) (fun k => ?_) ?_
    ·rw [dom_Sane.l0, if_pos (by omega), if_pos (by omega), if_pos (by omega), ← ex, if_neg hne, if_pos h2]
    ·rw [decide_eq_false (fun h => by omega), Bool.false_and, Bool.false_and]
     exact j1yes
   ·by_cases h3 : x ≥ (l.length : Int)
    ·refine Ev.step (f := fun k => dom_Sane.j1 k l (i : Int) x l (l.length : Int) (i : Int) true) (fun k => ?_) ?_
     ·rw [dom_Sane.l0, if_pos (by omega), if_pos (by omega), if_pos (by omega), ← ex, if_neg hne, if_neg h2, decide_eq_true h3]
     ·rw [decide_eq_false (fun h => by omega), Bool.false_and, Bool.false_and]
      exact j1yes
    ·refine Ev.step (f := fun k => dom_Sane.j1 k l (i : Int) x l (l.length : Int) (i : Int) false) (fun k => ?_) ?_
     ·rw [dom_Sane.l0, if_pos (by omega), if_pos (by omega), if_pos (by omega), ← ex, if_neg hne, if_neg h2, decide_eq_false h3]
     ·rw [decide_eq_true ⟨h1, by omega, by omega⟩, Bool.true_and]
      exact j1no (by omega) (by omega)
  ·have hne : ((((i : Int) == 0) != (x == -1)) = true) := by
    by_cases a : (i : Int) = 0
    ·have : ¬ x = -1 := fun e => h1 ⟨fun _ => e, fun _ => a⟩
     have b' : (x == -1) = false := by simpa using this
     rw [a, b']
     decide
    ·have : x = -1 := Classical.byContradiction fun e => h1 ⟨fun h => absurd h a, fun h => absurd h e⟩
     have a' : ((i : Int) == 0) = false := by simpa using a
     rw [this, a']
     decide
   refine Ev.step (f := fun k => dom_Sane.j1 k l (i : Int) x l (l.length : Int) (i : Int) true) (fun k => ?_) ?_
   ·rw [dom_Sane.l0, if_pos (by omega), if_pos (by omega), if_pos (by omega), ← ex, if_pos hne]
   ·rw [decide_eq_false (fun h => h1 h.1), Bool.false_and, Bool.false_and]
    exact j1yes
theorem sane_ev (l : List Int) (hl : l.length ≤ 1000000) : Ev (fun k => dom_Sane.f k l) (saneB l) := sane_l0 l hl l.length 0 (by omega)
def chainB (l : List Int) (b : Int) : List Int := if isN l.length b = true ∧ rd l b ≠ -2 ∧ saneB l = true then upL l l.length l.length b else []
theorem chain_ev (l : List Int) (hl : l.length ≤ 1000000) (b : Int) : Ev (fun k => dom_Chain.f k l b) (chainB l b) := by
 unfold dom_Chain.f chainB
 by_cases h1 : isN l.length b = true
 ·by_cases h2 : rd l b = -2
  ·simp only [if_pos h1, if_pos h2]
   rw [if_neg (fun h => h.2.1 h2)]
   exact Ev.now _
  ·simp only [if_pos h1, if_neg h2]
   refine Ev.bind (sane_ev l hl) ?_
   by_cases h3 : saneB l = true
   ·simp only [if_pos h3, if_pos hl]
    rw [if_pos ⟨h1, h2, h3⟩]
    exact Ev.now _
   ·simp only [if_neg h3]
    rw [if_neg (fun h => h3 h.2.2)]
    exact Ev.now _
 ·simp only [if_neg h1]
  rw [if_neg (fun h => h1 h.1)]
  exact Ev.now _
theorem chainB_len (l : List Int) (b : Int) : (chainB l b).length ≤ l.length := by
 unfold chainB
 split
 ·exact upL_len _ _ _ _
 ·exact Nat.zero_le _
theorem index_l0 (l : List Int) (x : Int) (hl : l.length ≤ 9223372036854775807) : ∀ d i : Nat, i + d = l.length → ∃ r, Ev (fun k => slices_Index_int_int.l0 k l x (l.length : Int) (i : Int)) r ∧ decide (r ≥ 0) = decide (x ∈ l.drop i)
 | 0, i, hd => by
  rw [List.drop_eq_nil_of_le (by omega)]
  exact ⟨-1, Ev.step (f := fun _ => some (-1)) (fun k => by rw [slices_Index_int_int.l0, if_neg (by omega)]) (Ev.now _), by simp⟩
 | d + 1, i, hd => by
  have hi : i < l.length := by omega
  rw [List.drop_eq_getElem_cons hi]
  by_cases e : x = l[i]
  ·refine ⟨(i : Int), Ev.step (f := fun _ => some (i : Int)) (fun k => by rw [slices_Index_int_int.l0, if_pos (by omega), if_pos (by omega), if_pos (by omega), rd_nat' hi, if_pos e]) (Ev.now _), ?_⟩
   rw [decide_eq_true (by omega), decide_eq_true (by rw [e]; exact List.mem_cons_self)]
  ·obtain ⟨r, h1, h2⟩ := index_l0 l x hl d (i + 1) (by omega)
   refine ⟨r, Ev.step (f := fun k => slices_Index_int_int.l0 k l x (l.length : Int) ((i + 1 : Nat) : Int)) (fun k => by rw [slices_Index_int_int.l0, if_pos (by omega), if_pos (by omega), if_pos (by omega), rd_nat' hi, if_neg e, wrap_succ (by omega)]) h1, ?_⟩
   rw [h2]
   have : (x ∈ l[i] :: l.drop (i + 1)) ↔ x ∈ l.drop (i + 1) := by rw [List.mem_cons]; exact ⟨fun h => h.elim (fun h => absurd h e) id, .inr⟩
   simp only [this]
theorem contains_ev (l : List Int) (x : Int) (hl : l.length ≤ 9223372036854775807) : Ev (fun k => slices_Contains_int_int.f k l x) (decide (x ∈ l)) := by
 obtain ⟨r, h1, h2⟩ := index_l0 l x hl l.length 0 (by omega)
 refine Ev.bind (f := fun _ t => some (decide (t ≥ 0))) h1 ?_
 rw [h2, List.drop_zero]
 exact Ev.now _
theorem dominates_ev (l : List Int) (hl : l.length ≤ 1000000) (a b : Int) : Ev (fun k => dom_Dominates.f k l a b) (decide (a ∈ chainB l b)) := by
 have hc := chainB_len l b
 exact Ev.bind (f := fun k t => (slices_Contains_int_int.f k t a).bind fun u => some u) (chain_ev l hl b) (Ev.bind (contains_ev _ a (by omega)) (Ev.now _))
def commonB (l : List Int) (a b : Int) : Int := ((chainB l a).find? fun x => decide (x ∈ chainB l b)).getD (-1)
theorem common_l0 (p q : List Int) (hp : p.length ≤ 9223372036854775806) (hq : q.length ≤ 9223372036854775807) : ∀ d i : Nat, i + d = p.length → Ev (fun k => dom_Common.l0 k q p (p.length : Int) (i : Int)) (((p.drop i).find? fun x => decide (x ∈ q)).getD (-1))
 | 0, i, hd => by
  rw [List.drop_eq_nil_of_le (by omega)]
  exact Ev.step (f := fun _ => some (-1)) (fun k => by rw [dom_Common.l0, if_neg (by omega)]) (Ev.now _)
 | d + 1, i, hd => by
  have hi : i < p.length := by omega
  rw [List.drop_eq_getElem_cons hi, List.find?_cons]
  refine Ev.step (f := fun k => (slices_Contains_int_int.f k q p[i]).bind fun t => if t = true then some p[i] else dom_Common.l0 k q p (p.length : Int) ((i + 1 : Nat) : Int)) (fun k => by rw [dom_Common.l0, if_pos (by omega), if_pos (by omega), if_pos (by omega), rd_nat' hi, wrap_succ (by omega)]) ?_
  refine Ev.bind (contains_ev q p[i] hq) ?_
  by_cases e : p[i] ∈ q
  ·simp only [decide_eq_true e, if_true, Option.getD_some]
   exact Ev.now _
  ·simp only [decide_eq_false e, Bool.false_eq_true, if_false]
   exact common_l0 p q hp hq d (i + 1) (by omega)
theorem common_ev (l : List Int) (hl : l.length ≤ 1000000) (a b : Int) : Ev (fun k => dom_Common.f k l a b) (commonB l a b) := by
 have h1 := chainB_len l a
 have h2 := chainB_len l b
 have h := common_l0 (chainB l a) (chainB l b) (by omega) (by omega) (chainB l a).length 0 (by omega)
 rw [List.drop_zero] at h
 exact Ev.bind (f := fun k t => (dom_Chain.f k l a).bind fun u => dom_Common.l0 k t u (u.length : Int) 0) (chain_ev l hl b) (Ev.bind (f := fun k u => dom_Common.l0 k (chainB l b) u (u.length : Int) 0) (chain_ev l hl a) h)
def belowB (l : List Int) (a : Int) : List Int := ((List.range l.length).filter fun b : Nat => decide (a ∈ chainB l (b : Int))).map fun b : Nat => (b : Int)
theorem below_l0 (l : List Int) (hl : l.length ≤ 1000000) (a : Int) : ∀ d i : Nat, i + d = l.length → ∀ out : List Int, out.length ≤ i → Ev (fun k => dom_Below.l0 k l a out (l.length : Int) (i : Int)) (out ++ (((List.range l.length).drop i).filter fun b : Nat => decide (a ∈ chainB l (b : Int))).map fun b : Nat => (b : Int))
 | 0, i, hd, out, _ => by
  rw [List.drop_eq_nil_of_le (by simp; omega), List.filter_nil, List.map_nil, List.append_nil]
  exact Ev.step (f := fun _ => some out) (fun k => by rw [dom_Below.l0, if_neg (by omega)]) (Ev.now _)
 | d + 1, i, hd, out, ho => by
  have hi : i < l.length := by omega
  refine Ev.step (f := fun k => (dom_Dominates.f k l a (i : Int)).bind fun t => if t = true then (if out.length < 17592186044416 then dom_Below.l0 k l a (out ++ [(i : Int)]) (l.length : Int) ((i + 1 : Nat) : Int) else none) else dom_Below.l0 k l a out (l.length : Int) ((i + 1 : Nat) : Int)) (fun k => by rw [dom_Below.l0, if_pos (by omega), wrap_succ (by omega)]) ?_
  refine Ev.bind (dominates_ev l hl a i) ?_
  rw [range_drop hi, List.filter_cons]
  by_cases e : a ∈ chainB l (i : Int)
  ·simp only [decide_eq_true e, if_true, if_pos (show out.length < 17592186044416 by omega)]
   have := below_l0 l hl a d (i + 1) (by omega) (out ++ [(i : Int)]) (by rw [List.length_append, List.length_singleton]; omega)
   rw [List.append_assoc] at this
   exact this
  ·simp only [decide_eq_false e, Bool.false_eq_true, if_false]
   exact below_l0 l hl a d (i + 1) (by omega) out (by omega)
theorem below_ev (l : List Int) (hl : l.length ≤ 1000000) (a : Int) : Ev (fun k => dom_Below.f k l a) (belowB l a) := by
 have h := below_l0 l hl a l.length 0 (by omega) [] (by simp)
 rw [List.drop_zero, List.nil_append] at h
 exact h
end Go.Proofs.YtemcmcnhpdkdfaaGreat.P
namespace Go.Proofs.YtemcmcnhpdkdfaaGreat.P
open Go.RowKit Go.Proofs.YtemcmcnhpdkdfaaGreatW.PrintWords
section
variable {c : List (List Int)} {l : List Int}
def Rc (c : List (List Int)) (b : Int) : Prop := Node c b ∧ Way c 0 b
theorem IsDom.isN (h : IsDom c l) {b : Int} : isN l.length b = true ↔ Node c b := by rw [isN_iff, h.len]; exact Iff.rfl
theorem IsDom.top (h : IsDom c l) : idT l 0 = none := by
 unfold idT
 by_cases h0 : 0 < c.length
 ·rw [if_neg (fun k => by rw [h.zero h0] at k; omega)]
 ·rw [if_neg (fun k => by rw [h.len] at k; omega)]
theorem IsDom.idT_par (h : IsDom c l) {b p : Int} (hb : Rc c b) (hp : idT l b = some p) : Rc c p ∧ rd l b = p ∧ b ≠ 0 := by
 have hb0 : b ≠ 0 := fun e => by rw [e, h.top] at hp; cases hp
 obtain ⟨q, h1, h2, h3, h4⟩ := h.par b hb.1 hb.2 hb0
 rw [hp] at h1
 obtain rfl := Option.some.inj h1
 exact ⟨⟨h3, h4⟩, h2, hb0⟩
theorem IsDom.up_rc (h : IsDom c l) {b x : Int} (hb : Rc c b) (hu : Up (idT l) b x) : Rc c x := by
 induction hu with
 | refl => exact hb
 | step h1 _ ih => exact ih (h.idT_par hb h1).1
theorem IsDom.rd0 (h : IsDom c l) {b : Int} (hb : Rc c b) : rd l b ≠ -2 := by
 by_cases e : b = 0
 ·subst e
  have h0 := (hb.1).2
  rw [h.zero (by omega)]
  decide
 ·obtain ⟨p, _, h2, h3, _⟩ := h.par b hb.1 hb.2 e
  have := h3.1
  omega
theorem IsDom.lost_iff (h : IsDom c l) {b : Int} (hb : Node c b) : rd l b = -2 ↔ ¬ Way c 0 b :=
 ⟨fun e hw => h.rd0 ⟨hb, hw⟩ e, h.lost b hb⟩
theorem IsDom.mem_up (h : IsDom c l) {f : Int → Nat} (hf : ∀ b p, idT l b = some p → f p < f b) : ∀ (k : Nat) (b : Int), Rc c b → f b < k → ∀ x, x ∈ upL l l.length k b ↔ Up (idT l) b x
 | 0, b, _, hk, _ => by omega
 | k + 1, b, hb, hk, x => by
  rw [upL_yes (h.isN.2 hb.1), List.mem_cons]
  by_cases e : b = 0
  ·subst e
   have h0 := hb.1.2
   rw [h.zero (by omega), upL_no (isN_no (by omega))]
   constructor
   ·rintro (e | e)
    ·rw [e]; exact .refl _
    ·simp at e
   ·intro hu
    rcases hu.cases with e | ⟨p, hp, _⟩
    ·exact .inl e
    ·rw [h.top] at hp; cases hp
  ·obtain ⟨p, h1, h2, h3, h4⟩ := h.par b hb.1 hb.2 e
   have := hf b p h1
   rw [h2, h.mem_up hf k p ⟨h3, h4⟩ (by omega) x]
   constructor
   ·rintro (e | hu)
    ·rw [e]; exact .refl _
    ·exact .step h1 hu
   ·intro hu
    rcases hu.cases with e | ⟨q, hq, k⟩
    ·exact .inl e
    ·rw [h1] at hq
     obtain rfl := Option.some.inj hq
     exact .inr k
theorem IsDom.up_fuel (h : IsDom c l) {f : Int → Nat} (hf : ∀ b p, idT l b = some p → f p < f b) : ∀ (k k' : Nat) (b : Int), Rc c b → f b < k → f b < k' → upL l l.length k b = upL l l.length k' b
 | 0, _, b, _, hk, _ => by omega
 | k + 1, 0, b, _, _, hk => by omega
 | k + 1, k' + 1, b, hb, hk, hk' => by
  rw [upL_yes (h.isN.2 hb.1), upL_yes (h.isN.2 hb.1)]
  congr 1
  by_cases e : b = 0
  ·subst e
   have h0 := hb.1.2
   rw [h.zero (by omega), upL_no (isN_no (by omega)), upL_no (isN_no (by omega))]
  ·obtain ⟨p, h1, h2, h3, h4⟩ := h.par b hb.1 hb.2 e
   have := hf b p h1
   rw [h2]
   exact h.up_fuel hf k k' p ⟨h3, h4⟩ (by omega) (by omega)
theorem IsDom.top_up (h : IsDom c l) {b : Int} (hb : Rc c b) : Up (idT l) b 0 := (h.doms b hb.1 hb.2 0).2 (fun k => k.left rfl)
theorem IsDom.sane (h : IsDom c l) : saneB l = true := by
 obtain ⟨f, hf, hfl⟩ := h.rank
 unfold saneB
 rw [List.all_eq_true]
 intro i hi
 have hin : i < l.length := by simpa using hi
 have hn : Node c (i : Int) := ⟨by omega, by rw [← h.len]; omega⟩
 unfold okB
 by_cases hw : Way c 0 (i : Int)
 ·have hb : Rc c (i : Int) := ⟨hn, hw⟩
  have hup : (0 : Int) ∈ upL l l.length l.length (i : Int) := (h.mem_up hf l.length i hb (by rw [h.len]; exact hfl _ hn hw) 0).2 (h.top_up hb)
  rw [decide_eq_true hup, Bool.or_true, Bool.and_true]
  by_cases e : (i : Int) = 0
  ·have e1 : rd l (i : Int) = -1 := by rw [e]; exact h.zero (by have := hn.2; omega)
   rw [e1]
   simp [e]
   omega
  ·obtain ⟨p, h1, h2, h3, h4⟩ := h.par _ hn hw e
   have h5 := h3.1
   have h6 := h3.2
   have h7 := h.rd0 (b := p) ⟨h3, h4⟩
   have hlen := h.len
   rw [h2]
   simp only [Bool.and_eq_true, decide_eq_true_eq, Bool.not_eq_true', decide_eq_false_iff_not]
   exact ⟨⟨⟨fun h => absurd h e, fun h => by omega⟩, by omega, by omega⟩, fun k => h7 k.2⟩
 ·have e : (i : Int) ≠ 0 := fun e => hw (by rw [e]; exact .refl _)
  rw [h.lost _ hn hw]
  simp
  exact ⟨fun k => e (by omega), by omega⟩
theorem IsDom.mem_chain (h : IsDom c l) {b x : Int} : x ∈ chainB l b ↔ Rc c b ∧ Up (idT l) b x := by
 obtain ⟨f, hf, hfl⟩ := h.rank
 unfold chainB
 by_cases hb : Rc c b
 ·rw [if_pos ⟨h.isN.2 hb.1, h.rd0 hb, h.sane⟩, h.mem_up hf l.length b hb (by rw [h.len]; exact hfl b hb.1 hb.2)]
  exact ⟨fun k => ⟨hb, k⟩, fun k => k.2⟩
 ·rw [if_neg (fun k => hb ⟨h.isN.1 k.1, Classical.byContradiction fun hw => k.2.1 (h.lost b (h.isN.1 k.1) hw)⟩)]
  exact ⟨fun k => by simp at k, fun k => absurd k.1 hb⟩
theorem IsDom.chain_cons (h : IsDom c l) {b : Int} (hb : Rc c b) : chainB l b = b :: (if b = 0 then [] else chainB l (rd l b)) := by
 obtain ⟨f, hf, hfl⟩ := h.rank
 have hlt := hfl b hb.1 hb.2
 rw [← h.len] at hlt
 unfold chainB
 rw [if_pos ⟨h.isN.2 hb.1, h.rd0 hb, h.sane⟩]
 obtain ⟨m, hm⟩ : ∃ m, l.length = m + 1 := ⟨l.length - 1, by omega⟩
 rw [h.up_fuel hf l.length (m + 1) b hb hlt (by omega), upL_yes (h.isN.2 hb.1)]
 congr 1
 by_cases e : b = 0
 ·subst e
  rw [if_pos rfl, h.zero (by have := hb.1.2; omega), upL_no (isN_no (by omega))]
 ·rw [if_neg e]
  obtain ⟨p, h1, h2, h3, h4⟩ := h.par b hb.1 hb.2 e
  have := hf b p h1
  rw [h2, if_pos ⟨h.isN.2 h3, h.rd0 ⟨h3, h4⟩, h.sane⟩]
  exact h.up_fuel hf m l.length p ⟨h3, h4⟩ (by omega) (by omega)
def Dm (c : List (List Int)) (a b : Int) : Prop := Rc c b ∧ ¬ Av c a 0 b
theorem IsDom.dm (h : IsDom c l) {a b : Int} : a ∈ chainB l b ↔ Dm c a b := by
 rw [h.mem_chain]
 exact ⟨fun k => ⟨k.1, (h.doms b k.1.1 k.1.2 a).1 k.2⟩, fun k => ⟨k.1, (h.doms b k.1.1 k.1.2 a).2 k.2⟩⟩
theorem IsDom.dm_up (h : IsDom c l) {a b : Int} : Dm c a b ↔ Rc c b ∧ Up (idT l) b a := by rw [← h.dm, h.mem_chain]
theorem IsDom.dm_rc (h : IsDom c l) {a b : Int} (k : Dm c a b) : Rc c a := by
 rw [h.dm_up] at k
 exact h.up_rc k.1 k.2
theorem IsDom.dm_trans (h : IsDom c l) {a b d : Int} (k : Dm c a b) (m : Dm c b d) : Dm c a d := by
 rw [h.dm_up] at k m ⊢
 exact ⟨m.1, m.2.trans k.2⟩
theorem IsDom.dm_refl (h : IsDom c l) {b : Int} : Dm c b b ↔ Rc c b := by
 rw [h.dm_up]
 exact ⟨fun k => k.1, fun k => ⟨k, .refl _⟩⟩
theorem IsDom.up_rank (_h : IsDom c l) {f : Int → Nat} (hf : ∀ b p, idT l b = some p → f p < f b) {b x : Int} (hu : Up (idT l) b x) : f x ≤ f b ∧ (f x = f b → x = b) := by
 induction hu with
 | refl => exact ⟨Nat.le_refl _, fun _ => rfl⟩
 | step h1 _ ih =>
  have := hf _ _ h1
  have := ih.1
  exact ⟨by omega, fun e => by omega⟩
theorem IsDom.dm_anti (h : IsDom c l) {a b : Int} (k : Dm c a b) (m : Dm c b a) : a = b := by
 obtain ⟨f, hf, _⟩ := h.rank
 rw [h.dm_up] at k m
 have h1 := h.up_rank hf k.2
 have h2 := h.up_rank hf m.2
 exact h1.2 (by omega)
theorem IsDom.dm_line (h : IsDom c l) {a b d : Int} (k : Dm c a d) (m : Dm c b d) : Dm c a b ∨ Dm c b a := by
 rw [h.dm_up] at k m
 rcases k.2.line m.2 with u | u
 ·exact .inr (h.dm_up.2 ⟨h.up_rc k.1 k.2, u⟩)
 ·exact .inl (h.dm_up.2 ⟨h.up_rc m.1 m.2, u⟩)
theorem IsDom.dm_zero (_h : IsDom c l) {b : Int} : Dm c 0 b ↔ Rc c b := ⟨fun k => k.1, fun k => ⟨k, fun q => q.left rfl⟩⟩
theorem IsDom.dm_par (h : IsDom c l) {a b : Int} (hb : Rc c b) (hb0 : b ≠ 0) : Dm c a b ↔ a = b ∨ Dm c a (rd l b) := by
 rw [← h.dm, ← h.dm, h.chain_cons hb, if_neg hb0, List.mem_cons]
theorem IsDom.common (h : IsDom c l) {a b : Int} : (Rc c a ∧ Rc c b → Dm c (commonB l a b) a ∧ Dm c (commonB l a b) b ∧ ∀ x, Dm c x a → Dm c x b → Dm c x (commonB l a b)) ∧ (¬ (Rc c a ∧ Rc c b) → commonB l a b = -1) := by
 unfold commonB
 cases hf : (chainB l a).find? (fun x => decide (x ∈ chainB l b)) with
 | none =>
  rw [List.find?_eq_none] at hf
  refine ⟨fun k => ?_, fun _ => rfl⟩
  have := hf 0 (h.dm.2 (h.dm_zero.2 k.1))
  simp only [decide_eq_true_eq] at this
  exact absurd (h.dm.2 (h.dm_zero.2 k.2)) this
 | some x =>
  rw [Option.getD_some]
  obtain ⟨hx, zs, bs, e, hno⟩ := List.find?_eq_some_iff_append.1 hf
  simp only [decide_eq_true_eq] at hx
  have hxa : Dm c x a := h.dm.1 (by rw [e]; simp)
  have hxb := h.dm.1 hx
  refine ⟨fun _ => ⟨hxa, hxb, fun y hya hyb => ?_⟩, fun k => absurd ⟨hxa.1, hxb.1⟩ k⟩

  rcases h.dm_line hxa hya with k | k
  ·
   have key : ∀ (zs' : List Int) (d : Int), Rc c d → chainB l d = zs' ++ x :: bs → (∀ z ∈ zs', ¬ Dm c z b) → Dm c y d → Dm c y x := by
    intro zs'
    induction zs' with
    | nil =>
     intro d hd e _ hy
     rw [h.chain_cons hd] at e
     injection e with e1 _
     rw [← e1]
     exact hy
    | cons z zs' ih =>
     intro d hd e hno hy
     rw [h.chain_cons hd] at e
     injection e with e1 e2
     subst e1
     by_cases ed : d = 0
     ·rw [if_pos ed] at e2
      simp at e2
     ·rw [if_neg ed] at e2
      rcases (h.dm_par hd ed).1 hy with e3 | e3
      ·exact absurd (by rw [← e3]; exact hyb) (hno d (by simp))
      ·obtain ⟨p, h1, h2, h3, h4⟩ := h.par d hd.1 hd.2 ed
       rw [h2] at e2 e3
       exact ih p ⟨h3, h4⟩ e2 (fun z hz => hno z (by simp [hz])) e3
   exact key zs a hxa.1 e (fun z hz k => by have := hno z hz; simp at this; exact this (h.dm.2 k)) hya
  ·exact k
end
theorem wrap_pred {n : Nat} (h0 : 0 < n) (h : n ≤ 9223372036854775807) : wrap64 ((n : Int) - 1) = ((n - 1 : Nat) : Int) := by
 unfold wrap64
 omega
theorem rd_getD (xs : List Int) (i : Nat) : rd xs (i : Int) = xs.getD i 0 := by
 show xs.getD (Int.toNat (i : Int)) 0 = _
 rw [Int.toNat_natCast]
end Go.Proofs.YtemcmcnhpdkdfaaGreat.P
namespace Go.Proofs.YtemcmcnhpdkdfaaGreat.P
open Go.RowKit Go.Lib Go.Proofs.YtemcmcnhpdkdfaaGreatW.PrintWords
theorem row_cut {c : List (List Int)} {a x : Int} (h : ¬ (x.toNat = a.toNat ∧ a.toNat < c.length)) : row (c.set a.toNat []) x = row c x := by
 unfold row
 rw [List.getD_eq_getElem?_getD, List.getElem?_set, List.getD_eq_getElem?_getD]
 by_cases e : a.toNat = x.toNat
 ·rw [if_pos e, if_neg (fun k => h ⟨e.symm, k⟩), List.getElem?_eq_none (by omega)]
 ·rw [if_neg e]
theorem row_cut_self {c : List (List Int)} {a : Int} : row (c.set a.toNat []) a = [] := by
 unfold row
 rw [List.getD_eq_getElem?_getD, List.getElem?_set, if_pos rfl]
 split <;> rfl
theorem way_without {c : List (List Int)} (hv : Valid c) {a b : Int} (ha : Node c a) (ha0 : a ≠ 0) (hb : b ≠ a) (h0 : Node c 0) : Way (c.set a.toNat []) 0 b ↔ Av c a 0 b := by
 have hrow : ∀ x, Node c x → x ≠ a → row (c.set a.toNat []) x = row c x := fun x hx hne => row_cut (fun k => hne (by have := hx.1; have := ha.1; omega))
 constructor
 ·intro h
  have := h.closed (P := fun z => Node c z ∧ (Av c a 0 z ∨ z = a)) (fun x y hx he => by
   by_cases e : x = a
   ·rw [e, row_cut_self] at he
    simp at he
   ·rw [hrow x hx.1 e] at he
    refine ⟨row_node hv he, ?_⟩
    rcases hx.2 with k | k
    ·by_cases e2 : y = a
     ·exact .inr e2
     ·exact .inl (k.snoc he e2)
    ·exact absurd k e) ⟨h0, .inl (.refl (Ne.symm ha0))⟩
  exact this.2.resolve_right hb
 ·intro h
  have := h.closed (P := fun z => Node c z ∧ z ≠ a ∧ Way (c.set a.toNat []) 0 z) (fun x y hx he hy => ⟨row_node hv he, hy, hx.2.2.trans (.edge (by rw [hrow x hx.1 hx.2.1]; exact he))⟩) ⟨h0, Ne.symm ha0, .refl _⟩
  exact this.2.2
theorem set_valid {c : List (List Int)} (hv : Valid c) (a : Nat) : Valid (c.set a []) := fun l hl b hb => by
 rw [List.length_set]
 rcases List.mem_or_eq_of_mem_set hl with h | h
 ·exact hv l h b hb
 ·rw [h] at hb; simp at hb
theorem set_rises {c : List (List Int)} (hr : ∀ l ∈ c, l.Pairwise (· < ·)) (a : Nat) : ∀ l ∈ c.set a [], l.Pairwise (· < ·) := fun l hl => by
 rcases List.mem_or_eq_of_mem_set hl with h | h
 ·exact hr l h
 ·rw [h]; exact List.Pairwise.nil
end Go.Proofs.YtemcmcnhpdkdfaaGreat.P
namespace Go.Proofs.YtemcmcnhpdkdfaaGreat.P
open Go.RowKit Go.Lib Go.Proofs.YtemcmcnhpdkdfaaGreatW.PrintWords
def domB (c : List (List Int)) (a b : Nat) : Bool := (reachN c c.length 0).getD b false && (decide (a = b) || (decide (a = 0) || !(reachN (c.set a []) c.length 0).getD b false))
def domRow (c : List (List Int)) (a : Nat) : List Bool := (List.range c.length).map (domB c a)
def domAll (c : List (List Int)) : List (List Bool) := (List.range c.length).map (domRow c)
theorem domB_iff {c : List (List Int)} (hv : Valid c) {a b : Nat} (ha : a < c.length) (hb : b < c.length) : domB c a b = true ↔ Dm c (a : Int) (b : Int) := by
 have h0 : Node c 0 := ⟨Int.le_refl 0, by omega⟩
 have hrb : (reachN c c.length 0).getD b false = true ↔ Rc c (b : Int) := by
  rw [reachN_get hv]
  exact ⟨fun k => ⟨⟨by omega, by omega⟩, k.2⟩, fun k => ⟨h0, k.2⟩⟩
 unfold domB
 rw [Bool.and_eq_true, hrb, Bool.or_eq_true, Bool.or_eq_true, decide_eq_true_iff, decide_eq_true_iff, Bool.not_eq_true']
 unfold Dm
 refine and_congr_right (fun hr => ?_)
 by_cases e : a = b
 ·subst e
  exact ⟨fun _ k => k.right rfl, fun _ => .inl rfl⟩
 ·by_cases e0 : a = 0
  ·subst e0
   exact ⟨fun _ k => k.left rfl, fun _ => .inr (.inl rfl)⟩
  ·have hw := way_without hv (a := (a : Int)) (b := (b : Int)) ⟨by omega, by omega⟩ (by omega) (by omega) h0
   rw [Int.toNat_natCast] at hw
   have hg := reachN_get (set_valid hv a) (a := 0) (j := b)
   rw [List.length_set] at hg
   rw [← hw]
   constructor
   ·rintro (k | k | k) q
    ·exact e k
    ·exact e0 k
    ·rw [hg.2 ⟨⟨Int.le_refl 0, by rw [List.length_set]; omega⟩, q⟩] at k
     cases k
   ·intro k
    refine .inr (.inr ?_)
    cases hx : (reachN (c.set a []) c.length 0).getD b false with
    | false => rfl
    | true => exact absurd (hg.1 hx).2 k
theorem rdOf_false (m : List Bool) (i : Nat) : rdOf false m (i : Int) = m.getD i false := by
 show m.getD (Int.toNat (i : Int)) false = _
 rw [Int.toNat_natCast]
theorem doms_l1 {x0 c : List (List Int)} (hn : x0.length ≤ 900) (hcl : c.length = x0.length) (out : List (List Bool)) (ho : out.length ≤ 900) (a : Nat) (ha : a < c.length) (r : List (List Bool))
  (hk : Ev (fun k => bywashref14_doms.l0 k x0 (reachN c c.length 0) (out ++ [domRow c a]) ((a + 1 : Nat) : Int)) r) : ∀ d i : Nat, i + d = c.length → Ev (fun k => bywashref14_doms.l1 k x0 (reachN c c.length 0) out (a : Int) (reachN (c.set a []) c.length 0) ((List.range i).map (domB c a) ++ List.replicate d false) (i : Int)) r := by
 have hfl := reachN_len c c.length 0
 have hsl := reachN_len (c.set a []) c.length 0
 intro d
 induction d with
 | zero =>
  intro i hd
  obtain rfl : i = c.length := by omega
  rw [List.replicate_zero, List.append_nil]
  exact Ev.step (fun k => by rw [bywashref14_doms.l1, if_neg (by omega), if_pos (by omega), wrap_succ (by omega)]; rfl) hk
 | succ d ih =>
  intro i hd
  have next := ih (i + 1) (by omega)
  have hset : ∀ v : Bool, v = domB c a i → ((List.range i).map (domB c a) ++ List.replicate (d + 1) false).set ((i : Int)).toNat v = (List.range (i + 1)).map (domB c a) ++ List.replicate d false := by
   intro v hv
   rw [Int.toNat_natCast, List.set_append_right _ _ (by simp), List.length_map, List.length_range, Nat.sub_self, List.replicate_succ, List.set_cons_zero, List.range_succ, List.map_append, List.append_assoc, hv]
   rfl
  have hlen : ((List.range i).map (domB c a) ++ List.replicate (d + 1) false).length = c.length := by simp; omega
  have o1 : (i : Int) < (x0.length : Int) := by omega
  have o2 : (i : Int) < ((reachN c c.length 0).length : Int) := by omega
  have o3 : (i : Int) < ((reachN (c.set a []) c.length 0).length : Int) := by omega
  have o4 : (i : Int) < (((List.range i).map (domB c a) ++ List.replicate (d + 1) false).length : Int) := by omega
  have o5 : (0 : Int) ≤ (i : Int) := by omega
  have hw := wrap_succ (i := i) (by omega)
  refine Ev.step (fun k => ?_) next
  rw [bywashref14_doms.l1, if_pos o1, if_pos o5, if_pos o2, rdOf_false, rdOf_false, hw]
  by_cases e1 : (reachN c c.length 0).getD i false = true
  ·rw [if_pos e1]
   by_cases e2 : (a : Int) = (i : Int)
   ·rw [if_pos e2, if_pos o4, hset true (by unfold domB; rw [e1, decide_eq_true (by omega)]; rfl)]
   ·rw [if_neg e2]
    by_cases e3 : (a : Int) = 0
    ·rw [if_pos e3, if_pos o4, hset true (by unfold domB; rw [e1, decide_eq_true (show a = 0 by omega), Bool.true_or, Bool.or_true]; rfl)]
    ·rw [if_neg e3, if_pos o3, if_pos o4, hset _ (by unfold domB; rw [e1, decide_eq_false (by omega), decide_eq_false (by omega)]; rfl)]
  ·rw [if_neg e1, if_pos o4, hset false (by unfold domB; rw [Bool.not_eq_true] at e1; rw [e1]; rfl)]
theorem doms_l0 {x0 : List (List Int)} (hn : x0.length ≤ 900) (hr : ∀ r ∈ x0, r.length ≤ 900) : ∀ d i : Nat, i + d = x0.length → Ev (fun k => bywashref14_doms.l0 k x0 (reachN (clean x0) (clean x0).length 0) ((List.range i).map (domRow (clean x0))) (i : Int)) (domAll (clean x0)) := by
 have hcl := clean_len x0
 have hv := clean_Valid x0
 have hri := clean_rises x0
 have hrl : ∀ r ∈ clean x0, r.length ≤ 900 := fun r h => Nat.le_trans (clean_row_le r h) hn
 have hce := refclean_ev x0 hn hr
 obtain ⟨c, hc⟩ : ∃ c, c = clean x0 := ⟨_, rfl⟩
 rw [← hc] at hcl hv hri hrl hce ⊢
 clear hc
 intro d
 induction d with
 | zero =>
  intro i hd
  have e : (List.range i).map (domRow c) = domAll c := by unfold domAll; rw [show i = c.length by omega]
  rw [e]
  exact Ev.step (f := fun _ => some (domAll c)) (fun k => by rw [bywashref14_doms.l0, if_neg (by omega)]) (Ev.now _)
 | succ d ih =>
  intro i hd
  have next := ih (i + 1) (by omega)
  rw [List.range_succ, List.map_append] at next
  have h1 := doms_l1 hn hcl ((List.range i).map (domRow c)) (by simp; omega) i (by omega) _ next c.length 0 (by omega)
  have hse : Ev (fun k => bywashref10_Reach.f k (c.set i []) 0) (reachN (c.set i []) c.length 0) := by
   have := refreach_ev (c.set i []) (by rw [List.length_set]; omega) (fun r hr => by
    rcases List.mem_or_eq_of_mem_set hr with h | h
    ·exact hrl r h
    ·rw [h]; simp) 0
   rw [clean_self (set_valid hv i) (set_rises hri i), List.length_set] at this
   exact this
  refine Ev.step (f := fun k => (bywashref10_Clean.f k x0).bind fun t => if 0 ≤ (i : Int) then (if (i : Int) < (t.length : Int) then (bywashref10_Reach.f k (t.set (i : Int).toNat ([] : List Int)) 0).bind fun u => if 0 ≤ (x0.length : Int) then (if ((x0.length : Int) : Int).toNat ≤ 281474976710656 then bywashref14_doms.l1 k x0 (reachN c c.length 0) ((List.range i).map (domRow c)) (i : Int) u (List.replicate ((x0.length : Int) : Int).toNat false) 0 else none) else none else none) else none) (fun k => by rw [bywashref14_doms.l0, if_pos (by omega)]) ?_
  refine Ev.bind hce ?_
  simp only [if_pos (show (0 : Int) ≤ (i : Int) by omega), if_pos (show (i : Int) < (c.length : Int) by omega), Int.toNat_natCast]
  refine Ev.bind hse ?_
  simp only [if_pos (show (0 : Int) ≤ (x0.length : Int) by omega), if_pos (show x0.length ≤ 281474976710656 by omega)]
  rw [hcl] at h1 ⊢
  exact h1
theorem doms_ev {x0 : List (List Int)} (hn : x0.length ≤ 900) (hr : ∀ r ∈ x0, r.length ≤ 900) : Ev (fun k => bywashref14_doms.f k x0) (domAll (clean x0)) := by
 refine Ev.bind (f := fun k t => bywashref14_doms.l0 k x0 t ([] : List (List Bool)) 0) (refreach_ev x0 hn hr 0) ?_
 have := doms_l0 hn hr x0.length 0 (by omega)
 rw [clean_len] at this
 exact this
theorem closest_l1_yes {D : List (List Bool)} {S : List Int} (hb : ∀ x ∈ S, 0 ≤ x ∧ x < (D.length : Int) ∧ ∀ y ∈ S, y < ((rd_L3 D x).length : Int)) (hs : S.length ≤ 900) {i : Nat} (hi : i < S.length) (hall : ∀ x ∈ S, rdOf false (rd_L3 D x) S[i] = true) :
  ∀ d k : Nat, k + d = S.length → Ev (fun n => bywashref14_closest.l1 n D S (i : Int) true (k : Int)) S[i] := by
 have hSi := List.getElem_mem hi
 intro d
 induction d with
 | zero =>
  intro k hd
  exact Ev.step (f := fun _ => some S[i]) (fun n => by rw [bywashref14_closest.l1, if_neg (by omega), if_pos rfl, if_pos (by omega), if_pos (by omega), rd_nat' hi]) (Ev.now _)
 | succ d ih =>
  intro k hd
  have hk : k < S.length := by omega
  have hSk := List.getElem_mem hk
  refine Ev.step (fun n => ?_) (ih (k + 1) (by omega))
  rw [bywashref14_closest.l1, if_pos (by omega), if_pos rfl, if_pos (by omega), rd_nat' hk, if_pos (hb _ hSk).1, if_pos (hb _ hSk).2.1, if_pos (by omega), if_pos (by omega), rd_nat' hi, if_pos (hb _ hSi).1, if_pos ((hb _ hSk).2.2 _ hSi), hall _ hSk, wrap_succ (by omega)]
theorem closest_l1_no {D : List (List Bool)} {S : List Int} (hb : ∀ x ∈ S, 0 ≤ x ∧ x < (D.length : Int) ∧ ∀ y ∈ S, y < ((rd_L3 D x).length : Int)) (hs : S.length ≤ 900) {i : Nat} (hi : i < S.length) (r : Int) (hk : Ev (fun n => bywashref14_closest.l0 n D S ((i + 1 : Nat) : Int)) r) :
  ∀ d k : Nat, k + d = S.length → ∀ q : Bool, (q = false ∨ ∃ x ∈ S.drop k, rdOf false (rd_L3 D x) S[i] = false) → Ev (fun n => bywashref14_closest.l1 n D S (i : Int) q (k : Int)) r := by
 have hSi := List.getElem_mem hi
 intro d
 induction d with
 | zero =>
  intro k hd q hq
  rw [List.drop_eq_nil_of_le (by omega)] at hq
  have : q = false := hq.resolve_right (fun ⟨x, hx, _⟩ => by simp at hx)
  subst this
  exact Ev.step (fun n => by rw [bywashref14_closest.l1, if_neg (by omega), if_neg (by simp), wrap_succ (by omega)]) hk
 | succ d ih =>
  intro k hd q hq
  have hkl : k < S.length := by omega
  have hSk := List.getElem_mem hkl
  cases q with
  | false => exact Ev.step (fun n => by rw [bywashref14_closest.l1, if_pos (by omega), if_neg (by simp), wrap_succ (by omega)]) (ih (k + 1) (by omega) false (.inl rfl))
  | true =>
   refine Ev.step (fun n => ?_) (ih (k + 1) (by omega) (rdOf false (rd_L3 D S[k]) S[i]) ?_)
   ·rw [bywashref14_closest.l1, if_pos (by omega), if_pos rfl, if_pos (by omega), rd_nat' hkl, if_pos (hb _ hSk).1, if_pos (hb _ hSk).2.1, if_pos (by omega), if_pos (by omega), rd_nat' hi, if_pos (hb _ hSi).1, if_pos ((hb _ hSk).2.2 _ hSi), wrap_succ (by omega)]
   ·rcases hq with e | ⟨x, hx, e⟩
    ·cases e
    ·rw [List.drop_eq_getElem_cons hkl] at hx
     rcases List.mem_cons.1 hx with h | h
     ·rw [h] at e; exact .inl e
     ·exact .inr ⟨x, h, e⟩
theorem closest_l0 {D : List (List Bool)} {S : List Int} (hb : ∀ x ∈ S, 0 ≤ x ∧ x < (D.length : Int) ∧ ∀ y ∈ S, y < ((rd_L3 D x).length : Int)) (hs : S.length ≤ 900) {p : Int} (hp : ∀ x ∈ S, rdOf false (rd_L3 D x) p = true) (hone : ∀ y ∈ S, y ≠ p → ∃ x ∈ S, rdOf false (rd_L3 D x) y = false) :
  ∀ d i : Nat, i + d = S.length → p ∈ S.drop i → Ev (fun n => bywashref14_closest.l0 n D S (i : Int)) p := by
 intro d
 induction d with
 | zero =>
  intro i hd hpi
  rw [List.drop_eq_nil_of_le (by omega)] at hpi
  simp at hpi
 | succ d ih =>
  intro i hd hpi
  have hi : i < S.length := by omega
  rw [List.drop_eq_getElem_cons hi] at hpi
  by_cases e : S[i] = p
  ·have := closest_l1_yes hb hs hi (by rw [e]; exact hp) S.length 0 (by omega)
   rw [e] at this
   exact Ev.step (f := fun n => bywashref14_closest.l1 n D S (i : Int) true ((0 : Nat) : Int)) (fun n => by rw [bywashref14_closest.l0, if_pos (by omega)]; rfl) this
  ·have hpd : p ∈ S.drop (i + 1) := (List.mem_cons.1 hpi).resolve_left (fun h => e h.symm)
   have := closest_l1_no hb hs hi p (ih (i + 1) (by omega) hpd) S.length 0 (by omega) true (.inr (by rw [List.drop_zero]; exact hone _ (List.getElem_mem hi) e))
   exact Ev.step (f := fun n => bywashref14_closest.l1 n D S (i : Int) true ((0 : Nat) : Int)) (fun n => by rw [bywashref14_closest.l0, if_pos (by omega)]; rfl) this
theorem rdL3_nat {D : List (List Bool)} (i : Nat) : rd_L3 D (i : Int) = D.getD i [] := by
 show D.getD (Int.toNat (i : Int)) [] = _
 rw [Int.toNat_natCast]
theorem domAll_get {c : List (List Int)} {a : Nat} (ha : a < c.length) : rd_L3 (domAll c) (a : Int) = domRow c a := by
 rw [rdL3_nat]
 unfold domAll
 rw [List.getD_eq_getElem?_getD, List.getElem?_map, List.getElem?_range ha]
 rfl
theorem domRow_get {c : List (List Int)} {a b : Nat} (hb : b < c.length) : rdOf false (domRow c a) (b : Int) = domB c a b := by
 rw [rdOf_false]
 unfold domRow
 rw [List.getD_eq_getElem?_getD, List.getElem?_map, List.getElem?_range hb]
 rfl
def strB (c : List (List Int)) (b i : Nat) : List Int := (nodes i).filter fun a => decide (a ≠ (b : Int)) && domB c a.toNat b
theorem closest_is {c : List (List Int)} {l : List Int} (hv : Valid c) (h : IsDom c l) (hn : c.length ≤ 900) {b : Nat} (hb : Rc c (b : Int)) (hb0 : b ≠ 0) : Ev (fun n => bywashref14_closest.f n (domAll c) (strB c b c.length)) (rd l (b : Int)) := by
 have hbl : b < c.length := by have := hb.1.2; omega
 have hmem : ∀ x, x ∈ strB c b c.length ↔ x ≠ (b : Int) ∧ Dm c x (b : Int) := by
  intro x
  unfold strB
  rw [List.mem_filter, mem_nodes, Bool.and_eq_true, decide_eq_true_iff]
  constructor
  ·rintro ⟨h1, h2, h3⟩
   have := (domB_iff hv (a := x.toNat) (b := b) (by omega) hbl).1 h3
   rw [show ((x.toNat : Nat) : Int) = x by omega] at this
   exact ⟨h2, this⟩
  ·rintro ⟨h1, h2⟩
   have hx := (h.dm_rc h2).1
   have h3 := hx.1
   have h4 := hx.2
   refine ⟨⟨h3, h4⟩, h1, (domB_iff hv (by omega) hbl).2 ?_⟩
   rw [show ((x.toNat : Nat) : Int) = x by omega]
   exact h2
 have hz : (b : Int) ≠ 0 := by omega
 obtain ⟨p, q1, q2, q3, q4⟩ := h.par _ hb.1 hb.2 hz
 have hpb : Dm c p (b : Int) := (h.dm_par hb hz).2 (.inr (by rw [q2]; exact h.dm_refl.2 ⟨q3, q4⟩))
 have hpne : p ≠ (b : Int) := fun e => by
  obtain ⟨f, hf, _⟩ := h.rank
  have := hf _ _ q1
  rw [e] at this
  omega
 have hget : ∀ x y, Node c x → Node c y → (rdOf false (rd_L3 (domAll c) x) y = true ↔ Dm c x y) := by
  intro x y hx hy
  obtain ⟨i, rfl⟩ : ∃ i : Nat, x = (i : Int) := ⟨x.toNat, by have := hx.1; omega⟩
  obtain ⟨j, rfl⟩ : ∃ j : Nat, y = (j : Int) := ⟨y.toNat, by have := hy.1; omega⟩
  have hi : i < c.length := by have := hx.2; omega
  have hj : j < c.length := by have := hy.2; omega
  rw [domAll_get hi, domRow_get hj, domB_iff hv hi hj]
 have hstr : ∀ x ∈ strB c b c.length, Dm c x p := fun x hx => by
  have := (hmem x).1 hx
  have := (h.dm_par hb hz).1 this.2
  rw [q2] at this
  exact this.resolve_left ((hmem x).1 hx).1
 have hlen : (strB c b c.length).length ≤ 900 := by
  unfold strB
  refine Nat.le_trans (List.length_filter_le _ _) ?_
  rw [nodes_len]
  exact hn
 rw [q2]
 have hpm : p ∈ strB c b c.length := (hmem p).2 ⟨hpne, hpb⟩
 have hnode : ∀ x ∈ strB c b c.length, Node c x := fun x hx => (h.dm_rc ((hmem x).1 hx).2).1
 refine closest_l0 (D := domAll c) (fun x hx => ?_) hlen (p := p) (fun x hx => (hget x p (hnode x hx) q3).2 (hstr x hx)) (fun y hy hne => ⟨p, hpm, ?_⟩) (strB c b c.length).length 0 (by omega) (by rw [List.drop_zero]; exact hpm)
 ·have hx' := hnode x hx
  refine ⟨hx'.1, by unfold domAll; rw [List.length_map, List.length_range]; exact hx'.2, fun y hy => ?_⟩
  obtain ⟨i, rfl⟩ : ∃ i : Nat, x = (i : Int) := ⟨x.toNat, by have := hx'.1; omega⟩
  rw [domAll_get (by have := hx'.2; omega)]
  unfold domRow
  rw [List.length_map, List.length_range]
  exact (hnode y hy).2
 ·cases hc : rdOf false (rd_L3 (domAll c) p) y with
  | false => rfl
  | true => exact absurd (h.dm_anti (hstr y hy) ((hget p y q3 (hnode y hy)).1 hc)) hne
theorem refidoms_l1 {x0 c : List (List Int)} (hn : x0.length ≤ 900) (hcl : c.length = x0.length) (F : List Bool) (out : List Int) (ho : out.length ≤ 900) (b : Nat) (hb : b < c.length) (v : Int) (hcv : Ev (fun n => bywashref14_closest.f n (domAll c) (strB c b c.length)) v) (r : List Int)
  (hk : Ev (fun k => bywashref14_Idoms.l0 k x0 F (domAll c) (out ++ [v]) ((b + 1 : Nat) : Int)) r) : ∀ d i : Nat, i + d = c.length → Ev (fun k => bywashref14_Idoms.l1 k x0 F (domAll c) out (b : Int) (strB c b i) (i : Int)) r := by
 have hDl : (domAll c).length = c.length := by unfold domAll; rw [List.length_map, List.length_range]
 intro d
 induction d with
 | zero =>
  intro i hd
  obtain rfl : i = c.length := by omega
  refine Ev.step (f := fun k => (bywashref14_closest.f k (domAll c) (strB c b c.length)).bind fun t => if out.length < 17592186044416 then bywashref14_Idoms.l0 k x0 F (domAll c) (out ++ [t]) ((b + 1 : Nat) : Int) else none) (fun k => by rw [bywashref14_Idoms.l1, if_neg (by omega), wrap_succ (by omega)]) ?_
  refine Ev.bind hcv ?_
  simp only [if_pos (show out.length < 17592186044416 by omega)]
  exact hk
 | succ d ih =>
  intro i hd
  have hi : i < c.length := by omega
  have next := ih (i + 1) (by omega)
  have hsl : (strB c b i).length ≤ 900 := by
   unfold strB
   refine Nat.le_trans (List.length_filter_le _ _) ?_
   rw [nodes_len]
   omega
  have hrow : ((rd_L3 (domAll c) (i : Int)).length : Int) = (c.length : Int) := by rw [domAll_get hi]; unfold domRow; rw [List.length_map, List.length_range]
  have hstep : strB c b (i + 1) = strB c b i ++ (if (decide ((i : Int) ≠ (b : Int)) && domB c i b) = true then [(i : Int)] else []) := by
   unfold strB
   rw [nodes_snoc, List.filter_append, List.filter_cons, List.filter_nil, Int.toNat_natCast]
  rw [hstep] at next
  have hw := wrap_succ (i := i) (by omega)
  have o1 : (i : Int) < (x0.length : Int) := by omega
  have o2 : (0 : Int) ≤ (i : Int) := by omega
  have o3 : (i : Int) < ((domAll c).length : Int) := by omega
  have o4 : (0 : Int) ≤ (b : Int) := by omega
  have o5 : (b : Int) < ((rd_L3 (domAll c) (i : Int)).length : Int) := by rw [hrow]; omega
  refine Ev.step (fun k => ?_) next
  rw [bywashref14_Idoms.l1, if_pos o1]
  by_cases e : (i : Int) = (b : Int)
  ·rw [if_pos e, decide_eq_false (by omega), Bool.false_and, if_neg (by simp), List.append_nil, hw]
  ·rw [if_neg e, if_pos o2, if_pos o3, if_pos o4, if_pos o5, domAll_get hi, domRow_get hb, decide_eq_true e, Bool.true_and, hw]
   by_cases e2 : domB c i b = true
   ·rw [if_pos e2, if_pos e2, if_pos (show (strB c b i).length < 17592186044416 by omega)]
   ·rw [if_neg e2, if_neg e2, List.append_nil]
theorem refidoms_l0 {x0 c : List (List Int)} {l : List Int} (hn : x0.length ≤ 900) (hcl : c.length = x0.length) (hv : Valid c) (h : IsDom c l) : ∀ d i : Nat, i + d = c.length → Ev (fun k => bywashref14_Idoms.l0 k x0 (reachN c c.length 0) (domAll c) (l.take i) (i : Int)) l := by
 have hfl := reachN_len c c.length 0
 have hll := h.len
 intro d
 induction d with
 | zero =>
  intro i hd
  rw [List.take_of_length_le (by omega)]
  exact Ev.step (f := fun _ => some l) (fun k => by rw [bywashref14_Idoms.l0, if_neg (by omega)]) (Ev.now _)
 | succ d ih =>
  intro i hd
  have hi : i < c.length := by omega
  have next := ih (i + 1) (by omega)
  rw [List.take_succ_eq_append_getElem (by omega), ← rd_nat' (by omega)] at next
  have htl : (l.take i).length ≤ 900 := by rw [List.length_take]; omega
  have hw := wrap_succ (i := i) (by omega)
  have o1 : (i : Int) < (x0.length : Int) := by omega
  have o2 : (0 : Int) ≤ (i : Int) := by omega
  have o3 : (i : Int) < ((reachN c c.length 0).length : Int) := by omega
  have o4 : (l.take i).length < 17592186044416 := by omega
  by_cases e : (i : Int) = 0
  ·rw [e, h.zero (by omega)] at next
   exact Ev.step (fun k => by rw [bywashref14_Idoms.l0, if_pos o1, if_pos e, if_pos o4, hw]) next
  ·have hn0 : Node c 0 := ⟨Int.le_refl 0, by omega⟩
   have hni : Node c (i : Int) := ⟨by omega, by omega⟩
   have hg := reachN_get hv (a := 0) (j := i)
   by_cases e2 : (reachN c c.length 0).getD i false = true
   ·have hrc : Rc c (i : Int) := ⟨hni, (hg.1 e2).2⟩
    have h1 := refidoms_l1 hn hcl (reachN c c.length 0) (l.take i) htl i hi _ (closest_is hv h (by omega) hrc (by omega)) l next c.length 0 (by omega)
    exact Ev.step (f := fun k => bywashref14_Idoms.l1 k x0 (reachN c c.length 0) (domAll c) (l.take i) (i : Int) (strB c i 0) ((0 : Nat) : Int)) (fun k => by rw [bywashref14_Idoms.l0, if_pos o1, if_neg e, if_pos o2, if_pos o3, rdOf_false, if_pos e2]; rfl) h1
   ·rw [h.lost _ hni (fun hw => e2 (hg.2 ⟨hn0, hw⟩))] at next
    exact Ev.step (fun k => by rw [bywashref14_Idoms.l0, if_pos o1, if_neg e, if_pos o2, if_pos o3, rdOf_false, if_neg e2, if_pos o4, hw]) next
theorem refidoms_ev {x0 : List (List Int)} (hn : x0.length ≤ 900) (hr : ∀ r ∈ x0, r.length ≤ 900) {l : List Int} (h : IsDom (clean x0) l) : Ev (fun k => bywashref14_Idoms.f k x0) l := by
 refine Ev.bind (f := fun k t => (bywashref14_doms.f k x0).bind fun u => bywashref14_Idoms.l0 k x0 t u ([] : List Int) 0) (refreach_ev x0 hn hr 0) ?_
 refine Ev.bind (doms_ev hn hr) ?_
 have := refidoms_l0 hn (clean_len x0) (clean_Valid x0) h (clean x0).length 0 (by omega)
 rw [List.take_zero] at this
 rw [← clean_len x0]
 exact this
end Go.Proofs.YtemcmcnhpdkdfaaGreat.P
namespace Go.Proofs.YtemcmcnhpdkdfaaGreat.P
open Go.RowKit Go.Lib Go.Proofs.YtemcmcnhpdkdfaaGreatW.PrintWords
inductive Path0 (l : List Int) : Int → List Int → Prop where
 | zero : Path0 l 0 [0]
 | step {b : Int} {L : List Int} : b ≠ 0 → isN l.length b = true → Path0 l (rd l b) L → Path0 l b (b :: L)
theorem Path0.det {l : List Int} {b : Int} {L L' : List Int} (h : Path0 l b L) (k : Path0 l b L') : L = L' := by
 induction h generalizing L' with
 | zero =>
  cases k with
  | zero => rfl
  | step h0 _ _ => exact absurd rfl h0
 | step h0 _ _ ih =>
  cases k with
  | zero => exact absurd rfl h0
  | step _ _ k => rw [ih k]
theorem Path0.part {l : List Int} {b x : Int} {L : List Int} (h : Path0 l b L) (hx : x ∈ L) : ∃ L2, Path0 l x L2 ∧ L2.length ≤ L.length := by
 induction h with
 | zero =>
  obtain rfl := List.mem_singleton.1 hx
  exact ⟨_, .zero, Nat.le_refl _⟩
 | step h0 h1 h2 ih =>
  rcases List.mem_cons.1 hx with e | hx
  ·rw [e]; exact ⟨_, .step h0 h1 h2, Nat.le_refl _⟩
  ·obtain ⟨L2, k1, k2⟩ := ih hx
   exact ⟨L2, k1, by rw [List.length_cons]; omega⟩
theorem Path0.nodup {l : List Int} {b : Int} {L : List Int} (h : Path0 l b L) : L.Nodup := by
 induction h with
 | zero => simp
 | step h0 h1 h2 ih =>
  refine List.nodup_cons.2 ⟨fun hx => ?_, ih⟩
  obtain ⟨L2, k1, k2⟩ := h2.part hx
  have := k1.det (.step h0 h1 h2)
  rw [this, List.length_cons] at k2
  omega
theorem Path0.nodes {l : List Int} (hl : 0 < l.length) {b : Int} {L : List Int} (h : Path0 l b L) : ∀ x ∈ L, 0 ≤ x ∧ x < (l.length : Int) := by
 induction h with
 | zero => intro x hx; obtain rfl := List.mem_singleton.1 hx; omega
 | step h0 h1 _ ih =>
  intro x hx
  rcases List.mem_cons.1 hx with rfl | hx
  ·exact isN_iff.1 h1
  ·exact ih x hx
theorem Path0.len {l : List Int} (hl : 0 < l.length) {b : Int} {L : List Int} (h : Path0 l b L) : L.length ≤ l.length := few_nodes h.nodup (h.nodes hl)
theorem Path0.ends {l : List Int} {b : Int} {L : List Int} (h : Path0 l b L) : L.getD (L.length - 1) 0 = 0 ∧ 0 ∈ L ∧ 0 < L.length := by
 induction h with
 | zero => simp
 | step _ _ _ ih =>
  obtain ⟨i1, i2, i3⟩ := ih
  refine ⟨?_, List.mem_cons_of_mem _ i2, by simp⟩
  rw [List.length_cons, Nat.add_sub_cancel]
  obtain ⟨q, hq⟩ : ∃ q, List.length (α := Int) _ = q + 1 := ⟨_, (Nat.succ_pred_eq_of_pos i3).symm⟩
  rw [hq, List.getD_cons_succ]
  rw [hq, Nat.add_sub_cancel] at i1
  exact i1
theorem Path0.upL {l : List Int} (h0 : rd l 0 = -1) (hl : 0 < l.length) {b : Int} {L : List Int} (h : Path0 l b L) : ∀ k, L.length ≤ k → upL l l.length k b = L := by
 induction h with
 | zero =>
  intro k hk
  obtain ⟨m, rfl⟩ : ∃ m, k = m + 1 := ⟨k - 1, by simp at hk; omega⟩
  rw [upL_yes (isN_yes (by omega) (by omega)), h0, upL_no (isN_no (by omega))]
 | step _ h1 _ ih =>
  intro k hk
  rw [List.length_cons] at hk
  obtain ⟨m, rfl⟩ : ∃ m, k = m + 1 := ⟨k - 1, by omega⟩
  rw [upL_yes h1, ih m (by omega)]
theorem path_of_up {l : List Int} : ∀ (k : Nat) (b : Int), (0 : Int) ∈ upL l l.length k b → ∃ L, Path0 l b L
 | 0, _, h => by simp [upL] at h
 | k + 1, b, h => by
  rw [upL] at h
  split at h
  ·rename_i hb
   by_cases e : b = 0
   ·rw [e]; exact ⟨_, .zero⟩
   ·obtain ⟨L, hL⟩ := path_of_up k _ ((List.mem_cons.1 h).resolve_left (Ne.symm e))
    exact ⟨_, .step e hb hL⟩
  ·simp at h
theorem getLast_mem {L : List Int} (h : 0 < L.length) (e : L.getD (L.length - 1) 0 = 0) : (0 : Int) ∈ L := by
 rw [List.getD_eq_getElem?_getD, List.getElem?_eq_getElem (by omega)] at e
 rw [← e]
 exact List.getElem_mem _
theorem up_ends {l : List Int} (h0 : rd l 0 = -1) (hl : 0 < l.length) {b : Int} (hb : isN l.length b = true) : (0 : Int) ∈ upL l l.length l.length b ↔ (upL l l.length (l.length + 1) b).getD ((upL l l.length (l.length + 1) b).length - 1) 0 = 0 := by
 have hpos : 0 < (upL l l.length (l.length + 1) b).length := by rw [upL_yes hb]; simp
 constructor
 ·intro h
  obtain ⟨L, hL⟩ := path_of_up _ _ h
  have := hL.len hl
  rw [hL.upL h0 hl (l.length + 1) (by omega)]
  exact hL.ends.1
 ·intro h
  obtain ⟨L, hL⟩ := path_of_up _ _ (getLast_mem hpos h)
  rw [hL.upL h0 hl l.length (hL.len hl)]
  exact hL.ends.2.1
theorem refup_l0 (l : List Int) (hl : l.length ≤ 900) : ∀ (d : Nat) (b : Int) (out : List Int), out.length + d = l.length + 1 → Ev (fun k => bywashref14_up.l0 k l b out) (out ++ upL l l.length d b)
 | 0, b, out, hd => by
  rw [upL, List.append_nil]
  refine Ev.step (f := fun _ => some out) (fun k => ?_) (Ev.now _)
  rw [bywashref14_up.l0]
  by_cases h1 : b ≥ 0
  ·rw [if_pos h1]
   by_cases h2 : b < (l.length : Int)
   ·rw [if_pos h2, if_neg (by omega)]
   ·rw [if_neg h2]
  ·rw [if_neg h1]
 | d + 1, b, out, hd => by
  by_cases h1 : b ≥ 0
  ·by_cases h2 : b < (l.length : Int)
   ·rw [upL_yes (isN_yes h1 h2)]
    have := refup_l0 l hl d (rd l b) (out ++ [b]) (by rw [List.length_append, List.length_singleton]; omega)
    rw [List.append_assoc] at this
    exact Ev.step (fun k => by rw [bywashref14_up.l0, if_pos h1, if_pos h2, if_pos (by omega), if_pos (by omega), if_pos h1]) this
   ·rw [upL_no (isN_no (fun h => h2 h.2)), List.append_nil]
    exact Ev.step (f := fun _ => some out) (fun k => by rw [bywashref14_up.l0, if_pos h1, if_neg h2]) (Ev.now _)
  ·rw [upL_no (isN_no (fun h => h1 h.1)), List.append_nil]
   exact Ev.step (f := fun _ => some out) (fun k => by rw [bywashref14_up.l0, if_neg h1]) (Ev.now _)
theorem refup_ev (l : List Int) (hl : l.length ≤ 900) (b : Int) : Ev (fun k => bywashref14_up.f k l b) (upL l l.length (l.length + 1) b) := by
 have := refup_l0 l hl (l.length + 1) b [] (by simp)
 rw [List.nil_append] at this
 exact this
def okR (l : List Int) (b : Nat) : Bool :=
 decide (((b : Int) = 0 ↔ rd l b = -1) ∧ -2 ≤ rd l b ∧ rd l b < (l.length : Int)) && (!decide (0 ≤ rd l b ∧ rd l (rd l b) = -2) && (decide (rd l b = -2) || decide ((upL l l.length (l.length + 1) b).getD ((upL l l.length (l.length + 1) b).length - 1) 0 = 0)))
theorem bne_iff_two {i x : Int} : ((((i : Int) == 0) != (x == -1)) = true) ↔ ¬ (i = 0 ↔ x = -1) := by
 rw [bne_iff_ne, Ne, Bool.eq_iff_iff, beq_iff_eq, beq_iff_eq]
theorem refsane_l0 (l : List Int) (hl : l.length ≤ 900) : ∀ d i : Nat, i + d = l.length → Ev (fun k => bywashref14_Sane.l0 k l (i : Int)) (((List.range l.length).drop i).all (okR l))
 | 0, i, hd => by
  rw [List.drop_eq_nil_of_le (by simp; omega)]
  exact Ev.step (f := fun _ => some true) (fun k => by rw [bywashref14_Sane.l0, if_neg (by omega)]) (Ev.now _)
 | d + 1, i, hd => by
  have hi : i < l.length := by omega
  rw [range_drop hi, List.all_cons]
  have next := refsane_l0 l hl d (i + 1) (by omega)
  have hw := wrap_succ (i := i) (by omega)
  obtain ⟨x, ex⟩ : ∃ x, x = rd l (i : Int) := ⟨_, rfl⟩
  have hUe := refup_ev l hl (i : Int)
  have hUl := upL_len l l.length (l.length + 1) (i : Int)
  have hUp : 0 < (upL l l.length (l.length + 1) (i : Int)).length := by rw [upL_yes (isN_yes (by omega) (by omega))]; simp
  unfold okR
  rw [← ex]
  obtain ⟨U, eU⟩ : ∃ U, U = upL l l.length (l.length + 1) (i : Int) := ⟨_, rfl⟩
  rw [← eU] at hUe hUl hUp ⊢
  have hwU := wrap_pred (n := U.length) hUp (by omega)
  have u1 : (0 : Int) ≤ ((U.length - 1 : Nat) : Int) := by omega
  have u2 : ((U.length - 1 : Nat) : Int) < (U.length : Int) := by omega
  have j1yes : Ev (fun k => bywashref14_Sane.j1 k l (i : Int) x true) false := Ev.step (f := fun _ => some false) (fun k => by rw [bywashref14_Sane.j1, if_pos rfl]) (Ev.now _)
  have j1no : Ev (fun k => bywashref14_Sane.j1 k l (i : Int) x false) ((decide (x = -2) || decide (U.getD (U.length - 1) 0 = 0)) && ((List.range l.length).drop (i + 1)).all (okR l)) := by
   refine Ev.step (fun k => by rw [bywashref14_Sane.j1, if_neg (by simp)]) ?_
   refine Ev.bind hUe ?_
   rw [hwU]
   by_cases e : x = -2
   ·simp only [if_pos e, hw, decide_eq_true e, Bool.true_or, Bool.true_and]
    exact next
   ·simp only [if_neg e, if_pos u1, if_pos u2, rd_getD, decide_eq_false e, Bool.false_or, hw]
    by_cases e2 : U.getD (U.length - 1) 0 = 0
    ·simp only [if_pos e2, decide_eq_true e2, Bool.true_and]
     exact next
    ·simp only [if_neg e2, decide_eq_false e2, Bool.false_and]
     exact Ev.now _
  have o1 : (i : Int) < (l.length : Int) := by omega
  have o2 : (0 : Int) ≤ (i : Int) := by omega
  by_cases h1 : ((i : Int) = 0 ↔ x = -1)
  ·have hne : ¬ ((((i : Int) == 0) != (x == -1)) = true) := fun k => bne_iff_two.1 k h1
   by_cases h2 : x < -2
   ·refine Ev.step (fun k => by rw [bywashref14_Sane.l0, if_pos o1, if_pos o2, ← ex, if_neg hne, if_pos h2]) ?_
    rw [decide_eq_false (fun h => by omega), Bool.false_and, Bool.false_and]
    exact j1yes
   ·by_cases h3 : x ≥ (l.length : Int)
    ·refine Ev.step (fun k => by rw [bywashref14_Sane.l0, if_pos o1, if_pos o2, ← ex, if_neg hne, if_neg h2, if_pos h3]) ?_
     rw [decide_eq_false (fun h => by omega), Bool.false_and, Bool.false_and]
     exact j1yes
    ·have h4 : x < (l.length : Int) := by omega
     rw [decide_eq_true ⟨h1, by omega, h4⟩, Bool.true_and]
     by_cases h5 : x ≥ 0
     ·refine Ev.step (f := fun k => bywashref14_Sane.j1 k l (i : Int) x (rd l x == -2)) (fun k => by rw [bywashref14_Sane.l0, if_pos o1, if_pos o2, ← ex, if_neg hne, if_neg h2, if_neg h3, if_pos h5, if_pos h5, if_pos h4]) ?_
      by_cases h6 : rd l x = -2
      ·rw [h6, decide_eq_true ⟨h5, rfl⟩]
       exact j1yes
      ·rw [show (rd l x == -2) = false from by simpa using h6, decide_eq_false (fun h => h6 h.2), Bool.not_false, Bool.true_and]
       exact j1no
     ·refine Ev.step (fun k => by rw [bywashref14_Sane.l0, if_pos o1, if_pos o2, ← ex, if_neg hne, if_neg h2, if_neg h3, if_neg h5]) ?_
      rw [decide_eq_false (fun h => h5 h.1), Bool.not_false, Bool.true_and]
      exact j1no
  ·have hne : ((((i : Int) == 0) != (x == -1)) = true) := bne_iff_two.2 h1
   refine Ev.step (fun k => by rw [bywashref14_Sane.l0, if_pos o1, if_pos o2, ← ex, if_pos hne]) ?_
   rw [decide_eq_false (fun h => h1 h.1), Bool.false_and, Bool.false_and]
   exact j1yes
theorem saneR_eq (l : List Int) : (List.range l.length).all (okR l) = saneB l := by
 unfold saneB
 rw [Bool.eq_iff_iff, List.all_eq_true, List.all_eq_true]
 have conv : ∀ i, i ∈ List.range l.length → rd l 0 = -1 → (okR l i = true ↔ okB l i = true) := by
  intro i hi h0
  have hil := List.mem_range.1 hi
  unfold okR okB
  rw [decide_eq_decide.2 (up_ends h0 (by omega) (isN_yes (by omega) (by omega)))]
 have first : ∀ f : Nat → Bool, (∀ i, f i = true → ((i : Int) = 0 ↔ rd l i = -1)) → (∀ i ∈ List.range l.length, f i = true) → 0 < l.length → rd l 0 = -1 := fun f hf h hl => (hf 0 (h 0 (List.mem_range.2 hl))).1 rfl
 constructor
 ·intro h i hi
  refine (conv i hi (first (okR l) (fun i k => ?_) h (by have := List.mem_range.1 hi; omega))).1 (h i hi)
  unfold okR at k
  rw [Bool.and_eq_true, decide_eq_true_iff] at k
  exact k.1.1
 ·intro h i hi
  refine (conv i hi (first (okB l) (fun i k => ?_) h (by have := List.mem_range.1 hi; omega))).2 (h i hi)
  unfold okB at k
  rw [Bool.and_eq_true, decide_eq_true_iff] at k
  exact k.1.1
theorem refsane_ev (l : List Int) (hl : l.length ≤ 900) : Ev (fun k => bywashref14_Sane.f k l) (saneB l) := by
 have := refsane_l0 l hl l.length 0 (by omega)
 rw [List.drop_zero, saneR_eq] at this
 exact this
theorem sane_up {l : List Int} (h : saneB l = true) {b : Int} (hb : isN l.length b = true) (h2 : rd l b ≠ -2) : upL l l.length (l.length + 1) b = upL l l.length l.length b := by
 have hbn := isN_iff.1 hb
 unfold saneB at h
 rw [List.all_eq_true] at h
 have h0 := h 0 (List.mem_range.2 (by omega))
 have hk := h b.toNat (List.mem_range.2 (by omega))
 unfold okB at h0 hk
 rw [Bool.and_eq_true, decide_eq_true_iff] at h0
 rw [Bool.and_eq_true, Bool.and_eq_true, Bool.or_eq_true, decide_eq_true_iff, decide_eq_true_iff, decide_eq_true_iff, show ((b.toNat : Nat) : Int) = b by omega] at hk
 obtain ⟨L, hL⟩ := path_of_up _ _ (hk.2.2.resolve_left h2)
 have hl := hL.len (by omega)
 have hz := h0.1.1.1 rfl
 rw [hL.upL hz (by omega) _ (by omega), hL.upL hz (by omega) _ hl]
theorem refchain_ev (l : List Int) (hl : l.length ≤ 900) (b : Int) : Ev (fun k => bywashref14_Chain.f k l b) (chainB l b) := by
 unfold bywashref14_Chain.f chainB
 refine Ev.bind (refsane_ev l hl) ?_
 by_cases h3 : saneB l = true
 ·simp only [if_pos h3]
  by_cases h1 : b < 0
  ·simp only [if_pos h1]
   rw [if_neg (fun k => by have := isN_iff.1 k.1; omega)]
   exact Ev.now _
  ·by_cases h2 : b ≥ (l.length : Int)
   ·simp only [if_neg h1, if_pos h2]
    rw [if_neg (fun k => by have := isN_iff.1 k.1; omega)]
    exact Ev.now _
   ·have hb := isN_yes (n := l.length) (x := b) (by omega) (by omega)
    simp only [if_neg h1, if_neg h2, if_pos (show 0 ≤ b by omega), if_pos (show b < (l.length : Int) by omega)]
    by_cases h4 : rd l b = -2
    ·simp only [if_pos h4]
     rw [if_neg (fun k => k.2.1 h4)]
     exact Ev.now _
    ·simp only [if_neg h4]
     rw [if_pos ⟨hb, h4, h3⟩, ← sane_up h3 hb h4]
     exact Ev.bind (f := fun _ t => some t) (refup_ev l hl b) (Ev.now _)
 ·simp only [if_neg h3]
  rw [if_neg (fun k => h3 k.2.2)]
  exact Ev.now _
theorem refcommon_l0 (p q : List Int) (hp : p.length ≤ 9223372036854775806) (hq : q.length ≤ 9223372036854775807) : ∀ d i : Nat, i + d = p.length → Ev (fun k => bywashref14_Common.l0 k p q (i : Int)) (((p.drop i).find? fun x => decide (x ∈ q)).getD (-1))
 | 0, i, hd => by
  rw [List.drop_eq_nil_of_le (by omega)]
  exact Ev.step (f := fun _ => some (-1)) (fun k => by rw [bywashref14_Common.l0, if_neg (by omega)]) (Ev.now _)
 | d + 1, i, hd => by
  have hi : i < p.length := by omega
  rw [List.drop_eq_getElem_cons hi, List.find?_cons]
  refine Ev.step (f := fun k => (bywashref10_Has.f k q p[i]).bind fun t => if t = true then some p[i] else bywashref14_Common.l0 k p q ((i + 1 : Nat) : Int)) (fun k => by rw [bywashref14_Common.l0, if_pos (by omega), if_pos (by omega), rd_nat' hi, wrap_succ (by omega)]) ?_
  refine Ev.bind (has_ev q p[i] hq) ?_
  by_cases e : p[i] ∈ q
  ·simp only [decide_eq_true e, if_true, Option.getD_some]
   exact Ev.now _
  ·simp only [decide_eq_false e, Bool.false_eq_true, if_false]
   exact refcommon_l0 p q hp hq d (i + 1) (by omega)
theorem refcommon_ev (l : List Int) (hl : l.length ≤ 900) (a b : Int) : Ev (fun k => bywashref14_Common.f k l a b) (commonB l a b) := by
 have h1 := chainB_len l a
 have h2 := chainB_len l b
 have h := refcommon_l0 (chainB l a) (chainB l b) (by omega) (by omega) (chainB l a).length 0 (by omega)
 rw [List.drop_zero] at h
 exact Ev.bind (f := fun k t => (bywashref14_Chain.f k l b).bind fun u => bywashref14_Common.l0 k t u 0) (refchain_ev l hl a) (Ev.bind (f := fun k u => bywashref14_Common.l0 k (chainB l a) u 0) (refchain_ev l hl b) h)
end Go.Proofs.YtemcmcnhpdkdfaaGreat.P
namespace Go.Proofs.YtemcmcnhpdkdfaaGreat.P
open Go.RowKit Go.Shelf Go.Lib Go.Sort Go.Proofs.YtemcmcnhpdkdfaaGreatW.PrintWords Go.Proofs.YtemcmcnhpdkdfaaGreatW.PrintLast Go.Proofs.YtemcmcnhpdkdfaaGreatW.PrintMore
structure SolvU (w : World) (s n ga ca gd cd : Nat) (vg vp vo : Value) (at' d : List Int) : Prop where
 blk : w.heap[s]? = some (.cells #[vg, vp, vo, .slice (some ⟨ga, 0, none⟩) n ca, .slice (some ⟨gd, 0, none⟩) n cd] 72 (0, 0))
 at_ : ∀ i, i < n → w.cell? ⟨ga, i, none⟩ = some (.int .i64 (at'.getD i 0))
 d_ : ∀ i, i < n → w.cell? ⟨gd, i, none⟩ = some (.int .i64 (d.getD i 0))
theorem SolvU.drewN {w : World} {s n ga ca gd cd : Nat} {vg vp vo : Value} {at' d : List Int} (h : SolvU w s n ga ca gd cd vg vp vo at' d) (m : Nat) : SolvU (w.drewN m) s n ga ca gd cd vg vp vo at' d := ⟨h.blk, h.at_, h.d_⟩
theorem cells5 {w : World} {b t : Nat} {v0 v1 v2 v3 v4 : Value} (h : w.heap[b]? = some (.cells #[v0, v1, v2, v3, v4] t (0, 0))) : w.cell? ⟨b, 0, none⟩ = some v0 ∧ w.cell? ⟨b, 1, none⟩ = some v1 ∧ w.cell? ⟨b, 2, none⟩ = some v2 ∧ w.cell? ⟨b, 3, none⟩ = some v3 ∧ w.cell? ⟨b, 4, none⟩ = some v4 := by
 refine ⟨?_, ?_, ?_, ?_, ?_⟩ <;> simp [World.cell?, h]
set_option maxHeartbeats 8000000 in
set_option maxRecDepth 100000 in
theorem umeet_c {w : World} {s n ga ca gd cd : Nat} {vg vp vo : Value} {at' d : List Int} (h : SolvU w s n ga ca gd cd vg vp vo at' d) (k : Nat) (a b r : Int) (hr : meetO n at' d k a b = some r) :
  Calls Tryz.prog 76 #[.pointer (some ⟨s, 0, none⟩), .int .i64 a, .int .i64 b] w fun e w' => e = .returned (.int .i64 r) ∧ ∃ m, w' = w.drewN m := by
 have HA := Aside0.mk h.at_
 have HD := Aside0.mk h.d_
 obtain ⟨_, _, _, s2, s3⟩ := cells5 h.blk
 have H' := Aside0.mk hr
 clear h hr
 go_enter Tryz.func76, Tryz.ntmps76
 go_wp2
 go_loopg [1, 2] k (fun kq v1 v2 w' => ∃ x y : Int, v1 = .int .i64 x ∧ v2 = .int .i64 y ∧ Aside0 (meetO n at' d kq x y = some r) ∧ ∃ m, w' = w.drewN m)
 case atStart => exact ⟨a, b, rfl, rfl, H', 0, rfl⟩
 case round =>
  clear H'
  obtain ⟨x, y, rfl, rfl, HM, m, rfl⟩ := hrel
  cases gk with
  | zero => exact absurd HM.out (by simp [meetO])
  | succ k1 =>
   have H := HM.out
   rw [meetO] at H
   by_cases hxy : x = y
   ·rw [if_pos hxy] at H
    obtain rfl := Option.some.inj H
    subst hxy
    clear H
    go_wp2
    go_ret
    exact ⟨rfl, m, rfl⟩
   ·rw [if_neg hxy] at H
    obtain ⟨x', hx', H⟩ := Option.bind_eq_some_iff.1 H
    obtain ⟨y', hy', H⟩ := Option.bind_eq_some_iff.1 H
    have HX := Aside0.mk hx'
    have HY := Aside0.mk hy'
    have HZ := Aside0.mk H
    clear hx' hy' H
    go_wp2
    go_loopg [1] k1 (fun kq v w' => ∃ x1 : Int, v = .int .i64 x1 ∧ Aside0 (meetA n at' d kq x1 y = some x') ∧ ∃ m, w' = w.drewN m)
    case atStart => exact ⟨x, rfl, HX, m, rfl⟩
    case round =>
     clear HX
     obtain ⟨x1, rfl, HM1, m1, rfl⟩ := hrel
     cases gk with
     | zero => exact absurd HM1.out (by simp [meetA])
     | succ k2 =>
      have H := HM1.out
      rw [meetA] at H
      by_cases hin : isN n x1 = true ∧ isN n y = true
      ·rw [if_pos hin] at H
       have b1 := isN_iff.1 hin.1
       have b2 := isN_iff.1 hin.2
       obtain ⟨i, rfl⟩ : ∃ i : Nat, x1 = (i : Int) := ⟨x1.toNat, by omega⟩
       obtain ⟨j, rfl⟩ : ∃ j : Nat, y = (j : Int) := ⟨y.toNat, by omega⟩
       have hi : i < n := by omega
       have hj : j < n := by omega
       have ci := HA.out i hi
       have cj := HA.out j hj
       have di := HD.out i hi
       have ri : rd at' (i : Int) = at'.getD i 0 := by show at'.getD (Int.toNat (i : Int)) 0 = _; rw [Int.toNat_natCast]
       have rj : rd at' (j : Int) = at'.getD j 0 := by show at'.getD (Int.toNat (j : Int)) 0 = _; rw [Int.toNat_natCast]
       have rdi : rd d (i : Int) = d.getD i 0 := by show d.getD (Int.toNat (i : Int)) 0 = _; rw [Int.toNat_natCast]
       rw [ri, rj, rdi] at H
       obtain ⟨pi, epi⟩ : ∃ p, p = at'.getD i 0 := ⟨_, rfl⟩
       obtain ⟨pj, epj⟩ : ∃ p, p = at'.getD j 0 := ⟨_, rfl⟩
       obtain ⟨qi, eqi⟩ : ∃ q, q = d.getD i 0 := ⟨_, rfl⟩
       rw [← epi, ← epj, ← eqi] at H
       rw [← epi] at ci
       rw [← epj] at cj
       rw [← eqi] at di
       clear ri rj rdi epi epj eqi b1 b2 hin
       by_cases hlt : pj < pi
       ·rw [if_pos hlt] at H
        have HN := Aside0.mk H
        have c0 : decide (pj < pi) = true := decide_eq_true hlt
        clear H
        go_wp2
        go_quiet ((fail))
        go_wp2
        go_roundg k2
        case measure => omega
        case rel => exact ⟨qi, rfl, HN, _, rfl⟩
       ·rw [if_neg hlt] at H
        have c0 : decide (pj < pi) = false := decide_eq_false hlt
        obtain rfl := Option.some.inj H
        clear H hlt HM1
        go_wp2
        go_quiet ((fail))
        go_wp2
        clear c0 cj di hj ci
        go_loopg [2] k1 (fun kq v w' => ∃ y1 : Int, v = .int .i64 y1 ∧ Aside0 (meetA n at' d kq y1 (i : Int) = some y') ∧ ∃ m, w' = w.drewN m)
        case atStart => exact ⟨_, rfl, HY, _, World.drewN_drewN _ _ _⟩
        case round =>
         clear HY
         obtain ⟨y1, rfl, HM2, m2, rfl⟩ := hrel
         cases gk with
         | zero => exact absurd HM2.out (by simp [meetA])
         | succ k3 =>
          have H := HM2.out
          rw [meetA] at H
          by_cases hin : isN n y1 = true ∧ isN n (i : Int) = true
          ·rw [if_pos hin] at H
           have b1 := isN_iff.1 hin.1
           obtain ⟨l, rfl⟩ : ∃ l : Nat, y1 = (l : Int) := ⟨y1.toNat, by omega⟩
           have hl : l < n := by omega
           have cl := HA.out l hl
           have dl := HD.out l hl
           have ci := HA.out i hi
           have ri : rd at' (i : Int) = at'.getD i 0 := by show at'.getD (Int.toNat (i : Int)) 0 = _; rw [Int.toNat_natCast]
           have rl : rd at' (l : Int) = at'.getD l 0 := by show at'.getD (Int.toNat (l : Int)) 0 = _; rw [Int.toNat_natCast]
           have rdl : rd d (l : Int) = d.getD l 0 := by show d.getD (Int.toNat (l : Int)) 0 = _; rw [Int.toNat_natCast]
           rw [ri, rl, rdl] at H
           obtain ⟨p1, ep1⟩ : ∃ p, p = at'.getD i 0 := ⟨_, rfl⟩
           obtain ⟨pl, epl⟩ : ∃ p, p = at'.getD l 0 := ⟨_, rfl⟩
           obtain ⟨ql, eql⟩ : ∃ q, q = d.getD l 0 := ⟨_, rfl⟩
           rw [← ep1, ← epl, ← eql] at H
           rw [← ep1] at ci
           rw [← epl] at cl
           rw [← eql] at dl
           clear ri rl rdl ep1 epl eql b1 hin
           by_cases hlt : p1 < pl
           ·rw [if_pos hlt] at H
            have HN := Aside0.mk H
            have c0 : decide (p1 < pl) = true := decide_eq_true hlt
            clear H
            go_wp2
            go_quiet ((fail))
            go_wp2
            go_roundg k3
            case measure => omega
            case rel => exact ⟨ql, rfl, HN, _, rfl⟩
           ·rw [if_neg hlt] at H
            have c0 : decide (p1 < pl) = false := decide_eq_false hlt
            obtain rfl := Option.some.inj H
            clear H
            go_wp2
            go_quiet ((fail))
            go_wp2
            go_roundg k1
            case measure => omega
            case rel => exact ⟨(i : Int), (l : Int), rfl, rfl, HZ, _, World.drewN_drewN _ _ _⟩
          ·rw [if_neg hin] at H
           cases H
      ·rw [if_neg hin] at H
       cases H
set_option maxHeartbeats 8000000 in
set_option maxRecDepth 100000 in
theorem ustep_c {w : World} {s n ga ca gd cd gp cp : Nat} {vg vo : Value} {at' d : List Int} (h : SolvU w s n ga ca gd cd vg (.slice (some ⟨gp, 0, none⟩) n cp) vo at' d) {b : Nat} (hbn : b < n) {A : Option Addr} {c : Nat} {ps : List Int} (hrow : w.cell? ⟨gp, b, none⟩ = some (.slice A ps.length c)) (hC : dI.C w A ps.length ps) (hps : ps.length ≤ 1000000)
  (hfz : w.frozen? ⟨gd, b, none⟩ = false) (k : Nat) (z : Int) (hr : toF n at' d k ps (-3) = some z) :
  Calls Tryz.prog 50 #[.pointer (some ⟨s, 0, none⟩), .int .i64 b] w fun e w' => e = .returned (.bool (rd d b != z)) ∧ ∃ m, w' = (w.drewN m).setCell ⟨gd, b, none⟩ (.int .i64 z) := by
 have HS := Aside0.mk h
 have HC := Aside0.mk hC
 obtain ⟨_, s0, _, s2, s3⟩ := cells5 h.blk
 have hdb := h.d_ b hbn
 obtain ⟨db, edb⟩ : ∃ db, db = d.getD b 0 := ⟨_, rfl⟩
 have hrd : rd d (b : Int) = db := by rw [edb]; show d.getD (Int.toNat (b : Int)) 0 = _; rw [Int.toNat_natCast]
 rw [hrd]
 rw [← edb] at hdb
 obtain ⟨np, enp⟩ : ∃ np, np = ps.length := ⟨_, rfl⟩
 have HNP := Aside0.mk enp
 rw [← enp] at hrow hps
 have H' : Aside0 (toF n at' d k (ps.drop 0) (-3) = some z) := ⟨by rw [List.drop_zero]; exact hr⟩
 clear h hC hr edb hrd enp
 go_enter Tryz.func50, Tryz.ntmps50
 go_wp2
 go_loopw [5, 17] (fun v5 v17 w' => ∃ (i : Nat) (x : Int), i ≤ np ∧ v5 = .int .i64 x ∧ v17 = .int .i64 i ∧ Aside0 (toF n at' d k (ps.drop i) x = some z) ∧ ∃ m, w' = w.drewN m) (fun _ v _ => np - (intOf v).toNat)
 case atStart => exact ⟨0, -3, Nat.zero_le _, rfl, rfl, H', 0, rfl⟩
 case round =>
  clear H'
  obtain ⟨i, x, hi, rfl, rfl, HT, m, rfl⟩ := hrel
  by_cases hlt : i < np
  ·have hil : i < ps.length := by have := HNP.out; omega
   obtain ⟨bb, off, e, _, hc⟩ := C_ints HC.out (by omega)
   subst e
   have hx0 := hc i hil
   have H := HT.out
   rw [List.drop_eq_getElem_cons hil, toF] at H
   have ea : ps.getD i 0 = ps[i] := by rw [List.getD_eq_getElem?_getD, List.getElem?_eq_getElem hil]; rfl
   rw [ea] at hx0
   obtain ⟨a, eaa⟩ : ∃ a, a = ps[i] := ⟨_, rfl⟩
   rw [← eaa] at H hx0
   clear ea eaa hc
   by_cases hin : isN n a = true
   ·rw [if_pos hin] at H
    have b1 := isN_iff.1 hin
    obtain ⟨j, rfl⟩ : ∃ j : Nat, a = (j : Int) := ⟨a.toNat, by omega⟩
    have hj : j < n := by omega
    have dj := HS.out.d_ j hj
    have rdj : rd d (j : Int) = d.getD j 0 := by show d.getD (Int.toNat (j : Int)) 0 = _; rw [Int.toNat_natCast]
    rw [rdj] at H
    obtain ⟨q, eq⟩ : ∃ q, q = d.getD j 0 := ⟨_, rfl⟩
    rw [← eq] at H dj
    clear rdj eq b1 hin
    by_cases h3 : q = -3
    ·subst h3
     rw [if_pos (.inl rfl)] at H
     have HN := Aside0.mk H
     clear H
     go_wp2
     go_roundw
     case rel => exact ⟨i + 1, x, by omega, rfl, by go_num, HN, _, rfl⟩
     case measure => simp [intOf]; omega
    ·by_cases h2 : q = -2
     ·subst h2
      rw [if_pos (.inr rfl)] at H
      have HN := Aside0.mk H
      clear H
      go_wp2
      go_roundw
      case rel => exact ⟨i + 1, x, by omega, rfl, by go_num, HN, _, rfl⟩
      case measure => simp [intOf]; omega
     ·rw [if_neg (by omega)] at H
      have e3 : (q == -3) = false := by simpa using h3
      have e2 : (q == -2) = false := by simpa using h2
      by_cases hx : x = -3
      ·subst hx
       rw [if_pos rfl] at H
       have HN := Aside0.mk H
       clear H
       go_wp2
       go_roundw
       case rel => exact ⟨i + 1, (j : Int), by omega, rfl, by go_num, HN, _, rfl⟩
       case measure => simp [intOf]; omega
      ·rw [if_neg hx] at H
       obtain ⟨mm, hm, H⟩ := Option.bind_eq_some_iff.1 H
       have HN := Aside0.mk H
       have HMT := Aside0.mk (umeet_c (HS.out.drewN m) k x (j : Int) mm hm)
       have ex : (x == -3) = false := by simpa using hx
       clear H hm
       go_wp2_with (go_at_call 76; refine HMT.out.mono ?_; rintro e w3 ⟨rfl, m3, rfl⟩)
       go_roundw
       case rel => first | exact ⟨i + 1, mm, by omega, rfl, by go_num, HN, _, rfl⟩ | exact ⟨i + 1, mm, by omega, rfl, by go_num, HN, _, World.drewN_drewN _ _ _⟩
       case measure => simp [intOf]; omega
   ·rw [if_neg hin] at H
    cases H
  ·obtain rfl : i = np := by omega
   have H := HT.out
   rw [HNP.out, List.drop_length, toF] at H
   obtain rfl := Option.some.inj H
   clear H HT
   have hz : (w.drewN m).frozen? ⟨gd, b, none⟩ = false := hfz
   go_wp2
   go_ret
   exact ⟨rfl, m, rfl⟩
end Go.Proofs.YtemcmcnhpdkdfaaGreat.P
namespace Go.Proofs.YtemcmcnhpdkdfaaGreat.P
open Go.RowKit Go.Shelf Go.Lib Go.Sort Go.Proofs.YtemcmcnhpdkdfaaGreatW.PrintWords Go.Proofs.YtemcmcnhpdkdfaaGreatW.PrintLast Go.Proofs.YtemcmcnhpdkdfaaGreatW.PrintMore
def anewB (bel : List Int) (top b : Int) : Bool := decide (b ≠ top) && decide (b ∈ bel)
set_option maxHeartbeats 4000000 in
set_option maxRecDepth 100000 in
theorem anew_c (bel : List Int) (top b : Int) (W : World) (Bt Bb : Nat) (Ab : Option Addr) (cb : Nat) (h1 : W.cell? ⟨Bt, 0, none⟩ = some (.int .i64 top)) (h2 : W.cell? ⟨Bb, 0, none⟩ = some (.slice Ab bel.length cb)) (h3 : dI.C W Ab bel.length bel) (hc : bel.length ≤ cb) (hb : bel.length ≤ 1000000) :
  Calls Tryz.prog 52 #[.int .i64 b, .pointer (some ⟨Bt, 0, none⟩), .pointer (some ⟨Bb, 0, none⟩)] W fun e w' => e = .returned (.bool (anewB bel top b)) ∧ ∃ m, w' = W.drewN m := by
 obtain ⟨k, hk⟩ := contains_ev bel b (by omega)
 have HCT := Aside0.mk (slices_Contains_int_int.calls k Ab cb bel b _ W h3 hc (hk k (Nat.le_refl _)))
 obtain ⟨q, eq⟩ : ∃ q, q = decide (b ∈ bel) := ⟨_, rfl⟩
 unfold anewB
 rw [← eq] at HCT ⊢
 obtain ⟨nb, enb⟩ : ∃ nb, nb = bel.length := ⟨_, rfl⟩
 rw [← enb] at h2 HCT
 clear hk h3 hc hb enb eq
 by_cases hbt : b = top
 ·subst hbt
  have c1 : (b != b) = false := by simp
  have c2 : (b == b) = true := by simp
  have HR : Aside0 ((decide (b ≠ b) && q) = false) := ⟨by simp⟩
  rw [HR.out]
  clear HCT
  go_enter Tryz.func52, Tryz.ntmps52
  go_wp2
  go_ret
  exact ⟨rfl, 0, rfl⟩
 ·have c1 : (b != top) = true := by simpa using hbt
  have c2 : (b == top) = false := by simpa using hbt
  have HR : Aside0 ((decide (b ≠ top) && q) = q) := ⟨by simp [hbt]⟩
  rw [HR.out]
  clear hbt
  go_enter Tryz.func52, Tryz.ntmps52
  go_wp2_with (go_at_call 53; refine HCT.out.mono ?_; rintro e w3 ⟨rfl, m3, rfl⟩)
  go_ret
  exact ⟨rfl, m3, rfl⟩
def lostSo (L : Int → Bool) (d : List Int) : Nat → List Int
 | 0 => d
 | i + 1 => if L (i : Int) = true then (lostSo L d i).set i (-2) else lostSo L d i
def unkSo (L : Int → Bool) (o d : List Int) : Nat → List Int
 | 0 => d
 | k + 1 => if L (o.getD k 0) = true then (unkSo L o d k).set (o.getD k 0).toNat (-3) else unkSo L o d k
def leftSo (L : Int → Bool) (o : List Int) : Nat → List Int
 | 0 => []
 | k + 1 => if L (o.getD k 0) = true then leftSo L o k ++ [o.getD k 0] else leftSo L o k
theorem leftSo_take (L : Int → Bool) (o : List Int) : ∀ k, k ≤ o.length → leftSo L o k = (o.take k).filter L
 | 0, _ => by simp [leftSo]
 | k + 1, hk => by
  have e : o.getD k 0 = o[k] := by rw [List.getD_eq_getElem?_getD, List.getElem?_eq_getElem (by omega)]; rfl
  rw [leftSo, e, leftSo_take L o k (by omega), List.take_succ_eq_append_getElem (by omega), List.filter_append]
  split
  ·rename_i h; rw [List.filter_cons_of_pos h, List.filter_nil]
  ·rename_i h; rw [List.filter_cons_of_neg h, List.filter_nil, List.append_nil]
theorem leftSo_all (L : Int → Bool) (o : List Int) : leftSo L o o.length = o.filter L := by rw [leftSo_take L o _ (Nat.le_refl _), List.take_length]
theorem leftSo_len (L : Int → Bool) (o : List Int) (k : Nat) (hk : k ≤ o.length) : (leftSo L o k).length ≤ k := by
 rw [leftSo_take L o k hk]
 refine Nat.le_trans (List.length_filter_le _ _) ?_
 rw [List.length_take]
 exact Nat.min_le_left ..
structure IdU (w W : World) (s n ga gd cd : Nat) (vg vp vo : Value) (pre : List (List Int)) (ord at' d : List Int) : Prop where
 bel : Below w.heap.size w W
 base : w.heap.size ≤ s ∧ w.heap.size ≤ ga ∧ w.heap.size ≤ gd
 ne : s ≠ ga ∧ s ≠ gd ∧ ga ≠ gd
 blk : W.heap[s]? = some (.cells #[vg, vp, vo, .slice (some ⟨ga, 0, none⟩) n n, .slice (some ⟨gd, 0, none⟩) n cd] 72 (0, 0))
 rat : dI.R 3 W w.heap.size (fun k => k = ga) (.slice (some ⟨ga, 0, none⟩) n n) at'
 rd_ : dI.R 3 W w.heap.size (fun k => k = gd) (.slice (some ⟨gd, 0, none⟩) n cd) d
 po : dI.R 3 W w.heap.size (fun k => k ≠ s ∧ k ≠ ga ∧ k ≠ gd) vo ord
 pp : Kd.S dG 23 W w.heap.size (fun k => k ≠ s ∧ k ≠ ga ∧ k ≠ gd) vp pre
theorem IdU_make {w wT wO wR WT WO WR W : World} {s n ga gd cd : Nat} {vg vT vO : Value} {pre : List (List Int)} {ord l : List Int} (hll : l.length = n)
  (hoT : Kd.S dG 23 wT WT.heap.size (fun _ => True) vT pre) (hbT : Below WT.heap.size WT wT) (hxT : Below wT.heap.size wT W)
  (hoO : dI.R 3 wO WO.heap.size (fun _ => True) vO ord) (hbO : Below WO.heap.size WO wO) (hxO : Below wO.heap.size wO W)
  (hoR : dI.R 3 wR WR.heap.size (fun _ => True) (.slice (some ⟨gd, 0, none⟩) n cd) l) (hbR : Below WR.heap.size WR wR) (hxR : Below wR.heap.size wR W)
  (hS : W.heap[s]? = some (.cells #[vg, vT, vO, .slice (some ⟨ga, 0, none⟩) n n, .slice (some ⟨gd, 0, none⟩) n cd] 72 (0, 0)))
  (hM : W.heap[ga]? = some (.cells (madeCells #[.int .i64 0] n) 3 (0, 0)))
  (hb : Below w.heap.size w W) (hn0 : 0 < n) (hn : n ≤ 100000)
  (h : w.heap.size ≤ WT.heap.size ∧ wT.heap.size ≤ WO.heap.size ∧ wO.heap.size ≤ WR.heap.size ∧ wR.heap.size ≤ s ∧ ga < s ∧ w.heap.size ≤ ga ∧ (ga < WT.heap.size ∨ wT.heap.size ≤ ga) ∧ (ga < WO.heap.size ∨ wO.heap.size ≤ ga) ∧ (ga < WR.heap.size ∨ wR.heap.size ≤ ga)) :
  IdU w W s n ga gd cd vg vT vO pre ord (List.replicate n 0) l := by
 have s1 := hbT.size
 have s2 := hbO.size
 have s3 := hbR.size
 obtain ⟨g', c', e, hg1, hg2, _⟩ := Kd.R_form hoR (by rw [hll]; exact hn0)
 injection e with e _ _
 injection e with e
 injection e with e _ _
 subst e
 refine ⟨hb, ⟨by omega, by omega, by omega⟩, ⟨by omega, by omega, by omega⟩, hS, ?_, ?_, ?_, ?_⟩
 ·refine ints_R ⟨by simp, .inr ⟨ga, n, _, by simp, by omega, hM, by simp, by unfold maxLen; simp; omega, by simp [size_madeCells], by simp [toList_madeCells_one]⟩⟩ (fun k hk => ?_)
  simp only [Value.ownBlock] at hk
  exact (Option.some.inj hk).symm
 ·refine Kd.R_lower (Kd.R_mono (Kd.R_tight rfl (Kd.R_below hoR hxR)) (fun k hk => ?_)) (by omega)
  simp only [Value.ownBlock] at hk
  exact Option.some.inj hk
 ·exact Kd.R_lower (Kd.R_mono (Kd.R_below (Kd.R_bound hoO) hxO) (fun k hk => by have h1 := hk.2.1; have h2 := hk.2.2.1; omega)) (by omega)
 ·exact Kd.S_lower (Kd.S_mono (Kd.S_below (Kd.S_bound hoT) hxT) (fun k hk => by have h1 := hk.2.1; have h2 := hk.2.2.1; omega)) (by omega)
structure UdS (w W : World) (s n ga gd gf cd : Nat) (vg vp vo : Value) (pre : List (List Int)) (ord at' d : List Int) : Prop where
 bel : Below w.heap.size w W
 base : w.heap.size ≤ s ∧ w.heap.size ≤ ga ∧ w.heap.size ≤ gd ∧ w.heap.size ≤ gf
 ne : s ≠ ga ∧ s ≠ gd ∧ ga ≠ gd
 lt : s < gf ∧ ga < gf ∧ gd < gf ∧ gf < W.heap.size
 blk : W.heap[s]? = some (.cells #[vg, vp, vo, .slice (some ⟨ga, 0, none⟩) n n, .slice (some ⟨gd, 0, none⟩) n cd] 72 (0, 0))
 rat : dI.R 3 W w.heap.size (fun k => k = ga) (.slice (some ⟨ga, 0, none⟩) n n) at'
 rd_ : dI.R 3 W w.heap.size (fun k => k = gd) (.slice (some ⟨gd, 0, none⟩) n cd) d
 po : dI.R 3 W w.heap.size (fun k => k ≠ s ∧ k ≠ ga ∧ k ≠ gd ∧ k < gf) vo ord
 pp : Kd.S dG 23 W w.heap.size (fun k => k ≠ s ∧ k ≠ ga ∧ k ≠ gd ∧ k < gf) vp pre
 fnd : ∃ cur : Array Value, W.heap[gf]? = some (.cells cur 4 (0, 0)) ∧ cur.size = n
theorem IdU.found {w W : World} {s n ga gd cd : Nat} {vg vp vo : Value} {pre : List (List Int)} {ord at' d : List Int} (h : IdU w W s n ga gd cd vg vp vo pre ord at' d) (cur : Array Value) (hc : cur.size = n) : UdS w (W.alloc (.cells cur 4)) s n ga gd W.heap.size cd vg vp vo pre ord at' d := by
 have hs : s < W.heap.size := by
  by_cases hk : s < W.heap.size
  ·exact hk
  ·have := h.blk
   rw [Array.getElem?_eq_none (by omega)] at this
   cases this
 have ha := Kd.R_lt h.rat ga rfl
 have hd := Kd.R_lt h.rd_ gd rfl
 have hb : Below W.heap.size W (W.alloc (.cells cur 4)) := below_alloc (Below.refl _ _) _
 refine ⟨below_alloc h.bel _, ⟨h.base.1, h.base.2.1, h.base.2.2, h.bel.size⟩, h.ne, ⟨hs, ha, hd, by rw [size_alloc1]; omega⟩, (heap_bel h.blk hb), Kd.R_below h.rat hb, Kd.R_below h.rd_ hb, ?_, ?_, cur, heap_new W _ _ rfl, hc⟩
 ·exact Kd.R_mono (Kd.R_below (Kd.R_bound h.po) hb) (fun k hk => ⟨hk.1.1, hk.1.2.1, hk.1.2.2, hk.2.2.1⟩)
 ·exact Kd.S_mono (Kd.S_below (Kd.S_bound h.pp) hb) (fun k hk => ⟨hk.1.1, hk.1.2.1, hk.1.2.2, hk.2.2.1⟩)
section
variable {w W : World} {s n ga gd gf cd : Nat} {vg vp vo : Value} {pre : List (List Int)} {ord at' d : List Int}
theorem UdS.drewN (h : UdS w W s n ga gd gf cd vg vp vo pre ord at' d) (m : Nat) : UdS w (W.drewN m) s n ga gd gf cd vg vp vo pre ord at' d :=
 ⟨pw_below_drewN h.bel m, h.base, h.ne, h.lt, h.blk, Kd.R_move h.rat (fun _ _ => rfl), Kd.R_move h.rd_ (fun _ _ => rfl), Kd.R_move h.po (fun _ _ => rfl), Kd.S_step (ok := _) (Kd.S_bound h.pp |> fun h => Kd.S_mono h (fun _ hk => hk.1)) (fun _ _ _ => rfl), h.fnd⟩
theorem UdS.solv (h : UdS w W s n ga gd gf cd vg vp vo pre ord at' d) : SolvU W s n ga n gd cd vg vp vo at' d :=
 ⟨h.blk, fun i hi => (R_int_cell h.rat i hi).1, fun i hi => (R_int_cell h.rd_ i hi).1⟩
theorem size_setCell1 (W : World) (p : Addr) (v : Value) : (W.setCell p v).heap.size = W.heap.size := by
 cases p; simp [World.setCell]
theorem UdS.setAt (h : UdS w W s n ga gd gf cd vg vp vo pre ord at' d) (i : Nat) (x : Int) : UdS w (W.setCell ⟨ga, i, none⟩ (.int .i64 x)) s n ga gd gf cd vg vp vo pre ord (at'.set i x) d := by
 have hne := h.ne
 have hlt := h.lt
 have hm : ∀ k, k ≠ ga → (W.setCell ⟨ga, i, none⟩ (.int .i64 x)).heap[k]? = W.heap[k]? := fun k hk => Below.heap_setCell _ _ _ _ hk
 refine ⟨h.bel.setCell h.base.2.1 _, h.base, h.ne, ⟨hlt.1, hlt.2.1, hlt.2.2.1, by rw [size_setCell1]; exact hlt.2.2.2⟩, (hm s hne.1).trans h.blk, ?_, Kd.R_move h.rd_ (fun k hk => hm k (by rw [hk]; exact fun e => hne.2.2 e.symm)), Kd.R_move h.po (fun k hk => hm k hk.2.1), Kd.S_step h.pp (fun k hk _ => hm k hk.2.1), ?_⟩
 ·have := Kd.R_putn h.rat (i : Int) x
  rw [Int.toNat_natCast] at this
  exact this
 ·obtain ⟨cur, h1, h2⟩ := h.fnd
  exact ⟨cur, (hm gf (by omega)).trans h1, h2⟩
theorem UdS.setD (h : UdS w W s n ga gd gf cd vg vp vo pre ord at' d) (i : Nat) (x : Int) : UdS w (W.setCell ⟨gd, i, none⟩ (.int .i64 x)) s n ga gd gf cd vg vp vo pre ord at' (d.set i x) := by
 have hne := h.ne
 have hlt := h.lt
 have hm : ∀ k, k ≠ gd → (W.setCell ⟨gd, i, none⟩ (.int .i64 x)).heap[k]? = W.heap[k]? := fun k hk => Below.heap_setCell _ _ _ _ hk
 refine ⟨h.bel.setCell h.base.2.2.1 _, h.base, h.ne, ⟨hlt.1, hlt.2.1, hlt.2.2.1, by rw [size_setCell1]; exact hlt.2.2.2⟩, (hm s hne.2.1).trans h.blk, Kd.R_move h.rat (fun k hk => hm k (by rw [hk]; exact hne.2.2)), ?_, Kd.R_move h.po (fun k hk => hm k hk.2.2.1), Kd.S_step h.pp (fun k hk _ => hm k hk.2.2.1), ?_⟩
 ·have := Kd.R_putn h.rd_ (i : Int) x
  rw [Int.toNat_natCast] at this
  exact this
 ·obtain ⟨cur, h1, h2⟩ := h.fnd
  exact ⟨cur, (hm gf (by omega)).trans h1, h2⟩
theorem UdS.setF (h : UdS w W s n ga gd gf cd vg vp vo pre ord at' d) (i : Nat) (v : Value) : UdS w (W.setCell ⟨gf, i, none⟩ v) s n ga gd gf cd vg vp vo pre ord at' d := by
 have hlt := h.lt
 have hm : ∀ k, k ≠ gf → (W.setCell ⟨gf, i, none⟩ v).heap[k]? = W.heap[k]? := fun k hk => Below.heap_setCell _ _ _ _ hk
 obtain ⟨cur, h1, h2⟩ := h.fnd
 obtain ⟨cur', h3, h4⟩ := (show ∃ cur', (W.setCell ⟨gf, i, none⟩ v).heap[gf]? = some (.cells cur' 4 (0, 0)) ∧ cur'.size = cur.size by
  simp only [World.setCell, Array.getElem?_modify, if_true, h1]
  exact ⟨_, rfl, by simp⟩)
 exact ⟨h.bel.setCell h.base.2.2.2 _, h.base, h.ne, ⟨hlt.1, hlt.2.1, hlt.2.2.1, by rw [size_setCell1]; exact hlt.2.2.2⟩, (hm s (by omega)).trans h.blk, Kd.R_move h.rat (fun k hk => hm k (by rw [hk]; omega)), Kd.R_move h.rd_ (fun k hk => hm k (by rw [hk]; omega)), Kd.R_move h.po (fun k hk => hm k (by omega)), Kd.S_step h.pp (fun k hk _ => hm k (by omega)), cur', h3, h4.trans h2⟩
theorem UdS.fcell (h : UdS w W s n ga gd gf cd vg vp vo pre ord at' d) {i : Nat} (hi : i < n) : (∃ v, W.cell? ⟨gf, i, none⟩ = some v) ∧ W.frozen? ⟨gf, i, none⟩ = false := by
 obtain ⟨cur, h1, h2⟩ := h.fnd
 refine ⟨⟨cur[i]'(by omega), by simp [World.cell?, h1, show i < cur.size by omega]⟩, by simp [World.frozen?, h1]⟩
theorem UdS.grown {w1 : World} {ob : Option Nat} (h : UdS w W s n ga gd gf cd vg vp vo pre ord at' d) (hg : W.grownBy w1 ob) (hob : ∀ k, ob = some k → gf < k) : UdS w w1 s n ga gd gf cd vg vp vo pre ord at' d := by
 have hlt := h.lt
 have hba := h.base
 have hm : ∀ k, k ≤ gf → w1.heap[k]? = W.heap[k]? := fun k hk => hg.block k (by omega) (fun e => by have := hob k e.symm; omega)
 have hb := h.bel.grown hg h.bel.size (fun k e => by have := hob k e; omega)
 obtain ⟨cur, h1, h2⟩ := h.fnd
 have hsz : gf < w1.heap.size := by
  have h3 := hm gf (Nat.le_refl _)
  rw [h1] at h3
  by_cases hk : gf < w1.heap.size
  ·exact hk
  ·rw [Array.getElem?_eq_none (by omega)] at h3
   cases h3
 exact ⟨hb, h.base, h.ne, ⟨hlt.1, hlt.2.1, hlt.2.2.1, hsz⟩, (hm s (by omega)).trans h.blk, Kd.R_move h.rat (fun k hk => hm k (by rw [hk]; omega)), Kd.R_move h.rd_ (fun k hk => hm k (by rw [hk]; omega)), Kd.R_move h.po (fun k hk => hm k (by omega)), Kd.S_step h.pp (fun k hk _ => hm k (by omega)), cur, (hm gf (Nat.le_refl _)).trans h1, h2⟩
end
end Go.Proofs.YtemcmcnhpdkdfaaGreat.P
namespace Go.Proofs.YtemcmcnhpdkdfaaGreat.P
open Go.RowKit Go.Shelf Go.Lib Go.Sort Go.Proofs.YtemcmcnhpdkdfaaGreatW.PrintWords Go.Proofs.YtemcmcnhpdkdfaaGreatW.PrintLast Go.Proofs.YtemcmcnhpdkdfaaGreatW.PrintMore
set_option maxHeartbeats 8000000 in
set_option maxRecDepth 100000 in
theorem solve_c (A0 : Option Addr) (c0 : Nat) (l0 : List (List Int)) (Al : Option Addr) (cl : Nat) (l : List Int) (bel : List Int) (top : Int) (Bt Bb : Nat) (Ab : Option Addr) (cb : Nat) (k : Nat) (o dfin : List Int) (w : World)
  (hr0 : Kd.C (Kd.slice 3 (Kd.int .i64)) w A0 l0.length l0) (hc0 : l0.length ≤ c0) (hf : fits l0 = true) (hn0 : 0 < l0.length) (ho : graph_Order.f l0 0 = some o) (hon : ∀ x ∈ o, 0 ≤ x ∧ x < (l0.length : Int)) (hol : o.length ≤ l0.length) (ho0 : 0 < o.length)
  (hl : dI.C w Al l.length l) (hll : l.length = l0.length)
  (h1 : w.cell? ⟨Bt, 0, none⟩ = some (.int .i64 top)) (h2 : w.cell? ⟨Bb, 0, none⟩ = some (.slice Ab bel.length cb)) (h3 : dI.C w Ab bel.length bel) (hcb : bel.length ≤ cb) (hbb : bel.length ≤ 1000000)
  (hit : itF l0.length (atSo o l0.length o.length) (turn (clean l0)) (leftSo (anewB bel top) o o.length) k (unkSo (anewB bel top) o (lostSo (anewB bel top) l l0.length) o.length) = some dfin) :
  Calls Tryz.prog 27 #[.slice A0 l0.length c0, .slice Al l.length cl, .func (.func 52) #[] #[.pointer (some ⟨Bt, 0, none⟩), .pointer (some ⟨Bb, 0, none⟩)]] w fun e w' => ∃ v0_ : Value, e = .returned v0_ ∧ dI.R 3 w' w.heap.size (fun _ => True) v0_ dfin ∧ Below w.heap.size w w' := by
 have HT := Aside0.mk (fun W (hW : Below w.heap.size w W) => graph_Turn.calls A0 c0 l0 (turn (clean l0)) W (Kd.C_below hr0 hW) hc0 (by unfold graph_Turn.f; rw [if_pos hf]))
 have HO := Aside0.mk (fun W (hW : Below w.heap.size w W) => graph_Order.calls A0 c0 l0 0 o W (Kd.C_below hr0 hW) hc0 ho)
 have hn : l0.length ≤ 100000 := by
  have := hf
  unfold fits at this
  simp at this
  exact this.1
 have HR := Aside0.mk (fun W (hW : Below w.heap.size w W) => clone_c Al cl l W (Kd.C_below hl hW) (by omega))
 have HNW := Aside0.mk (fun W (hW : Below w.heap.size w W) (b : Int) => anew_c bel top b W Bt Bb Ab cb (cell_bel hW h1) (cell_bel hW h2) (Kd.C_below h3 hW) hcb hbb)
 obtain ⟨L, eL⟩ : ∃ L, L = anewB bel top := ⟨_, rfl⟩
 rw [← eL] at hit HNW
 obtain ⟨n, en⟩ : ∃ n, n = l0.length := ⟨_, rfl⟩
 rw [hll] at HR ⊢
 rw [← en] at HT HO HR hn hn0 hon hol hit hll ⊢
 have HIT := Aside0.mk hit
 have HON := Aside0.mk hon
 have HPR := Aside0.mk (pre_rows hf)
 have HPL : Aside0 ((turn (clean l0)).length = n) := ⟨by rw [turn_len, clean_len, en]⟩
 have HLL := Aside0.mk hll
 have hne0 : ((n : Int) == 0) = false := beq_eq_false_iff_ne.2 (by omega)
 have hmk := run_make_row' (P := Tryz.prog) 23 3 (.int .i64 0) 8 Tryz.underlying23 info3 rfl .i64 .i64 n (by omega) (by omega)
 have hmk2 := run_make_row' (P := Tryz.prog) 56 4 (.bool false) 1 Tryz.underlying56 info4 rfl .i64 .i64 n (by omega) (by omega)
 obtain ⟨m, em⟩ : ∃ m, m = o.length := ⟨_, rfl⟩
 rw [← em] at hol HIT ho0
 have HEM := Aside0.mk em
 clear hr0 hc0 hf ho en hon hit hl hll h1 h2 h3 hcb hbb eL em
 go_enter Tryz.func27, Tryz.ntmps27
 go_upto_region 1 with (fail)
 go_cut [7] from 18 to 29 (fun v7 wx => ∃ s ga gd cd vp vo, v7 = .pointer (some ⟨s, 0, none⟩) ∧ Aside0 (IdU w wx s n ga gd cd (.slice A0 n c0) vp vo (turn (clean l0)) o (List.replicate n 0) l))
 case first =>
  go_region_with (first
   | (go_at_call 46; refine bel_call (HT.out _) (by repeat (first | exact Below.refl _ _ | apply pw_below_drewN | apply below_drew1 | apply below_drew | apply below_alloc)) ?_; rintro e wT ⟨vT, rfl, hoT, hbT⟩ hW; obtain ⟨AT, cT, rfl, _⟩ := Kd.S_reads hoT; have HOT := Aside0.mk hoT; have HBc := Aside0.mk (bel_next hW hbT); have HBT := Aside0.mk hbT; clear hoT hbT hW)
   | (go_at_call 47; refine bel_call (HO.out _) (by repeat (first | exact Below.refl _ _ | exact HBc.out | apply pw_below_drewN | apply below_drew1 | apply below_drew | apply below_alloc)) ?_; rintro e wO ⟨vO, rfl, hoO, hbO⟩ hW; obtain ⟨AO, cO, rfl, _⟩ := Kd.R_reads hoO; have HOO := Aside0.mk hoO; have HBc := Aside0.mk (bel_next hW hbO); have HBO := Aside0.mk hbO; clear hoO hbO hW)
   | (go_at_call 24; refine bel_call (HR.out _) (by repeat (first | exact Below.refl _ _ | exact HBc.out | apply pw_below_drewN | apply below_drew1 | apply below_drew | apply below_alloc)) ?_; rintro e wR ⟨vR, rfl, hoR, hbR⟩ hW; obtain ⟨gd, cd, rfl, hgd, hgd2, _⟩ := Kd.R_form hoR (by rw [HLL.out]; exact hn0); rw [HLL.out] at hoR ⊢; have HOR := Aside0.mk hoR; have HBc := Aside0.mk (bel_next hW hbR); have HBR := Aside0.mk hbR; clear hoR hbR hW))
  all_goals (go_wp2_with (fail))
  all_goals go_meet
  all_goals exact ⟨_, _, _, _, _, _, rfl, ⟨IdU_make HLL.out HOT.out HBT.out (by repeat (first | with_reducible exact Below.refl _ _ | apply below_alloc | apply pw_below_drewN | refine bel_next ?_ HBR.out | refine bel_next ?_ HBO.out | refine bel_next ?_ HBT.out)) HOO.out HBO.out (by repeat (first | with_reducible exact Below.refl _ _ | apply below_alloc | apply pw_below_drewN | refine bel_next ?_ HBR.out | refine bel_next ?_ HBO.out | refine bel_next ?_ HBT.out)) HOR.out HBR.out (by repeat (first | with_reducible exact Below.refl _ _ | apply below_alloc | apply pw_below_drewN | refine bel_next ?_ HBR.out | refine bel_next ?_ HBO.out | refine bel_next ?_ HBT.out)) (by repeat (first | exact heap_new _ _ _ (by simp) | apply heap_old | refine heap_bel ?_ HBR.out | refine heap_bel ?_ HBO.out | refine heap_bel ?_ HBT.out)) (by repeat (first | exact heap_new _ _ _ (by simp) | apply heap_old | refine heap_bel ?_ HBR.out | refine heap_bel ?_ HBO.out | refine heap_bel ?_ HBT.out)) (by repeat (first | with_reducible exact Below.refl _ _ | apply below_alloc | apply pw_below_drewN | refine bel_next ?_ HBR.out | refine bel_next ?_ HBO.out | refine bel_next ?_ HBT.out)) hn0 hn (by have h1 := HBT.out.size; have h2 := HBO.out.size; have h3 := HBR.out.size; simp only [size_alloc1, size_drew1] at h1 h2 h3 ⊢; omega)⟩⟩
 case rest =>
  obtain ⟨s, ga, gd, cd, vp, vo, rfl, HS⟩ := hcut
  rw [HEM.out] at ho0
  obtain ⟨go, co, rfl, _, _, _⟩ := Kd.R_form HS.out.po ho0
  rw [← HEM.out] at HS ho0
  clear HT HO HR hmk
  go_upto_region 3 with (fail)
  have HS1 : Aside0 (UdS w (wc.alloc (.cells (madeCells #[.bool false] n) 4)) s n ga gd wc.heap.size cd (.slice A0 n c0) vp (.slice (some ⟨go, 0, none⟩) m co) (turn (clean l0)) o (atSo o n 0) l) := ⟨HS.out.found _ (by simp [size_madeCells])⟩
  obtain ⟨W1, hW1⟩ : ∃ W1, W1 = wc.alloc (.cells (madeCells #[.bool false] n) 4) := ⟨_, rfl⟩
  obtain ⟨gf, egf⟩ : ∃ gf, gf = wc.heap.size := ⟨_, rfl⟩
  rw [← hW1, ← egf] at HS1
  rw [← hW1, ← egf]
  clear hW1 egf hmk2 HS
  obtain ⟨z0, z1, z2, z3, z4⟩ := cells5 HS1.out.blk
  clear z0 z1 z3 z4
  go_wp2
  go_loopw [38] (fun v38 w' => ∃ i : Nat, i ≤ m ∧ v38 = .int .i64 i ∧ Aside0 (UdS w w' s n ga gd gf cd (.slice A0 n c0) vp (.slice (some ⟨go, 0, none⟩) m co) (turn (clean l0)) o (atSo o n i) l)) (fun v38 _ => m - (intOf v38).toNat)
  case atStart => exact ⟨0, Nat.zero_le _, rfl, HS1⟩
  case round =>
   clear HS1 z2
   obtain ⟨i, hi, rfl, HI⟩ := hrel
   by_cases hlt : i < m
   ·obtain ⟨b, eb⟩ : ∃ b, b = o.getD i 0 := ⟨_, rfl⟩
    have hb : 0 ≤ b ∧ b < (n : Int) := by
     have hil : i < o.length := by have := HEM.out; omega
     have := HON.out (o.getD i 0) (by rw [List.getD_eq_getElem?_getD, List.getElem?_eq_getElem hil]; exact List.getElem_mem hil)
     rw [← eb] at this
     exact this
    obtain ⟨x, rfl⟩ : ∃ x : Nat, b = (x : Int) := ⟨b.toNat, by omega⟩
    have hx : x < n := by omega
    have co_ := (R_int_cell HI.out.po i hlt).1
    rw [← eb] at co_
    have HEB := Aside0.mk eb
    clear eb hb
    obtain ⟨z0, z1, z2, z3, z4⟩ := cells5 HI.out.blk
    have ca := HI.out.solv.at_ x hx
    have fa := (R_int_cell HI.out.rat x hx).2
    obtain ⟨⟨fv, cf⟩, ff⟩ := HI.out.fcell hx
    have hne1 : ga ≠ gf := by have := HI.out.lt; omega
    clear z0 z1 z2 z4
    go_wp2
    go_roundw
    case rel =>
     refine ⟨i + 1, by omega, by go_num, ⟨?_⟩⟩
     rw [atSo, ← HEB.out, Int.toNat_natCast]
     exact (HI.out.setAt x (i : Int)).setF x _
    case measure => simp [intOf]; omega
   ·obtain rfl : i = m := by omega
    obtain ⟨at', eat⟩ : ∃ at', at' = atSo o n i := ⟨_, rfl⟩
    rw [← eat] at HI HIT
    clear eat
    go_wp2
    go_loopw [56] (fun v56 w' => ∃ j : Nat, j ≤ n ∧ v56 = .int .i64 j ∧ Aside0 (UdS w w' s n ga gd gf cd (.slice A0 n c0) vp (.slice (some ⟨go, 0, none⟩) i co) (turn (clean l0)) o at' (lostSo L l j))) (fun v56 _ => n - (intOf v56).toNat)
    case atStart => exact ⟨0, Nat.zero_le _, rfl, HI⟩
    case round =>
     clear HI
     obtain ⟨j, hj, rfl, HI⟩ := hrel
     by_cases hjn : j < n
     ·obtain ⟨q, eq⟩ : ∃ q, q = L (j : Int) := ⟨_, rfl⟩
      have HQ := Aside0.mk (HNW.out wr HI.out.bel (j : Int))
      rw [← eq] at HQ
      obtain ⟨z0, z1, z2, z3, z4⟩ := cells5 HI.out.blk
      have cd_ := HI.out.solv.d_ j hjn
      have fd := (R_int_cell HI.out.rd_ j hjn).2
      have HEQ := Aside0.mk eq
      clear z0 z1 z2 z3 eq
      cases q with
      | true =>
       go_wp2_with (go_at_call 52; refine HQ.out.mono ?_; rintro e w2 ⟨rfl, m2, rfl⟩; have fz : (wr.drewN m2).frozen? ⟨gd, j, none⟩ = false := fd)
       go_roundw
       case rel =>
        refine ⟨j + 1, by omega, by go_num, ⟨?_⟩⟩
        rw [lostSo, if_pos HEQ.out.symm]
        exact (HI.out.drewN m2).setD j (-2)
       case measure => simp [intOf]; omega
      | false =>
       go_wp2_with (go_at_call 52; refine HQ.out.mono ?_; rintro e w2 ⟨rfl, m2, rfl⟩)
       go_roundw
       case rel =>
        refine ⟨j + 1, by omega, by go_num, ⟨?_⟩⟩
        rw [lostSo, if_neg (by rw [← HEQ.out]; decide)]
        exact HI.out.drewN m2
       case measure => simp [intOf]; omega
     ·obtain rfl : j = n := by omega
      obtain ⟨d1, ed1⟩ : ∃ d1, d1 = lostSo L l j := ⟨_, rfl⟩
      rw [← ed1] at HI HIT
      clear ed1
      obtain ⟨z0, z1, z2, z3, z4⟩ := cells5 HI.out.blk
      clear z0 z1 z3 z4
      go_wp2
      go_loopw [11, 74] (fun v11 v74 w' => ∃ p : Nat, p ≤ i ∧ v74 = .int .i64 p ∧ Aside0 (UdS w w' s j ga gd gf cd (.slice A0 j c0) vp (.slice (some ⟨go, 0, none⟩) i co) (turn (clean l0)) o at' (unkSo L o d1 p)) ∧ Aside0 (dI.R 3 w' w.heap.size (fun k => gf < k) v11 (leftSo L o p))) (fun _ v74 _ => i - (intOf v74).toNat)
      case atStart => exact ⟨0, Nat.zero_le _, rfl, HI, ⟨Kd.R_nil _ _ _ _ _⟩⟩
      case round =>
       clear HI z2
       obtain ⟨p, hp, rfl, HI, HR⟩ := hrel
       by_cases hlt2 : p < i
       ·obtain ⟨b, eb⟩ : ∃ b, b = o.getD p 0 := ⟨_, rfl⟩
        have hb : 0 ≤ b ∧ b < (j : Int) := by
         have hil : p < o.length := by have := HEM.out; omega
         have := HON.out (o.getD p 0) (by rw [List.getD_eq_getElem?_getD, List.getElem?_eq_getElem hil]; exact List.getElem_mem hil)
         rw [← eb] at this
         exact this
        obtain ⟨x, rfl⟩ : ∃ x : Nat, b = (x : Int) := ⟨b.toNat, by omega⟩
        have hx : x < j := by omega
        have co_ := (R_int_cell HI.out.po p hlt2).1
        rw [← eb] at co_
        have HEB := Aside0.mk eb
        clear eb hb
        obtain ⟨q, eq⟩ : ∃ q, q = L (x : Int) := ⟨_, rfl⟩
        have HQ := Aside0.mk (HNW.out wr HI.out.bel (x : Int))
        rw [← eq] at HQ
        obtain ⟨z0, z1, z2, z3, z4⟩ := cells5 HI.out.blk
        have cd_ := HI.out.solv.d_ x hx
        have fd := (R_int_cell HI.out.rd_ x hx).2
        have HEQ := Aside0.mk eq
        clear z0 z1 z2 z3 eq
        cases q with
        | true =>
         go_upto_region 20 with (go_at_call 52; refine HQ.out.mono ?_; rintro e w2 ⟨rfl, m2, rfl⟩; have fz : (wr.drewN m2).frozen? ⟨gd, x, none⟩ = false := fd)
         have HU3 : Aside0 (UdS w ((wr.drewN m2).setCell ⟨gd, x, none⟩ (.int .i64 (-3))) s j ga gd gf cd (.slice A0 j c0) vp (.slice (some ⟨go, 0, none⟩) i co) (turn (clean l0)) o at' (unkSo L o d1 (p + 1))) := ⟨by
          rw [unkSo, ← HEB.out, if_pos HEQ.out.symm, Int.toNat_natCast]
          exact (HI.out.drewN m2).setD x (-3)⟩
         have HR3 : Aside0 (dI.R 3 ((wr.drewN m2).setCell ⟨gd, x, none⟩ (.int .i64 (-3))) w.heap.size (fun k => gf < k) u11 (leftSo L o p)) := ⟨Kd.R_move (Kd.R_drewN HR.out m2) (fun k hk => Below.heap_setCell _ _ _ _ (by have := HI.out.lt; show k ≠ gd; omega))⟩
         have HL4 : Aside0 ((leftSo L o p).length ≤ 1000000) := ⟨by have := leftSo_len L o p (by have := HEM.out; omega); omega⟩
         obtain ⟨W3, hW3⟩ : ∃ W3, W3 = (wr.drewN m2).setCell ⟨gd, x, none⟩ (.int .i64 (-3)) := ⟨_, rfl⟩
         rw [← hW3] at HU3 HR3
         rw [← hW3]
         clear hW3 cd_ fd fz z4 co_ HI HR
         have HBw := Aside0.mk HU3.out.bel
         go_wp2_with (at_builtin; refine Kd.R_append (Kd.int .i64) (w0 := w) w.heap.size rfl (.tmp 87) (.tmp 89) 23 3 (.int .i64 0) 8 rfl Tryz.underlying23 info3 rfl (by decide) (by omega) u11 (leftSo L o p) (x : Int) [.int .i64 x] (fun k => gf < k) (fun _ => False) rfl rfl ?aP (fun _ hk => hk.elim) ?aF ?aO ?aB ?aS ?aL ?_; (case aP => exact rfl); (case aB => exact HBw.out); (case aF => exact (fun k hk => Nat.lt_of_lt_of_le HU3.out.lt.2.2.2 hk)); (case aO => exact HR3.out); (case aS => exact HBw.out.size); (case aL => have := HL4.out; omega); intro v8 w8 ho8 _ hg8 _; have HO8 := Aside0.mk ho8; have HI8 := Aside0.mk (HU3.out.grown hg8 (fun k e => HR3.out.1 k e)); clear ho8 hg8)
         go_roundw
         case rel => exact ⟨p + 1, by omega, by go_num, HI8, ⟨by rw [leftSo, ← HEB.out, if_pos HEQ.out.symm]; exact HO8.out⟩⟩
         case measure => simp [intOf]; omega
        | false =>
         go_wp2_with (go_at_call 52; refine HQ.out.mono ?_; rintro e w2 ⟨rfl, m2, rfl⟩)
         go_roundw
         case rel =>
          refine ⟨p + 1, by omega, by go_num, ⟨?_⟩, ⟨?_⟩⟩
          ·rw [unkSo, ← HEB.out, if_neg (by rw [← HEQ.out]; decide)]
           exact HI.out.drewN m2
          ·rw [leftSo, ← HEB.out, if_neg (by rw [← HEQ.out]; decide)]
           exact Kd.R_drewN HR.out m2
         case measure => simp [intOf]; omega
       ·obtain rfl : p = i := by omega
        have hfo : ∀ x ∈ leftSo L o p, 0 ≤ x ∧ x < (j : Int) := fun x hx => by
         rw [leftSo_take L o p (by have := HEM.out; omega)] at hx
         exact HON.out x (List.mem_of_mem_take (List.mem_filter.1 hx).1)
        have hfl := leftSo_len L o p (by have := HEM.out; omega)
        obtain ⟨lf, elf⟩ : ∃ lf, lf = leftSo L o p := ⟨_, rfl⟩
        obtain ⟨d2, ed2⟩ : ∃ d2, d2 = unkSo L o d1 p := ⟨_, rfl⟩
        rw [← elf] at HR HIT hfo hfl
        rw [← ed2] at HI HIT
        obtain ⟨pre, epre⟩ : ∃ pre, pre = turn (clean l0) := ⟨_, rfl⟩
        rw [← epre] at HI HIT HPR HPL
        have HFO := Aside0.mk hfo
        clear elf ed2 epre hfo HNW
        obtain ⟨gp, cp, e, _, _, _⟩ := Kd.S_form HI.out.pp (by rw [HPL.out]; exact hn0)
        rw [HPL.out] at e
        subst e
        obtain ⟨AL, cL, rfl⟩ := Kd.R_slice HR.out
        obtain ⟨ql, eql⟩ : ∃ ql, ql = lf.length := ⟨_, rfl⟩
        have HQL := Aside0.mk eql
        rw [← eql] at HR hfl
        rw [← eql]
        clear eql
        go_wp2
        go_loopg [15] k (fun kq v15 w' => ∃ (c : Bool) (d : List Int), v15 = .bool c ∧ Aside0 (UdS w w' s j ga gd gf cd (.slice A0 j c0) (.slice (some ⟨gp, 0, none⟩) j cp) (.slice (some ⟨go, 0, none⟩) p co) pre o at' d) ∧ Aside0 (dI.R 3 w' w.heap.size (fun k => gf < k) (.slice AL ql cL) lf) ∧ Aside0 ((c = true ∧ itF j at' pre lf kq d = some dfin) ∨ (c = false ∧ d = dfin)))
        case atStart => exact ⟨true, d2, rfl, HI, HR, ⟨.inl ⟨rfl, HIT.out⟩⟩⟩
        case round =>
         clear HI HIT HR
         obtain ⟨c, d, rfl, HI, HR, HC⟩ := hrel
         cases c with
         | false =>
          obtain rfl : d = dfin := by
           rcases HC.out with h | h
           ·exact absurd h.1 (by simp)
           ·exact h.2
          obtain ⟨z0, z1, z2, z3, z4⟩ := cells5 HI.out.blk
          clear z0 z1 z2 z3
          go_wp2
          go_ret
          exact ⟨_, rfl, Kd.R_mono HI.out.rd_ (fun _ _ => trivial), HI.out.bel⟩
         | true =>
          cases gk with
          | zero =>
           rcases HC.out with h | h
           ·rw [itF] at h
            exact absurd h.2 (by simp)
           ·exact absurd h.1 (by simp)
          | succ k1 =>
           obtain ⟨r, hr, hr2⟩ : ∃ r, passF j at' pre k1 (lf.drop 0) d false = some r ∧ (if r.2 = true then itF j at' pre lf k1 r.1 else some r.1) = some dfin := by
            rcases HC.out with h | h
            ·have h2 := h.2
             rw [itF] at h2
             rw [List.drop_zero]
             exact Option.bind_eq_some_iff.1 h2
            ·exact absurd h.1 (by simp)
           have HR1 := Aside0.mk hr
           have HR2 := Aside0.mk hr2
           clear hr hr2 HC
           go_wp2
           go_loopw [15, 95] (fun v15 v95 w' => ∃ (t : Nat) (ch : Bool) (d1 : List Int), v15 = .bool ch ∧ v95 = .int .i64 t ∧ t ≤ ql ∧ Aside0 (UdS w w' s j ga gd gf cd (.slice A0 j c0) (.slice (some ⟨gp, 0, none⟩) j cp) (.slice (some ⟨go, 0, none⟩) p co) pre o at' d1) ∧ Aside0 (dI.R 3 w' w.heap.size (fun k => gf < k) (.slice AL ql cL) lf) ∧ Aside0 (passF j at' pre k1 (lf.drop t) d1 ch = some r)) (fun _ v95 _ => ql - (intOf v95).toNat)
           case atStart => exact ⟨0, false, d, rfl, rfl, Nat.zero_le _, HI, HR, HR1⟩
           case round =>
            clear HI HR1 HR
            obtain ⟨t, ch, d1, rfl, rfl, ht, HI, HR, HP⟩ := hrel
            by_cases htl : t < ql
            ·have hil : t < lf.length := by have := HQL.out; omega
             obtain ⟨b, eb⟩ : ∃ b, b = lf.getD t 0 := ⟨_, rfl⟩
             have hbo : lf.getD t 0 = lf[t] := by rw [List.getD_eq_getElem?_getD, List.getElem?_eq_getElem hil]; rfl
             have hb : 0 ≤ b ∧ b < (j : Int) := by
              rw [eb, hbo]
              exact HFO.out _ (List.getElem_mem hil)
             have h := HP.out
             rw [List.drop_eq_getElem_cons hil, passF, ← hbo, ← eb] at h
             obtain ⟨z, hz, hrest⟩ := Option.bind_eq_some_iff.1 h
             clear h hbo
             obtain ⟨x, rfl⟩ : ∃ x : Nat, b = (x : Int) := ⟨b.toNat, by omega⟩
             have hx : x < j := by omega
             rw [Int.toNat_natCast] at hz hrest
             have hC2 := (Kd.R_reads' HR.out).2.2
             obtain ⟨bb, off, e, _, hc⟩ := C_ints hC2 (by omega)
             subst e
             have cl_ := hc t hil
             rw [← eb] at cl_
             clear eb hb hc hC2
             obtain ⟨q, eq⟩ : ∃ q, q = (rd d1 (x : Int) != z) := ⟨_, rfl⟩
             rw [← eq] at hrest
             have HPN := Aside0.mk hrest
             obtain ⟨ad, A', c', e, hrow, hlc, hC⟩ := C_row (Kd.S_reads' HI.out.pp).2.2 (i := x) (by rw [HPL.out]; exact hx)
             injection e with e
             subst e
             rw [Addr.add_lit, Nat.zero_add] at hrow
             have HST := Aside0.mk (ustep_c HI.out.solv hx hrow hC (HPR.out x) (R_int_cell HI.out.rd_ x hx).2 k1 z hz)
             rw [← eq] at HST
             have hne2 : ∀ k, gf < k → k ≠ gd := fun k hk => by have := HI.out.lt; omega
             have HN2 := Aside0.mk hne2
             clear hrest hz eq hrow hlc hC hne2
             cases q with
             | true =>
              go_wp2_with (go_at_call 50; refine HST.out.mono ?_; rintro e w3 ⟨rfl, m3, rfl⟩)
              go_roundw
              case rel => exact ⟨t + 1, true, d1.set x z, rfl, by go_num, by omega, ⟨(HI.out.drewN m3).setD x z⟩, ⟨Kd.R_move (Kd.R_drewN HR.out m3) (fun k hk => Below.heap_setCell _ _ _ _ (HN2.out k hk))⟩, ⟨HPN.out⟩⟩
              case measure => simp [intOf]; omega
             | false =>
              rw [Bool.false_or] at HPN
              go_wp2_with (go_at_call 50; refine HST.out.mono ?_; rintro e w3 ⟨rfl, m3, rfl⟩)
              go_roundw
              case rel => exact ⟨t + 1, ch, d1.set x z, rfl, by go_num, by omega, ⟨(HI.out.drewN m3).setD x z⟩, ⟨Kd.R_move (Kd.R_drewN HR.out m3) (fun k hk => Below.heap_setCell _ _ _ _ (HN2.out k hk))⟩, ⟨HPN.out⟩⟩
              case measure => simp [intOf]; omega
            ·obtain rfl : t = ql := by omega
             obtain ⟨d2, ch2⟩ := r
             have h := HP.out
             rw [List.drop_eq_nil_of_le (by have := HQL.out; omega), passF] at h
             have h2 := Option.some.inj h
             injection h2 with h3 h4
             have hfin : Aside0 ((ch = true ∧ itF j at' pre lf k1 d1 = some dfin) ∨ (ch = false ∧ d1 = dfin)) := ⟨by
              have h5 := HR2.out
              rw [← h3, ← h4] at h5
              cases ch with
              | true => exact .inl ⟨rfl, by simpa using h5⟩
              | false => exact .inr ⟨rfl, by simpa using h5⟩⟩
             clear h h3 h4 HP HR2
             go_wp2
             go_roundg k1
             case measure => omega
             case rel => exact ⟨ch, d1, rfl, HI, HR, hfin⟩
end Go.Proofs.YtemcmcnhpdkdfaaGreat.P
namespace Go.Proofs.YtemcmcnhpdkdfaaGreat.P
open Go.RowKit Go.Lib Go.Sort Go.Shelf Go.Proofs.YtemcmcnhpdkdfaaGreatW.PrintWords Go.Proofs.YtemcmcnhpdkdfaaGreatW.PrintLast Go.Proofs.YtemcmcnhpdkdfaaGreatW.PrintMore
theorem setCell_block {w : World} {g t : Nat} {cur : Array Value} (h : w.heap[g]? = some (.cells cur t (0, 0))) (b o : Nat) (u : Value) :
  ∃ cur', (w.setCell ⟨b, o, none⟩ u).heap[g]? = some (.cells cur' t (0, 0)) ∧ cur'.size = cur.size := by
 simp only [World.setCell, Array.getElem?_modify]
 by_cases e : b = g
 ·subst e
  rw [if_pos rfl, h]
  exact ⟨_, rfl, by simp⟩
 ·rw [if_neg e]
  exact ⟨cur, h, rfl⟩
theorem setCells_block {g t : Nat} (b : Nat) : ∀ (vs : List Value) (o : Nat) (w : World) (cur : Array Value), w.heap[g]? = some (.cells cur t (0, 0)) → ∃ cur', (w.setCells b o vs).heap[g]? = some (.cells cur' t (0, 0)) ∧ cur'.size = cur.size
 | [], _, _, cur, h => ⟨cur, h, rfl⟩
 | v :: vs, o, w, cur, h => by
  obtain ⟨c1, h1, e1⟩ := setCell_block h b o v
  obtain ⟨c2, h2, e2⟩ := setCells_block b vs (o + 1) _ c1 h1
  exact ⟨c2, h2, e2.trans e1⟩
theorem fr_setCells (g : Nat) : ∀ (vs : List Value) (o : Nat) (w : World), Fr (fun k => k = g) w (w.setCells g o vs)
 | [], _, w => Fr.refl _ w
 | v :: vs, o, w => ((Fr.refl (fun k => k = g) w).setCell (p := ⟨g, o, none⟩) (.inl rfl) v).trans (fr_setCells g vs (o + 1) _) (fun _ h => .inl h)
theorem own_of_cells {w : World} {base g t cap : Nat} {cur : Array Value} {ys : List Value} (hh : w.heap[g]? = some (.cells cur t (0, 0))) (hs : cur.size = cap) (hc : cap ≤ maxLen) (hb : base ≤ g) (hl : ys.length ≤ cap) (h : ∀ j (hj : j < ys.length), w.cell? ⟨g, j, none⟩ = some ys[j]) :
  w.ownsRow base t 1 (.slice (some ⟨g, 0, none⟩) ys.length cap) ys.length ys := by
 refine ⟨by omega, .inr ⟨g, cap, cur, rfl, hb, hh, hl, hc, by omega, ?_⟩⟩
 apply List.ext_getElem?
 intro j
 rw [Nat.mul_one, List.getElem?_take]
 by_cases hj : j < ys.length
 ·rw [if_pos hj, List.getElem?_eq_getElem hj, Array.getElem?_toList]
  have := h j hj
  simp only [World.cell?, hh] at this
  simpa using this
 ·rw [if_neg hj, List.getElem?_eq_none (by omega)]
section
variable {xs : List Int} {x : Int} {i : Nat}
theorem ins_len (hi : i ≤ xs.length) : ((xs.take i ++ x :: xs.drop i).map (Value.int .i64)).length = xs.length + 1 := by simp; omega
theorem ins_get (hi : i ≤ xs.length) (j : Nat) (hj : j < ((xs.take i ++ x :: xs.drop i).map (Value.int .i64)).length) :
  ((xs.take i ++ x :: xs.drop i).map (Value.int .i64))[j] = .int .i64 (if j < i then xs.getD j 0 else if j = i then x else xs.getD (j - 1) 0) := by
 rw [ins_len hi] at hj
 rw [List.getElem_map]
 congr 1
 have hl : (xs.take i).length = i := by rw [List.length_take]; omega
 by_cases h1 : j < i
 ·rw [if_pos h1, List.getElem_append_left (by omega), List.getElem_take, List.getD_eq_getElem?_getD, List.getElem?_eq_getElem (by omega)]
  rfl
 ·rw [if_neg h1, List.getElem_append_right (by omega)]
  by_cases h2 : j = i
  ·subst h2
   rw [if_pos rfl]
   simp only [hl, Nat.sub_self, List.getElem_cons_zero]
  ·rw [if_neg h2]
   obtain ⟨m, hm⟩ : ∃ m, j - i = m + 1 := ⟨j - i - 1, by omega⟩
   simp only [hl, hm, List.getElem_cons_succ, List.getElem_drop]
   rw [List.getD_eq_getElem?_getD, List.getElem?_eq_getElem (by omega), Option.getD_some]
   congr 1
   omega
end
theorem zero_cells (n : Nat) : (Builtin.zeroCells (Value.int .i64 0).cells n).size = n := by
 unfold Builtin.zeroCells
 simp [Value.cells]
theorem own_alloc_lit (W : World) (base t cap : Nat) (ys : List Value) (Z : Array Value) (hs : ys.length + Z.size = cap) (hc : cap ≤ maxLen) (hb : base ≤ W.heap.size) :
  (W.alloc (.cells (ys.toArray ++ Z) t)).ownsRow base t 1 (.slice (some ⟨W.heap.size, 0, none⟩) ys.length cap) ys.length ys :=
 ⟨by omega, .inr ⟨W.heap.size, cap, _, rfl, hb, heap_alloc_new W _, by omega, hc, by simp; omega, by simp⟩⟩
theorem ins_end_grow (a : Option Addr) (n c vb : Nat) (cs vs : List Value) (w : World) (hnc : n ≤ c) (hroom : c < n + 1) (hbig : (n + 1) * 8 ≤ 140737488355328) (hcl : cs.length = n) (hvl : vs.length = 1) (hnil : a = none → n = 0)
  (hcs : ∀ b, a = some b → ∀ j v, cs[j]? = some v → w.cell? (b.add j) = some v) (hvs : ∀ j v, vs[j]? = some v → w.cell? ⟨vb, 0 + j, none⟩ = some v) (h1v : ∀ v ∈ vs, v.oneCell' = true) :
  Calls Tryz.prog 45 #[.slice a n c, .int .i64 n, .slice (some ⟨vb, 0, none⟩) 1 1] w fun e w' => e = .returned (.slice (some ⟨w.heap.size, 0, none⟩) (n + 1) (grownCap w (n + 1) c 3)) ∧
   w' = w.drew.alloc (.cells ((cs ++ vs).toArray ++ Builtin.zeroCells (Value.int .i64 0).cells (grownCap w (n + 1) c 3 - (n + 1))) 3) :=
 Any2.slices_Insert_int_end_grow Tryz.laysIns a n c vb 0 1 1 cs vs w Nat.one_pos hnc hroom hbig hcl hvl hnil hcs hvs h1v
theorem ins_grow (g n c i vb : Nat) (cs vs : List Value) (w : World) (hi : i < n) (hnc : n ≤ c) (hroom : c < n + 1) (hbig : (n + 1) * 8 ≤ 140737488355328) (hcl : cs.length = n) (hvl : vs.length = 1)
  (hcs : ∀ j v, cs[j]? = some v → w.cell? ⟨g, 0 + j, none⟩ = some v) (hvs : ∀ j v, vs[j]? = some v → w.cell? ⟨vb, 0 + j, none⟩ = some v) (h1c : ∀ v ∈ cs, v.oneCell' = true) (h1v : ∀ v ∈ vs, v.oneCell' = true) :
  Calls Tryz.prog 45 #[.slice (some ⟨g, 0, none⟩) n c, .int .i64 i, .slice (some ⟨vb, 0, none⟩) 1 1] w fun e w' => e = .returned (.slice (some ⟨w.heap.size, 0, none⟩) (n + 1) (grownCap w (n + 1) c 3)) ∧
   w' = (((w.alloc (.cells ((cs.take i).toArray ++ Builtin.zeroCells (Value.int .i64 0).cells (n + 1 - i) ++ Builtin.zeroCells (Value.int .i64 0).cells (grownCap w (n + 1) c 3 - (n + 1))) 3)).drew.setCells w.heap.size i vs).drew).setCells w.heap.size (i + 1) (cs.drop i) :=
 Any2.slices_Insert_int_grow Tryz.laysIns g 0 n c i vb 0 1 1 cs vs w hi Nat.one_pos hnc hroom hbig hcl hvl hcs hvs h1c h1v
theorem ins_shift (g n c i vb : Nat) (cs vs : List Value) (w : World) (hi : i < n) (hroom : n + 1 ≤ c) (hc63 : c ≤ 9223372036854775807) (hvb : vb ≠ g) (hcl : cs.length = n) (hvl : vs.length = 1)
  (hcs : ∀ j v, cs[j]? = some v → w.cell? ⟨g, 0 + j, none⟩ = some v) (hsp : ∀ j, j < n + 1 → (w.cell? ⟨g, 0 + j, none⟩).isSome = true) (hfz : ∀ j, j < n + 1 → w.frozen? ⟨g, 0 + j, none⟩ = false)
  (hvs : ∀ j v, vs[j]? = some v → w.cell? ⟨vb, 0 + j, none⟩ = some v) (h1c : ∀ v ∈ cs, v.oneCell' = true) (h1v : ∀ v ∈ vs, v.oneCell' = true)
  (tA tB : TypeId) (kA kB : Nat) (hsa : w.shape? vb = some (tA, kA)) (hsb : w.shape? g = some (tB, kB)) (hkB : kB ≠ 0) (hfa : w.frozen? ⟨vb, 0, none⟩ = false) (hfe : w.frozen? ⟨vb, kA, none⟩ = false) :
  Calls Tryz.prog 45 #[.slice (some ⟨g, 0, none⟩) n c, .int .i64 i, .slice (some ⟨vb, 0, none⟩) 1 1] w fun e w' => e = .returned (.slice (some ⟨g, 0, none⟩) (n + 1) c) ∧ w' = (w.drew.setCells g (0 + (i + 1)) (cs.drop i)).setCells g (0 + i) vs :=
 Any2.slices_Insert_int_shift Tryz.laysIns g 0 n c i vb 0 1 1 cs vs w hi Nat.one_pos hroom hc63 hvb hcl hvl hcs hsp hfz hvs h1c h1v tA tB kA kB hsa hsb hkB hfa hfe
theorem ins_end_room (g n c vb : Nat) (vs : List Value) (w : World) (hroom : n + 1 ≤ c) (hc63 : c ≤ 9223372036854775807) (hvl : vs.length = 1) (hsp : ∀ j, j < 1 → (w.cell? ⟨g, 0 + n + j, none⟩).isSome = true) (hfz : ∀ j, j < 1 → w.frozen? ⟨g, 0 + n + j, none⟩ = false)
  (hvs : ∀ j v, vs[j]? = some v → w.cell? ⟨vb, 0 + j, none⟩ = some v) (h1v : ∀ v ∈ vs, v.oneCell' = true) :
  Calls Tryz.prog 45 #[.slice (some ⟨g, 0, none⟩) n c, .int .i64 n, .slice (some ⟨vb, 0, none⟩) 1 1] w fun e w' => e = .returned (.slice (some ⟨g, 0, none⟩) (n + 1) c) ∧ w' = w.setCells g (0 + n) vs :=
 Any2.slices_Insert_int_end_room Tryz.laysIns g 0 n c vb 0 1 1 vs w Nat.one_pos hroom hc63 hvl hsp hfz hvs h1v
theorem insert_c (v : Value) (xs : List Int) (x : Int) (i base : Nat) (ok : Nat → Prop) (w : World) (vb : Nat) (h : dI.R 3 w base ok v xs) (hi : i ≤ xs.length) (hsm : xs.length ≤ 1000000) (hvb : w.heap[vb]? = some (.cells #[.int .i64 x] 3 (0, 0))) (hne : v.ownBlock ≠ some vb) (hbase : base ≤ w.heap.size) :
  Calls Tryz.prog 45 #[v, .int .i64 i, .slice (some ⟨vb, 0, none⟩) 1 1] w fun e w' => ∃ v', e = .returned v' ∧ w'.ownsRow base 3 1 v' (xs.length + 1) ((xs.take i ++ x :: xs.drop i).map (Value.int .i64)) ∧ Fr (fun k => v.ownBlock = some k) w w' ∧ (v'.ownBlock = v.ownBlock ∨ ∃ b, v'.ownBlock = some b ∧ w.heap.size ≤ b) := by
 have hvs : ∀ (j : Nat) (u : Value), [Value.int .i64 x][j]? = some u → w.cell? ⟨vb, 0 + j, none⟩ = some u := by
  intro j u hu
  match j, hu with
  | 0, hu => injection hu with hu; subst hu; simp [World.cell?, hvb]
  | j + 1, hu => simp at hu
 have h1v : ∀ u ∈ [Value.int .i64 x], u.oneCell' = true := by intro u hu; simp at hu; subst hu; rfl
 have hc1 : ∀ u ∈ xs.map (Value.int .i64), u.oneCell' = true := by
  intro u hu
  obtain ⟨y, _, rfl⟩ := List.mem_map.1 hu
  rfl
 rcases R_ints_form h with ⟨rfl, rfl⟩ | ⟨g, cap, rfl, hbg, hlt, hn, hH⟩
 ·
  obtain rfl : i = 0 := by simpa using hi
  refine (ins_end_grow none 0 0 vb [] [.int .i64 x] w (by omega) (by omega) (by omega) rfl rfl (fun _ => rfl) (fun a ha => by cases ha) hvs h1v).mono ?_
  rintro e w' ⟨rfl, rfl⟩
  have hg1 := grownCap_ge w 1 0 3
  refine ⟨_, rfl, ?_, (Fr.drewN _ w 1).alloc _, .inr ⟨w.heap.size, rfl, Nat.le_refl _⟩⟩
  exact own_alloc_lit w.drew base 3 (grownCap w 1 0 3) [Value.int .i64 x] _ (by rw [zero_cells]; simp; omega) (grownCap_le_maxLen _ _ _ _ (by decide)) hbase
 ·have hown := R_ints h
  obtain ⟨cur, hcur, hcs, hcm⟩ : ∃ cur, w.heap[g]? = some (.cells cur 3 (0, 0)) ∧ cur.size = cap ∧ cap ≤ maxLen := by
   rcases hown.2 with ⟨e0, _⟩ | ⟨g', cap', cur, e0, _, hh, _, hm, hs, _⟩
   ·cases e0
   ·injection e0 with e1 _ e3
    injection e1 with e1
    injection e1 with e1
    subst e1; subst e3
    exact ⟨cur, hh, by omega, hm⟩
  have hcap63 : cap ≤ 9223372036854775807 := hcm
  have hgv : vb ≠ g := fun e => hne (by simp [Value.ownBlock, e])
  have hcell : ∀ j, j < xs.length → w.cell? ⟨g, j, none⟩ = some (.int .i64 (xs.getD j 0)) := by
   intro j hj
   rw [hown.cellAt j (by omega), List.getElem?_map, List.getElem?_eq_getElem hj, List.getD_eq_getElem?_getD, List.getElem?_eq_getElem hj]
   rfl
  have hcx : ∀ (j : Nat) (u : Value), (xs.map (Value.int .i64))[j]? = some u → w.cell? ⟨g, 0 + j, none⟩ = some u := by
   intro j u hu
   rw [Nat.zero_add]
   have hj : j < xs.length := by simpa using (List.getElem?_eq_some_iff.1 hu).1
   rw [hown.cellAt j (by omega)]
   exact hu
  have hsome : ∀ j, j < cap → (w.cell? ⟨g, j, none⟩).isSome = true := by
   intro j hj
   simp only [World.cell?, hcur]
   simp [Array.getElem?_eq_getElem (show j < cur.size by omega)]
  have hfz : ∀ j, w.frozen? ⟨g, j, none⟩ = false := fun j => hown.frozenAt j
  by_cases hroom : xs.length + 1 ≤ cap
  ·by_cases hil : i < xs.length
   ·
    refine (ins_shift g xs.length cap i vb (xs.map (Value.int .i64)) [.int .i64 x] w hil hroom hcap63 hgv (by simp) rfl hcx (fun j hj => by rw [Nat.zero_add]; exact hsome j (by omega)) (fun j hj => hfz _) hvs hc1 h1v
     3 3 1 cap (by simp [World.shape?, hvb]) (by simp [World.shape?, hcur, hcs]) (by omega) (by simp [World.frozen?, hvb]) (by simp [World.frozen?, hvb])).mono ?_
    rintro e w' ⟨rfl, rfl⟩
    have hcur' : (w.drew).heap[g]? = some (.cells cur 3 (0, 0)) := hcur
    obtain ⟨c1, hc1', e1⟩ := setCells_block (t := 3) g ((xs.map (Value.int .i64)).drop i) (0 + (i + 1)) w.drew cur hcur'
    obtain ⟨c2, hc2', e2⟩ := setCells_block (t := 3) g [Value.int .i64 x] (0 + i) _ c1 hc1'
    refine ⟨_, rfl, ?_, ?_, .inl rfl⟩
    ·have hl := ins_len (x := x) hi
     have := own_of_cells (base := base) (ys := (xs.take i ++ x :: xs.drop i).map (Value.int .i64)) hc2' (by omega) hcm hbg (by rw [hl]; omega) (fun j hj => by
      rw [ins_get hi j hj]
      rw [hl] at hj
      have hs1 : ∀ k, k < ((xs.map (Value.int .i64)).drop i).length → ((w.drew).cell? ⟨g, 0 + (i + 1) + k, none⟩).isSome = true := fun k hk => by
       rw [List.length_drop, List.length_map] at hk
       exact hsome _ (by omega)
      have hin : ∀ k (hk : k < ((xs.map (Value.int .i64)).drop i).length), ((w.drew).setCells g (0 + (i + 1)) ((xs.map (Value.int .i64)).drop i)).cell? ⟨g, 0 + (i + 1) + k, none⟩ = some ((xs.map (Value.int .i64)).drop i)[k] := World.cell?_setCells_in g _ _ _ hs1
      by_cases h1 : j < i
      ·rw [if_pos h1, World.cell?_setCells_out g _ _ _ _ (fun _ _ => .inl (by show j < 0 + i; omega)), World.cell?_setCells_out g _ _ _ _ (fun _ _ => .inl (by show j < 0 + (i + 1); omega))]
       exact hcell j (by omega)
      ·rw [if_neg h1]
       by_cases h2 : j = i
       ·subst h2
        rw [if_pos rfl]
        have := World.cell?_setCells_in g [Value.int .i64 x] (0 + j) ((w.drew).setCells g (0 + (j + 1)) ((xs.map (Value.int .i64)).drop j)) (fun k hk => by
         obtain rfl : k = 0 := by simpa using hk
         rw [World.cell?_setCells_out g _ _ _ _ (fun _ _ => .inl (by show 0 + j + 0 < 0 + (j + 1); omega))]
         exact hsome _ (by omega)) 0 (by simp)
        simpa using this
       ·rw [if_neg h2, World.cell?_setCells_out g _ _ _ _ (fun _ _ => .inr (by show 0 + i + 1 ≤ j; omega))]
        have := hin (j - i - 1) (by rw [List.length_drop, List.length_map]; omega)
        rw [show 0 + (i + 1) + (j - i - 1) = j by omega] at this
        rw [this, List.getElem_drop, List.getElem_map, List.getD_eq_getElem?_getD, List.getElem?_eq_getElem (by omega), Option.getD_some]
        congr 3
        omega)
     rw [hl] at this
     exact this
    ·have := ((Fr.drewN (fun k => k = g) w 1).trans (fr_setCells g ((xs.map (Value.int .i64)).drop i) (0 + (i + 1)) (w.drewN 1)) (fun _ hh => .inl hh)).trans (fr_setCells g [Value.int .i64 x] (0 + i) _) (fun _ hh => .inl hh)
     exact ⟨this.os, this.tape, this.output, this.size, fun k hk hn' => this.block k hk (fun e => hn' (by simp [Value.ownBlock, e]))⟩
   ·
    obtain rfl : i = xs.length := by omega
    refine (ins_end_room g xs.length cap vb [.int .i64 x] w hroom hcap63 rfl (fun j hj => by rw [Nat.zero_add]; exact hsome _ (by omega)) (fun j hj => hfz _) hvs h1v).mono ?_
    rintro e w' ⟨rfl, rfl⟩
    obtain ⟨c2, hc2', e2⟩ := setCells_block (t := 3) g [Value.int .i64 x] (0 + xs.length) w cur hcur
    refine ⟨_, rfl, ?_, ?_, .inl rfl⟩
    ·have hl := ins_len (x := x) (Nat.le_refl xs.length)
     have := own_of_cells (base := base) (ys := (xs.take xs.length ++ x :: xs.drop xs.length).map (Value.int .i64)) hc2' (by omega) hcm hbg (by rw [hl]; omega) (fun j hj => by
      rw [ins_get (Nat.le_refl _) j hj]
      rw [hl] at hj
      by_cases h1 : j < xs.length
      ·rw [if_pos h1, World.cell?_setCells_out g _ _ _ _ (fun _ _ => .inl (by show j < 0 + xs.length; omega))]
       exact hcell j h1
      ·obtain rfl : j = xs.length := by omega
       rw [if_neg h1, if_pos rfl]
       have := World.cell?_setCells_in g [Value.int .i64 x] (0 + xs.length) w (fun k hk => by
        obtain rfl : k = 0 := by simpa using hk
        exact hsome _ (by omega)) 0 (by simp)
       simpa using this)
     rw [hl] at this
     exact this
    ·have := fr_setCells g [Value.int .i64 x] (0 + xs.length) w
     exact ⟨this.os, this.tape, this.output, this.size, fun k hk hn' => this.block k hk (fun e => hn' (by simp [Value.ownBlock, e]))⟩
  ·have hg1 := grownCap_ge w (xs.length + 1) cap 3
   have hg2 := grownCap_le_maxLen w (xs.length + 1) cap 3 (by unfold maxLen; omega)
   by_cases hil : i < xs.length
   ·
    refine (ins_grow g xs.length cap i vb (xs.map (Value.int .i64)) [.int .i64 x] w hil hn (by omega) (by omega) (by simp) rfl hcx hvs hc1 h1v).mono ?_
    rintro e w' ⟨rfl, hw'⟩
    obtain ⟨nb, enb⟩ : ∃ nb, nb = w.alloc (.cells (((xs.map (Value.int .i64)).take i).toArray ++ Builtin.zeroCells (Value.int .i64 0).cells (xs.length + 1 - i) ++ Builtin.zeroCells (Value.int .i64 0).cells (grownCap w (xs.length + 1) cap 3 - (xs.length + 1))) 3) := ⟨_, rfl⟩
    have hnb : nb.heap[w.heap.size]? = some (.cells (((xs.map (Value.int .i64)).take i).toArray ++ Builtin.zeroCells (Value.int .i64 0).cells (xs.length + 1 - i) ++ Builtin.zeroCells (Value.int .i64 0).cells (grownCap w (xs.length + 1) cap 3 - (xs.length + 1))) 3 (0, 0)) := by rw [enb]; exact heap_alloc_new w _
    have hnsz : (((xs.map (Value.int .i64)).take i).toArray ++ Builtin.zeroCells (Value.int .i64 0).cells (xs.length + 1 - i) ++ Builtin.zeroCells (Value.int .i64 0).cells (grownCap w (xs.length + 1) cap 3 - (xs.length + 1))).size = grownCap w (xs.length + 1) cap 3 := by
     simp only [Array.size_append, List.size_toArray, List.length_take, List.length_map, zero_cells]
     omega
    have hnsome : ∀ j, j < grownCap w (xs.length + 1) cap 3 → (nb.cell? ⟨w.heap.size, j, none⟩).isSome = true := by
     intro j hj
     simp only [World.cell?, hnb]
     rw [Array.getElem?_eq_getElem (by rw [hnsz]; exact hj)]
     rfl
    have hfn : Fr (fun k => (Value.slice (some ⟨g, 0, none⟩) xs.length cap).ownBlock = some k) w nb := by rw [enb]; exact (Fr.refl _ w).alloc _
    rw [← enb] at hw'
    subst hw'
    obtain ⟨c1, hc1', e1⟩ := setCells_block (t := 3) w.heap.size [Value.int .i64 x] i nb.drew _ hnb
    obtain ⟨c2, hc2', e2⟩ := setCells_block (t := 3) w.heap.size ((xs.map (Value.int .i64)).drop i) (i + 1) ((nb.drew.setCells w.heap.size i [Value.int .i64 x]).drew) c1 hc1'
    refine ⟨_, rfl, ?_, ?_, .inr ⟨w.heap.size, rfl, Nat.le_refl _⟩⟩
    ·have hl := ins_len (x := x) hi
     have := own_of_cells (base := base) (ys := (xs.take i ++ x :: xs.drop i).map (Value.int .i64)) hc2' (by omega) hg2 hbase (by rw [hl]; exact hg1) (fun j hj => by
      rw [ins_get hi j hj]
      rw [hl] at hj
      by_cases h1 : j < i
      ·rw [if_pos h1, World.cell?_setCells_out _ _ _ _ _ (fun _ _ => .inl (by show j < i + 1; omega))]
       show (nb.drew.setCells w.heap.size i [Value.int .i64 x]).cell? _ = _
       rw [World.cell?_setCells_out _ _ _ _ _ (fun _ _ => .inl (by show j < i; omega))]
       show nb.cell? _ = _
       simp only [World.cell?, hnb]
       rw [Array.append_assoc, Array.getElem?_append_left (by simp; omega)]
       simp [h1, List.getElem?_eq_getElem (show j < xs.length by omega)]
      ·rw [if_neg h1]
       by_cases h2 : j = i
       ·subst h2
        rw [if_pos rfl, World.cell?_setCells_out _ _ _ _ _ (fun _ _ => .inl (by show j < j + 1; omega))]
        have := World.cell?_setCells_in w.heap.size [Value.int .i64 x] j nb.drew (fun k hk => by
         obtain rfl : k = 0 := by simpa using hk
         exact hnsome _ (by omega)) 0 (by simp)
        simpa using this
       ·rw [if_neg h2]
        have := World.cell?_setCells_in w.heap.size ((xs.map (Value.int .i64)).drop i) (i + 1) ((nb.drew.setCells w.heap.size i [Value.int .i64 x]).drew) (fun k hk => by
         rw [List.length_drop, List.length_map] at hk
         show ((nb.drew.setCells w.heap.size i [Value.int .i64 x]).cell? _).isSome = true
         rw [World.cell?_setCells_out _ _ _ _ _ (fun _ _ => .inr (by show i + 1 ≤ i + 1 + k; omega))]
         exact hnsome _ (by omega)) (j - i - 1) (by rw [List.length_drop, List.length_map]; omega)
        rw [show i + 1 + (j - i - 1) = j by omega] at this
        rw [this, List.getElem_drop, List.getElem_map, List.getD_eq_getElem?_getD, List.getElem?_eq_getElem (by omega), Option.getD_some]
        congr 3
        omega)
     rw [hl] at this
     exact this
    ·have f1 := hfn.trans (Fr.drewN (fun k => k = w.heap.size) nb 1) (fun k e => .inr (by omega))
     have f2 := f1.trans (fr_setCells w.heap.size [Value.int .i64 x] i (nb.drewN 1)) (fun k e => .inr (by omega))
     have f3 := f2.trans (Fr.drewN (fun k => k = w.heap.size) _ 1) (fun k e => .inr (by omega))
     exact f3.trans (fr_setCells w.heap.size ((xs.map (Value.int .i64)).drop i) (i + 1) _) (fun k e => .inr (by omega))
   ·
    obtain rfl : i = xs.length := by omega
    refine (ins_end_grow (some ⟨g, 0, none⟩) xs.length cap vb (xs.map (Value.int .i64)) [.int .i64 x] w hn (by omega) (by omega) (by simp) rfl (fun e => by cases e) (fun a ha j u hu => by
     injection ha with ha
     subst ha
     rw [Go.WideShapes.add_plain]
     exact hcx j u hu) hvs h1v).mono ?_
    rintro e w' ⟨rfl, rfl⟩
    refine ⟨_, rfl, ?_, (Fr.drewN _ w 1).alloc _, .inr ⟨w.heap.size, rfl, Nat.le_refl _⟩⟩
    have hl : (xs.map (Value.int .i64) ++ [Value.int .i64 x]).length = xs.length + 1 := by simp
    have e1 : (xs.take xs.length ++ x :: xs.drop xs.length).map (Value.int .i64) = xs.map (Value.int .i64) ++ [Value.int .i64 x] := by simp
    rw [e1]
    have := own_alloc_lit w.drew base 3 (grownCap w (xs.length + 1) cap 3) (xs.map (Value.int .i64) ++ [Value.int .i64 x]) (Builtin.zeroCells (Value.int .i64 0).cells (grownCap w (xs.length + 1) cap 3 - (xs.length + 1))) (by rw [zero_cells, hl]; omega) hg2 hbase
    rw [hl] at this
    exact this
end Go.Proofs.YtemcmcnhpdkdfaaGreat.P
namespace Go.Proofs.YtemcmcnhpdkdfaaGreat.P
open Go.RowKit Go.Lib Go.Sort Go.Shelf Go.Proofs.YtemcmcnhpdkdfaaGreatW.PrintWords Go.Proofs.YtemcmcnhpdkdfaaGreatW.PrintLast Go.Proofs.YtemcmcnhpdkdfaaGreatW.PrintMore
theorem S_newelem {w : World} {base go n cap j : Nat} {xs : List (List Int)} {ok : Nat → Prop} (h : Kd.S dG 23 w base ok (.slice (some ⟨go, 0, none⟩) n cap) xs) (hnew : ∀ k, w.heap.size ≤ k → ok k) (hj : j < n) :
  ∃ A c, w.cell? ⟨go, j, none⟩ = some (.slice A (xs.getD j []).length c) ∧ dI.R 3 w base (fun k => ok k ∧ k ≠ go) (.slice A (xs.getD j []).length c) (xs.getD j []) ∧ ok go ∧
   ∀ w2 v2 ys, w2.ownsRow base 3 1 v2 ys.length (ys.map (Value.int .i64)) → Fr (fun k => (Value.slice A (xs.getD j []).length c).ownBlock = some k) w w2 →
    (v2.ownBlock = (Value.slice A (xs.getD j []).length c).ownBlock ∨ ∃ b, v2.ownBlock = some b ∧ w.heap.size ≤ b) →
    (∃ u, w2.cell? ⟨go, j, none⟩ = some u ∧ w2.frozen? ⟨go, j, none⟩ = false) ∧ Kd.S dG 23 (w2.setCell ⟨go, j, none⟩ v2) base ok (.slice (some ⟨go, 0, none⟩) n cap) (xs.set j ys) := by
 have hgo : go < w.heap.size := Kd.S_lt h go (by simp [Value.ownBlock])
 have hgb : base ≤ go := Kd.S_base h go (by simp [Value.ownBlock])
 have h2 : Kd.S dG 23 w base (fun k => ok k ∧ ¬ (w.heap.size ≤ k)) (.slice (some ⟨go, 0, none⟩) n cap) xs := Kd.S_mono (Kd.S_bound h) (fun k hk => ⟨hk.1, by have := hk.2.2.1; omega⟩)
 obtain ⟨oki, c, hcl, hM, hcc, hfr, hoki, hH⟩ := Kd.S_elem h2 [] (j : Int) (by omega) (by omega)
 have hs1 : dG.sz = 1 := rfl
 obtain ⟨u, rfl⟩ : ∃ u, c = [u] := List.length_eq_one_iff.1 (hcl.trans hs1)
 have hu := hcc 0 u rfl
 have hf := hfr 0
 rw [hs1, Int.toNat_natCast, Nat.mul_one, Nat.add_zero] at hu
 rw [Int.toNat_natCast] at hM
 obtain ⟨u', e, hR⟩ := hM
 injection e with e
 subst e
 obtain ⟨A, cc, rfl⟩ := Kd.R_slice hR
 refine ⟨A, cc, hu, Kd.R_mono hR (fun k hk => ⟨(hoki k hk).1.1, (hoki k hk).2⟩), (Kd.S_R h).1 go (by simp [Value.ownBlock]), fun w2 v2 ys ho hf2 hat => ?_⟩
 have hb : ∀ k, (Value.slice A (xs.getD j []).length cc).ownBlock = some k → oki k := fun k hk => hR.1 k hk
 have hg : w.grownBy w2 (Value.slice A (xs.getD j []).length cc).ownBlock := ⟨hf2.os, hf2.tape, hf2.output, hf2.size, fun k hk hne => hf2.block k hk (fun e => hne e.symm)⟩
 have hH2 := Kd.H_grown hH hg hb
 have hs2 := hf2.size
 have hne : (Value.slice A (xs.getD j []).length cc).ownBlock ≠ some go := fun e => (hoki go (hb go e)).2 rfl
 have hbk : w2.heap[go]? = w.heap[go]? := hf2.block go hgo hne
 have hcell : ∀ p : Nat, w2.cell? ⟨go, p, none⟩ = w.cell? ⟨go, p, none⟩ := fun p => by simp only [World.cell?, hbk]
 have hfrz : ∀ p : Nat, w2.frozen? ⟨go, p, none⟩ = w.frozen? ⟨go, p, none⟩ := fun p => by simp only [World.frozen?, hbk]
 refine ⟨⟨_, (hcell j).trans hu, (hfrz j).trans (by rw [hs1, Int.toNat_natCast, Nat.mul_one, Nat.add_zero] at hf; exact hf)⟩, ?_⟩
 have hR2 : dI.R 3 w2 base (fun k => oki k ∨ w.heap.size ≤ k) v2 ys := by
  refine ints_R ho (fun k hk => ?_)
  rcases hat with e | ⟨b, e, hbs⟩
  ·exact .inl (hb k (by rw [← e]; exact hk))
  ·rw [e] at hk
   injection hk with hk
   exact .inr (by omega)
 have hP := Kd.S_seg (okg := fun k => w.heap.size ≤ k) hH2 (by omega) (by omega) (seg := [v2]) (j := 0) (show 0 + 1 ≤ 1 from Nat.le_refl _) (x' := ys) (okp := fun k => oki k ∨ w.heap.size ≤ k)
  ⟨v2, rfl, hR2⟩ (fun k hk => hk) (fun k hk => ⟨hnew k hk, by omega⟩)
 have hP1 := hP.1
 rw [hs1, Int.toNat_natCast, Nat.mul_one, Nat.add_zero] at hP1
 exact hP1
theorem del_f (g : Nat) (lb : Array Value) (p : Int → Bool) (eg : ∀ args w, (callFunc g args).run Tryz.prog w = .ok (.enter g args) w) (v : Value) (xs : List Int) (base : Nat) (ok : Nat → Prop) (w : World)
  (hp : ∀ W x, Fr (fun k => v.ownBlock = some k) w W → FnGives Tryz.prog g lb #[.int .i64 x] (.bool (p x)) W) (h : dI.R 3 w base ok v xs) (hb : xs.length ≤ 9223372036854775807) :
  Calls Tryz.prog 56 #[v, .func (.func g) #[] lb] w fun e w' => ∃ v', e = .returned v' ∧ dI.R 3 w' base ok v' (xs.filter fun x => !p x) ∧ Fr (fun k => v.ownBlock = some k) w w' ∧ v'.ownBlock = v.ownBlock := by
 rcases R_ints_form h with ⟨rfl, rfl⟩ | ⟨gb, cap, rfl, hbg, hlt, hn, hH⟩
 ·refine (del_nil_c _ w).mono ?_
  rintro e w' ⟨rfl, rfl⟩
  exact ⟨_, rfl, h, Fr.refl _ _, rfl⟩
 ·have hle : (xs.filter fun x => !p x).length ≤ xs.length := List.length_filter_le _ _
  have hput : ∀ q d, Fr (fun k => (Value.slice (some ⟨gb, 0, none⟩) xs.length cap).ownBlock = some k) w (putRow (Value.int .i64) (Sort.ahead w q) gb 0 d) := fun q d => by
   have := fr_putRow w gb q d
   exact ⟨this.os, this.tape, this.output, this.size, fun k hk hn => this.block k hk (fun e => hn (by simp [Value.ownBlock, e]))⟩
  have hc := Tryz.slices_DeleteFunc (Value.int .i64) (fun _ => rfl) p g lb eg 0 Tryz.zeroValue3 gb 0 cap xs.toArray w
   (fun W x hB => hp W x ⟨hB.os, hB.tape, hB.output, hB.size, fun k hk _ => hB.block k hk⟩) (fun n os dk x hd => hp _ x (by
    have h1 := hput n dk
    refine ⟨h1.os, h1.tape, h1.output, by have := h1.size; simp only [sortWorld, grow, Array.size_append]; omega, fun k hk hn => ?_⟩
    rw [← h1.block k hk hn]
    show ((putRow (Value.int .i64) (Sort.ahead w n) gb 0 dk).heap ++ os)[k]? = _
    rw [Array.getElem?_append_left (Nat.lt_of_lt_of_le hk h1.size)])) hH (by simpa using hb) (by simpa using hn)
  simp only [List.size_toArray] at hc
  refine hc.mono ?_
  rintro e w' ⟨rfl, q, rfl⟩
  refine ⟨_, rfl, R_put h ?_ rfl ?_ hle, hput _ _, rfl⟩
  ·rw [List.length_append, List.length_replicate]; omega
  ·rw [List.take_left']; rfl
set_option maxHeartbeats 1000000 in
theorem withoutfn_gives (x b : Int) (B : Nat) (W : World) (hc : W.cell? ⟨B, 0, none⟩ = some (.int .i64 b)) :
  FnGives Tryz.prog 57 #[.pointer (some ⟨B, 0, none⟩)] #[.int .i64 x] (.bool (decide (x = b))) W := by
 show Calls Tryz.prog 57 #[.int .i64 x, .pointer (some ⟨B, 0, none⟩)] W _
 go_enter Tryz.func57, Tryz.ntmps57
 go_wp2
 go_ret
 refine ⟨?_, 0, rfl⟩
 first | rfl | (congr 2; by_cases h : x = b <;> simp [h])
set_option maxHeartbeats 4000000 in
set_option maxRecDepth 100000 in
theorem graph_Without.calls (A0 : Option Addr) (c0 : Nat) (l0 : List (List Int)) (a1 : Int) (a2 : Int) (r : List (List Int)) (w : World) (hr0 : Kd.C (Kd.slice 3 (Kd.int .i64)) w A0 l0.length l0) (hc0 : l0.length ≤ c0) (h : graph_Without.f l0 a1 a2 = some r) :
  Calls Tryz.prog 33 #[.slice A0 l0.length c0, .int .i64 a1, .int .i64 a2] w fun e w' => ∃ v0_ : Value, e = .returned v0_ ∧ Kd.S (Kd.slice 3 (Kd.int .i64)) 23 w' w.heap.size (fun _ => True) v0_ r ∧ Below w.heap.size w w' := by
 have HR0 := Aside0.mk hr0
 have HC0 := Aside0.mk hc0
 have HF : Aside0 (fits l0 = true ∧ r = withoutE (clean l0) a1 a2) := by
  unfold graph_Without.f at h
  split at h
  ·exact ⟨⟨by assumption, (Option.some.inj h).symm⟩⟩
  ·cases h
 clear hr0 hc0 h
 have HCL' : Aside0 (∀ W, Below w.heap.size w W → Calls Tryz.prog 39 #[.slice A0 l0.length c0] W fun e w' => ∃ v0_ : Value, e = .returned v0_ ∧ Kd.S (Kd.slice 3 (Kd.int .i64)) 23 w' W.heap.size (fun _ => True) v0_ (clean l0) ∧ Below W.heap.size W w') :=
  ⟨fun W hW => graph_Clean.calls A0 c0 l0 (clean l0) W (Kd.C_below HR0.out hW) HC0.out (by unfold graph_Clean.f; rw [if_pos HF.out.1])⟩
 have HIS : ∀ W, Calls Tryz.prog 43 #[.slice A0 l0.length c0, .int .i64 a1] W fun e w' => e = .returned (.bool (isN l0.length a1)) ∧ W = w' := fun W => is_c a1 A0 l0.length c0 W
 rcases Bool.eq_false_or_eq_true (isN l0.length a1) with hna | hna
 ·rw [hna] at HIS
  obtain ⟨ha0, ha1⟩ := isN_iff.1 hna
  have HRS : Aside0 (r = (clean l0).set a1.toNat (((clean l0).getD a1.toNat []).filter fun x => !decide (x = a2))) := by
   have := HF.out.2
   unfold withoutE at this
   rw [clean_len, if_pos hna] at this
   exact ⟨this⟩
  clear hna
  go_enter Tryz.func33, Tryz.ntmps33
  go_wp2_with (first | (go_at_call 39; refine (HCL'.out _ (below_alloc (Below.refl _ _) _)).mono ?_; rintro e w2 ⟨v2, rfl, ho2, hb2⟩; rw [size_alloc1] at ho2 hb2; obtain ⟨go, cap, e2, hgo1, hgo2, _⟩ := Kd.S_form ho2 (by rw [clean_len]; omega); rw [clean_len] at e2; subst e2; have hbx := box_cell hb2 (Nat.lt_succ_self _); have HO2 := Aside0.mk ho2; have HB2 := Aside0.mk hb2; have HGO := Aside0.mk (And.intro hgo1 hgo2); (obtain ⟨Au, cu, hcu, hRu, _, hnx⟩ := S_newelem ho2 (fun _ _ => trivial) (j := a1.toNat) (by omega)); have HRU := Aside0.mk hRu; have HNX := Aside0.mk hnx; clear ho2 hb2 hgo1 hgo2 hRu hnx) | (go_at_call 43; (with_reducible refine (HIS _).mono ?_); rintro e w' ⟨rfl, rfl⟩))
  have hln : Aside0 (((clean l0).getD a1.toNat []).length ≤ 100000) := by
   rw [List.getD_eq_getElem?_getD, List.getElem?_eq_getElem (by rw [clean_len]; omega)]
   exact ⟨clean_small HF.out.1 _ (List.getElem_mem _)⟩
  go_wp2_with (go_at_call 56; refine (del_f 57 _ (fun x => decide (x = a2)) (enters_of Tryz.func57 (by kernel_rfl) rfl) _ _ _ _ w2 (fun W x hW => withoutfn_gives x a2 _ W (by
   have hlt : w.heap.size < w2.heap.size := by have := HB2.out.size; rw [size_alloc1] at this; omega
   have hbk := hW.block w.heap.size hlt (fun e => by have := own_base (R_ints HRU.out) _ e; omega)
   simp only [World.cell?, hbk]
   exact hbx)) HRU.out (by have := hln.out; omega)).mono ?_; rintro e w3 ⟨v3, rfl, ho3, hf3, he3⟩; (obtain ⟨⟨u5, hu5, hf5⟩, hs5⟩ := HNX.out w3 v3 _ (R_ints ho3) hf3 (.inl he3)); have HS5 := Aside0.mk hs5; have HF3 := Aside0.mk hf3; obtain ⟨A3, c3, rfl⟩ := Kd.R_slice ho3; clear ho3 hf3 he3 hs5)
  go_ret
  refine ⟨_, rfl, ?_, ?_⟩
  ·rw [HRS.out]
   exact Kd.S_lower HS5.out (Nat.le_succ _)
  ·have h2 : Below w.heap.size w w2 := (below_alloc (Below.refl _ _) _).trans (HB2.out.mono (Nat.le_succ _))
   have h3 := below_fr h2 HF3.out (fun k hk => by have := own_base (R_ints HRU.out) k hk; omega) h2.size
   exact h3.setCell (by have := HGO.out.1; show w.heap.size ≤ go; omega) _
 ·rw [hna] at HIS
  have HRS : Aside0 (r = clean l0) := by
   have := HF.out.2
   unfold withoutE at this
   rw [clean_len, if_neg (by rw [hna]; simp)] at this
   exact ⟨this⟩
  clear hna
  go_enter Tryz.func33, Tryz.ntmps33
  go_wp2_with (first | (go_at_call 39; refine (HCL'.out _ (below_alloc (Below.refl _ _) _)).mono ?_; rintro e w2 ⟨v2, rfl, ho2, hb2⟩; rw [size_alloc1] at ho2 hb2; have HO2 := Aside0.mk ho2; have HB2 := Aside0.mk hb2; clear ho2 hb2) | (go_at_call 43; (with_reducible refine (HIS _).mono ?_); rintro e w' ⟨rfl, rfl⟩))
  go_ret
  refine ⟨_, rfl, ?_, (below_alloc (Below.refl _ _) _).trans (HB2.out.mono (Nat.le_succ _))⟩
  rw [HRS.out]
  exact Kd.S_lower HO2.out (Nat.le_succ _)
theorem bs_c (A : Option Addr) (c : Nat) (xs : List Int) (x : Int) (w : World) (h : dI.C w A xs.length xs) (hb : xs.length ≤ 1000000) (hs : xs.Pairwise (· ≤ ·)) :
  Calls Tryz.prog 44 #[.slice A xs.length c, .int .i64 x] w fun e w' => e = .returned (.tuple #[.int .i64 (xs.countP (fun y => decide (y < x)) : Nat), .bool (xs.contains x)]) ∧ ∃ q, w' = w.drewN q := by
 rcases Nat.eq_zero_or_pos xs.length with h0 | h0
 ·obtain rfl := List.eq_nil_of_length_eq_zero h0
  refine (Tryz.slices_BinarySearch_int_empty A c x w).mono ?_
  rintro e w' ⟨rfl, hw⟩
  exact ⟨rfl, 0, by rw [hw]; rfl⟩
 ·obtain ⟨b, off, he, _, hc⟩ := C_ints h h0
  subst he
  have := Tryz.slices_BinarySearch_int b off xs.length c xs x w (Nat.le_refl _) (by omega) hc (by rw [List.take_length]; exact hs)
  rw [List.take_length] at this
  exact this
set_option maxHeartbeats 4000000 in
set_option maxRecDepth 100000 in
theorem graph_With.calls (A0 : Option Addr) (c0 : Nat) (l0 : List (List Int)) (a1 : Int) (a2 : Int) (r : List (List Int)) (w : World) (hr0 : Kd.C (Kd.slice 3 (Kd.int .i64)) w A0 l0.length l0) (hc0 : l0.length ≤ c0) (h : graph_With.f l0 a1 a2 = some r) :
  Calls Tryz.prog 23 #[.slice A0 l0.length c0, .int .i64 a1, .int .i64 a2] w fun e w' => ∃ v0_ : Value, e = .returned v0_ ∧ Kd.S (Kd.slice 3 (Kd.int .i64)) 23 w' w.heap.size (fun _ => True) v0_ r ∧ Below w.heap.size w w' := by
 have HR0 := Aside0.mk hr0
 have HC0 := Aside0.mk hc0
 have HF : Aside0 (fits l0 = true ∧ r = withE (clean l0) a1 a2) := by
  unfold graph_With.f at h
  split at h
  ·exact ⟨⟨by assumption, (Option.some.inj h).symm⟩⟩
  ·cases h
 clear hr0 hc0 h
 have HCL' : Aside0 (∀ W, Below w.heap.size w W → Calls Tryz.prog 39 #[.slice A0 l0.length c0] W fun e w' => ∃ v0_ : Value, e = .returned v0_ ∧ Kd.S (Kd.slice 3 (Kd.int .i64)) 23 w' W.heap.size (fun _ => True) v0_ (clean l0) ∧ Below W.heap.size W w') :=
  ⟨fun W hW => graph_Clean.calls A0 c0 l0 (clean l0) W (Kd.C_below HR0.out hW) HC0.out (by unfold graph_Clean.f; rw [if_pos HF.out.1])⟩
 have HIS : ∀ W, Calls Tryz.prog 43 #[.slice A0 l0.length c0, .int .i64 a1] W fun e w' => e = .returned (.bool (isN l0.length a1)) ∧ W = w' := fun W => is_c a1 A0 l0.length c0 W
 have HIT : ∀ W, Calls Tryz.prog 43 #[.slice A0 l0.length c0, .int .i64 a2] W fun e w' => e = .returned (.bool (isN l0.length a2)) ∧ W = w' := fun W => is_c a2 A0 l0.length c0 W
 have hno : ∀ (hx : ¬ (isN l0.length a1 = true ∧ isN l0.length a2 = true)), Aside0 (r = clean l0) := by
  intro hx
  have := HF.out.2
  unfold withE at this
  rw [clean_len, if_neg (fun hh => hx ⟨hh.1, hh.2.1⟩)] at this
  exact ⟨this⟩
 have HNO := Aside0.mk hno
 clear hno
 have CLN := HCL'.out w (Below.refl _ _)
 have CL := Aside0.mk CLN
 clear CLN HCL'
 rcases Bool.eq_false_or_eq_true (isN l0.length a1) with hna | hna
 ·rw [hna] at HIS
  rcases Bool.eq_false_or_eq_true (isN l0.length a2) with hnb | hnb
  ·rw [hnb] at HIT
   obtain ⟨ha0, ha1⟩ := isN_iff.1 hna
   obtain ⟨row_, erow⟩ : ∃ row_, row_ = (clean l0).getD a1.toNat [] := ⟨_, rfl⟩
   have hmem : row_ ∈ clean l0 := by
    rw [erow, List.getD_eq_getElem?_getD, List.getElem?_eq_getElem (by rw [clean_len]; omega)]
    exact List.getElem_mem _
   have HRW : Aside0 (row_.length ≤ 100000 ∧ row_.Pairwise (· ≤ ·) ∧ row_ = (clean l0).getD a1.toNat []) := by
    refine ⟨clean_small HF.out.1 _ hmem, ?_, erow⟩
    obtain ⟨q, _, e⟩ := List.mem_map.1 hmem
    rw [← e]
    exact (cleanRow_rises _ _).imp (fun h => by omega)
   have HRS : Aside0 ((row_.contains a2 = true → r = clean l0) ∧ (row_.contains a2 = false → r = (clean l0).set a1.toNat (row_.take (row_.countP (fun y => decide (y < a2))) ++ a2 :: row_.drop (row_.countP (fun y => decide (y < a2)))))) := by
    have hr := HF.out.2
    unfold withE at hr
    rw [clean_len, ← erow] at hr
    refine ⟨fun hc => ?_, fun hc => ?_⟩
    ·rw [if_neg (fun hh => hh.2.2 (by simpa using hc))] at hr
     exact hr
    ·rw [if_pos ⟨hna, hnb, by simpa using hc⟩] at hr
     exact hr
   clear hna hnb hmem HNO erow
   obtain ⟨con, hcon⟩ : ∃ con, con = row_.contains a2 := ⟨_, rfl⟩
   rw [← hcon] at HRS
   have HCON := Aside0.mk hcon
   clear hcon
   cases con with
   | true =>
    have HRT := Aside0.mk (HRS.out.1 rfl)
    have HBS : Aside0 (∀ W A c, dI.C W A row_.length row_ → Calls Tryz.prog 44 #[.slice A row_.length c, .int .i64 a2] W fun e w' => (∃ kk : Nat, e = .returned (.tuple #[.int .i64 kk, .bool true])) ∧ ∃ q, w' = W.drewN q) :=
     ⟨fun W A c hC => (bs_c A c row_ a2 W hC (by have := HRW.out.1; omega) HRW.out.2.1).mono fun e w' hh => ⟨⟨_, by rw [HCON.out]; exact hh.1⟩, hh.2⟩⟩
    go_enter Tryz.func23, Tryz.ntmps23
    go_wp2_with (first | (go_at_call 39; refine CL.out.mono ?_; rintro e w2 ⟨v2, rfl, ho2, hb2⟩; obtain ⟨go, cap, e2, hgo1, hgo2, _⟩ := Kd.S_form ho2 (by rw [clean_len]; omega); rw [clean_len] at e2; subst e2; have HO2 := Aside0.mk ho2; have HB2 := Aside0.mk hb2; have HGO := Aside0.mk (And.intro hgo1 hgo2); (obtain ⟨Au, cu, hcu, hRu, _, hnx⟩ := S_newelem ho2 (fun _ _ => trivial) (j := a1.toNat) (by omega)); rw [← HRW.out.2.2] at hcu hRu hnx; have HRU := Aside0.mk hRu; have HNX := Aside0.mk hnx; clear ho2 hb2 hgo1 hgo2 hRu hnx) | (go_at_call 43; (with_reducible refine (HIS _).mono ?_); rintro e w' ⟨rfl, rfl⟩) | (go_at_call 43; (with_reducible refine (HIT _).mono ?_); rintro e w' ⟨rfl, rfl⟩))
    go_wp2_with (go_at_call 44; refine (HBS.out _ _ _ (Kd.R_reads' HRU.out).2.2).mono ?_; rintro e w3 ⟨⟨kk, rfl⟩, q, rfl⟩)
    go_ret
    refine ⟨_, rfl, ?_, by repeat (first | exact HB2.out | apply pw_below_drewN | apply below_drew1)⟩
    rw [HRT.out]
    exact Kd.S_drewN HO2.out _
   | false =>
    obtain ⟨kk, hkk⟩ : ∃ kk, kk = row_.countP (fun y => decide (y < a2)) := ⟨_, rfl⟩
    rw [← hkk] at HRS
    obtain ⟨ys, hys⟩ : ∃ ys, ys = row_.take kk ++ a2 :: row_.drop kk := ⟨_, rfl⟩
    rw [← hys] at HRS
    have HRT := Aside0.mk (HRS.out.2 rfl)
    have HYS := Aside0.mk hys
    have HBS : Aside0 (∀ W A c, dI.C W A row_.length row_ → Calls Tryz.prog 44 #[.slice A row_.length c, .int .i64 a2] W fun e w' => e = .returned (.tuple #[.int .i64 kk, .bool false]) ∧ ∃ q, w' = W.drewN q) :=
     ⟨fun W A c hC => (bs_c A c row_ a2 W hC (by have := HRW.out.1; omega) HRW.out.2.1).mono fun e w' hh => ⟨by rw [HCON.out, hkk]; exact hh.1, hh.2⟩⟩
    have HKK : Aside0 (kk ≤ row_.length) := by
     rw [hkk]
     exact ⟨List.countP_le_length⟩
    have hyl : Aside0 (ys.length = row_.length + 1) := by
     have := HKK.out
     refine ⟨?_⟩
     rw [hys]
     simp
     omega
    clear hkk hys
    go_enter Tryz.func23, Tryz.ntmps23
    go_wp2_with (first | (go_at_call 39; refine CL.out.mono ?_; rintro e w2 ⟨v2, rfl, ho2, hb2⟩; obtain ⟨go, cap, e2, hgo1, hgo2, _⟩ := Kd.S_form ho2 (by rw [clean_len]; omega); rw [clean_len] at e2; subst e2; have HO2 := Aside0.mk ho2; have HB2 := Aside0.mk hb2; have HGO := Aside0.mk (And.intro hgo1 hgo2); (obtain ⟨Au, cu, hcu, hRu, _, hnx⟩ := S_newelem ho2 (fun _ _ => trivial) (j := a1.toNat) (by omega)); rw [← HRW.out.2.2] at hcu hRu hnx; have HRU := Aside0.mk hRu; have HNX := Aside0.mk hnx; clear ho2 hb2 hgo1 hgo2 hRu hnx) | (go_at_call 43; (with_reducible refine (HIS _).mono ?_); rintro e w' ⟨rfl, rfl⟩) | (go_at_call 43; (with_reducible refine (HIT _).mono ?_); rintro e w' ⟨rfl, rfl⟩))
    go_wp2_with (go_at_call 44; refine (HBS.out _ _ _ (Kd.R_reads' HRU.out).2.2).mono ?_; rintro e w3 ⟨rfl, q, rfl⟩)
    go_wp2_with (go_at_call 45; refine (insert_c _ row_ a2 kk (w.heap.size) (fun k => True ∧ k ≠ go) _ _ (Kd.R_alloc (Kd.R_drewN HRU.out q) _) HKK.out (by have := HRW.out.1; omega) (heap_alloc_new (w2.drewN q) _) (fun e => absurd (show w2.heap.size < w2.heap.size from own_lt (R_ints HRU.out) _ e) (Nat.lt_irrefl _)) (by rw [size_alloc1]; have := HB2.out.size; show w.heap.size ≤ w2.heap.size + 1; omega)).mono ?_; rintro e w4 ⟨v4, rfl, ho4, hf4, hat4⟩; rw [← HYS.out, ← hyl.out] at ho4; (have hf5 := (((Fr.drewN (fun k => (Value.slice Au row_.length cu).ownBlock = some k) w2 q).alloc (.cells #[.int .i64 a2] 3)).trans hf4 (fun _ hh => .inl hh))); (obtain ⟨⟨u5, hu5, hf6⟩, hs5⟩ := HNX.out w4 v4 _ ho4 hf5 (hat4.imp id (fun ⟨b, h1, h2⟩ => ⟨b, h1, by rw [size_alloc1] at h2; exact Nat.le_trans (Nat.le_succ _) h2⟩))); have HS5 := Aside0.mk hs5; have HF5 := Aside0.mk hf5; obtain ⟨A4, c4, rfl⟩ := own_slice ho4; clear ho4 hf4 hat4 hf5 hs5)
    go_ret
    refine ⟨_, rfl, ?_, ?_⟩
    ·rw [HRT.out]
     exact HS5.out
    ·have h3 := below_fr HB2.out HF5.out (fun k hk => own_base (R_ints HRU.out) k hk) HB2.out.size
     exact h3.setCell (by have := HGO.out.1; show w.heap.size ≤ go; omega) _
  ·rw [hnb] at HIT
   have HRS := HNO.out (by rw [hnb]; simp)
   clear hna hnb HNO
   go_enter Tryz.func23, Tryz.ntmps23
   go_wp2_with (first | (go_at_call 39; refine CL.out.mono ?_; rintro e w2 ⟨v2, rfl, ho2, hb2⟩; have HO2 := Aside0.mk ho2; have HB2 := Aside0.mk hb2; clear ho2 hb2) | (go_at_call 43; (with_reducible refine (HIS _).mono ?_); rintro e w' ⟨rfl, rfl⟩) | (go_at_call 43; (with_reducible refine (HIT _).mono ?_); rintro e w' ⟨rfl, rfl⟩))
   go_ret
   exact ⟨_, rfl, by rw [HRS.out]; exact HO2.out, HB2.out⟩
 ·rw [hna] at HIS
  have HRS := HNO.out (by rw [hna]; simp)
  clear hna HNO
  go_enter Tryz.func23, Tryz.ntmps23
  go_wp2_with (first | (go_at_call 39; refine CL.out.mono ?_; rintro e w2 ⟨v2, rfl, ho2, hb2⟩; have HO2 := Aside0.mk ho2; have HB2 := Aside0.mk hb2; clear ho2 hb2) | (go_at_call 43; (with_reducible refine (HIS _).mono ?_); rintro e w' ⟨rfl, rfl⟩))
  go_ret
  exact ⟨_, rfl, by rw [HRS.out]; exact HO2.out, HB2.out⟩
end Go.Proofs.YtemcmcnhpdkdfaaGreat.P
namespace Go.Proofs.YtemcmcnhpdkdfaaGreat.P
open Go.RowKit Go.Proofs.YtemcmcnhpdkdfaaGreatW.PrintWords Go.Proofs.YtemcmcnhpdkdfaaGreatW.PrintLast Go.Proofs.YtemcmcnhpdkdfaaGreatW.PrintMore
attribute [local go_sem] max2_int min2_int max_two min_two max_three min_three max_four min_four
set_option linter.unusedVariables false
set_option linter.unusedSimpArgs false
def domup_New.f (k : Nat) (l0 : List (List Int)) : Option ((List (List Int)) × List Int × Bool) := (graph_Clean.f l0).bind fun t104 => ((dom_Idoms.f k l0).bind fun t107 => (some (t104, t107, true)))
set_option maxHeartbeats 8000000 in
set_option maxRecDepth 100000 in
theorem domup_New.calls (k : Nat) (A0 : Option Addr) (c0 : Nat) (l0 : List (List Int)) (r1 : List (List Int)) (r2 : List Int) (r3 : Bool) (w : World) (hr0 : Kd.C (Kd.slice 3 (Kd.int .i64)) w A0 l0.length l0) (hc0 : l0.length ≤ c0) (h : domup_New.f k l0 = some (r1, r2, r3)) :
  Calls Tryz.prog 20 #[.slice A0 l0.length c0] w fun e w' => ∃ v0_ v1_ : Value, e = .returned (.agg #[v0_, v1_, .bool r3]) ∧ Kd.S (Kd.slice 3 (Kd.int .i64)) 23 w' w.heap.size (fun k_ => some k_ ≠ (v1_ : Value).ownBlock) v0_ r1 ∧ Kd.R (Kd.int .i64) 3 w' w.heap.size (fun _ => True) v1_ r2 ∧ Below w.heap.size w w' := by
 have hu29 := Tryz.underlying29
 have HR0 := Aside0.mk hr0
 have HC0 := Aside0.mk hc0
 clear hr0 hc0
 have HB := Aside0.mk (Below.refl w.heap.size w)
 have H : ((graph_Clean.f l0).bind fun t104 => ((dom_Idoms.f k l0).bind fun t107 => (some (t104, t107, true)))) = some (r1, r2, r3) := h
 clear h
 replace H := Option.bind_eq_some_iff.mp H
 obtain ⟨t104, A20, H⟩ := H
 replace H : ((dom_Idoms.f k l0).bind fun t107 => (some (t104, t107, true))) = some (r1, r2, r3) := H
 have A2 := Aside0.mk A20
 clear A20
 replace H := Option.bind_eq_some_iff.mp H
 obtain ⟨t107, A30, H⟩ := H
 replace H : (some (t104, t107, true)) = some (r1, r2, r3) := H
 have A3 := Aside0.mk A30
 clear A30
 simp only [Option.some.injEq, Prod.mk.injEq] at H
 obtain ⟨rfl, rfl, rfl⟩ := H
 go_enter Tryz.func20, Tryz.ntmps20
 go_wp2_with (first | ((with_reducible refine gate_dst (N := 2) rfl ?_); refine box_event ?hg (N := 2) ?hd (cs := #[.slice none 0 0, .slice none 0 0, .bool false]) (t := 29) ?hr ?_; (case hd => rfl); (case hg => rfl); (case hr => first | (go_simp; done) | (go_simp; rfl)); intro gb103 hg w4 hbox hb; have n0_ := Aside0.mk (below_step (by repeat (first | (with_reducible first | exact HB.out | apply below_alloc | apply pw_below_drewN | apply below_drew1) | exact HB.out)) hb); have n1_ := Aside0.mk (hbox); have n2_ := Aside0.mk ((by rw [hg]; exact (below_size (by repeat (first | (with_reducible first | exact HB.out | apply below_alloc | apply pw_below_drewN | apply below_drew1) | exact HB.out))) : w.heap.size ≤ gb103)); have n3_ := Aside0.mk ((by rw [hg]; exact (below_size (by repeat (first | (with_reducible first | exact HB.out | apply below_alloc | apply pw_below_drewN | apply below_drew1) | exact HB.out))) : w.heap.size ≤ gb103)); clear HB; have HB := n0_; have BK103 := n1_; have GW103 := n2_; have GE103 := n3_; clear n0_ n1_ n2_ n3_; clear hb hbox hg) | ((with_reducible refine gate_callee (f := 39) rfl ?_); refine goesL_ (some 4) rfl rfl Tryz.func39 (by kernel_rfl) rfl #[.slice A0 l0.length c0] rfl (by (try simp only [List.map_toArray, List.map_cons, List.map_nil]); first | done | rfl | (simp only [List.length_drop, List.length_take]; rfl)) ?_; (with_reducible refine (graph_Clean.calls _ _ l0 t104 _ ?side1 ?side2 A2.out).mono ?_); (case side1 => repeat (first | exact (Kd.C_below HR0.out HB.out) | (with_reducible refine Kd.C_alloc ?_ _) | (with_reducible refine Kd.C_drewN ?_ _) | (with_reducible refine Kd.C_drew ?_))); (case side2 => exact HC0.out); rintro e w5 ⟨v105, rfl, ho0, hb⟩; refine ⟨_, rfl, ?_⟩; have n0_ := Aside0.mk (Kd.S_lower ho0 (below_size (by repeat (first | (with_reducible first | exact HB.out | apply below_alloc | apply pw_below_drewN | apply below_drew1 | refine below_set ?_ GE103.out) | exact HB.out)))); have n1_ := Aside0.mk (blk_below (g := gb103) (o := .cells #[.slice none 0 0, .slice none 0 0, .bool false] 29 (0, 0)) (by (with_reducible repeat (first | refine blk_drewN ?_ _ | refine blk_drew ?_ | refine blk_alloc ?_ _)); exact BK103.out) hb); have n2_ := Aside0.mk (below_step (by repeat (first | (with_reducible first | exact HB.out | apply below_alloc | apply pw_below_drewN | apply below_drew1 | refine below_set ?_ GE103.out) | exact HB.out)) hb); clear BK103; clear HB; have HO106 := n0_; have BK103 := n1_; have HB := n2_; clear n0_ n1_ n2_; (try clear hb); (try clear hb2); (try clear hk); (try clear hi); (try clear ho0)) | ((with_reducible refine gate_callee (f := 26) rfl ?_); refine goesL_ (some 6) rfl rfl Tryz.func26 (by kernel_rfl) rfl #[.slice A0 l0.length c0] rfl (by (try simp only [List.map_toArray, List.map_cons, List.map_nil]); first | done | rfl | (simp only [List.length_drop, List.length_take]; rfl)) ?_; (with_reducible refine (dom_Idoms.calls k _ _ l0 t107 _ ?side1 ?side2 A3.out).mono ?_); (case side1 => repeat (first | exact (Kd.C_below HR0.out HB.out) | (with_reducible refine Kd.C_alloc ?_ _) | (with_reducible refine Kd.C_drewN ?_ _) | (with_reducible refine Kd.C_drew ?_))); (case side2 => exact HC0.out); rintro e w6 ⟨v108, rfl, ho0, hb⟩; refine ⟨_, rfl, ?_⟩; have n0_ := Aside0.mk (Kd.S_elder' (by (with_reducible repeat (first | apply Kd.S_alloc | apply Kd.S_drewN | apply Kd.S_drew)); exact HO106.out) (Kd.R_base ho0) hb); have n1_ := Aside0.mk (Kd.R_lower ho0 (below_size (by repeat (first | (with_reducible first | exact HB.out | apply below_alloc | apply pw_below_drewN | apply below_drew1 | refine below_set ?_ GE103.out) | exact HB.out)))); have n2_ := Aside0.mk (blk_below (g := gb103) (o := .cells #[.slice none 0 0, .slice none 0 0, .bool false] 29 (0, 0)) (by (with_reducible repeat (first | refine blk_drewN ?_ _ | refine blk_drew ?_ | refine blk_alloc ?_ _)); exact BK103.out) hb); have n3_ := Aside0.mk (below_step (by repeat (first | (with_reducible first | exact HB.out | apply below_alloc | apply pw_below_drewN | apply below_drew1 | refine below_set ?_ GE103.out) | exact HB.out)) hb); clear HO106; clear BK103; clear HB; have HO106 := n0_; have HO109 := n1_; have BK103 := n2_; have HB := n3_; clear n0_ n1_ n2_ n3_; (try clear hb); (try clear hb2); (try clear hk); (try clear hi); (try clear ho0); obtain ⟨Ao7, co7, eo7⟩ := Kd.R_slice HO109.out; subst eo7; obtain ⟨Ao8, co8, eo8⟩ := Kd.S_slice HO106.out; subst eo8; have hcz9_0 : w6.cell? ⟨gb103, 0, none⟩ = some (.slice none 0 0) := (blk_cell BK103.out 0).trans rfl; have hcz9_1 : w6.cell? ⟨gb103, 1, none⟩ = some (.slice none 0 0) := (blk_cell BK103.out 1).trans rfl; have hcz9_2 : w6.cell? ⟨gb103, 2, none⟩ = some (.bool false) := (blk_cell BK103.out 2).trans rfl; have hfz9_0 := blk_frozen BK103.out 0; have hfz9_1 := blk_frozen BK103.out 1; have hfz9_2 := blk_frozen BK103.out 2))
 refine bodyPost_ret (results_cell_row rfl _ _ gb103 29 #[.slice Ao8 t104.length co8, .slice Ao7 t107.length co7, .bool true] (0, 0) _ rfl (by (with_reducible repeat (first | refine blk_drewN ?_ _ | refine blk_drew ?_ | refine blk_alloc ?_ _)); refine blk_put (cs := #[.slice Ao8 t104.length co8, .slice Ao7 t107.length co7, .bool false]) ?_ 2 _ rfl; (with_reducible repeat (first | refine blk_drewN ?_ _ | refine blk_drew ?_ | refine blk_alloc ?_ _)); refine blk_put (cs := #[.slice Ao8 t104.length co8, .slice none 0 0, .bool false]) ?_ 1 _ rfl; (with_reducible repeat (first | refine blk_drewN ?_ _ | refine blk_drew ?_ | refine blk_alloc ?_ _)); refine blk_put (cs := #[.slice none 0 0, .slice none 0 0, .bool false]) ?_ 0 _ rfl; (with_reducible repeat (first | refine blk_drewN ?_ _ | refine blk_drew ?_ | refine blk_alloc ?_ _)); exact BK103.out) Tryz.underlying29 rfl (by kernel_rfl)) rfl ?_
 exact ⟨_, _, by first | rfl | (simp [errW_none, errW_some] <;> rfl) | (simp [*, errW_none, errW_some] <;> rfl) | (exfalso; (try simp_all); (try omega); done), by (with_reducible repeat (first | apply Kd.S_alloc | apply Kd.S_drewN | apply Kd.S_drew)); exact Kd.S_mono (Kd.S_far (p := ⟨gb103, 2, none⟩) (Kd.S_far (p := ⟨gb103, 1, none⟩) (Kd.S_far (p := ⟨gb103, 0, none⟩) (Kd.S_types HO106.out BK103.out (by decide)) (fun _ hk => hk.2) (.slice Ao8 t104.length co8)) (fun _ hk => hk.2) (.slice Ao7 t107.length co7)) (fun _ hk => hk.2) (.bool true)) (fun _ hk => hk.1.2), by (with_reducible repeat (first | apply Kd.R_alloc | apply Kd.R_drewN | apply Kd.R_drew)); exact Kd.R_mono (Kd.R_far (p := ⟨gb103, 2, none⟩) (Kd.R_far (p := ⟨gb103, 1, none⟩) (Kd.R_far (p := ⟨gb103, 0, none⟩) (Kd.R_types HO109.out BK103.out (by decide)) (fun _ hk => hk.2) (.slice Ao8 t104.length co8)) (fun _ hk => hk.2) (.slice Ao7 t107.length co7)) (fun _ hk => hk.2) (.bool true)) (fun _ hk => trivial), by repeat (first | (with_reducible first | exact HB.out | apply below_alloc | apply pw_below_drewN | apply below_drew1 | refine below_set ?_ GE103.out) | exact HB.out)⟩
def domup_changed.l0 : Nat → List Int → List Int → Int → Int → List (List Int) → List Int → Bool → Option (List Int)
 | 0, _, _, _, _, _, _, _ => none
 | k + 1, x5, x9, x10, x11, x445000, x445001, x445002 => if x11 < x10 then (if 0 ≤ x11 then (if x11 < (x9.length : Int) then (if x11 < (x445001.length : Int) then (if (rd x445001 x11) = (rd x9 x11) then (domup_changed.l0 k x5 x9 x10 (wrap64 (x11 + 1)) x445000 x445001 x445002) else (if x5.length < 17592186044416 then (domup_changed.l0 k (x5 ++ [x11]) x9 x10 (wrap64 (x11 + 1)) x445000 x445001 x445002) else (none))) else (none)) else (none)) else (none)) else (some x5)
def domup_changed.f (k : Nat) (l0_0 : List (List Int)) (l0_1 : List Int) (a0_2 : Bool) (l1_0 : List (List Int)) (l1_1 : List Int) (a1_2 : Bool) : Option (List Int) := domup_changed.l0 k ([] : List Int) l0_1 (l0_1.length : Int) 0 l1_0 l1_1 a1_2
set_option maxHeartbeats 8000000 in
set_option maxRecDepth 100000 in
theorem domup_changed.calls (k : Nat) (A0_0 : Option Addr) (c0_0 : Nat) (l0_0 : List (List Int)) (A0_1 : Option Addr) (c0_1 : Nat) (l0_1 : List Int) (a0_2 : Bool) (A1_0 : Option Addr) (c1_0 : Nat) (l1_0 : List (List Int)) (A1_1 : Option Addr) (c1_1 : Nat) (l1_1 : List Int) (a1_2 : Bool) (r : List Int) (w : World) (hr0_0 : Kd.C (Kd.slice 3 (Kd.int .i64)) w A0_0 l0_0.length l0_0) (hc0_0 : l0_0.length ≤ c0_0) (hr0_1 : Kd.C (Kd.int .i64) w A0_1 l0_1.length l0_1) (hc0_1 : l0_1.length ≤ c0_1) (hr1_0 : Kd.C (Kd.slice 3 (Kd.int .i64)) w A1_0 l1_0.length l1_0) (hc1_0 : l1_0.length ≤ c1_0) (hr1_1 : Kd.C (Kd.int .i64) w A1_1 l1_1.length l1_1) (hc1_1 : l1_1.length ≤ c1_1) (h : domup_changed.f k l0_0 l0_1 a0_2 l1_0 l1_1 a1_2 = some r) :
  Calls Tryz.prog 30 #[.agg #[.slice A0_0 l0_0.length c0_0, .slice A0_1 l0_1.length c0_1, .bool a0_2], .agg #[.slice A1_0 l1_0.length c1_0, .slice A1_1 l1_1.length c1_1, .bool a1_2]] w fun e w' => ∃ v0_ : Value, e = .returned (v0_) ∧ Kd.R (Kd.int .i64) 3 w' w.heap.size (fun _ => True) v0_ r ∧ Below w.heap.size w w' := by
 have hu29 := Tryz.underlying29
 have HR0_0 := Aside0.mk hr0_0
 have HC0_0 := Aside0.mk hc0_0
 clear hr0_0 hc0_0
 have HR0_1 := Aside0.mk hr0_1
 have HC0_1 := Aside0.mk hc0_1
 clear hr0_1 hc0_1
 have HR1_0 := Aside0.mk hr1_0
 have HC1_0 := Aside0.mk hc1_0
 clear hr1_0 hc1_0
 have HR1_1 := Aside0.mk hr1_1
 have HC1_1 := Aside0.mk hc1_1
 clear hr1_1 hc1_1
 have HB := Aside0.mk (Below.refl w.heap.size w)
 have H : (domup_changed.l0 k ([] : List Int) l0_1 (l0_1.length : Int) 0 l1_0 l1_1 a1_2) = some r := h
 clear h
 have H' := Aside0.mk H
 clear H
 go_enter Tryz.func30, Tryz.ntmps30
 go_wp2_with (first | ((with_reducible refine gate_dst (N := 2) rfl ?_); refine box_event ?hg (N := 2) ?hd (cs := #[.slice A0_0 l0_0.length c0_0, .slice A0_1 l0_1.length c0_1, .bool a0_2]) (t := 29) ?hr ?_; (case hd => rfl); (case hg => rfl); (case hr => first | (go_simp; done) | (go_simp; rfl)); intro gb443 hg w3 hbox hb; have n0_ := Aside0.mk (below_step (by repeat (first | (with_reducible first | exact HB.out | apply below_alloc | apply pw_below_drewN | apply below_drew1) | exact HB.out)) hb); have n1_ := Aside0.mk (hbox); have n2_ := Aside0.mk ((by rw [hg]; exact (below_size (by repeat (first | (with_reducible first | exact HB.out | apply below_alloc | apply pw_below_drewN | apply below_drew1) | exact HB.out))) : w.heap.size ≤ gb443)); have n3_ := Aside0.mk ((by rw [hg]; exact (below_size (by repeat (first | (with_reducible first | exact HB.out | apply below_alloc | apply pw_below_drewN | apply below_drew1) | exact HB.out))) : w.heap.size ≤ gb443)); clear HB; have HB := n0_; have BK443 := n1_; have GW443 := n2_; have GE443 := n3_; clear n0_ n1_ n2_ n3_; clear hb hbox hg) | ((with_reducible refine gate_dst (N := 3) rfl ?_); refine box_event ?hg (N := 3) ?hd (cs := #[.slice A1_0 l1_0.length c1_0, .slice A1_1 l1_1.length c1_1, .bool a1_2]) (t := 29) ?hr ?_; (case hd => rfl); (case hg => rfl); (case hr => first | (go_simp; done) | (go_simp; rfl)); intro gb444 hg w4 hbox hb; have n0_ := Aside0.mk (blk_below (g := gb443) (o := .cells #[.slice A0_0 l0_0.length c0_0, .slice A0_1 l0_1.length c0_1, .bool a0_2] 29 (0, 0)) (by (with_reducible repeat (first | refine blk_drewN ?_ _ | refine blk_drew ?_ | refine blk_alloc ?_ _)); exact BK443.out) hb); have n1_ := Aside0.mk (below_step (by repeat (first | (with_reducible first | exact HB.out | apply below_alloc | apply pw_below_drewN | apply below_drew1 | refine below_set ?_ GE443.out) | exact HB.out)) hb); have n2_ := Aside0.mk (hbox); have n3_ := Aside0.mk ((by rw [hg]; exact (below_size (by repeat (first | (with_reducible first | exact HB.out | apply below_alloc | apply pw_below_drewN | apply below_drew1 | refine below_set ?_ GE443.out) | exact HB.out))) : w.heap.size ≤ gb444)); have n4_ := Aside0.mk ((by rw [hg]; exact (below_size (by repeat (first | (with_reducible first | exact HB.out | apply below_alloc | apply pw_below_drewN | apply below_drew1 | refine below_set ?_ GE443.out) | exact HB.out))) : w.heap.size ≤ gb444)); have n5_ := Aside0.mk ((by rw [hg]; exact Nat.ne_of_lt (blk_lt (g := gb443) (o := .cells #[.slice A0_0 l0_0.length c0_0, .slice A0_1 l0_1.length c0_1, .bool a0_2] 29 (0, 0)) (by (with_reducible repeat (first | refine blk_drewN ?_ _ | refine blk_drew ?_ | refine blk_alloc ?_ _)); exact BK443.out)) : gb443 ≠ gb444)); have n6_ := Aside0.mk ((by rw [hg]; exact Nat.ne_of_gt (blk_lt (g := gb443) (o := .cells #[.slice A0_0 l0_0.length c0_0, .slice A0_1 l0_1.length c0_1, .bool a0_2] 29 (0, 0)) (by (with_reducible repeat (first | refine blk_drewN ?_ _ | refine blk_drew ?_ | refine blk_alloc ?_ _)); exact BK443.out)) : gb444 ≠ gb443)); clear BK443; clear HB; have BK443 := n0_; have HB := n1_; have BK444 := n2_; have GW444 := n3_; have GE444 := n4_; have NB443_444 := n5_; have NB444_443 := n6_; clear n0_ n1_ n2_ n3_ n4_ n5_ n6_; clear hb hbox hg; have hnb5 := NB443_444.out; have hnc5 := NB444_443.out; have hcz6_0 : w4.cell? ⟨gb443, 0, none⟩ = some (.slice A0_0 l0_0.length c0_0) := (blk_cell BK443.out 0).trans rfl; have hcz6_1 : w4.cell? ⟨gb443, 1, none⟩ = some (.slice A0_1 l0_1.length c0_1) := (blk_cell BK443.out 1).trans rfl; have hcz6_2 : w4.cell? ⟨gb443, 2, none⟩ = some (.bool a0_2) := (blk_cell BK443.out 2).trans rfl; have hfz6_0 := blk_frozen BK443.out 0; have hfz6_1 := blk_frozen BK443.out 1; have hfz6_2 := blk_frozen BK443.out 2))
 go_loopg [5, 11] k (fun kq v5 v11 w' => ∃ (x5_1 : List Int) (x11_1 : Int), v11 = .int .i64 x11_1 ∧ Aside0 (domup_changed.l0 kq x5_1 l0_1 (l0_1.length : Int) x11_1 l1_0 l1_1 a1_2 = some r) ∧ Aside0 (kq ≤ k) ∧ Aside0 (Kd.R (Kd.int .i64) 3 w' w.heap.size (fun _ => True) v5 x5_1) ∧ Aside0 (w'.heap[gb443]? = some (.cells #[(.slice A0_0 l0_0.length c0_0), (.slice A0_1 l0_1.length c0_1), .bool a0_2] 29 (0, 0))) ∧ Aside0 (w'.heap[gb444]? = some (.cells #[(.slice A1_0 l1_0.length c1_0), (.slice A1_1 l1_1.length c1_1), .bool a1_2] 29 (0, 0))) ∧ Aside0 (Below w.heap.size w w'))
 case atStart => exact ⟨(([] : List Int)), (0), (by first | rfl | (simp; done) | (simp [*]; done)), H', ⟨Nat.le_refl _⟩, ⟨by first | exact Kd.R_nil _ _ _ _ _ | exact Kd.N_nil _ _ _ _ _ | exact Kd.V_nil _ _ _ _ _ | exact Kd.Q_nil _ _ _ _ _ | exact Kd.S_nil _ _ _ _ _⟩, ⟨by (with_reducible repeat (first | refine blk_drewN ?_ _ | refine blk_drew ?_ | refine blk_alloc ?_ _)); exact BK443.out⟩, ⟨by (with_reducible repeat (first | refine blk_drewN ?_ _ | refine blk_drew ?_ | refine blk_alloc ?_ _)); exact BK444.out⟩, ⟨by repeat (first | (with_reducible first | exact HB.out | apply below_alloc | apply pw_below_drewN | apply below_drew1 | refine below_set ?_ GE443.out | refine below_set ?_ GE444.out) | exact HB.out)⟩⟩
 case round =>
  clear H'
  try clear c1
  try clear p2
  try clear c3
  try clear c5
  try clear hcz6_0
  try clear hcz6_1
  try clear hcz6_2
  try clear hfz6_0
  try clear hfz6_1
  try clear hfz6_2
  obtain ⟨x5_1, x11_1, rfl, HA, HK1, HO_5, BK443, BK444, HB⟩ := hrel
  cases gk with
  | zero => exact absurd HA.out (by simp [domup_changed.l0])
  | succ k1 =>
   have H := HA.out
   clear HA
   simp only [domup_changed.l0] at H
   by_cases c7 : x11_1 < (l0_1.length : Int)
   ·rw [if_pos c7] at H
    have c7b0 : decide (x11_1 < (l0_1.length : Int)) = true := decide_eq_true c7
    clear c7
    by_cases c8 : 0 ≤ x11_1
    ·rw [if_pos c8] at H
     have c8b0 : decide (0 ≤ x11_1) = true := decide_eq_true c8
     clear c8
     by_cases c9 : x11_1 < (l0_1.length : Int)
     ·rw [if_pos c9] at H
      have c9b0 : decide (x11_1 < (l0_1.length : Int)) = true := decide_eq_true c9
      clear c9
      by_cases c10 : x11_1 < (l1_1.length : Int)
      ·rw [if_pos c10] at H
       have c10b0 : decide (x11_1 < (l1_1.length : Int)) = true := decide_eq_true c10
       clear c10
       by_cases c11 : (rd l1_1 x11_1) = (rd l0_1 x11_1)
       ·rw [if_pos c11] at H
        have c11b0 : ((rd l1_1 x11_1) == (rd l0_1 x11_1)) = true := beq_iff_eq.mpr c11
        have c11b1 : ((rd l1_1 x11_1) != (rd l0_1 x11_1)) = false := bne_eq_false_iff_eq.mpr c11
        clear c11
        have H' := Aside0.mk H
        clear H
        have p445 : 0 ≤ (x11_1 : Int) := of_decide_eq_true (by first | (with_reducible assumption) | assumption)
        have q445 : x11_1 < (l0_1.length : Int) := of_decide_eq_true (by first | (with_reducible assumption) | assumption)
        obtain ⟨ad445, e445, hx445_0⟩ := Kd.at_int HR0_1.out x11_1 p445 q445
        cases e445
        replace hx445_0 := (HB.out.cell (World.block_lt_of_cell? w _ hx445_0)).trans hx445_0
        replace p445 := eq_true p445
        replace q445 := eq_true q445
        have hnb12 := NB444_443.out
        have hnc12 := NB443_444.out
        have hcz13_0 : wr.cell? ⟨gb444, 0, none⟩ = some (.slice A1_0 l1_0.length c1_0) := (blk_cell BK444.out 0).trans rfl
        have hcz13_1 : wr.cell? ⟨gb444, 1, none⟩ = some (.slice A1_1 l1_1.length c1_1) := (blk_cell BK444.out 1).trans rfl
        have hcz13_2 : wr.cell? ⟨gb444, 2, none⟩ = some (.bool a1_2) := (blk_cell BK444.out 2).trans rfl
        have hfz13_0 := blk_frozen BK444.out 0
        have hfz13_1 := blk_frozen BK444.out 1
        have hfz13_2 := blk_frozen BK444.out 2
        have p446 : 0 ≤ (x11_1 : Int) := of_decide_eq_true (by first | (with_reducible assumption) | assumption)
        have q446 : x11_1 < (l1_1.length : Int) := of_decide_eq_true (by first | (with_reducible assumption) | assumption)
        obtain ⟨ad446, e446, hx446_0⟩ := Kd.at_int HR1_1.out x11_1 p446 q446
        cases e446
        replace hx446_0 := (HB.out.cell (World.block_lt_of_cell? w _ hx446_0)).trans hx446_0
        replace p446 := eq_true p446
        replace q446 := eq_true q446
        go_wp2
        go_roundg k1
        case measure => have := HK1.out; omega
        case rel => exact ⟨(x5_1), (wrap64 (x11_1 + 1)), (by first | rfl | (simp; done) | (simp [*]; done)), H', ⟨by have := HK1.out; omega⟩, ⟨by (with_reducible repeat (first | apply Kd.R_alloc | apply Kd.R_drewN | apply Kd.R_drew)); exact HO_5.out⟩, ⟨by (with_reducible repeat (first | refine blk_drewN ?_ _ | refine blk_drew ?_ | refine blk_alloc ?_ _)); exact BK443.out⟩, ⟨by (with_reducible repeat (first | refine blk_drewN ?_ _ | refine blk_drew ?_ | refine blk_alloc ?_ _)); exact BK444.out⟩, ⟨by repeat (first | (with_reducible first | exact HB.out | apply below_alloc | apply pw_below_drewN | apply below_drew1 | refine below_set ?_ GE443.out | refine below_set ?_ GE444.out) | exact HB.out)⟩⟩
       ·rw [if_neg c11] at H
        have c11b0 : ((rd l1_1 x11_1) == (rd l0_1 x11_1)) = false := beq_eq_false_iff_ne.mpr c11
        have c11b1 : ((rd l1_1 x11_1) != (rd l0_1 x11_1)) = true := bne_iff_ne.mpr c11
        by_cases c14 : x5_1.length < 17592186044416
        ·rw [if_pos c14] at H
         have LMc14 := Aside0.mk c14
         clear c14
         obtain ⟨y447, hy447⟩ : ∃ y_ : List Int, y_ = (x5_1 ++ [x11_1]) := ⟨_, rfl⟩
         replace H : (domup_changed.l0 k1 y447 l0_1 (l0_1.length : Int) (wrap64 (x11_1 + 1)) l1_0 l1_1 a1_2) = some r := by first | (rw [hy447]; with_reducible exact H) | (have H2_ := (Option.bind_some _ _).symm.trans H; rw [hy447]; with_reducible exact H2_) | (have H2_ := (Option.bind_some _ _).symm.trans H; with_reducible exact H2_) | with_reducible exact H | (rw [hy447]; exact H) | exact H
         have Ny447 := Aside0.mk hy447
         clear hy447
         have H' := Aside0.mk H
         clear H
         have p445 : 0 ≤ (x11_1 : Int) := of_decide_eq_true (by first | (with_reducible assumption) | assumption)
         have q445 : x11_1 < (l0_1.length : Int) := of_decide_eq_true (by first | (with_reducible assumption) | assumption)
         obtain ⟨ad445, e445, hx445_0⟩ := Kd.at_int HR0_1.out x11_1 p445 q445
         cases e445
         replace hx445_0 := (HB.out.cell (World.block_lt_of_cell? w _ hx445_0)).trans hx445_0
         replace p445 := eq_true p445
         replace q445 := eq_true q445
         have hnb15 := NB444_443.out
         have hnc15 := NB443_444.out
         have hcz16_0 : wr.cell? ⟨gb444, 0, none⟩ = some (.slice A1_0 l1_0.length c1_0) := (blk_cell BK444.out 0).trans rfl
         have hcz16_1 : wr.cell? ⟨gb444, 1, none⟩ = some (.slice A1_1 l1_1.length c1_1) := (blk_cell BK444.out 1).trans rfl
         have hcz16_2 : wr.cell? ⟨gb444, 2, none⟩ = some (.bool a1_2) := (blk_cell BK444.out 2).trans rfl
         have hfz16_0 := blk_frozen BK444.out 0
         have hfz16_1 := blk_frozen BK444.out 1
         have hfz16_2 := blk_frozen BK444.out 2
         have p446 : 0 ≤ (x11_1 : Int) := of_decide_eq_true (by first | (with_reducible assumption) | assumption)
         have q446 : x11_1 < (l1_1.length : Int) := of_decide_eq_true (by first | (with_reducible assumption) | assumption)
         obtain ⟨ad446, e446, hx446_0⟩ := Kd.at_int HR1_1.out x11_1 p446 q446
         cases e446
         replace hx446_0 := (HB.out.cell (World.block_lt_of_cell? w _ hx446_0)).trans hx446_0
         replace p446 := eq_true p446
         replace q446 := eq_true q446
         go_wp2_with (first | ((with_reducible refine gate_builtin (b := .append) (xs := #[.tmp 23, .tmp 25]) rfl ?_); at_builtin; refine Kd.R_append (Kd.int .i64) (w0 := w) w.heap.size rfl (.tmp 23) (.tmp 25) 23 3 (.int .i64 0) 8 rfl Tryz.underlying23 info3 rfl (by decide) (by omega) u5 x5_1 x11_1 [.int .i64 x11_1] (fun _ => True) (fun _ => False) rfl rfl ?aP (fun _ hk => hk.elim) ?aF ?aO ?aB ?aS ?aL ?_; (case aP => exact rfl); (case aB => exact (by repeat (first | (with_reducible first | exact HB.out | apply below_alloc | apply pw_below_drewN | apply below_drew1 | refine below_set ?_ GE443.out | refine below_set ?_ GE444.out) | exact HB.out))); (case aF => exact (fun _ _ => trivial)); (case aO => exact (by (with_reducible repeat (first | apply Kd.R_alloc | apply Kd.R_drewN | apply Kd.R_drew)); exact HO_5.out)); (case aS => exact (below_size (by repeat (first | (with_reducible first | exact HB.out | apply below_alloc | apply pw_below_drewN | apply below_drew1 | refine below_set ?_ GE443.out | refine below_set ?_ GE444.out) | exact HB.out)))); (case aL => have := LMc14.out; omega); intro v448 w17 ho hb hg hat; rw [← Ny447.out] at ho; have n0_ := Aside0.mk (blk_grown (g := gb443) (o := .cells #[.slice A0_0 l0_0.length c0_0, .slice (some ad445) l0_1.length c0_1, .bool a0_2] 29 (0, 0)) (by (with_reducible repeat (first | refine blk_drewN ?_ _ | refine blk_drew ?_ | refine blk_alloc ?_ _)); exact BK443.out) hg (Kd.R_ne HO_5.out BK443.out (by decide))); have n1_ := Aside0.mk (blk_grown (g := gb444) (o := .cells #[.slice A1_0 l1_0.length c1_0, .slice (some ad446) l1_1.length c1_1, .bool a1_2] 29 (0, 0)) (by (with_reducible repeat (first | refine blk_drewN ?_ _ | refine blk_drew ?_ | refine blk_alloc ?_ _)); exact BK444.out) hg (Kd.R_ne HO_5.out BK444.out (by decide))); have n2_ := Aside0.mk (hb); have n3_ := Aside0.mk (ho); clear BK443; clear BK444; clear HB; clear HO_5; have BK443 := n0_; have BK444 := n1_; have HB := n2_; have HO449 := n3_; clear n0_ n1_ n2_ n3_; clear ho hb hg hat))
         go_roundg k1
         case measure => have := HK1.out; omega
         case rel => exact ⟨(y447), (wrap64 (x11_1 + 1)), (by first | rfl | (simp; done) | (simp [*]; done)), H', ⟨by have := HK1.out; omega⟩, ⟨by (with_reducible repeat (first | apply Kd.R_alloc | apply Kd.R_drewN | apply Kd.R_drew)); exact HO449.out⟩, ⟨by (with_reducible repeat (first | refine blk_drewN ?_ _ | refine blk_drew ?_ | refine blk_alloc ?_ _)); exact BK443.out⟩, ⟨by (with_reducible repeat (first | refine blk_drewN ?_ _ | refine blk_drew ?_ | refine blk_alloc ?_ _)); exact BK444.out⟩, ⟨by repeat (first | (with_reducible first | exact HB.out | apply below_alloc | apply pw_below_drewN | apply below_drew1 | refine below_set ?_ GE443.out | refine below_set ?_ GE444.out) | exact HB.out)⟩⟩
        ·rw [if_neg c14] at H
         exact absurd H (by simp)
      ·rw [if_neg c10] at H
       exact absurd H (by simp)
     ·rw [if_neg c9] at H
      exact absurd H (by simp)
    ·rw [if_neg c8] at H
     exact absurd H (by simp)
   ·rw [if_neg c7] at H
    have c7b0 : decide (x11_1 < (l0_1.length : Int)) = false := decide_eq_false c7
    clear c7
    obtain rfl := Option.some.inj H
    go_wp2
    go_ret
    exact ⟨_, by first | rfl | (simp [errW_none, errW_some] <;> rfl) | (simp [*, errW_none, errW_some] <;> rfl) | (exfalso; (try simp_all); (try omega); done), by (with_reducible repeat (first | apply Kd.R_alloc | apply Kd.R_drewN | apply Kd.R_drew)); exact HO_5.out, by repeat (first | (with_reducible first | exact HB.out | apply below_alloc | apply pw_below_drewN | apply below_drew1 | refine below_set ?_ GE443.out | refine below_set ?_ GE444.out) | exact HB.out)⟩
def domup_State_lost.f (l0_0 : List (List Int)) (l0_1 : List Int) (a0_2 : Bool) (a1 : Int) : Option (Bool) := if a1 < 0 then (some true) else (if a1 ≥ (l0_1.length : Int) then (some true) else (if 0 ≤ a1 then (if a1 < (l0_1.length : Int) then (some ((rd l0_1 a1) == (-2))) else (none)) else (none)))
set_option maxHeartbeats 8000000 in
set_option maxRecDepth 100000 in
theorem domup_State_lost.calls (A0_0 : Option Addr) (c0_0 : Nat) (l0_0 : List (List Int)) (A0_1 : Option Addr) (c0_1 : Nat) (l0_1 : List Int) (a0_2 : Bool) (a1 : Int) (r : Bool) (w : World) (hr0_0 : Kd.C (Kd.slice 3 (Kd.int .i64)) w A0_0 l0_0.length l0_0) (hc0_0 : l0_0.length ≤ c0_0) (hr0_1 : Kd.C (Kd.int .i64) w A0_1 l0_1.length l0_1) (hc0_1 : l0_1.length ≤ c0_1) (h : domup_State_lost.f l0_0 l0_1 a0_2 a1 = some r) :
  Calls Tryz.prog 25 #[.agg #[.slice A0_0 l0_0.length c0_0, .slice A0_1 l0_1.length c0_1, .bool a0_2], .int .i64 a1] w fun e w' => e = .returned (.bool r) ∧ Below w.heap.size w w' := by
 have hu29 := Tryz.underlying29
 have HR0_0 := Aside0.mk hr0_0
 have HC0_0 := Aside0.mk hc0_0
 clear hr0_0 hc0_0
 have HR0_1 := Aside0.mk hr0_1
 have HC0_1 := Aside0.mk hc0_1
 clear hr0_1 hc0_1
 have HB := Aside0.mk (Below.refl w.heap.size w)
 have H : (if a1 < 0 then (some true) else (if a1 ≥ (l0_1.length : Int) then (some true) else (if 0 ≤ a1 then (if a1 < (l0_1.length : Int) then (some ((rd l0_1 a1) == (-2))) else (none)) else (none)))) = some r := h
 clear h
 by_cases c3 : a1 < 0
 ·rw [if_pos c3] at H
  have c3b0 : decide (a1 < 0) = true := decide_eq_true c3
  clear c3
  obtain rfl := Option.some.inj H
  go_enter Tryz.func25, Tryz.ntmps25
  go_wp2_with (first | ((with_reducible refine gate_dst (N := 2) rfl ?_); (try (refine gate_guard (by rfl) ?_; dsimp only)); refine box_event ?hg (N := 2) ?hd (cs := #[.slice A0_0 l0_0.length c0_0, .slice A0_1 l0_1.length c0_1, .bool a0_2]) (t := 29) ?hr ?_; (case hd => rfl); (case hg => rfl); (case hr => first | (go_simp; done) | (go_simp; rfl)); intro gb450 hg w4 hbox hb; have n0_ := Aside0.mk (below_step (by repeat (first | (with_reducible first | exact HB.out | apply below_alloc | apply pw_below_drewN | apply below_drew1) | exact HB.out)) hb); have n1_ := Aside0.mk (hbox); have n2_ := Aside0.mk ((by rw [hg]; exact (below_size (by repeat (first | (with_reducible first | exact HB.out | apply below_alloc | apply pw_below_drewN | apply below_drew1) | exact HB.out))) : w.heap.size ≤ gb450)); have n3_ := Aside0.mk ((by rw [hg]; exact (below_size (by repeat (first | (with_reducible first | exact HB.out | apply below_alloc | apply pw_below_drewN | apply below_drew1) | exact HB.out))) : w.heap.size ≤ gb450)); clear HB; have HB := n0_; have BK450 := n1_; have GW450 := n2_; have GE450 := n3_; clear n0_ n1_ n2_ n3_; clear hb hbox hg))
  go_ret
  exact ⟨by first | rfl | (simp [errW_none, errW_some] <;> rfl) | (simp [*, errW_none, errW_some] <;> rfl) | (exfalso; (try simp_all); (try omega); done), by repeat (first | (with_reducible first | exact HB.out | apply below_alloc | apply pw_below_drewN | apply below_drew1 | refine below_set ?_ GE450.out) | exact HB.out)⟩
 ·rw [if_neg c3] at H
  have c3b0 : decide (a1 < 0) = false := decide_eq_false c3
  clear c3
  by_cases c5 : a1 ≥ (l0_1.length : Int)
  ·rw [if_pos c5] at H
   have c5b0 : decide ((l0_1.length : Int) ≤ a1) = true := decide_eq_true c5
   clear c5
   obtain rfl := Option.some.inj H
   go_enter Tryz.func25, Tryz.ntmps25
   go_wp2_with (first | ((with_reducible refine gate_dst (N := 2) rfl ?_); (try (refine gate_guard (by rfl) ?_; dsimp only)); refine box_event ?hg (N := 2) ?hd (cs := #[.slice A0_0 l0_0.length c0_0, .slice A0_1 l0_1.length c0_1, .bool a0_2]) (t := 29) ?hr ?_; (case hd => rfl); (case hg => rfl); (case hr => first | (go_simp; done) | (go_simp; rfl)); intro gb450 hg w6 hbox hb; have n0_ := Aside0.mk (below_step (by repeat (first | (with_reducible first | exact HB.out | apply below_alloc | apply pw_below_drewN | apply below_drew1) | exact HB.out)) hb); have n1_ := Aside0.mk (hbox); have n2_ := Aside0.mk ((by rw [hg]; exact (below_size (by repeat (first | (with_reducible first | exact HB.out | apply below_alloc | apply pw_below_drewN | apply below_drew1) | exact HB.out))) : w.heap.size ≤ gb450)); have n3_ := Aside0.mk ((by rw [hg]; exact (below_size (by repeat (first | (with_reducible first | exact HB.out | apply below_alloc | apply pw_below_drewN | apply below_drew1) | exact HB.out))) : w.heap.size ≤ gb450)); clear HB; have HB := n0_; have BK450 := n1_; have GW450 := n2_; have GE450 := n3_; clear n0_ n1_ n2_ n3_; clear hb hbox hg; have hcz7_0 : w6.cell? ⟨gb450, 0, none⟩ = some (.slice A0_0 l0_0.length c0_0) := (blk_cell BK450.out 0).trans rfl; have hcz7_1 : w6.cell? ⟨gb450, 1, none⟩ = some (.slice A0_1 l0_1.length c0_1) := (blk_cell BK450.out 1).trans rfl; have hcz7_2 : w6.cell? ⟨gb450, 2, none⟩ = some (.bool a0_2) := (blk_cell BK450.out 2).trans rfl; have hfz7_0 := blk_frozen BK450.out 0; have hfz7_1 := blk_frozen BK450.out 1; have hfz7_2 := blk_frozen BK450.out 2))
   go_ret
   exact ⟨by first | rfl | (simp [errW_none, errW_some] <;> rfl) | (simp [*, errW_none, errW_some] <;> rfl) | (exfalso; (try simp_all); (try omega); done), by repeat (first | (with_reducible first | exact HB.out | apply below_alloc | apply pw_below_drewN | apply below_drew1 | refine below_set ?_ GE450.out) | exact HB.out)⟩
  ·rw [if_neg c5] at H
   have c5b0 : decide ((l0_1.length : Int) ≤ a1) = false := decide_eq_false c5
   clear c5
   by_cases c8 : 0 ≤ a1
   ·rw [if_pos c8] at H
    have c8b0 : decide (0 ≤ a1) = true := decide_eq_true c8
    clear c8
    by_cases c9 : a1 < (l0_1.length : Int)
    ·rw [if_pos c9] at H
     have c9b0 : decide (a1 < (l0_1.length : Int)) = true := decide_eq_true c9
     clear c9
     obtain rfl := Option.some.inj H
     go_enter Tryz.func25, Tryz.ntmps25
     go_wp2_with (first | ((with_reducible refine gate_dst (N := 2) rfl ?_); (try (refine gate_guard (by rfl) ?_; dsimp only)); refine box_event ?hg (N := 2) ?hd (cs := #[.slice A0_0 l0_0.length c0_0, .slice A0_1 l0_1.length c0_1, .bool a0_2]) (t := 29) ?hr ?_; (case hd => rfl); (case hg => rfl); (case hr => first | (go_simp; done) | (go_simp; rfl)); intro gb450 hg w10 hbox hb; have n0_ := Aside0.mk (below_step (by repeat (first | (with_reducible first | exact HB.out | apply below_alloc | apply pw_below_drewN | apply below_drew1) | exact HB.out)) hb); have n1_ := Aside0.mk (hbox); have n2_ := Aside0.mk ((by rw [hg]; exact (below_size (by repeat (first | (with_reducible first | exact HB.out | apply below_alloc | apply pw_below_drewN | apply below_drew1) | exact HB.out))) : w.heap.size ≤ gb450)); have n3_ := Aside0.mk ((by rw [hg]; exact (below_size (by repeat (first | (with_reducible first | exact HB.out | apply below_alloc | apply pw_below_drewN | apply below_drew1) | exact HB.out))) : w.heap.size ≤ gb450)); clear HB; have HB := n0_; have BK450 := n1_; have GW450 := n2_; have GE450 := n3_; clear n0_ n1_ n2_ n3_; clear hb hbox hg; have hcz11_0 : w10.cell? ⟨gb450, 0, none⟩ = some (.slice A0_0 l0_0.length c0_0) := (blk_cell BK450.out 0).trans rfl; have hcz11_1 : w10.cell? ⟨gb450, 1, none⟩ = some (.slice A0_1 l0_1.length c0_1) := (blk_cell BK450.out 1).trans rfl; have hcz11_2 : w10.cell? ⟨gb450, 2, none⟩ = some (.bool a0_2) := (blk_cell BK450.out 2).trans rfl; have hfz11_0 := blk_frozen BK450.out 0; have hfz11_1 := blk_frozen BK450.out 1; have hfz11_2 := blk_frozen BK450.out 2; have p451 : 0 ≤ (a1 : Int) := of_decide_eq_true (by first | (with_reducible assumption) | assumption); have q451 : a1 < (l0_1.length : Int) := of_decide_eq_true (by first | (with_reducible assumption) | assumption); obtain ⟨ad451, e451, hx451_0⟩ := Kd.at_int HR0_1.out a1 p451 q451; cases e451; replace hx451_0 := (HB.out.cell (World.block_lt_of_cell? w _ hx451_0)).trans hx451_0; replace p451 := eq_true p451; replace q451 := eq_true q451))
     go_ret
     exact ⟨by first | rfl | (simp [errW_none, errW_some] <;> rfl) | (simp [*, errW_none, errW_some] <;> rfl) | (exfalso; (try simp_all); (try omega); done), by repeat (first | (with_reducible first | exact HB.out | apply below_alloc | apply pw_below_drewN | apply below_drew1 | refine below_set ?_ GE450.out) | exact HB.out)⟩
    ·rw [if_neg c9] at H
     exact absurd H (by simp)
   ·rw [if_neg c8] at H
    exact absurd H (by simp)
end Go.Proofs.YtemcmcnhpdkdfaaGreat.P
namespace Go.Proofs.YtemcmcnhpdkdfaaGreat.P
open Go.RowKit Go.Shelf Go.Lib Go.Sort Go.Proofs.YtemcmcnhpdkdfaaGreatW.PrintWords Go.Proofs.YtemcmcnhpdkdfaaGreatW.PrintLast Go.Proofs.YtemcmcnhpdkdfaaGreatW.PrintMore
theorem cell_of_blk {w : World} {b t j : Nat} {cs : Array Value} {v : Value} (h : w.heap[b]? = some (.cells cs t (0, 0))) (hj : cs[j]? = some v) : w.cell? ⟨b, j, none⟩ = some v := by simp [World.cell?, h, hj]
theorem frozen_of_blk {w : World} {b t : Nat} {cs : Array Value} (j : Nat) (h : w.heap[b]? = some (.cells cs t (0, 0))) : w.frozen? ⟨b, j, none⟩ = false := by simp [World.frozen?, h]
theorem two_boxes {w w3 : World} {v1 v2 : Array Value} {t1 t2 : TypeId} (h : Below ((w.alloc (.cells v1 t1)).alloc (.cells v2 t2)).heap.size ((w.alloc (.cells v1 t1)).alloc (.cells v2 t2)) w3) :
  w3.heap[w.heap.size]? = some (.cells v1 t1 (0, 0)) ∧ w3.heap[w.heap.size + 1]? = some (.cells v2 t2 (0, 0)) ∧ w.heap.size + 2 ≤ w3.heap.size ∧ Below w.heap.size w w3 := by
 have hs := h.size
 simp only [size_alloc1] at hs
 refine ⟨heap_bel (heap_old (heap_new w _ _ rfl)) h, heap_bel (heap_new _ _ _ (by rw [size_alloc1])) h, by omega, (below_alloc (below_alloc (Below.refl _ w) _) _).trans (h.mono (by simp only [size_alloc1]; omega))⟩
theorem three_put {W : World} {b t : Nat} {z0 z1 z2 : Value} (h : W.heap[b]? = some (.cells #[z0, z1, z2] t (0, 0))) (v0 v1 v2 : Value) : (((W.setCell ⟨b, 0, none⟩ v0).setCell ⟨b, 1, none⟩ v1).setCell ⟨b, 2, none⟩ v2).heap[b]? = some (.cells #[v0, v1, v2] t (0, 0)) := by
 refine blk_put (cs := #[v0, v1, z2]) ?_ 2 _ rfl
 refine blk_put (cs := #[v0, z1, z2]) ?_ 1 _ rfl
 exact blk_put (cs := #[z0, z1, z2]) h 0 _ rfl
theorem three_other {W : World} {b k : Nat} (h : k ≠ b) (v0 v1 v2 : Value) : (((W.setCell ⟨b, 0, none⟩ v0).setCell ⟨b, 1, none⟩ v1).setCell ⟨b, 2, none⟩ v2).heap[k]? = W.heap[k]? := by
 rw [Below.heap_setCell _ _ _ _ h, Below.heap_setCell _ _ _ _ h, Below.heap_setCell _ _ _ _ h]
theorem three_below {w W : World} {n b : Nat} (h : Below n w W) (hB : n ≤ b) (v0 v1 v2 : Value) : Below n w (((W.setCell ⟨b, 0, none⟩ v0).setCell ⟨b, 1, none⟩ v1).setCell ⟨b, 2, none⟩ v2) :=
 ((h.setCell (p := ⟨b, 0, none⟩) hB v0).setCell (p := ⟨b, 1, none⟩) hB v1).setCell (p := ⟨b, 2, none⟩) hB v2
theorem equal_c (A : Option Addr) (c : Nat) (xs : List Int) (B : Option Addr) (d : Nat) (ys : List Int) (w : World) (h1 : dI.C w A xs.length xs) (h2 : dI.C w B ys.length ys) (hb1 : xs.length ≤ 1000000) (hb2 : ys.length ≤ 1000000) :
  Calls Tryz.prog 38 #[.slice A xs.length c, .slice B ys.length d] w fun e w' => e = .returned (.bool (decide (xs = ys))) ∧ ∃ q, w' = w.drewN q := by
 by_cases hl : xs.length = ys.length
 ·by_cases h0 : xs.length = 0
  ·have e1 := List.eq_nil_of_length_eq_zero h0
   have e2 : ys = [] := List.eq_nil_of_length_eq_zero (by omega)
   subst e1 e2
   exact (Tryz.slices_Equal_int_empty A B c 0 d w (by omega)).mono (by rintro e w' ⟨rfl, rfl⟩; exact ⟨rfl, 0, rfl⟩)
  ·obtain ⟨b1, o1, rfl, _, c1⟩ := C_ints h1 (by omega)
   obtain ⟨b2, o2, rfl, _, c2⟩ := C_ints h2 (by omega)
   refine (Tryz.slices_Equal_int b1 o1 xs.length c b2 o2 ys.length d xs ys w (Nat.le_refl _) (Nat.le_refl _) (by omega) (by omega) (fun j hj => c1 j hj) (fun j hj => c2 j hj)).mono ?_
   rintro e w' ⟨rfl, q, rfl⟩
   refine ⟨?_, q, rfl⟩
   rw [List.take_length, List.take_length]
   by_cases e : xs = ys
   ·subst e; simp
   ·rw [decide_eq_false e]
    congr 2
    simpa using e
 ·refine (Tryz.slices_Equal_int_lens A B xs.length c ys.length d w hl).mono ?_
  rintro e w' ⟨rfl, rfl⟩
  exact ⟨by rw [decide_eq_false (fun e => hl (by rw [e]))], 0, rfl⟩
set_option maxHeartbeats 4000000 in
set_option maxRecDepth 100000 in
theorem eqf_c (A : Option Addr) (c : Nat) (g1 : List (List Int)) (B : Option Addr) (d : Nat) (g2 : List (List Int)) (w : World) (h1 : dG.C w A g1.length g1) (h2 : dG.C w B g2.length g2) (hb1 : g1.length ≤ 1000000) (hb2 : g2.length ≤ 1000000)
  (hr1 : ∀ r ∈ g1, r.length ≤ 1000000) (hr2 : ∀ r ∈ g2, r.length ≤ 1000000) :
  Calls Tryz.prog 37 #[.slice A g1.length c, .slice B g2.length d, .func (.func 38) #[] #[]] w fun e w' => e = .returned (.bool (decide (g1 = g2))) ∧ ∃ q, w' = w.drewN q := by
 have H1 := Aside0.mk h1
 have H2 := Aside0.mk h2
 have HR1 := Aside0.mk hr1
 have HR2 := Aside0.mk hr2
 obtain ⟨n, en⟩ : ∃ n, n = g1.length := ⟨_, rfl⟩
 obtain ⟨m, em⟩ : ∃ m, m = g2.length := ⟨_, rfl⟩
 rw [← en] at hb1
 rw [← em] at hb2
 rw [← en, ← em]
 have HEN := Aside0.mk en
 have HEM := Aside0.mk em
 clear h1 h2 hr1 hr2 en em
 by_cases hnm : n = m
 ·subst hnm
  have c0 : ((n : Int) != (n : Int)) = false := by simp
  go_enter Tryz.func37, Tryz.ntmps37
  go_wp2
  go_loopw [17] (fun v17 w' => ∃ i : Nat, i ≤ n ∧ v17 = .int .i64 i ∧ Aside0 (g1.take i = g2.take i) ∧ ∃ q, w' = w.drewN q) (fun v17 _ => n - (intOf v17).toNat)
  case atStart => exact ⟨0, Nat.zero_le _, rfl, ⟨by simp⟩, 0, rfl⟩
  case round =>
   obtain ⟨i, hi, rfl, HT, q, rfl⟩ := hrel
   by_cases hlt : i < n
   ·have hl1 : i < g1.length := by have := HEN.out; omega
    have hl2 : i < g2.length := by have := HEM.out; omega
    have k1 := H1.out
    have k2 := H2.out
    rw [← HEN.out] at k1
    rw [← HEM.out] at k2
    obtain ⟨ad, A1, c1, e, hrow, hlc, hC⟩ := C_row k1 (i := i) hlt
    obtain ⟨ad2, A2, c2, e2_, hrow2, hlc2, hC2⟩ := C_row k2 (i := i) hlt
    clear k1 k2
    subst e e2_
    have e1 : g1.getD i [] = g1[i] := by rw [List.getD_eq_getElem?_getD, List.getElem?_eq_getElem hl1]; rfl
    have e2 : g2.getD i [] = g2[i] := by rw [List.getD_eq_getElem?_getD, List.getElem?_eq_getElem hl2]; rfl
    obtain ⟨r1, er1⟩ : ∃ r, r = g1.getD i [] := ⟨_, rfl⟩
    obtain ⟨r2, er2⟩ : ∃ r, r = g2.getD i [] := ⟨_, rfl⟩
    rw [← er1] at hrow hlc hC e1
    rw [← er2] at hrow2 hlc2 hC2 e2
    have HQ := Aside0.mk (equal_c A1 c1 r1 A2 c2 r2 (w.drewN q) (Kd.C_drewN hC q) (Kd.C_drewN hC2 q) (by rw [e1]; exact HR1.out _ (List.getElem_mem hl1)) (by rw [e2]; exact HR2.out _ (List.getElem_mem hl2)))
    have HE1 := Aside0.mk e1
    have HE2 := Aside0.mk e2
    obtain ⟨n1, en1⟩ : ∃ n, n = r1.length := ⟨_, rfl⟩
    obtain ⟨n2, en2⟩ : ∃ n, n = r2.length := ⟨_, rfl⟩
    rw [← en1] at HQ hrow
    rw [← en2] at HQ hrow2
    obtain ⟨b, eb⟩ : ∃ b, b = decide (r1 = r2) := ⟨_, rfl⟩
    rw [← eb] at HQ
    have HEB := Aside0.mk eb
    clear e1 e2 er1 er2 hlc hC hlc2 hC2 en1 en2 eb
    cases b with
    | true =>
     go_wp2_with (go_at_call 38; refine HQ.out.mono ?_; rintro e w2 ⟨rfl, m2, rfl⟩)
     go_roundw
     case rel =>
      refine ⟨i + 1, by omega, by go_num, ⟨?_⟩, _, rfl⟩
      rw [List.take_succ_eq_append_getElem hl1, List.take_succ_eq_append_getElem hl2, HT.out, ← HE1.out, ← HE2.out, of_decide_eq_true HEB.out.symm]
     case measure => simp [intOf]; omega
    | false =>
     go_wp2_with (go_at_call 38; refine HQ.out.mono ?_; rintro e w2 ⟨rfl, m2, rfl⟩)
     go_ret
     refine ⟨?_, _, rfl⟩
     rw [decide_eq_false (fun e => of_decide_eq_false HEB.out.symm (by rw [HE1.out, HE2.out]; simp only [e]))]
     rfl
   ·obtain rfl : i = n := by omega
    go_wp2
    go_ret
    refine ⟨?_, q, rfl⟩
    have := HT.out
    rw [List.take_of_length_le (by have := HEN.out; omega), List.take_of_length_le (by have := HEM.out; omega)] at this
    rw [decide_eq_true this]
    rfl
 ·have c0 : ((n : Int) != (m : Int)) = true := by simp; omega
  go_enter Tryz.func37, Tryz.ntmps37
  go_wp2
  go_ret
  exact ⟨by rw [decide_eq_false (fun e => hnm (by rw [HEN.out, HEM.out, e]))]; rfl, 0, rfl⟩
def domup_Sane.f (k : Nat) (g : List (List Int)) (l : List Int) (_kp : Bool) : Option Bool :=
 if fits g = true ∧ l.length ≤ 100000 then (dom_Idoms.f k g).bind fun l2 => if l2.length ≤ 100000 then some (decide (g = clean g) && decide (l = l2)) else none else none
theorem fits_rows {g : List (List Int)} (h : fits g = true) : g.length ≤ 100000 ∧ ∀ r ∈ g, r.length ≤ 1000000 := by
 unfold fits at h
 simp at h
 exact ⟨h.1, fun r hr => by have := h.2 r hr; omega⟩
end Go.Proofs.YtemcmcnhpdkdfaaGreat.P
namespace Go.Proofs.YtemcmcnhpdkdfaaGreat.P
open Go.RowKit Go.Shelf Go.Lib Go.Sort Go.Proofs.YtemcmcnhpdkdfaaGreatW.PrintWords Go.Proofs.YtemcmcnhpdkdfaaGreatW.PrintLast Go.Proofs.YtemcmcnhpdkdfaaGreatW.PrintMore
set_option maxHeartbeats 4000000 in
set_option maxRecDepth 100000 in
theorem under_c (A0 : Option Addr) (n0 c0 : Nat) (A1 : Option Addr) (c1 : Nat) (l : List Int) (kp : Bool) (top : Int) (w : World) (h : dI.C w A1 l.length l) (hc : l.length ≤ c1) (hl : l.length ≤ 1000000) :
  Calls Tryz.prog 28 #[.agg #[.slice A0 n0 c0, .slice A1 l.length c1, .bool kp], .int .i64 top] w fun e w' => ∃ Bt Bb Ab cb, e = .returned (.func (.func 52) #[] #[.pointer (some ⟨Bt, 0, none⟩), .pointer (some ⟨Bb, 0, none⟩)]) ∧ w'.cell? ⟨Bt, 0, none⟩ = some (.int .i64 top) ∧ w'.cell? ⟨Bb, 0, none⟩ = some (.slice Ab (belowB l top).length cb) ∧ dI.C w' Ab (belowB l top).length (belowB l top) ∧ (belowB l top).length ≤ cb ∧ Below w.heap.size w w' := by
 have hu := Tryz.underlying29
 obtain ⟨k, hk⟩ := below_ev l hl top
 have HBE := Aside0.mk (fun W (hW : Below w.heap.size w W) => dom_Below.calls k A1 c1 l top (belowB l top) W (Kd.C_below h hW) hc (hk k (Nat.le_refl _)))
 obtain ⟨bel, ebel⟩ : ∃ bel, bel = belowB l top := ⟨_, rfl⟩
 obtain ⟨n1, en1⟩ : ∃ n1, n1 = l.length := ⟨_, rfl⟩
 rw [← ebel, ← en1] at HBE
 rw [← ebel, ← en1]
 clear h hc hl hk ebel en1
 go_enter Tryz.func28, Tryz.ntmps28
 go_upto_region 2 with (go_at_call 51; refine (HBE.out _ (below_alloc (below_alloc (Below.refl _ _) _) _)).mono ?_; rintro e w3 ⟨v3, rfl, ho3, hb3⟩; obtain ⟨Ab, cb, rfl⟩ := Kd.R_slice ho3; have HO3 := Aside0.mk ho3; have HB3 := Aside0.mk hb3; clear ho3 hb3)
 go_wp2
 go_ret
 have hs : w.heap.size + 2 ≤ w3.heap.size := by have := HB3.out.size; simp only [size_alloc1] at this; omega
 have hC := Kd.R_reads' HO3.out
 have hx : Below w3.heap.size w3 (w3.alloc (.cells #[.slice Ab bel.length cb] 23)) := below_alloc (Below.refl _ _) _
 refine ⟨w.heap.size + 1, w3.heap.size, Ab, cb, rfl, ?_, ?_, Kd.C_below hC.2.2 hx, hC.2.1, ?_⟩
 ·refine cell_bel hx (cell_bel HB3.out ?_)
  have := cell_new (w.alloc (.cells #[.slice A0 n0 c0, .slice A1 n1 c1, .bool kp] 29)) (.int .i64 top) 3
  rw [size_alloc1] at this
  exact this
 ·simp
 ·exact below_alloc ((below_alloc (below_alloc (Below.refl _ w) _) _).trans (HB3.out.mono (by simp only [size_alloc1]; omega))) _
set_option maxHeartbeats 4000000 in
set_option maxRecDepth 100000 in
theorem domup_Sane.calls (k : Nat) (A0 : Option Addr) (c0 : Nat) (g : List (List Int)) (A1 : Option Addr) (c1 : Nat) (l : List Int) (kp : Bool) (r : Bool) (w : World) (hr0 : Kd.C (Kd.slice 3 (Kd.int .i64)) w A0 g.length g) (hc0 : g.length ≤ c0) (hr1 : Kd.C (Kd.int .i64) w A1 l.length l) (_hc1 : l.length ≤ c1) (h : domup_Sane.f k g l kp = some r) :
  Calls Tryz.prog 14 #[.agg #[.slice A0 g.length c0, .slice A1 l.length c1, .bool kp]] w fun e w' => e = .returned (.bool r) ∧ Below w.heap.size w w' := by
 unfold domup_Sane.f at h
 split at h
 case isFalse => cases h
 rename_i hf
 obtain ⟨hf, hl⟩ := hf
 obtain ⟨l2, hl2, h⟩ := Option.bind_eq_some_iff.1 h
 split at h
 case isFalse => cases h
 rename_i hl2n
 have h := Option.some.inj h
 have hu := Tryz.underlying29
 have HN := Aside0.mk (fun W (hW : Below w.heap.size w W) => domup_New.calls k A0 c0 g (clean g) l2 true W (Kd.C_below hr0 hW) hc0 (by unfold domup_New.f graph_Clean.f; rw [if_pos hf, Option.bind_some, hl2]; rfl))
 have HF := Aside0.mk hf
 have HC0 := Aside0.mk hr0
 have HC1 := Aside0.mk hr1
 have HH := Aside0.mk h
 have HLL := Aside0.mk (And.intro hl hl2n)
 obtain ⟨n0, en0⟩ : ∃ n0, n0 = g.length := ⟨_, rfl⟩
 obtain ⟨n1, en1⟩ : ∃ n1, n1 = l.length := ⟨_, rfl⟩
 have HE0 := Aside0.mk en0
 have HE1 := Aside0.mk en1
 rw [← en0] at HN
 rw [← en0, ← en1]
 clear hr0 hr1 hc0 hf hl hl2n h hl2 en0 en1
 go_enter Tryz.func14, Tryz.ntmps14
 go_upto_region 2 with (go_at_call 20; refine (HN.out _ (below_alloc (Below.refl _ _) _)).mono ?_; rintro e w3 ⟨v3, v4, rfl, ho3, ho4, hb3⟩; obtain ⟨AS, cS, rfl, _⟩ := Kd.S_reads ho3; obtain ⟨AR, cR, rfl⟩ := Kd.R_slice ho4; have HO3 := Aside0.mk ho3; have HO4 := Aside0.mk ho4; have HB3 := Aside0.mk hb3; clear ho3 ho4 hb3)
 have hx : Below w3.heap.size w3 (w3.alloc (.cells #[.slice AS (clean g).length cS, .slice AR l2.length cR, .bool true] 29)) := below_alloc (Below.refl _ _) _
 have hw : Below w.heap.size w (w3.alloc (.cells #[.slice AS (clean g).length cS, .slice AR l2.length cR, .bool true] 29)) := below_alloc ((below_alloc (Below.refl _ w) _).trans (HB3.out.mono (by simp only [size_alloc1]; omega))) _
 have hp : (w3.alloc (.cells #[.slice AS (clean g).length cS, .slice AR l2.length cR, .bool true] 29)).heap[w.heap.size]? = some (.cells #[.slice A0 n0 c0, .slice A1 n1 c1, .bool kp] 29 (0, 0)) := heap_bel (heap_bel (heap_new w _ _ rfl) HB3.out) hx
 have hq : (w3.alloc (.cells #[.slice AS (clean g).length cS, .slice AR l2.length cR, .bool true] 29)).heap[w3.heap.size]? = some (.cells #[.slice AS (clean g).length cS, .slice AR l2.length cR, .bool true] 29 (0, 0)) := heap_new w3 _ _ rfl
 have hC3 := Kd.C_below (Kd.S_reads' HO3.out).2.2 hx
 have hC4 := Kd.C_below (Kd.R_reads' HO4.out).2.2 hx
 have hD0 := Kd.C_below HC0.out hw
 have hD1 := Kd.C_below HC1.out hw
 obtain ⟨W, hW⟩ : ∃ W, W = w3.alloc (.cells #[.slice AS (clean g).length cS, .slice AR l2.length cR, .bool true] 29) := ⟨_, rfl⟩
 rw [← hW] at hw hp hq hC3 hC4 hD0 hD1
 rw [← hW]
 have p0 := cell_of_blk (j := 0) hp rfl
 have p1 := cell_of_blk (j := 1) hp rfl
 have q0 := cell_of_blk (j := 0) hq rfl
 have q1 := cell_of_blk (j := 1) hq rfl
 have HW := Aside0.mk hw
 have HEF := Aside0.mk (eqf_c A0 c0 g AS cS (clean g) W hD0 hC3 (by have := fits_rows HF.out; omega) (by rw [clean_len]; have := fits_rows HF.out; omega) (fits_rows HF.out).2 (fits_rows (fits_clean HF.out)).2)
 have HEQ := Aside0.mk (fun q => equal_c A1 c1 l AR cR l2 (W.drewN q) (Kd.C_drewN hD1 q) (Kd.C_drewN hC4 q) (by have := HLL.out; omega) (by have := HLL.out; omega))
 rw [← HE0.out] at HEF
 rw [← HE1.out] at HEQ
 obtain ⟨ns, ens⟩ : ∃ ns, ns = (clean g).length := ⟨_, rfl⟩
 obtain ⟨nr, enr⟩ : ∃ nr, nr = l2.length := ⟨_, rfl⟩
 rw [← ens] at HEF q0
 rw [← enr] at HEQ q1
 obtain ⟨b1, eb1⟩ : ∃ b1, b1 = decide (g = clean g) := ⟨_, rfl⟩
 obtain ⟨b2, eb2⟩ : ∃ b2, b2 = decide (l = l2) := ⟨_, rfl⟩
 rw [← eb1] at HEF HH
 rw [← eb2] at HEQ HH
 clear hx hw hp hq hC3 hC4 hD0 hD1 hW ens enr eb1 eb2 HO3 HO4 HB3
 cases b1 with
 | false =>
  go_wp2_with (go_at_call 37; refine HEF.out.mono ?_; rintro e w4 ⟨rfl, q, rfl⟩)
  go_ret
  exact ⟨by rw [← HH.out]; rfl, pw_below_drewN HW.out _⟩
 | true =>
  rw [Bool.true_and] at HH
  go_wp2_with (first | (go_at_call 37; refine HEF.out.mono ?_; rintro e w4 ⟨rfl, q, rfl⟩) | (go_at_call 38; refine (HEQ.out _).mono ?_; rintro e w5 ⟨rfl, q2, rfl⟩))
  go_ret
  exact ⟨by rw [← HH.out]; rfl, by repeat (first | exact HW.out | apply pw_below_drewN)⟩
structure StC (w : World) (AG : Option Addr) (cG : Nat) (AI : Option Addr) (cI : Nat) (g : List (List Int)) (l : List Int) : Prop where
 gr : dG.C w AG g.length g
 gc : g.length ≤ cG
 ii : dI.C w AI l.length l
 ic : l.length ≤ cI
theorem StC.below {w w' : World} {AG : Option Addr} {cG : Nat} {AI : Option Addr} {cI : Nat} {g : List (List Int)} {l : List Int} (h : StC w AG cG AI cI g l) (hb : Below w.heap.size w w') : StC w' AG cG AI cI g l :=
 ⟨Kd.C_below h.gr hb, h.gc, Kd.C_below h.ii hb, h.ic⟩
def SaneP (w0 w : World) (g2 : List (List Int)) (l2 : List Int) (e : Ending) (w' : World) : Prop := ∃ AG cG AI cI kp', e = .returned (.agg #[.slice AG g2.length cG, .slice AI l2.length cI, .bool kp']) ∧ (∀ W', Below w0.heap.size w0 W' → (∀ k, w.heap.size ≤ k → k < w'.heap.size → W'.heap[k]? = w'.heap[k]?) → StC W' AG cG AI cI g2 l2) ∧ Below w.heap.size w w'
set_option maxHeartbeats 4000000 in
set_option maxRecDepth 100000 in
theorem sane_c (A0 : Option Addr) (c0 : Nat) (g : List (List Int)) (A1 : Option Addr) (c1 : Nat) (l : List Int) (kp : Bool) (l2 : List Int) (w0 w : World) (hB0 : Below w0.heap.size w0 w) (hst : StC w0 A0 c0 A1 c1 g l) (hf : fits g = true) (hll : l.length ≤ 100000 ∧ l2.length ≤ 100000) (hl2 : Ev (fun k => dom_Idoms.f k g) l2) (hkp : kp = true → g = clean g ∧ l = l2) :
  Calls Tryz.prog 22 #[.agg #[.slice A0 g.length c0, .slice A1 l.length c1, .bool kp]] w (SaneP w0 w (clean g) l2) := by
 have hu := Tryz.underlying29
 obtain ⟨k, hk⟩ := hl2
 have hk : dom_Idoms.f k g = some l2 := hk k (Nat.le_refl _)
 obtain ⟨b, eb⟩ : ∃ b, b = (decide (g = clean g) && decide (l = l2)) := ⟨_, rfl⟩
 have HSA := Aside0.mk (fun W (hW : Below w.heap.size w W) => domup_Sane.calls k A0 c0 g A1 c1 l kp b W (Kd.C_below hst.gr (hB0.trans (hW.mono hB0.size))) hst.gc (Kd.C_below hst.ii (hB0.trans (hW.mono hB0.size))) hst.ic (by unfold domup_Sane.f; rw [if_pos ⟨hf, hll.1⟩, hk, Option.bind_some, if_pos hll.2, eb]))
 have HN := Aside0.mk (fun W (hW : Below w.heap.size w W) => domup_New.calls k A0 c0 g (clean g) l2 true W (Kd.C_below hst.gr (hB0.trans (hW.mono hB0.size))) hst.gc (by unfold domup_New.f graph_Clean.f; rw [if_pos hf, Option.bind_some, hk]; rfl))
 have HST := Aside0.mk hst
 have HEB := Aside0.mk eb
 have HKP := Aside0.mk hkp
 obtain ⟨n0, en0⟩ : ∃ n0, n0 = g.length := ⟨_, rfl⟩
 obtain ⟨n1, en1⟩ : ∃ n1, n1 = l.length := ⟨_, rfl⟩
 have HE0 := Aside0.mk en0
 have HE1 := Aside0.mk en1
 rw [← en0] at HN HSA
 rw [← en1] at HSA
 rw [← en0, ← en1]
 clear hst hf hll hk hkp eb en0 en1
 have same : g = clean g → l = l2 → ∀ W, Below w.heap.size w W → SaneP w0 w (clean g) l2 (.returned (.agg #[.slice A0 n0 c0, .slice A1 n1 c1, .bool kp])) W := by
  intro e1 e2 W hW
  refine ⟨A0, c0, A1, c1, kp, by rw [← e1, ← e2, HE0.out, HE1.out], ?_, hW⟩
  rw [← e1, ← e2]
  exact fun W' hW' _ => HST.out.below hW'
 have HSM := Aside0.mk same
 clear same
 go_enter Tryz.func22, Tryz.ntmps22
 cases kp with
 | true =>
  go_wp2
  refine bodyPost_ret (results_cell_row rfl _ _ (w.heap.size + 1) 29 #[.slice A0 n0 c0, .slice A1 n1 c1, .bool true] (0, 0) _ rfl (heap_new _ _ _ (by rw [size_alloc1])) hu rfl (by kernel_rfl)) rfl ?_
  exact HSM.out (HKP.out (by simp)).1 (HKP.out (by simp)).2 _ (below_alloc (below_alloc (Below.refl _ _) _) _)
 | false =>
  cases b with
  | true =>
   go_wp2_with (go_at_call 14; refine (HSA.out _ (below_alloc (below_alloc (Below.refl _ _) _) _)).mono ?_; rintro e w3 ⟨rfl, hb3⟩; obtain ⟨hp, hq, hs3, hw3⟩ := two_boxes hb3; have p0 := cell_of_blk (j := 0) hp rfl; have p1 := cell_of_blk (j := 1) hp rfl; have p2 := cell_of_blk (j := 2) hp rfl; have q0 := frozen_of_blk 0 hq; have q1 := frozen_of_blk 1 hq; have q2 := frozen_of_blk 2 hq; have c0 := cell_of_blk (j := 0) hq rfl; have c1 := cell_of_blk (j := 1) hq rfl; have c2 := cell_of_blk (j := 2) hq rfl; have HQ := Aside0.mk hq; have HW3 := Aside0.mk hw3; clear hb3 hp hq hw3)
   refine bodyPost_ret (results_cell_row rfl _ _ (w.heap.size + 1) 29 #[.slice A0 n0 _, .slice A1 n1 _, .bool false] (0, 0) _ rfl (three_put HQ.out _ _ _) hu rfl (by kernel_rfl)) rfl ?_
   have hbb := HEB.out.symm
   rw [Bool.and_eq_true] at hbb
   exact HSM.out (of_decide_eq_true hbb.1) (of_decide_eq_true hbb.2) _ (three_below HW3.out (Nat.le_succ _) _ _ _)
  | false =>
   go_wp2_with (first | (go_at_call 14; refine (HSA.out _ (below_alloc (below_alloc (Below.refl _ _) _) _)).mono ?_; rintro e w3 ⟨rfl, hb3⟩; obtain ⟨hp, hq, hs3, hw3⟩ := two_boxes hb3; have p0 := cell_of_blk (j := 0) hp rfl; have p1 := cell_of_blk (j := 1) hp rfl; have p2 := cell_of_blk (j := 2) hp rfl; have HQ := Aside0.mk hq; have HW3 := Aside0.mk hw3; clear hb3 hp hq hw3) | (go_at_call 20; refine (HN.out _ HW3.out).mono ?_; rintro e w4 ⟨v3, v4, rfl, ho3, ho4, hb4⟩; obtain ⟨AS, cS, rfl, _⟩ := Kd.S_reads ho3; obtain ⟨AR, cR, rfl⟩ := Kd.R_slice ho4; have hq := heap_bel HQ.out hb4; have HO3 := Aside0.mk ho3; have HO4 := Aside0.mk ho4; have HB4 := Aside0.mk hb4; have q0 := frozen_of_blk 0 hq; have q1 := frozen_of_blk 1 hq; have q2 := frozen_of_blk 2 hq; have c0 := cell_of_blk (j := 0) hq rfl; have c1 := cell_of_blk (j := 1) hq rfl; have c2 := cell_of_blk (j := 2) hq rfl; have HQ4 := Aside0.mk hq; clear ho3 ho4 hb4 hq))
   refine bodyPost_ret (results_cell_row rfl _ _ (w.heap.size + 1) 29 #[.slice AS (clean g).length cS, .slice AR l2.length cR, .bool true] (0, 0) _ rfl (three_put HQ4.out _ _ _) hu rfl (by kernel_rfl)) rfl ?_
   have hsz : (((w4.setCell ⟨w.heap.size + 1, 0, none⟩ (.slice AS (clean g).length cS)).setCell ⟨w.heap.size + 1, 1, none⟩ (.slice AR l2.length cR)).setCell ⟨w.heap.size + 1, 2, none⟩ (.bool true)).heap.size = w4.heap.size := by simp only [size_setCell1]
   have hs4 := HB4.out.size
   refine ⟨AS, cS, AR, cR, true, rfl, fun W' hW' hk' => ?_, three_below (HW3.out.trans (HB4.out.mono (by have := HW3.out.size; omega))) (Nat.le_succ _) _ _ _⟩
   have hsm : ∀ k, w3.heap.size ≤ k → k < w4.heap.size → W'.heap[k]? = w4.heap[k]? := fun k h1 h2 => (hk' k (by omega) (by rw [hsz]; exact h2)).trans (three_other (by omega) _ _ _)
   have k1 := Kd.S_reads' (Kd.S_step (Kd.S_bound HO3.out) (w1 := W') (fun k hk _ => hsm k hk.2.1 hk.2.2.1))
   have k2 := Kd.R_reads' (Kd.R_move (Kd.R_bound HO4.out) (w1 := W') (fun k hk => hsm k hk.2.1 hk.2.2.1))
   exact ⟨k1.2.2, k1.2.1, k2.2.2, k2.2.1⟩
end Go.Proofs.YtemcmcnhpdkdfaaGreat.P
namespace Go.Proofs.YtemcmcnhpdkdfaaGreat.P
open Go.Proofs.YtemcmcnhpdkdfaaGreatW.PrintWords
structure DJ (g : List (List Int)) (o : List Int) (par : Int → Option Int) (L : Int → Bool) (T : Int → Option Int) : Prop where
 t1 : ∀ b p, T b = some p → b ∈ o ∧ b ≠ 0 ∧ p ∈ o ∧ o.idxOf p < o.idxOf b ∧ Kn T p
 t2 : ∀ b x, Kn T b → Up T b x → Up par b x
 t3 : ∀ b x, Kn T b → ¬ Av g x 0 b → Up T b x
 t4 : ∀ b p, L b = true → T b = some p → ∀ x, x ∈ o → (∀ a, Kn T a → b ∈ row g a → Up T a x) → o.idxOf x ≤ o.idxOf p
 t5 : ∀ b, b ∈ o → L b = false → Kn T b
 t6 : ∀ b p, L b = false → T b = some p → L p = false
 t7 : ∀ b x, b ∈ o → L b = false → Up T b x → ¬ Av g x 0 b
structure RepJ (n : Nat) (o : List Int) (at' d : List Int) (T : Int → Option Int) : Prop where
 node : ∀ x ∈ o, 0 ≤ x ∧ x < (n : Int)
 at_ : ∀ x ∈ o, rd at' x = (o.idxOf x : Int)
 zero : rd d 0 = -1
 known : ∀ b p, T b = some p → rd d b = p
 unk : ∀ b, b ∈ o → b ≠ 0 → T b = none → rd d b = -3
 lost : ∀ b, 0 ≤ b → b < (n : Int) → ¬ b ∈ o → rd d b = -2
section
variable {g : List (List Int)} {o : List Int} {par T : Int → Option Int} {L : Int → Bool}
theorem DJ.kn_mem (hd : Dfs g o par) (h : DJ g o par L T) {b : Int} (hb : Kn T b) : b ∈ o := by
 rcases hb with rfl | ⟨p, hp⟩
 ·exact hd.zero
 ·exact (h.t1 b p hp).1
theorem DJ.up (h : DJ g o par L T) {b x : Int} (hu : Up T b x) (hb : b ∈ o) : x ∈ o ∧ o.idxOf x ≤ o.idxOf b := by
 induction hu with
 | refl => exact ⟨hb, Nat.le_refl _⟩
 | step h1 _ ih =>
  have h2 := h.t1 _ _ h1
  have := ih h2.2.2.1
  exact ⟨this.1, by have := this.2; have := h2.2.2.2.1; omega⟩
theorem DJ.up_kn (h : DJ g o par L T) {b x : Int} (hu : Up T b x) (hb : Kn T b) : Kn T x := by
 induction hu with
 | refl => exact hb
 | step h1 _ ih => exact ih (h.t1 _ _ h1).2.2.2.2
theorem DJ.line (h : DJ g o par L T) {a x y : Int} (ha : a ∈ o) (hx : Up T a x) (hy : Up T a y) (hle : o.idxOf x ≤ o.idxOf y) : Up T y x := by
 rcases hx.line hy with k | k
 ·have hxo := h.up hx ha
  have := h.up k hxo.1
  obtain rfl : x = y := idx_inj hxo.1 this.1 (by omega)
  exact .refl _
 ·exact k
variable {c N : Int}
theorem DJ.above (hd : Dfs g o par) (h : DJ g o par L T) (he : Eq0 o par T (o.idxOf c)) (hs : StepOk g T c N) {u : Int} (hu : par c = some u) : Up T u N ∧ N ∈ o ∧ o.idxOf N < o.idxOf c ∧ Kn T N := by
 have hp := hd.ok _ _ hu
 have hk := DI.kn_par hd he hu
 have h1 := hs.all u hk hp.2.2.1
 have h2 := h.up h1 hp.2.2.2.1
 exact ⟨h1, h2.1, by have := h2.2; have := hp.2.2.2.2; omega, h.up_kn h1 hk⟩
theorem DJ.higher (hd : Dfs g o par) (hL : L c = true) (h : DJ g o par L T) (he : Eq0 o par T (o.idxOf c)) (hs : StepOk g T c N) {p : Int} (hp : T c = some p) : Up T p N := by
 have h1 := h.t1 c p hp
 obtain ⟨u, hu⟩ := hd.has c h1.1 h1.2.1
 obtain ⟨a1, a2, a3, a4⟩ := h.above hd he hs hu
 have hle := h.t4 c p hL hp N a2 hs.all
 have hup := h.t2 c p (.inr ⟨p, hp⟩) (.step hp (.refl _))
 have hpu : Up par u p := by
  rcases hup.cases with e | ⟨q, hq, k⟩
  ·rw [e] at h1; omega
  ·rw [hu] at hq
   obtain rfl := Option.some.inj hq
   exact k
 have go : ∀ v w, Up par v w → w = p → o.idxOf v < o.idxOf c → v ∈ o → Up T v N → Up T p N := by
  intro v w hvw
  induction hvw with
  | refl b => intro e _ _ k; rw [← e]; exact k
  | @step b q x h2 h3 ih =>
   intro e hb hbo k
   have h4 := hd.ok _ _ h2
   have hx := (hd.up h3 h4.2.2.2.1).2
   rcases (he b h4.1 h4.2.1 hb).2 N k with e2 | ⟨q', hq', k2⟩
   ·rw [e2, ← e] at hle
    omega
   ·rw [h2] at hq'
    obtain rfl := Option.some.inj hq'
    exact ih e (by omega) h4.2.2.2.1 k2
 exact go u p hpu rfl (hd.ok _ _ hu).2.2.2.2 (hd.ok _ _ hu).2.2.2.1 a1
theorem updJ_part (h : DJ g o par L T) {b x : Int} (hb : b ∈ o) (h1 : Up T b x) (h2 : Up T x c) : Up (upd T c N) b x := by
 induction h1 with
 | refl => exact .refl _
 | @step b p x h3 h4 ih =>
  have h5 := h.t1 _ _ h3
  have hbc : b ≠ c := fun e => by
   have h6 := h.up h4 h5.2.2.1
   have h7 := h.up h2 h6.1
   rw [e] at h5
   omega
  exact .step (by rw [upd_ne _ hbc]; exact h3) (ih h5.2.2.1 h2)
theorem DJ.step (hd : Dfs g o par) (hL : L c = true) (h : DJ g o par L T) (he : Eq0 o par T (o.idxOf c)) (hs : StepOk g T c N) (hc : c ∈ o) (hc0 : c ≠ 0) : DJ g o par L (upd T c N) ∧ Eq0 o par (upd T c N) (o.idxOf c + 1) := by
 obtain ⟨u, hu⟩ := hd.has c hc hc0
 obtain ⟨a1, a2, a3, a4⟩ := h.above hd he hs hu
 have hup := hd.ok _ _ hu
 have hku := DI.kn_par hd he hu
 have nN : ¬ Up T N c := fun k => by have := (h.up k a2).2; omega
 have toN : ∀ x, Up (upd T c N) N x → Up T N x := fun x k => by
  rcases upd_back k with k | ⟨k, _⟩
  ·exact k
  ·exact absurd k nN
 have kmono : ∀ b, Kn T b → Kn (upd T c N) b := fun b hb => by
  rcases hb with hb | ⟨p, hp⟩
  ·exact .inl hb
  ·by_cases e : b = c
   ·exact .inr ⟨N, by rw [e]; exact upd_at ..⟩
   ·exact .inr ⟨p, by rw [upd_ne _ e]; exact hp⟩
 have kback : ∀ b, Kn (upd T c N) b → b = c ∨ Kn T b := fun b hb => by
  by_cases e : b = c
  ·exact .inl e
  ·rcases hb with hb | ⟨p, hp⟩
   ·exact .inr (.inl hb)
   ·rw [upd_ne _ e] at hp
    exact .inr (.inr ⟨p, hp⟩)
 have shrink : ∀ b x, Kn T b → Up (upd T c N) b x → Up T b x := fun b x hb k => by
  rcases upd_back k with k | ⟨k1, k2⟩
  ·exact k
  ·rcases h.up_kn k1 hb with e | ⟨p, hp⟩
   ·exact absurd e hc0
   ·exact k1.trans (.step hp ((h.higher hd hL he hs hp).trans (toN x k2)))
 have parN : ∀ x, Up T N x → Up par c x := fun x k => .step hu (h.t2 u x hku (a1.trans k))
 have hcx : ∀ x, ¬ Av g x 0 c → Up (upd T c N) c x := fun x hx => by
  by_cases e : x = c
  ·rw [e]; exact .refl _
  ·refine .step (upd_at ..) (upd_off (hs.best x (fun a ha hrow => h.t3 a x ha (fun k => hx (k.snoc hrow (fun e2 => e e2.symm))))) nN)
 refine ⟨⟨?_, ?_, ?_, ?_, fun b hb hl => kmono b (h.t5 b hb hl), fun b p hl hp => ?_, fun b x hb hl k => h.t7 b x hb hl (shrink b x (h.t5 b hb hl) k)⟩, ?_⟩
 ·intro b p hp
  by_cases e : b = c
  ·subst e
   rw [upd_at] at hp
   obtain rfl := Option.some.inj hp
   exact ⟨hc, hc0, a2, a3, kmono _ a4⟩
  ·rw [upd_ne _ e] at hp
   have := h.t1 b p hp
   exact ⟨this.1, this.2.1, this.2.2.1, this.2.2.2.1, kmono _ this.2.2.2.2⟩
 ·intro b x hb k
  rcases kback b hb with e | hb
  ·subst e
   rcases k.cases with e | ⟨p, hp, k2⟩
   ·rw [e]; exact .refl _
   ·rw [upd_at] at hp
    obtain rfl := Option.some.inj hp
    exact parN x (toN x k2)
  ·rcases upd_back k with k | ⟨k1, k2⟩
   ·exact h.t2 b x hb k
   ·exact (h.t2 b c hb k1).trans (parN x (toN x k2))
 ·intro b x hb hx
  rcases kback b hb with e | hb
  ·subst e
   exact hcx x hx
  ·have k := h.t3 b x hb hx
   have hbo := h.kn_mem hd hb
   by_cases hbc : Up T b c
   ·rcases Nat.lt_or_ge (o.idxOf x) (o.idxOf c) with hlt | hge
    ·have hxo := (h.up k hbo).1
     exact (upd_to hbc).trans (hcx x (fun k2 => hx (k2.trans (hd.around (h.t2 b c hb hbc) hbo hlt))))
    ·exact updJ_part h hbo k (h.line hbo hbc k hge)
   ·exact upd_off k hbc
 ·intro b p hLb hp x hx hall
  have hall' : ∀ a, Kn T a → b ∈ row g a → Up T a x := fun a ha hr => shrink a x ha (hall a (kmono a ha) hr)
  by_cases e : b = c
  ·subst e
   rw [upd_at] at hp
   obtain rfl := Option.some.inj hp
   exact (h.up (hs.best x hall') a2).2
  ·rw [upd_ne _ e] at hp
   exact h.t4 b p hLb hp x hx hall'
 ·have hbc : b ≠ c := fun e => by rw [e, hL] at hl; cases hl
  rw [upd_ne _ hbc] at hp
  exact h.t6 b p hl hp
 ·intro v hv hv0 hlt
  by_cases e : v = c
  ·subst e
   refine ⟨.inr ⟨N, upd_at ..⟩, fun x k => ?_⟩
   rcases k.cases with e | ⟨p, hp, k2⟩
   ·exact .inl e
   ·rw [upd_at] at hp
    obtain rfl := Option.some.inj hp
    refine .inr ⟨u, hu, upd_off (a1.trans (toN x k2)) (fun k => ?_)⟩
    have := (h.up k hup.2.2.2.1).2
    omega
  ·have hlt' : o.idxOf v < o.idxOf c := by
    have : o.idxOf v ≠ o.idxOf c := fun e2 => e (idx_inj hv hc e2)
    omega
   obtain ⟨h1, h2⟩ := he v hv hv0 hlt'
   refine ⟨kmono v h1, fun x k => ?_⟩
   rcases upd_back k with k | ⟨k, _⟩
   ·rcases h2 x k with e2 | ⟨u', hu', k2⟩
    ·exact .inl e2
    ·have h3 := hd.ok _ _ hu'
     refine .inr ⟨u', hu', upd_off k2 (fun k3 => ?_)⟩
     have := (h.up k3 h3.2.2.2.1).2
     omega
   ·have := (h.up k hv).2
    omega
theorem DJ.skip (hd : Dfs g o par) (h : DJ g o par L T) (he : Eq0 o par T (o.idxOf c)) (hc : c ∈ o) (hc0 : c ≠ 0) (hL : L c = false) : Eq0 o par T (o.idxOf c + 1) := by
 intro v hv hv0 hlt
 by_cases e : v = c
 ·subst e
  refine ⟨h.t5 v hv hL, fun x k => ?_⟩
  by_cases ex : x = v
  ·exact .inl ex
  ·obtain ⟨u, hu⟩ := hd.has v hv hv0
   exact .inr ⟨u, hu, h.t3 u x (DI.kn_par hd he hu) (fun ha => h.t7 v x hv hL k (ha.snoc (hd.ok _ _ hu).2.2.1 (Ne.symm ex)))⟩
 ·have : o.idxOf v ≠ o.idxOf c := fun e2 => e (idx_inj hv hc e2)
  exact he v hv hv0 (by omega)
theorem DJ.done (hd : Dfs g o par) (h : DJ g o par L T) (hf : ∀ c, c ∈ o → c ≠ 0 → L c = true → ∃ p, T c = some p ∧ StepOk g T c p) {b x : Int} (hb : b ∈ o) : Up T b x ↔ ¬ Av g x 0 b := by
 have hk : ∀ c, c ∈ o → Kn T c := fun c hc => by
  cases hL : L c with
  | false => exact h.t5 c hc hL
  | true =>
   by_cases e : c = 0
   ·exact .inl e
   ·obtain ⟨p, hp, _⟩ := hf c hc e hL
    exact .inr ⟨p, hp⟩
 refine ⟨fun hu ha => ?_, h.t3 b x (hk b hb)⟩
 have := ha.closed (P := fun b => b ∈ o ∧ Av g x 0 b ∧ ¬ Up T b x) (fun a b ⟨h1, h3, h2⟩ hr hne => by
  have hbo : b ∈ o := (hd.mem b).2 (((hd.mem a).1 h1).trans (.edge hr))
  refine ⟨hbo, h3.snoc hr hne, fun k => ?_⟩
  cases hL : L b with
  | false => exact h.t7 b x hbo hL k (h3.snoc hr hne)
  | true =>
   rcases k.cases with e | ⟨p, hp, k2⟩
   ·exact hne e.symm
   ·obtain ⟨p', hp', hs⟩ := hf b hbo (h.t1 b p hp).2.1 hL
    rw [hp] at hp'
    obtain rfl := Option.some.inj hp'
    exact h2 ((hs.all a (hk a h1) hr).trans k2)) ⟨hd.zero, .refl ha.left, fun k => by
  rcases k.cases with e | ⟨p, hp, _⟩
  ·exact ha.left e.symm
  ·exact (h.t1 0 p hp).2.1 rfl⟩
 exact this.2.2 hu
end
section
variable {g : List (List Int)} {n : Nat} {o at' d : List Int} {par T : Int → Option Int} {L : Int → Bool}
theorem meetA_evJ (hd : Dfs g o par) (h : DJ g o par L T) (hr : RepJ n o at' d T) {b : Int} (hb : b ∈ o) : ∀ (m : Nat) (a : Int), Kn T a → a ∈ o → o.idxOf a ≤ m →
  ∃ a', Ev (fun k => meetA n at' d k a b) a' ∧ Up T a a' ∧ o.idxOf a' ≤ o.idxOf b ∧ (∀ y, Up T a y → o.idxOf y ≤ o.idxOf b → Up T a' y) ∧ (o.idxOf b < o.idxOf a → o.idxOf a' < o.idxOf a) ∧ (o.idxOf a ≤ o.idxOf b → a' = a) := by
 intro m
 induction m with
 | zero =>
  intro a ha hao hm
  refine ⟨a, ?_, .refl _, by omega, fun y hy _ => hy, fun hlt => by omega, fun _ => rfl⟩
  refine Ev.step (f := fun _ => some a) (fun k => ?_) (Ev.now _)
  rw [meetA, if_pos ⟨isN_iff.2 (hr.node a hao), isN_iff.2 (hr.node b hb)⟩, hr.at_ a hao, hr.at_ b hb, if_neg (by omega)]
 | succ m ih =>
  intro a ha hao hm
  by_cases hlt : o.idxOf b < o.idxOf a
  ·have ha0 : a ≠ 0 := fun e => by
    by_cases e0 : b = 0
    ·rw [e, e0] at hlt; omega
    ·have := zero_first hd hb e0
     rw [e] at hlt
     omega
   rcases ha with e | ⟨p, hp⟩
   ·exact absurd e ha0
   ·have h1 := h.t1 a p hp
    obtain ⟨a', e1, e2, e3, e4, e5, e6⟩ := ih p h1.2.2.2.2 h1.2.2.1 (by omega)
    refine ⟨a', ?_, .step hp e2, e3, fun y hy hyb => ?_, fun _ => ?_, fun hle => by omega⟩
    ·refine Ev.step (f := fun k => meetA n at' d k p b) (fun k => ?_) e1
     rw [meetA, if_pos ⟨isN_iff.2 (hr.node a hao), isN_iff.2 (hr.node b hb)⟩, hr.at_ a hao, hr.at_ b hb, if_pos (by omega), hr.known a p hp]
    ·rcases hy.cases with e | ⟨q, hq, k⟩
     ·rw [e] at hyb; omega
     ·rw [hp] at hq
      obtain rfl := Option.some.inj hq
      exact e4 y k hyb
    ·have := (h.up e2 h1.2.2.1).2
     omega
  ·refine ⟨a, ?_, .refl _, by omega, fun y hy _ => hy, fun h => by omega, fun _ => rfl⟩
   refine Ev.step (f := fun _ => some a) (fun k => ?_) (Ev.now _)
   rw [meetA, if_pos ⟨isN_iff.2 (hr.node a hao), isN_iff.2 (hr.node b hb)⟩, hr.at_ a hao, hr.at_ b hb, if_neg (by omega)]
theorem meetO_evJ (hd : Dfs g o par) (h : DJ g o par L T) (hr : RepJ n o at' d T) : ∀ (m : Nat) (a b : Int), Kn T a → a ∈ o → Kn T b → b ∈ o → o.idxOf a + o.idxOf b ≤ m →
  ∃ N, Ev (fun k => meetO n at' d k a b) N ∧ Up T a N ∧ Up T b N ∧ ∀ y, Up T a y → Up T b y → Up T N y := by
 intro m
 induction m with
 | zero =>
  intro a b _ hao _ hbo hm
  obtain rfl : a = b := idx_inj hao hbo (by omega)
  exact ⟨a, Ev.step (f := fun _ => some a) (fun k => by rw [meetO, if_pos rfl]) (Ev.now _), .refl _, .refl _, fun y hy _ => hy⟩
 | succ m ih =>
  intro a b ha hao hb hbo hm
  by_cases e : a = b
  ·subst e
   exact ⟨a, Ev.step (f := fun _ => some a) (fun k => by rw [meetO, if_pos rfl]) (Ev.now _), .refl _, .refl _, fun y hy _ => hy⟩
  ·have hne : o.idxOf a ≠ o.idxOf b := fun h => e (idx_inj hao hbo h)
   obtain ⟨a', a1, a2, a3, a4, a5, a6⟩ := meetA_evJ hd h hr hbo _ a ha hao (Nat.le_refl _)
   have hao' := (h.up a2 hao).1
   obtain ⟨b', b1, b2, b3, b4, b5, b6⟩ := meetA_evJ hd h hr hao' _ b hb hbo (Nat.le_refl _)
   have hbo' := (h.up b2 hbo).1
   have hlt : o.idxOf a' + o.idxOf b' ≤ m := by
    have h1 := (h.up a2 hao).2
    have h2 := (h.up b2 hbo).2
    rcases Nat.lt_or_ge (o.idxOf b) (o.idxOf a) with k | k
    ·have := a5 k; omega
    ·have := a6 k
     rw [this] at b5
     have := b5 (by omega)
     omega
   obtain ⟨N, n1, n2, n3, n4⟩ := ih a' b' (h.up_kn a2 ha) hao' (h.up_kn b2 hb) hbo' hlt
   refine ⟨N, Ev.step (f := fun k => (meetA n at' d k a b).bind fun x => (meetA n at' d k b x).bind fun y => meetO n at' d k x y) (fun k => by rw [meetO, if_neg e]) (Ev.bind a1 (Ev.bind b1 n1)), a2.trans n2, b2.trans n3, fun y hy hy2 => ?_⟩
   have h1 := a4 y hy (h.up hy2 hbo).2
   exact n4 y h1 (b4 y hy2 (h.up h1 hao').2)
theorem toF_evJ (hd : Dfs g o par) (h : DJ g o par L T) (hr : RepJ n o at' d T) : ∀ (ps : List Int), (∀ a ∈ ps, 0 ≤ a ∧ a < (n : Int)) → ∀ (z : Int) (S : Int → Prop), ((z = -3 ∧ ∀ a, ¬ S a) ∨ (Kn T z ∧ z ∈ o ∧ (∀ a, S a → Up T a z) ∧ ∀ y, (∀ a, S a → Up T a y) → Up T z y)) →
  ∃ z', Ev (fun k => toF n at' d k ps z) z' ∧ ((z' = -3 ∧ ∀ a, ¬ (S a ∨ (a ∈ ps ∧ Kn T a))) ∨ (Kn T z' ∧ z' ∈ o ∧ (∀ a, S a ∨ (a ∈ ps ∧ Kn T a) → Up T a z') ∧ ∀ y, (∀ a, S a ∨ (a ∈ ps ∧ Kn T a) → Up T a y) → Up T z' y)) := by
 intro ps
 induction ps with
 | nil =>
  intro _ z S hz
  refine ⟨z, Ev.congr (f := fun _ => some z) (fun k => by rw [toF]) (Ev.now _), ?_⟩
  simpa using hz
 | cons a ps ih =>
  intro hps z S hz
  have han := hps a (by simp)
  have hps' : ∀ x ∈ ps, 0 ≤ x ∧ x < (n : Int) := fun x hx => hps x (by simp [hx])
  have skip : ∀ (S' : Int → Prop), (∀ x, S' x ↔ S x) → ¬ Kn T a → ((∃ z', Ev (fun k => toF n at' d k ps z) z' ∧ ((z' = -3 ∧ ∀ x, ¬ (S x ∨ (x ∈ ps ∧ Kn T x))) ∨ (Kn T z' ∧ z' ∈ o ∧ (∀ x, S x ∨ (x ∈ ps ∧ Kn T x) → Up T x z') ∧ ∀ y, (∀ x, S x ∨ (x ∈ ps ∧ Kn T x) → Up T x y) → Up T z' y))) →
    ∃ z', Ev (fun k => toF n at' d k ps z) z' ∧ ((z' = -3 ∧ ∀ x, ¬ (S x ∨ (x ∈ a :: ps ∧ Kn T x))) ∨ (Kn T z' ∧ z' ∈ o ∧ (∀ x, S x ∨ (x ∈ a :: ps ∧ Kn T x) → Up T x z') ∧ ∀ y, (∀ x, S x ∨ (x ∈ a :: ps ∧ Kn T x) → Up T x y) → Up T z' y))) := by
   rintro _ _ hk ⟨z', h1, h2⟩
   refine ⟨z', h1, ?_⟩
   have e : ∀ x, (S x ∨ (x ∈ a :: ps ∧ Kn T x)) ↔ (S x ∨ (x ∈ ps ∧ Kn T x)) := fun x => by
    rw [List.mem_cons]
    constructor
    ·rintro (k | ⟨rfl | k, k2⟩)
     ·exact .inl k
     ·exact absurd k2 hk
     ·exact .inr ⟨k, k2⟩
    ·rintro (k | ⟨k, k2⟩)
     ·exact .inl k
     ·exact .inr ⟨.inr k, k2⟩
   simp only [e]
   exact h2
  by_cases hk : Kn T a
  ·have hao := h.kn_mem hd hk
   have hda : ¬ (rd d a = -3 ∨ rd d a = -2) := by
    rcases hk with e | ⟨p, hp⟩
    ·rw [e, hr.zero]; omega
    ·rw [hr.known a p hp]
     have := hr.node p (h.t1 a p hp).2.2.1
     omega
   have main : ∀ z2, Kn T z2 ∧ z2 ∈ o ∧ (∀ x, (S x ∨ x = a) → Up T x z2) ∧ (∀ y, (∀ x, (S x ∨ x = a) → Up T x y) → Up T z2 y) →
     ∃ z', Ev (fun k => toF n at' d k ps z2) z' ∧ ((z' = -3 ∧ ∀ x, ¬ (S x ∨ (x ∈ a :: ps ∧ Kn T x))) ∨ (Kn T z' ∧ z' ∈ o ∧ (∀ x, S x ∨ (x ∈ a :: ps ∧ Kn T x) → Up T x z') ∧ ∀ y, (∀ x, S x ∨ (x ∈ a :: ps ∧ Kn T x) → Up T x y) → Up T z' y)) := by
    intro z2 hz2
    obtain ⟨z', h1, h2⟩ := ih hps' z2 (fun x => S x ∨ x = a) (.inr hz2)
    refine ⟨z', h1, ?_⟩
    have e : ∀ x, (S x ∨ (x ∈ a :: ps ∧ Kn T x)) ↔ ((S x ∨ x = a) ∨ (x ∈ ps ∧ Kn T x)) := fun x => by
     rw [List.mem_cons]
     constructor
     ·rintro (k | ⟨k | k, k2⟩)
      ·exact .inl (.inl k)
      ·exact .inl (.inr k)
      ·exact .inr ⟨k, k2⟩
     ·rintro ((k | k) | ⟨k, k2⟩)
      ·exact .inl k
      ·exact .inr ⟨.inl k, by rw [k]; exact hk⟩
      ·exact .inr ⟨.inr k, k2⟩
    simp only [e]
    exact h2
   rcases hz with ⟨rfl, hS⟩ | ⟨hkz, hzo, hall, hbest⟩
   ·obtain ⟨z', h1, h2⟩ := main a ⟨hk, hao, fun x hx => hx.elim (fun k => absurd k (hS x)) (fun e => by rw [e]; exact .refl _), fun y hy => hy a (.inr rfl)⟩
    exact ⟨z', Ev.congr (f := fun k => toF n at' d k ps a) (fun k => by rw [toF, if_pos (isN_iff.2 han), if_neg hda, if_pos rfl]) h1, h2⟩
   ·have hz3 : z ≠ -3 := fun e => by have := hr.node z hzo; omega
    obtain ⟨N, n1, n2, n3, n4⟩ := meetO_evJ hd h hr _ z a hkz hzo hk hao (Nat.le_refl _)
    obtain ⟨z', h1, h2⟩ := main N ⟨h.up_kn n2 hkz, (h.up n2 hzo).1, fun x hx => hx.elim (fun k => (hall x k).trans n2) (fun e => by rw [e]; exact n3), fun y hy => n4 y (hbest y (fun x hx => hy x (.inl hx))) (hy a (.inr rfl))⟩
    exact ⟨z', Ev.congr (f := fun k => (meetO n at' d k z a).bind fun m => toF n at' d k ps m) (fun k => by rw [toF, if_pos (isN_iff.2 han), if_neg hda, if_neg hz3]) (Ev.bind n1 h1), h2⟩
  ·have hda : rd d a = -3 ∨ rd d a = -2 := by
    by_cases hao : a ∈ o
    ·left
     refine hr.unk a hao (fun e => hk (.inl e)) ?_
     cases hT : T a with
     | none => rfl
     | some p => exact absurd (.inr ⟨p, hT⟩) hk
    ·right
     exact hr.lost a han.1 han.2 hao
   obtain ⟨z', h1, h2⟩ := skip S (fun _ => Iff.rfl) hk (ih hps' z S hz)
   exact ⟨z', Ev.congr (f := fun k => toF n at' d k ps z) (fun k => by rw [toF, if_pos (isN_iff.2 han), if_pos hda]) h1, h2⟩
end
theorem RepJ.upd {n : Nat} {o at' d : List Int} {T : Int → Option Int} (h : RepJ n o at' d T) (hl : d.length = n) {c N : Int} (hc : c ∈ o) (hc0 : c ≠ 0) : RepJ n o at' (d.set c.toNat N) (upd T c N) := by
 have hn := h.node c hc
 have hs : ∀ y, 0 ≤ y → rd (d.set c.toNat N) y = if y = c then N else rd d y := fun y hy => rd_setn hn.1 (by omega) hy
 refine ⟨h.node, h.at_, by rw [hs 0 (by omega), if_neg (Ne.symm hc0)]; exact h.zero, fun b p hp => ?_, fun b hb hb0 hT => ?_, fun b h0 h1 hb => ?_⟩
 ·by_cases e : b = c
  ·subst e
   rw [upd_at] at hp
   rw [hs b hn.1, if_pos rfl]
   exact Option.some.inj hp
  ·rw [upd_ne _ e] at hp
   have h2 := h.known b p hp
   by_cases hb : 0 ≤ b
   ·rw [hs b hb, if_neg e, h2]
   ·rw [← h2]
    show (d.set c.toNat N).getD b.toNat 0 = d.getD b.toNat 0
    have hb' : b.toNat = (0 : Int).toNat := by omega
    have h3 := hs 0 (by omega)
    rw [if_neg (Ne.symm hc0)] at h3
    rw [hb']
    exact h3
 ·by_cases e : b = c
  ·subst e
   rw [upd_at] at hT
   cases hT
  ·rw [upd_ne _ e] at hT
   rw [hs b (h.node b hb).1, if_neg e]
   exact h.unk b hb hb0 hT
 ·have e : b ≠ c := fun e => hb (by rw [e]; exact hc)
  rw [hs b h0, if_neg e]
  exact h.lost b h0 h1 hb
section
variable {g pre : List (List Int)} {n : Nat} {o at' : List Int} {par : Int → Option Int} {L : Int → Bool}
theorem pass_evJ (hd : Dfs g o par) (hnd : o.Nodup) (hp1 : ∀ b, b ∈ o → ∀ a ∈ pre.getD b.toNat [], 0 ≤ a ∧ a < (n : Int)) (hp2 : ∀ a b, a ∈ o → b ∈ o → (a ∈ pre.getD b.toNat [] ↔ b ∈ row g a)) :
  ∀ (bs s : List Int), o = s ++ bs → 0 ∈ s → ∀ (T : Int → Option Int) (d : List Int) (ch : Bool), DJ g o par L T → RepJ n o at' d T → d.length = n → Eq0 o par T s.length →
   ∃ T' d' e, Ev (fun k => passF n at' pre k (bs.filter L) d ch) (d', e || ch) ∧ DJ g o par L T' ∧ RepJ n o at' d' T' ∧ d'.length = n ∧
    ((e = false ∧ d' = d ∧ T' = T ∧ ∀ c ∈ bs, L c = true → ∃ p, T c = some p ∧ StepOk g T c p) ∨ (e = true ∧ mes o T' < mes o T)) := by
 intro bs
 induction bs with
 | nil =>
  intro s _ _ T d ch h hr hl _
  exact ⟨T, d, false, Ev.congr (f := fun _ => some (d, ch)) (fun k => by rw [List.filter_nil, passF]) (by rw [Bool.false_or]; exact Ev.now _), h, hr, hl, .inl ⟨rfl, rfl, rfl, fun c hc => by simp at hc⟩⟩
 | cons c bs ih =>
  intro s ho h0s T d ch h hr hl he
  have hco : c ∈ o := by rw [ho]; simp
  have hnd' := hnd
  rw [ho, List.nodup_append] at hnd'
  have hcs : ¬ c ∈ s := fun k => hnd'.2.2 c k c (by simp) rfl
  have hc0 : c ≠ 0 := fun e => hcs (by rw [e]; exact h0s)
  have hix : o.idxOf c = s.length := by
   rw [ho, List.idxOf_append, if_neg hcs, List.idxOf_cons_self]
   omega
  rw [← hix] at he
  obtain ⟨u, hu⟩ := hd.has c hco hc0
  have hpu := hd.ok _ _ hu
  have hku := DI.kn_par hd he hu
  cases hL : L c with
  | false =>
   have he' := h.skip hd he hco hc0 hL
   obtain ⟨T', d', e, i1, i2, i3, i4, i5⟩ := ih (s ++ [c]) (by rw [ho]; simp) (by simp [h0s]) T d ch h hr hl (by rw [List.length_append, ← hix]; exact he')
   refine ⟨T', d', e, by rw [List.filter_cons_of_neg (by rw [hL]; decide)]; exact i1, i2, i3, i4, ?_⟩
   rcases i5 with ⟨q1, q2, q3, q4⟩ | q
   ·exact .inl ⟨q1, q2, q3, fun x hx hx2 => by
     rcases List.mem_cons.1 hx with rfl | hx
     ·rw [hL] at hx2; cases hx2
     ·exact q4 x hx hx2⟩
   ·exact .inr q
  | true =>
   obtain ⟨z, hz, hzz⟩ := toF_evJ hd h hr (pre.getD c.toNat []) (hp1 c hco) (-3) (fun _ => False) (.inl ⟨rfl, fun _ h => h⟩)
   have hup : u ∈ pre.getD c.toNat [] := (hp2 u c hpu.2.2.2.1 hco).2 hpu.2.2.1
   rcases hzz with ⟨_, hno⟩ | ⟨hkz, hzo, hall, hbest⟩
   ·exact absurd (.inr ⟨hup, hku⟩) (hno u)
   ·have hs : StepOk g T c z := by
     refine ⟨fun a ha hrow => hall a (.inr ⟨(hp2 a c (h.kn_mem hd ha) hco).2 hrow, ha⟩), fun x hx => hbest x (fun a ha => ?_)⟩
     rcases ha with ha | ⟨ha, hk⟩
     ·exact ha.elim
     ·exact hx a hk ((hp2 a c (h.kn_mem hd hk) hco).1 ha)
    obtain ⟨h', he'⟩ := h.step hd hL he hs hco hc0
    have hr' := hr.upd (N := z) hl hco hc0
    have hl' : (d.set c.toNat z).length = n := by rw [List.length_set]; exact hl
    obtain ⟨T', d', e, i1, i2, i3, i4, i5⟩ := ih (s ++ [c]) (by rw [ho]; simp) (by simp [h0s]) (upd T c z) (d.set c.toNat z) ((rd d c != z) || ch) h' hr' hl' (by rw [List.length_append, ← hix]; exact he')
    refine ⟨T', d', e || (rd d c != z), Ev.congr (f := fun k => (toF n at' d k (pre.getD c.toNat []) (-3)).bind fun z => passF n at' pre k (bs.filter L) (d.set c.toNat z) ((rd d c != z) || ch)) (fun k => by rw [List.filter_cons_of_pos hL, passF]) (Ev.bind hz (by rw [Bool.or_assoc]; exact i1)), i2, i3, i4, ?_⟩
    by_cases hch : rd d c = z
    ·have hTc : T c = some z := by
      cases hT : T c with
      | none =>
       have := hr.unk c hco hc0 hT
       have := hr.node z hzo
       omega
      | some p => rw [← hch, hr.known c p hT]
     have hT' : upd T c z = T := by
      funext b
      unfold P.upd
      split
      ·rename_i e; rw [e, hTc]
      ·rfl
     have hd' : d.set c.toNat z = d := by
      apply List.ext_getElem
      ·simp
      ·intro i h1 h2
       rw [List.getElem_set]
       split
       ·rename_i e
        subst e
        rw [← hch]
        show d.getD c.toNat 0 = _
        rw [List.getD_eq_getElem?_getD, List.getElem?_eq_getElem h2]
        rfl
       ·rfl
     have hne : (rd d c != z) = false := by simp [hch]
     rw [hne, Bool.or_false]
     rcases i5 with ⟨q1, q2, q3, q4⟩ | ⟨q1, q2⟩
     ·refine .inl ⟨q1, by rw [q2, hd'], by rw [q3, hT'], fun x hx hx2 => ?_⟩
      rcases List.mem_cons.1 hx with rfl | hx
      ·exact ⟨z, hTc, hs⟩
      ·rw [hT'] at q4
       exact q4 x hx hx2
     ·rw [hT'] at q2
      exact .inr ⟨q1, q2⟩
    ·have hne : (rd d c != z) = true := by simp [hch]
     rw [hne, Bool.or_true]
     have hm : mes o (upd T c z) < mes o T := by
      refine sum_less o hnd hco (fun x hx => by unfold wt; rw [upd_ne _ hx]) ?_
      unfold wt
      rw [upd_at]
      have hzl := List.idxOf_lt_length_of_mem hzo
      cases hT : T c with
      | none => exact hzl
      | some p =>
       have hup := h.higher hd hL he hs hT
       have h1 := h.t1 c p hT
       have h2 := (h.up hup h1.2.2.1).2
       have h3 : o.idxOf z ≠ o.idxOf p := fun e => hch (by rw [hr.known c p hT]; exact (idx_inj hzo h1.2.2.1 e).symm)
       show o.idxOf z < o.idxOf p
       omega
     refine .inr ⟨rfl, ?_⟩
     rcases i5 with ⟨_, _, q3, _⟩ | ⟨_, q2⟩
     ·rw [q3]; exact hm
     ·omega
end
section
variable {g pre : List (List Int)} {n : Nat} {bs at' : List Int} {par : Int → Option Int} {L : Int → Bool}
theorem it_evJ (hd : Dfs g (0 :: bs) par) (hnd : (0 :: bs).Nodup) (hp1 : ∀ b, b ∈ (0 :: bs) → ∀ a ∈ pre.getD b.toNat [], 0 ≤ a ∧ a < (n : Int)) (hp2 : ∀ a b, a ∈ (0 :: bs) → b ∈ (0 :: bs) → (a ∈ pre.getD b.toNat [] ↔ b ∈ row g a)) :
  ∀ (m : Nat) (T : Int → Option Int) (d : List Int), mes (0 :: bs) T ≤ m → DJ g (0 :: bs) par L T → RepJ n (0 :: bs) at' d T → d.length = n →
   ∃ T' d', Ev (fun k => itF n at' pre (bs.filter L) k d) d' ∧ DJ g (0 :: bs) par L T' ∧ RepJ n (0 :: bs) at' d' T' ∧ d'.length = n ∧ ∀ c ∈ bs, L c = true → ∃ p, T' c = some p ∧ StepOk g T' c p := by
 intro m
 induction m with
 | zero =>
  intro T d hm h hr hl
  obtain ⟨T', d', e, i1, i2, i3, i4, i5⟩ := pass_evJ hd hnd hp1 hp2 bs [0] rfl (by simp) T d false h hr hl (eq0_one T)
  rcases i5 with ⟨q1, q2, q3, q4⟩ | ⟨_, q2⟩
  ·subst q1 q2 q3
   refine ⟨T', d', Ev.step (f := fun k => (passF n at' pre k (bs.filter L) d' false).bind fun r => if r.2 = true then itF n at' pre (bs.filter L) k r.1 else some r.1) (fun k => by rw [itF]) (Ev.bind i1 ?_), i2, i3, i4, q4⟩
   simp only [Bool.or_self, Bool.false_eq_true, if_false]
   exact Ev.now _
  ·omega
 | succ m ih =>
  intro T d hm h hr hl
  obtain ⟨T', d', e, i1, i2, i3, i4, i5⟩ := pass_evJ hd hnd hp1 hp2 bs [0] rfl (by simp) T d false h hr hl (eq0_one T)
  rcases i5 with ⟨q1, q2, q3, q4⟩ | ⟨q1, q2⟩
  ·subst q1 q2 q3
   refine ⟨T', d', Ev.step (f := fun k => (passF n at' pre k (bs.filter L) d' false).bind fun r => if r.2 = true then itF n at' pre (bs.filter L) k r.1 else some r.1) (fun k => by rw [itF]) (Ev.bind i1 ?_), i2, i3, i4, q4⟩
   simp only [Bool.or_self, Bool.false_eq_true, if_false]
   exact Ev.now _
  ·subst q1
   obtain ⟨T2, d2, j1, j2⟩ := ih T' d' (by omega) i2 i3 i4
   refine ⟨T2, d2, Ev.step (f := fun k => (passF n at' pre k (bs.filter L) d false).bind fun r => if r.2 = true then itF n at' pre (bs.filter L) k r.1 else some r.1) (fun k => by rw [itF]) (Ev.bind i1 ?_), j2⟩
   simp only [Bool.or_false, if_true]
   exact j1
end
end Go.Proofs.YtemcmcnhpdkdfaaGreat.P
