-- Written by prn.py (a program of this work) over the seat's translation. Not trusted: Lean checks it.
import Derived.Test.YtemcmcnhpdkdfaaP0
import Derived.Test.YtemcmcnhpdkdfaaHup
namespace Go.Proofs.Ytemcmcnhpdkdfaa.P
open Go.RowKit Go.Proofs.YtemcmcnhpdkdfaaW.PrintWords Go.Proofs.YtemcmcnhpdkdfaaW.PrintLast Go.Proofs.YtemcmcnhpdkdfaaW.PrintMore
attribute [local go_sem] max2_int min2_int max_two min_two max_three min_three max_four min_four   -- for this text's walks alone
set_option linter.unusedVariables false
set_option linter.unusedSimpArgs false

/-! ### dom_Sane: function 23 -/
mutual
def dom_Sane.l0 : Nat → List Int → List Int → Int → Int → Option (Bool)
  | 0, _, _, _, _ => none
  | k + 1, x0, x5, x6, x7 => if x7 < x6 then (if 0 ≤ x7 then (if x7 < (x5.length : Int) then (if ((x7 == 0) != ((rd x5 x7) == (-1))) = true then (dom_Sane.j1 k x0 x7 (rd x5 x7) x5 x6 x7 true) else (if (rd x5 x7) < (-2) then (dom_Sane.j1 k x0 x7 (rd x5 x7) x5 x6 x7 true) else (dom_Sane.j1 k x0 x7 (rd x5 x7) x5 x6 x7 (decide ((rd x5 x7) ≥ (x0.length : Int)))))) else (none)) else (none)) else (some true)
def dom_Sane.j1 : Nat → List Int → Int → Int → List Int → Int → Int → Bool → Option (Bool)
  | 0, _, _, _, _, _, _, _ => none
  | k + 1, x0, x3, x4, x5, x6, x7, x12 => if x12 = true then (some false) else (if x4 ≥ 0 then (if 0 ≤ x4 then (if x4 < (x0.length : Int) then (if (rd x0 x4) = (-2) then (some false) else (if x4 = (-2) then (dom_Sane.l0 k x0 x5 x6 (wrap64 (x7 + 1))) else ((dom_rises.f x0 x3).bind fun t115 => (if t115 = true then (dom_Sane.l0 k x0 x5 x6 (wrap64 (x7 + 1))) else (some false))))) else (none)) else (none)) else (if x4 = (-2) then (dom_Sane.l0 k x0 x5 x6 (wrap64 (x7 + 1))) else ((dom_rises.f x0 x3).bind fun t116 => (if t116 = true then (dom_Sane.l0 k x0 x5 x6 (wrap64 (x7 + 1))) else (some false)))))
end
def dom_Sane.f (k : Nat) (l0 : List Int) : Option (Bool) := dom_Sane.l0 k l0 l0 (l0.length : Int) 0
theorem dom_Sane.mono_l : ∀ k, (∀ y0 y1 y2 y3, LeO (dom_Sane.l0 k y0 y1 y2 y3) (dom_Sane.l0 (k + 1) y0 y1 y2 y3)) ∧ (∀ y0 y1 y2 y3 y4 y5 y6, LeO (dom_Sane.j1 k y0 y1 y2 y3 y4 y5 y6) (dom_Sane.j1 (k + 1) y0 y1 y2 y3 y4 y5 y6))
  | 0 => ⟨fun _ _ _ _ r h => by simp [dom_Sane.l0] at h, fun _ _ _ _ _ _ _ r h => by simp [dom_Sane.j1] at h⟩
  | k + 1 => by
    obtain ⟨ih0, ih1⟩ := dom_Sane.mono_l k
    refine ⟨?_, ?_⟩
    · intro y0 y1 y2 y3
      unfold dom_Sane.l0
      repeat' first
      | (with_reducible exact ih0 _ _ _ _)
      | (with_reducible exact ih1 _ _ _ _ _ _ _)
      | (with_reducible exact LeO.refl _)
      | (with_reducible exact LeO.none _)
      | (with_reducible refine LeO.ite ?_ ?_)
      | (with_reducible refine LeO.bind ?_ (fun _ => ?_))
      | exact ih0 _ _ _ _
      | exact ih1 _ _ _ _ _ _ _
      | exact LeO.none _
      | refine LeO.ite ?_ ?_
      | refine LeO.bind ?_ (fun _ => ?_)
    · intro y0 y1 y2 y3 y4 y5 y6
      unfold dom_Sane.j1
      repeat' first
      | (with_reducible exact ih0 _ _ _ _)
      | (with_reducible exact ih1 _ _ _ _ _ _ _)
      | (with_reducible exact LeO.refl _)
      | (with_reducible exact LeO.none _)
      | (with_reducible refine LeO.ite ?_ ?_)
      | (with_reducible refine LeO.bind ?_ (fun _ => ?_))
      | exact ih0 _ _ _ _
      | exact ih1 _ _ _ _ _ _ _
      | exact LeO.none _
      | refine LeO.ite ?_ ?_
      | refine LeO.bind ?_ (fun _ => ?_)
theorem dom_Sane.mono : ∀ a0 k, LeO (dom_Sane.f k a0) (dom_Sane.f (k + 1) a0) := by
  intro a0 k
  obtain ⟨ih0, ih1⟩ := dom_Sane.mono_l k
  unfold dom_Sane.f
  repeat' first
      | (with_reducible exact ih0 _ _ _ _)
      | (with_reducible exact ih1 _ _ _ _ _ _ _)
      | (with_reducible exact LeO.refl _)
      | (with_reducible exact LeO.none _)
      | (with_reducible refine LeO.ite ?_ ?_)
      | (with_reducible refine LeO.bind ?_ (fun _ => ?_))
      | exact ih0 _ _ _ _
      | exact ih1 _ _ _ _ _ _ _
      | exact LeO.none _
      | refine LeO.ite ?_ ?_
      | refine LeO.bind ?_ (fun _ => ?_)
set_option maxHeartbeats 8000000 in
set_option maxRecDepth 100000 in
theorem dom_Sane.calls (k : Nat) (A0 : Option Addr) (c0 : Nat) (l0 : List Int) (r : Bool) (w : World) (hr0 : Kd.C (Kd.int .i64) w A0 l0.length l0) (hc0 : l0.length ≤ c0) (h : dom_Sane.f k l0 = some r) :
    Calls Try.prog 23 #[.slice A0 l0.length c0] w fun e w' => e = .returned (.bool r) ∧ Below w.heap.size w w' := by
  have HR0 := Aside0.mk hr0
  have HC0 := Aside0.mk hc0
  clear hr0 hc0
  have HB := Aside0.mk (Below.refl w.heap.size w)
  have H : (dom_Sane.l0 k l0 l0 (l0.length : Int) 0) = some r := h
  clear h
  have H' := Aside0.mk H
  clear H
  go_enter Try.func23, Try.ntmps23
  go_wp2
  go_loopg [7] k (fun kq v7 w' => ∃ (x7_1 : Int), v7 = .int .i64 x7_1 ∧ Aside0 (dom_Sane.l0 kq l0 l0 (l0.length : Int) x7_1 = some r) ∧ Aside0 (kq ≤ k) ∧ Aside0 (Below w.heap.size w w'))
  case atStart => exact ⟨(0), (by first | rfl | (simp; done) | (simp [*]; done)), H', ⟨Nat.le_refl _⟩, ⟨by repeat (first | (with_reducible first | exact HB.out | apply below_alloc | apply pw_below_drewN | apply below_drew1) | exact HB.out)⟩⟩
  case round =>
    clear H'
    obtain ⟨x7_1, rfl, HA, HK1, HB⟩ := hrel
    cases gk with
    | zero => exact absurd HA.out (by simp [dom_Sane.l0])
    | succ k1 =>
      have H := HA.out
      clear HA
      simp only [dom_Sane.l0] at H
      by_cases c2 : x7_1 < (l0.length : Int)
      · rw [if_pos c2] at H
        have c2b0 : decide (x7_1 < (l0.length : Int)) = true := decide_eq_true c2
        clear c2
        by_cases c3 : 0 ≤ x7_1
        · rw [if_pos c3] at H
          have c3b0 : decide (0 ≤ x7_1) = true := decide_eq_true c3
          clear c3
          by_cases c4 : x7_1 < (l0.length : Int)
          · rw [if_pos c4] at H
            have c4b0 : decide (x7_1 < (l0.length : Int)) = true := decide_eq_true c4
            clear c4
            have HC5 := Aside0.mk H
            clear H
            have p113 : 0 ≤ (x7_1 : Int) := of_decide_eq_true (by first | (with_reducible assumption) | assumption)
            have q113 : x7_1 < (l0.length : Int) := of_decide_eq_true (by first | (with_reducible assumption) | assumption)
            obtain ⟨ad113, e113, hx113_0⟩ := Kd.at_int HR0.out x7_1 p113 q113
            cases e113
            replace hx113_0 := (HB.out.cell (World.block_lt_of_cell? w _ hx113_0)).trans hx113_0
            replace p113 := eq_true p113
            replace q113 := eq_true q113
            go_upto_region 4 with (fail)
            go_cut [12] (fun v12 wc => ∃ (kq : Nat) (x12_4 : Bool), v12 = .bool x12_4 ∧ Aside0 (dom_Sane.j1 kq l0 x7_1 (rd l0 x7_1) l0 (l0.length : Int) x7_1 x12_4 = some r) ∧ Aside0 (kq ≤ k1) ∧ Aside0 (Below w.heap.size w wc))
            case first =>
              have H := HC5.out
              clear HC5
              by_cases c6 : ((x7_1 == 0) != ((rd l0 x7_1) == (-1))) = true
              · rw [if_pos c6] at H
                have c6b0 : ((x7_1 == 0) != ((rd l0 x7_1) == (-1))) = true := c6
                (try (have c6b1 : decide ((x7_1 == 0) = ((rd l0 x7_1) == (-1))) = false := by simpa using c6))
                (try (have c6b2 : ((x7_1 == 0) == ((rd l0 x7_1) == (-1))) = false := by simpa using c6))
                (try (have c6b3 : ¬ ((x7_1 == 0) = ((rd l0 x7_1) == (-1))) := by simpa using c6))
                clear c6
                (first | rw [c6b0] | (simp only [i64_w, i32_w]; rw [c6b0]) | skip)
                have H' := Aside0.mk H
                clear H
                go_wp2
                go_meet
                case rel => exact ⟨_, (true), (by first | rfl | (simp; done) | (simp [*]; done)), H', ⟨by have := HK1.out; first | omega | exact Nat.le_refl _⟩, ⟨by repeat (first | (with_reducible first | exact HB.out | apply below_alloc | apply pw_below_drewN | apply below_drew1) | exact HB.out)⟩⟩
              · rw [if_neg c6] at H
                have c6b0 : ((x7_1 == 0) != ((rd l0 x7_1) == (-1))) = false := by simpa using c6
                (try (have c6b1 : decide ((x7_1 == 0) = ((rd l0 x7_1) == (-1))) = true := by simpa using c6))
                (try (have c6b2 : ((x7_1 == 0) == ((rd l0 x7_1) == (-1))) = true := by simpa using c6))
                clear c6
                (first | rw [c6b0] | (simp only [i64_w, i32_w]; rw [c6b0]) | skip)
                by_cases c7 : (rd l0 x7_1) < (-2)
                · rw [if_pos c7] at H
                  have c7b0 : decide ((rd l0 x7_1) < (-2)) = true := decide_eq_true c7
                  clear c7
                  have H' := Aside0.mk H
                  clear H
                  go_wp2
                  go_meet
                  case rel => exact ⟨_, (true), (by first | rfl | (simp; done) | (simp [*]; done)), H', ⟨by have := HK1.out; first | omega | exact Nat.le_refl _⟩, ⟨by repeat (first | (with_reducible first | exact HB.out | apply below_alloc | apply pw_below_drewN | apply below_drew1) | exact HB.out)⟩⟩
                · rw [if_neg c7] at H
                  have c7b0 : decide ((rd l0 x7_1) < (-2)) = false := decide_eq_false c7
                  clear c7
                  have H' := Aside0.mk H
                  clear H
                  go_wp2
                  go_meet
                  case rel => exact ⟨_, (decide ((rd l0 x7_1) ≥ (l0.length : Int))), (by first | rfl | (simp; done) | (simp [*]; done)), H', ⟨by have := HK1.out; first | omega | exact Nat.le_refl _⟩, ⟨by repeat (first | (with_reducible first | exact HB.out | apply below_alloc | apply pw_below_drewN | apply below_drew1) | exact HB.out)⟩⟩
            case rest =>
              clear HC5
              try clear p1
              try clear q1
              try clear hx1
              try clear c2
              try clear c2b0
              try clear p2
              try clear c3
              try clear c3b0
              try clear c4
              try clear c4b0
              try clear c6
              try clear c6b0
              try clear c6b1
              try clear c6b2
              try clear c7
              try clear c7b0
              try clear hx113_0
              try clear p113
              try clear q113
              obtain ⟨kq, x12_4, rfl, HA, HJ4, HB⟩ := hcut
              cases kq with
              | zero => exact absurd HA.out (by simp [dom_Sane.j1])
              | succ kj4 =>
                have H := HA.out
                clear HA
                simp only [dom_Sane.j1] at H
                by_cases c8 : x12_4 = true
                · subst c8
                  have H1 : (some false) = some r := by rw [if_pos rfl] at H; exact H
                  clear H
                  have H := H1
                  clear H1
                  obtain rfl := Option.some.inj H
                  go_wp2
                  go_ret
                  exact ⟨by first | rfl | (simp [errW_none, errW_some] <;> rfl) | (simp [*, errW_none, errW_some] <;> rfl) | (exfalso; (try simp_all); (try omega); done), by repeat (first | (with_reducible first | exact HB.out | apply below_alloc | apply pw_below_drewN | apply below_drew1) | exact HB.out)⟩
                · replace c8 := Bool.eq_false_iff.mpr c8
                  subst c8
                  have H1 : (if (rd l0 x7_1) ≥ 0 then (if 0 ≤ (rd l0 x7_1) then (if (rd l0 x7_1) < (l0.length : Int) then (if (rd l0 (rd l0 x7_1)) = (-2) then (some false) else (if (rd l0 x7_1) = (-2) then (dom_Sane.l0 kj4 l0 l0 (l0.length : Int) (wrap64 (x7_1 + 1))) else ((dom_rises.f l0 x7_1).bind fun t115 => (if t115 = true then (dom_Sane.l0 kj4 l0 l0 (l0.length : Int) (wrap64 (x7_1 + 1))) else (some false))))) else (none)) else (none)) else (if (rd l0 x7_1) = (-2) then (dom_Sane.l0 kj4 l0 l0 (l0.length : Int) (wrap64 (x7_1 + 1))) else ((dom_rises.f l0 x7_1).bind fun t116 => (if t116 = true then (dom_Sane.l0 kj4 l0 l0 (l0.length : Int) (wrap64 (x7_1 + 1))) else (some false))))) = some r := by rw [if_neg (show ¬ (false = true) by decide)] at H; exact H
                  clear H
                  have H := H1
                  clear H1
                  by_cases c9 : (rd l0 x7_1) ≥ 0
                  · rw [if_pos c9] at H
                    have c9b0 : decide (0 ≤ (rd l0 x7_1)) = true := decide_eq_true c9
                    clear c9
                    by_cases c10 : 0 ≤ (rd l0 x7_1)
                    · rw [if_pos c10] at H
                      have c10b0 : decide (0 ≤ (rd l0 x7_1)) = true := decide_eq_true c10
                      clear c10
                      by_cases c11 : (rd l0 x7_1) < (l0.length : Int)
                      · rw [if_pos c11] at H
                        have c11b0 : decide ((rd l0 x7_1) < (l0.length : Int)) = true := decide_eq_true c11
                        clear c11
                        by_cases c12 : (rd l0 (rd l0 x7_1)) = (-2)
                        · rw [if_pos c12] at H
                          have c12b0 : ((rd l0 (rd l0 x7_1)) == (-2)) = true := beq_iff_eq.mpr c12
                          have c12b1 : ((rd l0 (rd l0 x7_1)) != (-2)) = false := bne_eq_false_iff_eq.mpr c12
                          clear c12
                          obtain rfl := Option.some.inj H
                          have p114 : 0 ≤ ((rd l0 x7_1) : Int) := of_decide_eq_true (by first | (with_reducible assumption) | assumption)
                          have q114 : (rd l0 x7_1) < (l0.length : Int) := of_decide_eq_true (by first | (with_reducible assumption) | assumption)
                          obtain ⟨ad114, e114, hx114_0⟩ := Kd.at_int HR0.out (rd l0 x7_1) p114 q114
                          obtain rfl : ad113 = ad114 := (by injection e114)
                          replace hx114_0 := (HB.out.cell (World.block_lt_of_cell? w _ hx114_0)).trans hx114_0
                          replace p114 := eq_true p114
                          replace q114 := eq_true q114
                          go_wp2
                          go_ret
                          exact ⟨by first | rfl | (simp [errW_none, errW_some] <;> rfl) | (simp [*, errW_none, errW_some] <;> rfl) | (exfalso; (try simp_all); (try omega); done), by repeat (first | (with_reducible first | exact HB.out | apply below_alloc | apply pw_below_drewN | apply below_drew1) | exact HB.out)⟩
                        · rw [if_neg c12] at H
                          have c12b0 : ((rd l0 (rd l0 x7_1)) == (-2)) = false := beq_eq_false_iff_ne.mpr c12
                          have c12b1 : ((rd l0 (rd l0 x7_1)) != (-2)) = true := bne_iff_ne.mpr c12
                          by_cases c13 : (rd l0 x7_1) = (-2)
                          · rw [if_pos c13] at H
                            have c13b0 : ((rd l0 x7_1) == (-2)) = true := beq_iff_eq.mpr c13
                            have c13b1 : ((rd l0 x7_1) != (-2)) = false := bne_eq_false_iff_eq.mpr c13
                            clear c13
                            have H' := Aside0.mk H
                            clear H
                            have p114 : 0 ≤ ((rd l0 x7_1) : Int) := of_decide_eq_true (by first | (with_reducible assumption) | assumption)
                            have q114 : (rd l0 x7_1) < (l0.length : Int) := of_decide_eq_true (by first | (with_reducible assumption) | assumption)
                            obtain ⟨ad114, e114, hx114_0⟩ := Kd.at_int HR0.out (rd l0 x7_1) p114 q114
                            obtain rfl : ad113 = ad114 := (by injection e114)
                            replace hx114_0 := (HB.out.cell (World.block_lt_of_cell? w _ hx114_0)).trans hx114_0
                            replace p114 := eq_true p114
                            replace q114 := eq_true q114
                            go_wp2
                            go_roundg kj4
                            case measure => have := HK1.out; have := HJ4.out; omega
                            case rel => exact ⟨(wrap64 (x7_1 + 1)), (by first | rfl | (simp; done) | (simp [*]; done)), H', ⟨by have := HK1.out; have := HJ4.out; omega⟩, ⟨by repeat (first | (with_reducible first | exact HB.out | apply below_alloc | apply pw_below_drewN | apply below_drew1) | exact HB.out)⟩⟩
                          · rw [if_neg c13] at H
                            have c13b0 : ((rd l0 x7_1) == (-2)) = false := beq_eq_false_iff_ne.mpr c13
                            have c13b1 : ((rd l0 x7_1) != (-2)) = true := bne_iff_ne.mpr c13
                            replace H := Option.bind_eq_some_iff.mp H
                            obtain ⟨t115, A140, H⟩ := H
                            replace H : (if t115 = true then (dom_Sane.l0 kj4 l0 l0 (l0.length : Int) (wrap64 (x7_1 + 1))) else (some false)) = some r := H
                            have A14 := Aside0.mk A140
                            clear A140
                            by_cases c15 : t115 = true
                            · subst c15
                              have H1 : (dom_Sane.l0 kj4 l0 l0 (l0.length : Int) (wrap64 (x7_1 + 1))) = some r := by rw [if_pos rfl] at H; exact H
                              clear H
                              have H := H1
                              clear H1
                              have H' := Aside0.mk H
                              clear H
                              have p114 : 0 ≤ ((rd l0 x7_1) : Int) := of_decide_eq_true (by first | (with_reducible assumption) | assumption)
                              have q114 : (rd l0 x7_1) < (l0.length : Int) := of_decide_eq_true (by first | (with_reducible assumption) | assumption)
                              obtain ⟨ad114, e114, hx114_0⟩ := Kd.at_int HR0.out (rd l0 x7_1) p114 q114
                              obtain rfl : ad113 = ad114 := (by injection e114)
                              replace hx114_0 := (HB.out.cell (World.block_lt_of_cell? w _ hx114_0)).trans hx114_0
                              replace p114 := eq_true p114
                              replace q114 := eq_true q114
                              go_wp2_with (first | (go_at_call 56; (with_reducible refine (dom_rises.calls _ _ l0 x7_1 true _ ?side1 ?side2 A14.out).mono ?_); (case side1 => repeat (first | exact (Kd.C_below HR0.out HB.out) | (with_reducible refine Kd.C_alloc ?_ _) | (with_reducible refine Kd.C_drewN ?_ _) | (with_reducible refine Kd.C_drew ?_))); (case side2 => exact HC0.out); rintro e w16 ⟨rfl, hb⟩; have n0_ := Aside0.mk (below_step (by repeat (first | (with_reducible first | exact HB.out | apply below_alloc | apply pw_below_drewN | apply below_drew1) | exact HB.out)) hb); clear HB; have HB := n0_; clear n0_; (try clear hb); (try clear hb2); (try clear hk); (try clear hi)))
                              go_roundg kj4
                              case measure => have := HK1.out; have := HJ4.out; omega
                              case rel => exact ⟨(wrap64 (x7_1 + 1)), (by first | rfl | (simp; done) | (simp [*]; done)), H', ⟨by have := HK1.out; have := HJ4.out; omega⟩, ⟨by repeat (first | (with_reducible first | exact HB.out | apply below_alloc | apply pw_below_drewN | apply below_drew1) | exact HB.out)⟩⟩
                            · replace c15 := Bool.eq_false_iff.mpr c15
                              subst c15
                              have H1 : (some false) = some r := by rw [if_neg (show ¬ (false = true) by decide)] at H; exact H
                              clear H
                              have H := H1
                              clear H1
                              obtain rfl := Option.some.inj H
                              have p114 : 0 ≤ ((rd l0 x7_1) : Int) := of_decide_eq_true (by first | (with_reducible assumption) | assumption)
                              have q114 : (rd l0 x7_1) < (l0.length : Int) := of_decide_eq_true (by first | (with_reducible assumption) | assumption)
                              obtain ⟨ad114, e114, hx114_0⟩ := Kd.at_int HR0.out (rd l0 x7_1) p114 q114
                              obtain rfl : ad113 = ad114 := (by injection e114)
                              replace hx114_0 := (HB.out.cell (World.block_lt_of_cell? w _ hx114_0)).trans hx114_0
                              replace p114 := eq_true p114
                              replace q114 := eq_true q114
                              go_wp2_with (first | (go_at_call 56; (with_reducible refine (dom_rises.calls _ _ l0 x7_1 false _ ?side1 ?side2 A14.out).mono ?_); (case side1 => repeat (first | exact (Kd.C_below HR0.out HB.out) | (with_reducible refine Kd.C_alloc ?_ _) | (with_reducible refine Kd.C_drewN ?_ _) | (with_reducible refine Kd.C_drew ?_))); (case side2 => exact HC0.out); rintro e w17 ⟨rfl, hb⟩; have n0_ := Aside0.mk (below_step (by repeat (first | (with_reducible first | exact HB.out | apply below_alloc | apply pw_below_drewN | apply below_drew1) | exact HB.out)) hb); clear HB; have HB := n0_; clear n0_; (try clear hb); (try clear hb2); (try clear hk); (try clear hi)))
                              go_ret
                              exact ⟨by first | rfl | (simp [errW_none, errW_some] <;> rfl) | (simp [*, errW_none, errW_some] <;> rfl) | (exfalso; (try simp_all); (try omega); done), by repeat (first | (with_reducible first | exact HB.out | apply below_alloc | apply pw_below_drewN | apply below_drew1) | exact HB.out)⟩
                      · rw [if_neg c11] at H
                        exact absurd H (by simp)
                    · rw [if_neg c10] at H
                      exact absurd H (by simp)
                  · rw [if_neg c9] at H
                    have c9b0 : decide (0 ≤ (rd l0 x7_1)) = false := decide_eq_false c9
                    clear c9
                    by_cases c18 : (rd l0 x7_1) = (-2)
                    · rw [if_pos c18] at H
                      have c18b0 : ((rd l0 x7_1) == (-2)) = true := beq_iff_eq.mpr c18
                      have c18b1 : ((rd l0 x7_1) != (-2)) = false := bne_eq_false_iff_eq.mpr c18
                      clear c18
                      have H' := Aside0.mk H
                      clear H
                      go_wp2
                      go_roundg kj4
                      case measure => have := HK1.out; have := HJ4.out; omega
                      case rel => exact ⟨(wrap64 (x7_1 + 1)), (by first | rfl | (simp; done) | (simp [*]; done)), H', ⟨by have := HK1.out; have := HJ4.out; omega⟩, ⟨by repeat (first | (with_reducible first | exact HB.out | apply below_alloc | apply pw_below_drewN | apply below_drew1) | exact HB.out)⟩⟩
                    · rw [if_neg c18] at H
                      have c18b0 : ((rd l0 x7_1) == (-2)) = false := beq_eq_false_iff_ne.mpr c18
                      have c18b1 : ((rd l0 x7_1) != (-2)) = true := bne_iff_ne.mpr c18
                      replace H := Option.bind_eq_some_iff.mp H
                      obtain ⟨t116, A190, H⟩ := H
                      replace H : (if t116 = true then (dom_Sane.l0 kj4 l0 l0 (l0.length : Int) (wrap64 (x7_1 + 1))) else (some false)) = some r := H
                      have A19 := Aside0.mk A190
                      clear A190
                      by_cases c20 : t116 = true
                      · subst c20
                        have H1 : (dom_Sane.l0 kj4 l0 l0 (l0.length : Int) (wrap64 (x7_1 + 1))) = some r := by rw [if_pos rfl] at H; exact H
                        clear H
                        have H := H1
                        clear H1
                        have H' := Aside0.mk H
                        clear H
                        go_wp2_with (first | (go_at_call 56; (with_reducible refine (dom_rises.calls _ _ l0 x7_1 true _ ?side1 ?side2 A19.out).mono ?_); (case side1 => repeat (first | exact (Kd.C_below HR0.out HB.out) | (with_reducible refine Kd.C_alloc ?_ _) | (with_reducible refine Kd.C_drewN ?_ _) | (with_reducible refine Kd.C_drew ?_))); (case side2 => exact HC0.out); rintro e w21 ⟨rfl, hb⟩; have n0_ := Aside0.mk (below_step (by repeat (first | (with_reducible first | exact HB.out | apply below_alloc | apply pw_below_drewN | apply below_drew1) | exact HB.out)) hb); clear HB; have HB := n0_; clear n0_; (try clear hb); (try clear hb2); (try clear hk); (try clear hi)))
                        go_roundg kj4
                        case measure => have := HK1.out; have := HJ4.out; omega
                        case rel => exact ⟨(wrap64 (x7_1 + 1)), (by first | rfl | (simp; done) | (simp [*]; done)), H', ⟨by have := HK1.out; have := HJ4.out; omega⟩, ⟨by repeat (first | (with_reducible first | exact HB.out | apply below_alloc | apply pw_below_drewN | apply below_drew1) | exact HB.out)⟩⟩
                      · replace c20 := Bool.eq_false_iff.mpr c20
                        subst c20
                        have H1 : (some false) = some r := by rw [if_neg (show ¬ (false = true) by decide)] at H; exact H
                        clear H
                        have H := H1
                        clear H1
                        obtain rfl := Option.some.inj H
                        go_wp2_with (first | (go_at_call 56; (with_reducible refine (dom_rises.calls _ _ l0 x7_1 false _ ?side1 ?side2 A19.out).mono ?_); (case side1 => repeat (first | exact (Kd.C_below HR0.out HB.out) | (with_reducible refine Kd.C_alloc ?_ _) | (with_reducible refine Kd.C_drewN ?_ _) | (with_reducible refine Kd.C_drew ?_))); (case side2 => exact HC0.out); rintro e w22 ⟨rfl, hb⟩; have n0_ := Aside0.mk (below_step (by repeat (first | (with_reducible first | exact HB.out | apply below_alloc | apply pw_below_drewN | apply below_drew1) | exact HB.out)) hb); clear HB; have HB := n0_; clear n0_; (try clear hb); (try clear hb2); (try clear hk); (try clear hi)))
                        go_ret
                        exact ⟨by first | rfl | (simp [errW_none, errW_some] <;> rfl) | (simp [*, errW_none, errW_some] <;> rfl) | (exfalso; (try simp_all); (try omega); done), by repeat (first | (with_reducible first | exact HB.out | apply below_alloc | apply pw_below_drewN | apply below_drew1) | exact HB.out)⟩
          · rw [if_neg c4] at H
            exact absurd H (by simp)
        · rw [if_neg c3] at H
          exact absurd H (by simp)
      · rw [if_neg c2] at H
        have c2b0 : decide (x7_1 < (l0.length : Int)) = false := decide_eq_false c2
        clear c2
        obtain rfl := Option.some.inj H
        go_wp2
        go_ret
        exact ⟨by first | rfl | (simp [errW_none, errW_some] <;> rfl) | (simp [*, errW_none, errW_some] <;> rfl) | (exfalso; (try simp_all); (try omega); done), by repeat (first | (with_reducible first | exact HB.out | apply below_alloc | apply pw_below_drewN | apply below_drew1) | exact HB.out)⟩

end Go.Proofs.Ytemcmcnhpdkdfaa.P
