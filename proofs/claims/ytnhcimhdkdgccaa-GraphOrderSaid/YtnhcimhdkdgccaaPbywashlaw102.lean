-- Written by prn.py (a program of this work) over the seat's translation. Not trusted: Lean checks it.
import Derived.Test.YtnhcimhdkdgccaaP0
import Derived.Test.YtnhcimhdkdgccaaHclean
import Derived.Test.YtnhcimhdkdgccaaHreach
import Derived.Test.YtnhcimhdkdgccaaPbywashlaw10
import Derived.Test.YtnhcimhdkdgccaaPbywashref10
namespace Go.Proofs.Ytnhcimhdkdgccaa.P
open Go.RowKit Go.Proofs.YtnhcimhdkdgccaaW.PrintWords Go.Proofs.YtnhcimhdkdgccaaW.PrintLast Go.Proofs.YtnhcimhdkdgccaaW.PrintMore
attribute [local go_sem] max2_int min2_int max_two min_two max_three min_three max_four min_four   -- for this text's walks alone
set_option linter.unusedVariables false
set_option linter.unusedSimpArgs false

/-! ### bywashlaw10_GraphWay: function 5 -/
mutual
def bywashlaw10_GraphWay.j0 : Nat → List (List Int) → Int → Int → Bool → List Bool → List (List Int) → Bool → Option (Bool)
  | 0, _, _, _, _, _, _, _ => none
  | k + 1, x0, x1, x2, x7, x8, x9, x35 => if x35 = true then (some false) else (if x1 < 0 then (bywashlaw10_GraphWay.j1 k x0 x1 x2 x7 x8 x9 true) else (if x1 ≥ (x0.length : Int) then (bywashlaw10_GraphWay.j1 k x0 x1 x2 x7 x8 x9 true) else (if x2 < 0 then (bywashlaw10_GraphWay.j1 k x0 x1 x2 x7 x8 x9 true) else (bywashlaw10_GraphWay.j1 k x0 x1 x2 x7 x8 x9 (decide (x2 ≥ (x0.length : Int)))))))
def bywashlaw10_GraphWay.j1 : Nat → List (List Int) → Int → Int → Bool → List Bool → List (List Int) → Bool → Option (Bool)
  | 0, _, _, _, _, _, _, _ => none
  | k + 1, x0, x1, x2, x7, x8, x9, x53 => if x53 = true then (bywashlaw10_GraphWay.l0 k x0 x1 x7 x8 0) else (bywashlaw10_GraphWay.l1 k x0 x1 x2 x7 x8 x9 (x1 == x2) 0)
def bywashlaw10_GraphWay.l0 : Nat → List (List Int) → Int → Bool → List Bool → Int → Option (Bool)
  | 0, _, _, _, _, _ => none
  | k + 1, x0, x1, x7, x8, x10 => if x10 < (x8.length : Int) then (if 0 ≤ x10 then (if rdOf false x8 x10 = true then (if x1 < 0 then (some false) else (if x1 ≥ (x0.length : Int) then (some false) else (bywashlaw10_GraphWay.l0 k x0 x1 x7 x8 (wrap64 (x10 + 1))))) else (bywashlaw10_GraphWay.l0 k x0 x1 x7 x8 (wrap64 (x10 + 1)))) else (none)) else (some x7)
def bywashlaw10_GraphWay.l1 : Nat → List (List Int) → Int → Int → Bool → List Bool → List (List Int) → Bool → Int → Option (Bool)
  | 0, _, _, _, _, _, _, _, _ => none
  | k + 1, x0, x1, x2, x7, x8, x9, x11, x12 => if 0 ≤ x1 then (if x1 < (x9.length : Int) then (if x12 < ((rd_L1 x9 x1).length : Int) then (if 0 ≤ x12 then ((graph_Reach.f x0 (rd (rd_L1 x9 x1) x12)).bind fun t175 => (if x11 = true then (bywashlaw10_GraphWay.l1 k x0 x1 x2 x7 x8 x9 true (wrap64 (x12 + 1))) else (if (t175.length : Int) = (x0.length : Int) then (if 0 ≤ x2 then (if x2 < (t175.length : Int) then (bywashlaw10_GraphWay.l1 k x0 x1 x2 x7 x8 x9 (rdOf false t175 x2) (wrap64 (x12 + 1))) else (none)) else (none)) else (bywashlaw10_GraphWay.l1 k x0 x1 x2 x7 x8 x9 false (wrap64 (x12 + 1)))))) else (none)) else (if x7 = true then (if 0 ≤ x2 then (if x2 < (x8.length : Int) then (some ((rdOf false x8 x2) == x11)) else (none)) else (none)) else (some false))) else (none)) else (none)
end
def bywashlaw10_GraphWay.f (k : Nat) (l0 : List (List Int)) (a1 : Int) (a2 : Int) : Option (Bool) := (bywashlaw10_awake.f k).bind fun t163 => ((bywashref10_Few.f k l0).bind fun t164 => (if t164 = true then ((graph_Reach.f l0 a1).bind fun t165 => ((graph_Clean.f l0).bind fun t168 => (if (t165.length : Int) = (l0.length : Int) then (bywashlaw10_GraphWay.j0 k l0 a1 a2 t163 t165 t168 ((t168.length : Int) != (l0.length : Int))) else (bywashlaw10_GraphWay.j0 k l0 a1 a2 t163 t165 t168 true)))) else (some t163)))
theorem bywashlaw10_GraphWay.mono_l : ∀ k, (∀ y0 y1 y2 y3 y4 y5 y6, LeO (bywashlaw10_GraphWay.j0 k y0 y1 y2 y3 y4 y5 y6) (bywashlaw10_GraphWay.j0 (k + 1) y0 y1 y2 y3 y4 y5 y6)) ∧ (∀ y0 y1 y2 y3 y4 y5 y6, LeO (bywashlaw10_GraphWay.j1 k y0 y1 y2 y3 y4 y5 y6) (bywashlaw10_GraphWay.j1 (k + 1) y0 y1 y2 y3 y4 y5 y6)) ∧ (∀ y0 y1 y2 y3 y4, LeO (bywashlaw10_GraphWay.l0 k y0 y1 y2 y3 y4) (bywashlaw10_GraphWay.l0 (k + 1) y0 y1 y2 y3 y4)) ∧ (∀ y0 y1 y2 y3 y4 y5 y6 y7, LeO (bywashlaw10_GraphWay.l1 k y0 y1 y2 y3 y4 y5 y6 y7) (bywashlaw10_GraphWay.l1 (k + 1) y0 y1 y2 y3 y4 y5 y6 y7))
  | 0 => ⟨fun _ _ _ _ _ _ _ r h => by simp [bywashlaw10_GraphWay.j0] at h, fun _ _ _ _ _ _ _ r h => by simp [bywashlaw10_GraphWay.j1] at h, fun _ _ _ _ _ r h => by simp [bywashlaw10_GraphWay.l0] at h, fun _ _ _ _ _ _ _ _ r h => by simp [bywashlaw10_GraphWay.l1] at h⟩
  | k + 1 => by
    obtain ⟨ih0, ih1, ih2, ih3⟩ := bywashlaw10_GraphWay.mono_l k
    refine ⟨?_, ?_, ?_, ?_⟩
    · intro y0 y1 y2 y3 y4 y5 y6
      unfold bywashlaw10_GraphWay.j0
      repeat' first
      | (with_reducible exact ih0 _ _ _ _ _ _ _)
      | (with_reducible exact ih1 _ _ _ _ _ _ _)
      | (with_reducible exact ih2 _ _ _ _ _)
      | (with_reducible exact ih3 _ _ _ _ _ _ _ _)
      | (with_reducible exact bywashlaw10_awake.mono _)
      | (with_reducible exact bywashref10_Few.mono _ _)
      | (with_reducible exact LeO.refl _)
      | (with_reducible exact LeO.none _)
      | (with_reducible refine LeO.ite ?_ ?_)
      | (with_reducible refine LeO.bind ?_ (fun _ => ?_))
      | exact ih0 _ _ _ _ _ _ _
      | exact ih1 _ _ _ _ _ _ _
      | exact ih2 _ _ _ _ _
      | exact ih3 _ _ _ _ _ _ _ _
      | exact bywashlaw10_awake.mono _
      | exact bywashref10_Few.mono _ _
      | exact LeO.none _
      | refine LeO.ite ?_ ?_
      | refine LeO.bind ?_ (fun _ => ?_)
    · intro y0 y1 y2 y3 y4 y5 y6
      unfold bywashlaw10_GraphWay.j1
      repeat' first
      | (with_reducible exact ih0 _ _ _ _ _ _ _)
      | (with_reducible exact ih1 _ _ _ _ _ _ _)
      | (with_reducible exact ih2 _ _ _ _ _)
      | (with_reducible exact ih3 _ _ _ _ _ _ _ _)
      | (with_reducible exact bywashlaw10_awake.mono _)
      | (with_reducible exact bywashref10_Few.mono _ _)
      | (with_reducible exact LeO.refl _)
      | (with_reducible exact LeO.none _)
      | (with_reducible refine LeO.ite ?_ ?_)
      | (with_reducible refine LeO.bind ?_ (fun _ => ?_))
      | exact ih0 _ _ _ _ _ _ _
      | exact ih1 _ _ _ _ _ _ _
      | exact ih2 _ _ _ _ _
      | exact ih3 _ _ _ _ _ _ _ _
      | exact bywashlaw10_awake.mono _
      | exact bywashref10_Few.mono _ _
      | exact LeO.none _
      | refine LeO.ite ?_ ?_
      | refine LeO.bind ?_ (fun _ => ?_)
    · intro y0 y1 y2 y3 y4
      unfold bywashlaw10_GraphWay.l0
      repeat' first
      | (with_reducible exact ih0 _ _ _ _ _ _ _)
      | (with_reducible exact ih1 _ _ _ _ _ _ _)
      | (with_reducible exact ih2 _ _ _ _ _)
      | (with_reducible exact ih3 _ _ _ _ _ _ _ _)
      | (with_reducible exact bywashlaw10_awake.mono _)
      | (with_reducible exact bywashref10_Few.mono _ _)
      | (with_reducible exact LeO.refl _)
      | (with_reducible exact LeO.none _)
      | (with_reducible refine LeO.ite ?_ ?_)
      | (with_reducible refine LeO.bind ?_ (fun _ => ?_))
      | exact ih0 _ _ _ _ _ _ _
      | exact ih1 _ _ _ _ _ _ _
      | exact ih2 _ _ _ _ _
      | exact ih3 _ _ _ _ _ _ _ _
      | exact bywashlaw10_awake.mono _
      | exact bywashref10_Few.mono _ _
      | exact LeO.none _
      | refine LeO.ite ?_ ?_
      | refine LeO.bind ?_ (fun _ => ?_)
    · intro y0 y1 y2 y3 y4 y5 y6 y7
      unfold bywashlaw10_GraphWay.l1
      repeat' first
      | (with_reducible exact ih0 _ _ _ _ _ _ _)
      | (with_reducible exact ih1 _ _ _ _ _ _ _)
      | (with_reducible exact ih2 _ _ _ _ _)
      | (with_reducible exact ih3 _ _ _ _ _ _ _ _)
      | (with_reducible exact bywashlaw10_awake.mono _)
      | (with_reducible exact bywashref10_Few.mono _ _)
      | (with_reducible exact LeO.refl _)
      | (with_reducible exact LeO.none _)
      | (with_reducible refine LeO.ite ?_ ?_)
      | (with_reducible refine LeO.bind ?_ (fun _ => ?_))
      | exact ih0 _ _ _ _ _ _ _
      | exact ih1 _ _ _ _ _ _ _
      | exact ih2 _ _ _ _ _
      | exact ih3 _ _ _ _ _ _ _ _
      | exact bywashlaw10_awake.mono _
      | exact bywashref10_Few.mono _ _
      | exact LeO.none _
      | refine LeO.ite ?_ ?_
      | refine LeO.bind ?_ (fun _ => ?_)
theorem bywashlaw10_GraphWay.mono : ∀ a0 a1 a2 k, LeO (bywashlaw10_GraphWay.f k a0 a1 a2) (bywashlaw10_GraphWay.f (k + 1) a0 a1 a2) := by
  intro a0 a1 a2 k
  obtain ⟨ih0, ih1, ih2, ih3⟩ := bywashlaw10_GraphWay.mono_l k
  unfold bywashlaw10_GraphWay.f
  repeat' first
      | (with_reducible exact ih0 _ _ _ _ _ _ _)
      | (with_reducible exact ih1 _ _ _ _ _ _ _)
      | (with_reducible exact ih2 _ _ _ _ _)
      | (with_reducible exact ih3 _ _ _ _ _ _ _ _)
      | (with_reducible exact bywashlaw10_awake.mono _)
      | (with_reducible exact bywashref10_Few.mono _ _)
      | (with_reducible exact LeO.refl _)
      | (with_reducible exact LeO.none _)
      | (with_reducible refine LeO.ite ?_ ?_)
      | (with_reducible refine LeO.bind ?_ (fun _ => ?_))
      | exact ih0 _ _ _ _ _ _ _
      | exact ih1 _ _ _ _ _ _ _
      | exact ih2 _ _ _ _ _
      | exact ih3 _ _ _ _ _ _ _ _
      | exact bywashlaw10_awake.mono _
      | exact bywashref10_Few.mono _ _
      | exact LeO.none _
      | refine LeO.ite ?_ ?_
      | refine LeO.bind ?_ (fun _ => ?_)
set_option maxHeartbeats 8000000 in
set_option maxRecDepth 100000 in
theorem bywashlaw10_GraphWay.calls (k : Nat) (A0 : Option Addr) (c0 : Nat) (l0 : List (List Int)) (a1 : Int) (a2 : Int) (r : Bool) (w : World) (hr0 : Kd.C (Kd.slice 3 (Kd.int .i64)) w A0 l0.length l0) (hc0 : l0.length ≤ c0) (h : bywashlaw10_GraphWay.f k l0 a1 a2 = some r) :
    Calls Try.prog 5 #[.slice A0 l0.length c0, .int .i64 a1, .int .i64 a2] w fun e w' => e = .returned (.bool r) ∧ Below w.heap.size w w' := by
  have HR0 := Aside0.mk hr0
  have HC0 := Aside0.mk hc0
  clear hr0 hc0
  have HB := Aside0.mk (Below.refl w.heap.size w)
  have H : ((bywashlaw10_awake.f k).bind fun t163 => ((bywashref10_Few.f k l0).bind fun t164 => (if t164 = true then ((graph_Reach.f l0 a1).bind fun t165 => ((graph_Clean.f l0).bind fun t168 => (if (t165.length : Int) = (l0.length : Int) then (bywashlaw10_GraphWay.j0 k l0 a1 a2 t163 t165 t168 ((t168.length : Int) != (l0.length : Int))) else (bywashlaw10_GraphWay.j0 k l0 a1 a2 t163 t165 t168 true)))) else (some t163)))) = some r := h
  clear h
  replace H := Option.bind_eq_some_iff.mp H
  obtain ⟨t163, A40, H⟩ := H
  replace H : ((bywashref10_Few.f k l0).bind fun t164 => (if t164 = true then ((graph_Reach.f l0 a1).bind fun t165 => ((graph_Clean.f l0).bind fun t168 => (if (t165.length : Int) = (l0.length : Int) then (bywashlaw10_GraphWay.j0 k l0 a1 a2 t163 t165 t168 ((t168.length : Int) != (l0.length : Int))) else (bywashlaw10_GraphWay.j0 k l0 a1 a2 t163 t165 t168 true)))) else (some t163))) = some r := H
  have A4 := Aside0.mk A40
  clear A40
  replace H := Option.bind_eq_some_iff.mp H
  obtain ⟨t164, A50, H⟩ := H
  replace H : (if t164 = true then ((graph_Reach.f l0 a1).bind fun t165 => ((graph_Clean.f l0).bind fun t168 => (if (t165.length : Int) = (l0.length : Int) then (bywashlaw10_GraphWay.j0 k l0 a1 a2 t163 t165 t168 ((t168.length : Int) != (l0.length : Int))) else (bywashlaw10_GraphWay.j0 k l0 a1 a2 t163 t165 t168 true)))) else (some t163)) = some r := H
  have A5 := Aside0.mk A50
  clear A50
  by_cases c6 : t164 = true
  · subst c6
    have H1 : ((graph_Reach.f l0 a1).bind fun t165 => ((graph_Clean.f l0).bind fun t168 => (if (t165.length : Int) = (l0.length : Int) then (bywashlaw10_GraphWay.j0 k l0 a1 a2 t163 t165 t168 ((t168.length : Int) != (l0.length : Int))) else (bywashlaw10_GraphWay.j0 k l0 a1 a2 t163 t165 t168 true)))) = some r := by rw [if_pos rfl] at H; exact H
    clear H
    have H := H1
    clear H1
    replace H := Option.bind_eq_some_iff.mp H
    obtain ⟨t165, A70, H⟩ := H
    replace H : ((graph_Clean.f l0).bind fun t168 => (if (t165.length : Int) = (l0.length : Int) then (bywashlaw10_GraphWay.j0 k l0 a1 a2 t163 t165 t168 ((t168.length : Int) != (l0.length : Int))) else (bywashlaw10_GraphWay.j0 k l0 a1 a2 t163 t165 t168 true))) = some r := H
    have A7 := Aside0.mk A70
    clear A70
    replace H := Option.bind_eq_some_iff.mp H
    obtain ⟨t168, A80, H⟩ := H
    replace H : (if (t165.length : Int) = (l0.length : Int) then (bywashlaw10_GraphWay.j0 k l0 a1 a2 t163 t165 t168 ((t168.length : Int) != (l0.length : Int))) else (bywashlaw10_GraphWay.j0 k l0 a1 a2 t163 t165 t168 true)) = some r := H
    have A8 := Aside0.mk A80
    clear A80
    have HC9 := Aside0.mk H
    clear H
    go_enter Try.func5, Try.ntmps5
    go_upto_region 6 with (first | ((with_reducible refine gate_callee (f := 20) rfl ?_); refine goesL_ (some 14) rfl rfl Try.func20 (by kernel_rfl) rfl #[] rfl (by (try simp only [List.map_toArray, List.map_cons, List.map_nil]); first | done | rfl | (simp only [List.length_drop, List.length_take]; rfl)) ?_; (with_reducible refine (bywashlaw10_awake.calls k  t163 _ A4.out).mono ?_); rintro e w10 ⟨rfl, hb⟩; refine ⟨_, rfl, ?_⟩; have n0_ := Aside0.mk (below_step (by repeat (first | (with_reducible first | exact HB.out | apply below_alloc | apply pw_below_drewN | apply below_drew1) | exact HB.out)) hb); clear HB; have HB := n0_; clear n0_; (try clear hb); (try clear hb2); (try clear hk); (try clear hi)) | ((with_reducible refine gate_callee (f := 21) rfl ?_); refine goesL_ (some 16) rfl rfl Try.func21 (by kernel_rfl) rfl #[.slice A0 l0.length c0] rfl (by (try simp only [List.map_toArray, List.map_cons, List.map_nil]); first | done | rfl | (simp only [List.length_drop, List.length_take]; rfl)) ?_; (with_reducible refine (bywashref10_Few.calls k _ _ l0 true _ ?side1 ?side2 A5.out).mono ?_); (case side1 => repeat (first | exact (Kd.C_below HR0.out HB.out) | (with_reducible refine Kd.C_alloc ?_ _) | (with_reducible refine Kd.C_drewN ?_ _) | (with_reducible refine Kd.C_drew ?_))); (case side2 => exact HC0.out); rintro e w' ⟨rfl, ⟨nd, rfl⟩⟩; refine ⟨_, rfl, ?_⟩) | ((with_reducible refine gate_callee (f := 23) rfl ?_); refine goesL_ (some 21) rfl rfl Try.func23 (by kernel_rfl) rfl #[.slice A0 l0.length c0, .int .i64 a1] rfl (by (try simp only [List.map_toArray, List.map_cons, List.map_nil]); first | done | rfl | (simp only [List.length_drop, List.length_take]; rfl)) ?_; (with_reducible refine (graph_Reach.calls _ _ l0 a1 t165 _ ?side1 ?side2 A7.out).mono ?_); (case side1 => repeat (first | exact (Kd.C_below HR0.out (by repeat (first | (with_reducible first | exact HB.out | apply below_alloc | apply pw_below_drewN | apply below_drew1) | exact HB.out))) | (with_reducible refine Kd.C_alloc ?_ _) | (with_reducible refine Kd.C_drewN ?_ _) | (with_reducible refine Kd.C_drew ?_))); (case side2 => exact HC0.out); rintro e w11 ⟨v166, rfl, ho0, hb⟩; refine ⟨_, rfl, ?_⟩; have n0_ := Aside0.mk (Kd.R_lower ho0 (below_size (by repeat (first | (with_reducible first | exact HB.out | apply below_alloc | apply pw_below_drewN | apply below_drew1) | exact HB.out)))); have n1_ := Aside0.mk (below_step (by repeat (first | (with_reducible first | exact HB.out | apply below_alloc | apply pw_below_drewN | apply below_drew1) | exact HB.out)) hb); clear HB; have HO167 := n0_; have HB := n1_; clear n0_ n1_; (try clear hb); (try clear hb2); (try clear hk); (try clear hi); (try clear ho0)) | ((with_reducible refine gate_callee (f := 24) rfl ?_); refine goesL_ (some 23) rfl rfl Try.func24 (by kernel_rfl) rfl #[.slice A0 l0.length c0] rfl (by (try simp only [List.map_toArray, List.map_cons, List.map_nil]); first | done | rfl | (simp only [List.length_drop, List.length_take]; rfl)) ?_; (with_reducible refine (graph_Clean.calls _ _ l0 t168 _ ?side1 ?side2 A8.out).mono ?_); (case side1 => repeat (first | exact (Kd.C_below HR0.out HB.out) | (with_reducible refine Kd.C_alloc ?_ _) | (with_reducible refine Kd.C_drewN ?_ _) | (with_reducible refine Kd.C_drew ?_))); (case side2 => exact HC0.out); rintro e w12 ⟨v169, rfl, ho0, hb⟩; refine ⟨_, rfl, ?_⟩; have n0_ := Aside0.mk (Kd.R_below (by (with_reducible repeat (first | apply Kd.R_alloc | apply Kd.R_drewN | apply Kd.R_drew)); exact HO167.out) hb); have n1_ := Aside0.mk (Kd.S_lower ho0 (below_size (by repeat (first | (with_reducible first | exact HB.out | apply below_alloc | apply pw_below_drewN | apply below_drew1) | exact HB.out)))); have n2_ := Aside0.mk (below_step (by repeat (first | (with_reducible first | exact HB.out | apply below_alloc | apply pw_below_drewN | apply below_drew1) | exact HB.out)) hb); clear HO167; clear HB; have HO167 := n0_; have HO170 := n1_; have HB := n2_; clear n0_ n1_ n2_; (try clear hb); (try clear hb2); (try clear hk); (try clear hi); (try clear ho0)))
    (try simp only [Act.put, List.setIfInBounds_toArray, List.set_cons_zero, List.set_cons_succ])
    go_cut [35] (fun v35 wc => ∃ (kq : Nat) (x35_8 : Bool), v35 = .bool x35_8 ∧ Aside0 (bywashlaw10_GraphWay.j0 kq l0 a1 a2 t163 t165 t168 x35_8 = some r) ∧ Aside0 (kq ≤ k) ∧ Aside0 (Kd.R Kd.bool 4 wc w.heap.size (fun _ => True) v166 t165) ∧ Aside0 (Kd.S (Kd.slice 3 (Kd.int .i64)) 22 wc w.heap.size (fun _ => True) v169 t168) ∧ Aside0 (Below w.heap.size w wc))
    case first =>
      have H := HC9.out
      clear HC9
      by_cases c13 : (t165.length : Int) = (l0.length : Int)
      · rw [if_pos c13] at H
        have c13b0 : ((t165.length : Int) == (l0.length : Int)) = true := beq_iff_eq.mpr c13
        have c13b1 : ((t165.length : Int) != (l0.length : Int)) = false := bne_eq_false_iff_eq.mpr c13
        have c13b2 : (t165.length == l0.length) = true := by first | simpa using c13 | (simp at c13 ⊢; omega)
        clear c13
        (first | rw [c13b0] | (simp only [i64_w, i32_w]; rw [c13b0]) | skip)
        have H' := Aside0.mk H
        clear H
        obtain ⟨Ao14, co14, eo14⟩ := Kd.R_slice HO167.out
        subst eo14
        obtain ⟨Ao15, co15, eo15⟩ := Kd.S_slice HO170.out
        subst eo15
        go_wp2
        go_meet
        case rel => exact ⟨_, (((t168.length : Int) != (l0.length : Int))), (by first | rfl | (simp; done) | (simp [*]; done)), H', ⟨by first | omega | exact Nat.le_refl _⟩, ⟨by (with_reducible repeat (first | apply Kd.R_alloc | apply Kd.R_drewN | apply Kd.R_drew)); exact HO167.out⟩, ⟨by (with_reducible repeat (first | apply Kd.S_alloc | apply Kd.S_drewN | apply Kd.S_drew)); exact HO170.out⟩, ⟨by repeat (first | (with_reducible first | exact HB.out | apply below_alloc | apply pw_below_drewN | apply below_drew1) | exact HB.out)⟩⟩
      · rw [if_neg c13] at H
        have c13b0 : ((t165.length : Int) == (l0.length : Int)) = false := beq_eq_false_iff_ne.mpr c13
        have c13b1 : ((t165.length : Int) != (l0.length : Int)) = true := bne_iff_ne.mpr c13
        have c13b2 : (t165.length == l0.length) = false := by first | simpa using c13 | (simp at c13 ⊢; omega)
        (first | rw [c13b0] | (simp only [i64_w, i32_w]; rw [c13b0]) | skip)
        have H' := Aside0.mk H
        clear H
        obtain ⟨Ao16, co16, eo16⟩ := Kd.R_slice HO167.out
        subst eo16
        go_wp2
        go_meet
        case rel => exact ⟨_, (true), (by first | rfl | (simp; done) | (simp [*]; done)), H', ⟨by first | omega | exact Nat.le_refl _⟩, ⟨by (with_reducible repeat (first | apply Kd.R_alloc | apply Kd.R_drewN | apply Kd.R_drew)); exact HO167.out⟩, ⟨by (with_reducible repeat (first | apply Kd.S_alloc | apply Kd.S_drewN | apply Kd.S_drew)); exact HO170.out⟩, ⟨by repeat (first | (with_reducible first | exact HB.out | apply below_alloc | apply pw_below_drewN | apply below_drew1) | exact HB.out)⟩⟩
    case rest =>
      clear HC9
      try clear c1
      try clear c2
      try clear p2
      try clear c5
      try clear c6
      try clear c13
      try clear c13b0
      try clear c13b1
      try clear c13b2
      obtain ⟨kq, x35_8, rfl, HA, HJ8, HO_8, HO_9, HB⟩ := hcut
      cases kq with
      | zero => exact absurd HA.out (by simp [bywashlaw10_GraphWay.j0])
      | succ kj8 =>
        have H := HA.out
        clear HA
        simp only [bywashlaw10_GraphWay.j0] at H
        by_cases c17 : x35_8 = true
        · subst c17
          have H1 : (some false) = some r := by rw [if_pos rfl] at H; exact H
          clear H
          have H := H1
          clear H1
          obtain rfl := Option.some.inj H
          go_wp2
          go_ret
          exact ⟨by first | rfl | (simp [errW_none, errW_some] <;> rfl) | (simp [*, errW_none, errW_some] <;> rfl), by repeat (first | (with_reducible first | exact HB.out | apply below_alloc | apply pw_below_drewN | apply below_drew1) | exact HB.out)⟩
        · replace c17 := Bool.eq_false_iff.mpr c17
          subst c17
          have H1 : (if a1 < 0 then (bywashlaw10_GraphWay.j1 kj8 l0 a1 a2 t163 t165 t168 true) else (if a1 ≥ (l0.length : Int) then (bywashlaw10_GraphWay.j1 kj8 l0 a1 a2 t163 t165 t168 true) else (if a2 < 0 then (bywashlaw10_GraphWay.j1 kj8 l0 a1 a2 t163 t165 t168 true) else (bywashlaw10_GraphWay.j1 kj8 l0 a1 a2 t163 t165 t168 (decide (a2 ≥ (l0.length : Int))))))) = some r := by rw [if_neg (show ¬ (false = true) by decide)] at H; exact H
          clear H
          have H := H1
          clear H1
          have HC18 := Aside0.mk H
          clear H
          go_upto_region 8 with (fail)
          go_cut [53] (fun v53 wc => ∃ (kq : Nat) (x53_17 : Bool), v53 = .bool x53_17 ∧ Aside0 (bywashlaw10_GraphWay.j1 kq l0 a1 a2 t163 t165 t168 x53_17 = some r) ∧ Aside0 (kq ≤ kj8) ∧ Aside0 (Kd.R Kd.bool 4 wc w.heap.size (fun _ => True) v166 t165) ∧ Aside0 (Kd.S (Kd.slice 3 (Kd.int .i64)) 22 wc w.heap.size (fun _ => True) v169 t168) ∧ Aside0 (Below w.heap.size w wc))
          case first =>
            have H := HC18.out
            clear HC18
            by_cases c19 : a1 < 0
            · rw [if_pos c19] at H
              have c19b0 : decide (a1 < 0) = true := decide_eq_true c19
              clear c19
              (first | rw [c19b0] | (simp only [i64_w, i32_w]; rw [c19b0]) | skip)
              have H' := Aside0.mk H
              clear H
              go_wp2
              go_meet
              case rel => exact ⟨_, (true), (by first | rfl | (simp; done) | (simp [*]; done)), H', ⟨by have := HJ8.out; first | omega | exact Nat.le_refl _⟩, ⟨by (with_reducible repeat (first | apply Kd.R_alloc | apply Kd.R_drewN | apply Kd.R_drew)); exact HO_8.out⟩, ⟨by (with_reducible repeat (first | apply Kd.S_alloc | apply Kd.S_drewN | apply Kd.S_drew)); exact HO_9.out⟩, ⟨by repeat (first | (with_reducible first | exact HB.out | apply below_alloc | apply pw_below_drewN | apply below_drew1) | exact HB.out)⟩⟩
            · rw [if_neg c19] at H
              have c19b0 : decide (a1 < 0) = false := decide_eq_false c19
              clear c19
              (first | rw [c19b0] | (simp only [i64_w, i32_w]; rw [c19b0]) | skip)
              by_cases c20 : a1 ≥ (l0.length : Int)
              · rw [if_pos c20] at H
                have c20b0 : decide ((l0.length : Int) ≤ a1) = true := decide_eq_true c20
                clear c20
                have H' := Aside0.mk H
                clear H
                go_wp2
                go_meet
                case rel => exact ⟨_, (true), (by first | rfl | (simp; done) | (simp [*]; done)), H', ⟨by have := HJ8.out; first | omega | exact Nat.le_refl _⟩, ⟨by (with_reducible repeat (first | apply Kd.R_alloc | apply Kd.R_drewN | apply Kd.R_drew)); exact HO_8.out⟩, ⟨by (with_reducible repeat (first | apply Kd.S_alloc | apply Kd.S_drewN | apply Kd.S_drew)); exact HO_9.out⟩, ⟨by repeat (first | (with_reducible first | exact HB.out | apply below_alloc | apply pw_below_drewN | apply below_drew1) | exact HB.out)⟩⟩
              · rw [if_neg c20] at H
                have c20b0 : decide ((l0.length : Int) ≤ a1) = false := decide_eq_false c20
                clear c20
                by_cases c21 : a2 < 0
                · rw [if_pos c21] at H
                  have c21b0 : decide (a2 < 0) = true := decide_eq_true c21
                  clear c21
                  have H' := Aside0.mk H
                  clear H
                  go_wp2
                  go_meet
                  case rel => exact ⟨_, (true), (by first | rfl | (simp; done) | (simp [*]; done)), H', ⟨by have := HJ8.out; first | omega | exact Nat.le_refl _⟩, ⟨by (with_reducible repeat (first | apply Kd.R_alloc | apply Kd.R_drewN | apply Kd.R_drew)); exact HO_8.out⟩, ⟨by (with_reducible repeat (first | apply Kd.S_alloc | apply Kd.S_drewN | apply Kd.S_drew)); exact HO_9.out⟩, ⟨by repeat (first | (with_reducible first | exact HB.out | apply below_alloc | apply pw_below_drewN | apply below_drew1) | exact HB.out)⟩⟩
                · rw [if_neg c21] at H
                  have c21b0 : decide (a2 < 0) = false := decide_eq_false c21
                  clear c21
                  have H' := Aside0.mk H
                  clear H
                  go_wp2
                  go_meet
                  case rel => exact ⟨_, (decide (a2 ≥ (l0.length : Int))), (by first | rfl | (simp; done) | (simp [*]; done)), H', ⟨by have := HJ8.out; first | omega | exact Nat.le_refl _⟩, ⟨by (with_reducible repeat (first | apply Kd.R_alloc | apply Kd.R_drewN | apply Kd.R_drew)); exact HO_8.out⟩, ⟨by (with_reducible repeat (first | apply Kd.S_alloc | apply Kd.S_drewN | apply Kd.S_drew)); exact HO_9.out⟩, ⟨by repeat (first | (with_reducible first | exact HB.out | apply below_alloc | apply pw_below_drewN | apply below_drew1) | exact HB.out)⟩⟩
          case rest =>
            clear HC18
            try clear c1
            try clear c2
            try clear p2
            try clear c5
            try clear c6
            try clear c13
            try clear c13b0
            try clear c13b1
            try clear c13b2
            try clear c17
            try clear c19
            try clear c19b0
            try clear c20
            try clear c20b0
            try clear c21
            try clear c21b0
            try clear p2
            obtain ⟨kq, x53_17, rfl, HA, HJ17, HO_8, HO_9, HB⟩ := hcut
            cases kq with
            | zero => exact absurd HA.out (by simp [bywashlaw10_GraphWay.j1])
            | succ kj17 =>
              have H := HA.out
              clear HA
              simp only [bywashlaw10_GraphWay.j1] at H
              by_cases c22 : x53_17 = true
              · subst c22
                have H1 : (bywashlaw10_GraphWay.l0 kj17 l0 a1 t163 t165 0) = some r := by rw [if_pos rfl] at H; exact H
                clear H
                have H := H1
                clear H1
                have H' := Aside0.mk H
                clear H
                go_wp2
                go_loopg [10] kj17 (fun kq v10 w' => ∃ (x10_3 : Int), v10 = .int .i64 x10_3 ∧ Aside0 (bywashlaw10_GraphWay.l0 kq l0 a1 t163 t165 x10_3 = some r) ∧ Aside0 (kq ≤ kj17) ∧ Aside0 (Kd.R Kd.bool 4 w' w.heap.size (fun _ => True) v166 t165) ∧ Aside0 (Below w.heap.size w w'))
                case atStart => exact ⟨(0), (by first | rfl | (simp; done) | (simp [*]; done)), H', ⟨Nat.le_refl _⟩, ⟨by (with_reducible repeat (first | apply Kd.R_alloc | apply Kd.R_drewN | apply Kd.R_drew)); exact HO_8.out⟩, ⟨by repeat (first | (with_reducible first | exact HB.out | apply below_alloc | apply pw_below_drewN | apply below_drew1) | exact HB.out)⟩⟩
                case round =>
                  clear H'
                  try clear c1
                  try clear c2
                  try clear p2
                  try clear c5
                  try clear c6
                  try clear c13
                  try clear c13b0
                  try clear c13b1
                  try clear c13b2
                  try clear c17
                  try clear c19
                  try clear c19b0
                  try clear c20
                  try clear c20b0
                  try clear c21
                  try clear c21b0
                  try clear c22
                  try clear p2
                  obtain ⟨x10_3, rfl, HA, HK3, HO_8, HB⟩ := hrel
                  cases gk with
                  | zero => exact absurd HA.out (by simp [bywashlaw10_GraphWay.l0])
                  | succ k3 =>
                    have H := HA.out
                    clear HA
                    simp only [bywashlaw10_GraphWay.l0] at H
                    by_cases c23 : x10_3 < (t165.length : Int)
                    · rw [if_pos c23] at H
                      have c23b0 : decide (x10_3 < (t165.length : Int)) = true := decide_eq_true c23
                      clear c23
                      by_cases c24 : 0 ≤ x10_3
                      · rw [if_pos c24] at H
                        have c24b0 : decide (0 ≤ x10_3) = true := decide_eq_true c24
                        clear c24
                        obtain ⟨bq25, hbq25⟩ : ∃ b_ : Bool, b_ = (rdOf false t165 x10_3) := ⟨_, rfl⟩
                        replace H : (if bq25 = true then (if a1 < 0 then (some false) else (if a1 ≥ (l0.length : Int) then (some false) else (bywashlaw10_GraphWay.l0 k3 l0 a1 t163 t165 (wrap64 (x10_3 + 1))))) else (bywashlaw10_GraphWay.l0 k3 l0 a1 t163 t165 (wrap64 (x10_3 + 1)))) = some r := by rw [← hbq25] at H; exact H
                        have Nbq25 := Aside0.mk hbq25
                        clear hbq25
                        by_cases c26 : bq25 = true
                        · subst c26
                          have H1 : (if a1 < 0 then (some false) else (if a1 ≥ (l0.length : Int) then (some false) else (bywashlaw10_GraphWay.l0 k3 l0 a1 t163 t165 (wrap64 (x10_3 + 1))))) = some r := by rw [if_pos rfl] at H; exact H
                          clear H
                          have H := H1
                          clear H1
                          by_cases c27 : a1 < 0
                          · rw [if_pos c27] at H
                            have c27b0 : decide (a1 < 0) = true := decide_eq_true c27
                            clear c27
                            obtain rfl := Option.some.inj H
                            obtain ⟨Ao28, co28, eo28⟩ := Kd.R_slice HO_8.out
                            subst eo28
                            have p171 : 0 ≤ (x10_3 : Int) := of_decide_eq_true (by first | (with_reducible assumption) | assumption)
                            have q171 : x10_3 < (t165.length : Int) := of_decide_eq_true (by first | (with_reducible assumption) | assumption)
                            obtain ⟨ad171, e171, hx171_0⟩ := Kd.at_bool (Kd.R_reads' HO_8.out).2.2 x10_3 p171 q171
                            (try rw [← Nbq25.out] at hx171_0)
                            cases e171
                            replace p171 := eq_true p171
                            replace q171 := eq_true q171
                            go_wp2
                            go_ret
                            exact ⟨by first | rfl | (simp [errW_none, errW_some] <;> rfl) | (simp [*, errW_none, errW_some] <;> rfl), by repeat (first | (with_reducible first | exact HB.out | apply below_alloc | apply pw_below_drewN | apply below_drew1) | exact HB.out)⟩
                          · rw [if_neg c27] at H
                            have c27b0 : decide (a1 < 0) = false := decide_eq_false c27
                            clear c27
                            by_cases c29 : a1 ≥ (l0.length : Int)
                            · rw [if_pos c29] at H
                              have c29b0 : decide ((l0.length : Int) ≤ a1) = true := decide_eq_true c29
                              clear c29
                              obtain rfl := Option.some.inj H
                              obtain ⟨Ao30, co30, eo30⟩ := Kd.R_slice HO_8.out
                              subst eo30
                              have p171 : 0 ≤ (x10_3 : Int) := of_decide_eq_true (by first | (with_reducible assumption) | assumption)
                              have q171 : x10_3 < (t165.length : Int) := of_decide_eq_true (by first | (with_reducible assumption) | assumption)
                              obtain ⟨ad171, e171, hx171_0⟩ := Kd.at_bool (Kd.R_reads' HO_8.out).2.2 x10_3 p171 q171
                              (try rw [← Nbq25.out] at hx171_0)
                              cases e171
                              replace p171 := eq_true p171
                              replace q171 := eq_true q171
                              go_wp2
                              go_ret
                              exact ⟨by first | rfl | (simp [errW_none, errW_some] <;> rfl) | (simp [*, errW_none, errW_some] <;> rfl), by repeat (first | (with_reducible first | exact HB.out | apply below_alloc | apply pw_below_drewN | apply below_drew1) | exact HB.out)⟩
                            · rw [if_neg c29] at H
                              have c29b0 : decide ((l0.length : Int) ≤ a1) = false := decide_eq_false c29
                              clear c29
                              have H' := Aside0.mk H
                              clear H
                              obtain ⟨Ao31, co31, eo31⟩ := Kd.R_slice HO_8.out
                              subst eo31
                              have p171 : 0 ≤ (x10_3 : Int) := of_decide_eq_true (by first | (with_reducible assumption) | assumption)
                              have q171 : x10_3 < (t165.length : Int) := of_decide_eq_true (by first | (with_reducible assumption) | assumption)
                              obtain ⟨ad171, e171, hx171_0⟩ := Kd.at_bool (Kd.R_reads' HO_8.out).2.2 x10_3 p171 q171
                              (try rw [← Nbq25.out] at hx171_0)
                              cases e171
                              replace p171 := eq_true p171
                              replace q171 := eq_true q171
                              go_wp2
                              go_roundg k3
                              case measure => have := HJ8.out; have := HJ17.out; have := HK3.out; omega
                              case rel => exact ⟨(wrap64 (x10_3 + 1)), (by first | rfl | (simp; done) | (simp [*]; done)), H', ⟨by have := HJ8.out; have := HJ17.out; have := HK3.out; omega⟩, ⟨by (with_reducible repeat (first | apply Kd.R_alloc | apply Kd.R_drewN | apply Kd.R_drew)); exact HO_8.out⟩, ⟨by repeat (first | (with_reducible first | exact HB.out | apply below_alloc | apply pw_below_drewN | apply below_drew1) | exact HB.out)⟩⟩
                        · replace c26 := Bool.eq_false_iff.mpr c26
                          subst c26
                          have H1 : (bywashlaw10_GraphWay.l0 k3 l0 a1 t163 t165 (wrap64 (x10_3 + 1))) = some r := by rw [if_neg (show ¬ (false = true) by decide)] at H; exact H
                          clear H
                          have H := H1
                          clear H1
                          have H' := Aside0.mk H
                          clear H
                          obtain ⟨Ao32, co32, eo32⟩ := Kd.R_slice HO_8.out
                          subst eo32
                          have p171 : 0 ≤ (x10_3 : Int) := of_decide_eq_true (by first | (with_reducible assumption) | assumption)
                          have q171 : x10_3 < (t165.length : Int) := of_decide_eq_true (by first | (with_reducible assumption) | assumption)
                          obtain ⟨ad171, e171, hx171_0⟩ := Kd.at_bool (Kd.R_reads' HO_8.out).2.2 x10_3 p171 q171
                          (try rw [← Nbq25.out] at hx171_0)
                          cases e171
                          replace p171 := eq_true p171
                          replace q171 := eq_true q171
                          go_wp2
                          go_roundg k3
                          case measure => have := HJ8.out; have := HJ17.out; have := HK3.out; omega
                          case rel => exact ⟨(wrap64 (x10_3 + 1)), (by first | rfl | (simp; done) | (simp [*]; done)), H', ⟨by have := HJ8.out; have := HJ17.out; have := HK3.out; omega⟩, ⟨by (with_reducible repeat (first | apply Kd.R_alloc | apply Kd.R_drewN | apply Kd.R_drew)); exact HO_8.out⟩, ⟨by repeat (first | (with_reducible first | exact HB.out | apply below_alloc | apply pw_below_drewN | apply below_drew1) | exact HB.out)⟩⟩
                      · rw [if_neg c24] at H
                        exact absurd H (by simp)
                    · rw [if_neg c23] at H
                      have c23b0 : decide (x10_3 < (t165.length : Int)) = false := decide_eq_false c23
                      clear c23
                      obtain rfl := Option.some.inj H
                      obtain ⟨Ao33, co33, eo33⟩ := Kd.R_slice HO_8.out
                      subst eo33
                      go_wp2
                      go_ret
                      exact ⟨by first | rfl | (simp [errW_none, errW_some] <;> rfl) | (simp [*, errW_none, errW_some] <;> rfl), by repeat (first | (with_reducible first | exact HB.out | apply below_alloc | apply pw_below_drewN | apply below_drew1) | exact HB.out)⟩
              · replace c22 := Bool.eq_false_iff.mpr c22
                subst c22
                have H1 : (bywashlaw10_GraphWay.l1 kj17 l0 a1 a2 t163 t165 t168 (a1 == a2) 0) = some r := by rw [if_neg (show ¬ (false = true) by decide)] at H; exact H
                clear H
                have H := H1
                clear H1
                have H' := Aside0.mk H
                clear H
                go_wp2
                go_loopg [11, 12] kj17 (fun kq v11 v12 w' => ∃ (x11_3 : Bool) (x12_3 : Int), v11 = .bool x11_3 ∧ v12 = .int .i64 x12_3 ∧ Aside0 (bywashlaw10_GraphWay.l1 kq l0 a1 a2 t163 t165 t168 x11_3 x12_3 = some r) ∧ Aside0 (kq ≤ kj17) ∧ Aside0 (Kd.R Kd.bool 4 w' w.heap.size (fun _ => True) v166 t165) ∧ Aside0 (Kd.S (Kd.slice 3 (Kd.int .i64)) 22 w' w.heap.size (fun _ => True) v169 t168) ∧ Aside0 (Below w.heap.size w w'))
                case atStart => exact ⟨((a1 == a2)), (0), (by first | rfl | (simp; done) | (simp [*]; done)), (by first | rfl | (simp; done) | (simp [*]; done)), H', ⟨Nat.le_refl _⟩, ⟨by (with_reducible repeat (first | apply Kd.R_alloc | apply Kd.R_drewN | apply Kd.R_drew)); exact HO_8.out⟩, ⟨by (with_reducible repeat (first | apply Kd.S_alloc | apply Kd.S_drewN | apply Kd.S_drew)); exact HO_9.out⟩, ⟨by repeat (first | (with_reducible first | exact HB.out | apply below_alloc | apply pw_below_drewN | apply below_drew1) | exact HB.out)⟩⟩
                case round =>
                  clear H'
                  try clear c1
                  try clear p1
                  try clear q1
                  try clear hx1
                  try clear c2
                  try clear p2
                  try clear q2
                  try clear c5
                  try clear c6
                  try clear p6
                  try clear c13
                  try clear c13b0
                  try clear c13b1
                  try clear c13b2
                  try clear c17
                  try clear p17
                  try clear q17
                  try clear hx17
                  try clear c19
                  try clear c19b0
                  try clear c20
                  try clear c20b0
                  try clear c21
                  try clear c21b0
                  try clear c22
                  try clear c23
                  try clear c23b0
                  try clear c24
                  try clear c24b0
                  try clear q25
                  try clear c26
                  try clear c27
                  try clear c27b0
                  try clear c29
                  try clear c29b0
                  try clear hx171_0
                  try clear p171
                  try clear p2
                  try clear q171
                  obtain ⟨x11_3, x12_3, rfl, rfl, HA, HK3, HO_8, HO_9, HB⟩ := hrel
                  cases gk with
                  | zero => exact absurd HA.out (by simp [bywashlaw10_GraphWay.l1])
                  | succ k3 =>
                    have H := HA.out
                    clear HA
                    simp only [bywashlaw10_GraphWay.l1] at H
                    by_cases c34 : 0 ≤ a1
                    · rw [if_pos c34] at H
                      have c34b0 : decide (0 ≤ a1) = true := decide_eq_true c34
                      clear c34
                      by_cases c35 : a1 < (t168.length : Int)
                      · rw [if_pos c35] at H
                        have c35b0 : decide (a1 < (t168.length : Int)) = true := decide_eq_true c35
                        clear c35
                        by_cases c36 : x12_3 < ((rd_L1 t168 a1).length : Int)
                        · rw [if_pos c36] at H
                          have c36b0 : decide (x12_3 < ((rd_L1 t168 a1).length : Int)) = true := decide_eq_true c36
                          clear c36
                          by_cases c37 : 0 ≤ x12_3
                          · rw [if_pos c37] at H
                            have c37b0 : decide (0 ≤ x12_3) = true := decide_eq_true c37
                            clear c37
                            replace H := Option.bind_eq_some_iff.mp H
                            obtain ⟨t175, A380, H⟩ := H
                            replace H : (if x11_3 = true then (bywashlaw10_GraphWay.l1 k3 l0 a1 a2 t163 t165 t168 true (wrap64 (x12_3 + 1))) else (if (t175.length : Int) = (l0.length : Int) then (if 0 ≤ a2 then (if a2 < (t175.length : Int) then (bywashlaw10_GraphWay.l1 k3 l0 a1 a2 t163 t165 t168 (rdOf false t175 a2) (wrap64 (x12_3 + 1))) else (none)) else (none)) else (bywashlaw10_GraphWay.l1 k3 l0 a1 a2 t163 t165 t168 false (wrap64 (x12_3 + 1))))) = some r := H
                            have A38 := Aside0.mk A380
                            clear A380
                            by_cases c39 : x11_3 = true
                            · subst c39
                              have H1 : (bywashlaw10_GraphWay.l1 k3 l0 a1 a2 t163 t165 t168 true (wrap64 (x12_3 + 1))) = some r := by rw [if_pos rfl] at H; exact H
                              clear H
                              have H := H1
                              clear H1
                              have H' := Aside0.mk H
                              clear H
                              obtain ⟨Ao40, co40, eo40⟩ := Kd.S_slice HO_9.out
                              subst eo40
                              have p172 : 0 ≤ (a1 : Int) := of_decide_eq_true (by first | (with_reducible assumption) | assumption)
                              have q172 : a1 < (t168.length : Int) := of_decide_eq_true (by first | (with_reducible assumption) | assumption)
                              obtain ⟨ad172, A172_0, c172_0, e172, hx172_0, hl172_0, hi172_0⟩ := at_L1 (Kd.S_reads' HO_9.out).2.2 a1 p172 q172
                              cases e172
                              obtain ⟨ce172, hce172, hMe172, hcc172⟩ := Kd.S_get HO_9.out [] a1 p172 (by first | exact q172 | exact of_decide_eq_true (by first | (with_reducible assumption) | assumption) | (have e_ := (Kd.S_reads' HO_9.out).1; omega))
                              obtain ⟨ve172_0, rfl, ge172_0⟩ := hMe172
                              have hv172_0 := hcc172 0 _ rfl
                              rw [Nat.add_zero, show ((Kd.slice 3 (Kd.int .i64))).sz = 1 from rfl, Nat.mul_one] at hv172_0
                              replace hv172_0 := Option.some.inj (hv172_0.symm.trans hx172_0)
                              rw [hv172_0] at ge172_0
                              have HL172_0 := Aside0.mk (show Kd.R (Kd.int .i64) 3 _ _ _ _ (rd_L1 t168 a1) from ge172_0)
                              clear hv172_0 ge172_0
                              clear hcc172 hce172
                              have HR172_0 := Aside0.mk hi172_0
                              have HC172_0 := Aside0.mk hl172_0
                              clear hi172_0 hl172_0
                              replace p172 := eq_true p172
                              replace q172 := eq_true q172
                              have p173 : 0 ≤ (a1 : Int) := of_decide_eq_true (by first | (with_reducible assumption) | assumption)
                              have q173 : a1 < (t168.length : Int) := of_decide_eq_true (by first | (with_reducible assumption) | assumption)
                              obtain ⟨ad173, A173_0, c173_0, e173, hx173_0, hl173_0, hi173_0⟩ := at_L1 (Kd.S_reads' HO_9.out).2.2 a1 p173 q173
                              obtain rfl : ad172 = ad173 := (by injection e173)
                              obtain ⟨ce173, hce173, hMe173, hcc173⟩ := Kd.S_get HO_9.out [] a1 p173 (by first | exact q173 | exact of_decide_eq_true (by first | (with_reducible assumption) | assumption) | (have e_ := (Kd.S_reads' HO_9.out).1; omega))
                              obtain ⟨ve173_0, rfl, ge173_0⟩ := hMe173
                              have hv173_0 := hcc173 0 _ rfl
                              rw [Nat.add_zero, show ((Kd.slice 3 (Kd.int .i64))).sz = 1 from rfl, Nat.mul_one] at hv173_0
                              replace hv173_0 := Option.some.inj (hv173_0.symm.trans hx173_0)
                              rw [hv173_0] at ge173_0
                              have HL173_0 := Aside0.mk (show Kd.R (Kd.int .i64) 3 _ _ _ _ (rd_L1 t168 a1) from ge173_0)
                              clear hv173_0 ge173_0
                              clear hcc173 hce173
                              have HR173_0 := Aside0.mk hi173_0
                              have HC173_0 := Aside0.mk hl173_0
                              clear hi173_0 hl173_0
                              replace p173 := eq_true p173
                              replace q173 := eq_true q173
                              have ea_ := Option.some.inj (hx172_0.symm.trans hx173_0)
                              injection ea_ with ea_ en_ ec_
                              subst ea_
                              subst ec_
                              clear en_
                              have p174 : 0 ≤ (x12_3 : Int) := of_decide_eq_true (by first | (with_reducible assumption) | assumption)
                              have q174 : x12_3 < ((rd_L1 t168 a1).length : Int) := of_decide_eq_true (by first | (with_reducible assumption) | assumption)
                              obtain ⟨ad174, e174, hx174_0⟩ := Kd.at_int (by repeat (first | (with_reducible exact HR173_0.out) | (with_reducible refine Kd.C_alloc ?_ _) | (with_reducible refine Kd.C_drewN ?_ _) | (with_reducible refine Kd.C_drew ?_) | exact HR173_0.out)) x12_3 p174 q174
                              cases e174
                              replace p174 := eq_true p174
                              replace q174 := eq_true q174
                              go_wp2_with (first | ((with_reducible refine gate_callee (f := 23) rfl ?_); refine goesL_ (some 95) rfl rfl Try.func23 (by kernel_rfl) rfl #[.slice A0 l0.length c0, .int .i64 (rd (rd_L1 t168 a1) x12_3)] rfl (by (try simp only [List.map_toArray, List.map_cons, List.map_nil]); first | done | rfl | (simp only [List.length_drop, List.length_take]; rfl)) ?_; (with_reducible refine (graph_Reach.calls _ _ l0 (rd (rd_L1 t168 a1) x12_3) t175 _ ?side1 ?side2 A38.out).mono ?_); (case side1 => repeat (first | exact (Kd.C_below HR0.out HB.out) | (with_reducible refine Kd.C_alloc ?_ _) | (with_reducible refine Kd.C_drewN ?_ _) | (with_reducible refine Kd.C_drew ?_))); (case side2 => exact HC0.out); rintro e w41 ⟨v176, rfl, ho0, hb⟩; refine ⟨_, rfl, ?_⟩; have n0_ := Aside0.mk (Kd.R_elder' (by (with_reducible repeat (first | apply Kd.R_alloc | apply Kd.R_drewN | apply Kd.R_drew)); exact HO_8.out) (Kd.R_base ho0) hb); have n1_ := Aside0.mk (Kd.S_below (by (with_reducible repeat (first | apply Kd.S_alloc | apply Kd.S_drewN | apply Kd.S_drew)); exact HO_9.out) hb); have n2_ := Aside0.mk (Kd.R_below (by (with_reducible repeat (first | apply Kd.R_alloc | apply Kd.R_drewN | apply Kd.R_drew)); exact HL172_0.out) hb); have n3_ := Aside0.mk (Kd.R_below (by (with_reducible repeat (first | apply Kd.R_alloc | apply Kd.R_drewN | apply Kd.R_drew)); exact HL173_0.out) hb); have n4_ := Aside0.mk (Kd.R_lower (Kd.R_new' ho0 (Kd.R_lt (by (with_reducible repeat (first | apply Kd.R_alloc | apply Kd.R_drewN | apply Kd.R_drew)); exact HO_8.out))) (below_size (by repeat (first | (with_reducible first | exact HB.out | apply below_alloc | apply pw_below_drewN | apply below_drew1) | exact HB.out)))); have n5_ := Aside0.mk (Kd.C_below (by repeat (first | (with_reducible exact HR172_0.out) | (with_reducible refine Kd.C_alloc ?_ _) | (with_reducible refine Kd.C_drewN ?_ _) | (with_reducible refine Kd.C_drew ?_) | exact HR172_0.out)) hb); have n6_ := Aside0.mk (Kd.C_below (by repeat (first | (with_reducible exact HR173_0.out) | (with_reducible refine Kd.C_alloc ?_ _) | (with_reducible refine Kd.C_drewN ?_ _) | (with_reducible refine Kd.C_drew ?_) | exact HR173_0.out)) hb); have n7_ := Aside0.mk (below_step (by repeat (first | (with_reducible first | exact HB.out | apply below_alloc | apply pw_below_drewN | apply below_drew1) | exact HB.out)) hb); clear HO_8; clear HO_9; clear HL172_0; clear HL173_0; clear HR172_0; clear HR173_0; clear HB; have HO_8 := n0_; have HO_9 := n1_; have HL172_0 := n2_; have HL173_0 := n3_; have HO177 := n4_; have HR172_0 := n5_; have HR173_0 := n6_; have HB := n7_; clear n0_ n1_ n2_ n3_ n4_ n5_ n6_ n7_; (try clear hb); (try clear hb2); (try clear hk); (try clear hi); (try clear ho0)))
                              go_roundg k3
                              case measure => have := HJ8.out; have := HJ17.out; have := HK3.out; omega
                              case rel => exact ⟨(true), (wrap64 (x12_3 + 1)), (by first | rfl | (simp; done) | (simp [*]; done)), (by first | rfl | (simp; done) | (simp [*]; done)), H', ⟨by have := HJ8.out; have := HJ17.out; have := HK3.out; omega⟩, ⟨by (with_reducible repeat (first | apply Kd.R_alloc | apply Kd.R_drewN | apply Kd.R_drew)); exact Kd.R_mono HO_8.out (fun _ hk => trivial)⟩, ⟨by (with_reducible repeat (first | apply Kd.S_alloc | apply Kd.S_drewN | apply Kd.S_drew)); exact HO_9.out⟩, ⟨by repeat (first | (with_reducible first | exact HB.out | apply below_alloc | apply pw_below_drewN | apply below_drew1) | exact HB.out)⟩⟩
                            · replace c39 := Bool.eq_false_iff.mpr c39
                              subst c39
                              have H1 : (if (t175.length : Int) = (l0.length : Int) then (if 0 ≤ a2 then (if a2 < (t175.length : Int) then (bywashlaw10_GraphWay.l1 k3 l0 a1 a2 t163 t165 t168 (rdOf false t175 a2) (wrap64 (x12_3 + 1))) else (none)) else (none)) else (bywashlaw10_GraphWay.l1 k3 l0 a1 a2 t163 t165 t168 false (wrap64 (x12_3 + 1)))) = some r := by rw [if_neg (show ¬ (false = true) by decide)] at H; exact H
                              clear H
                              have H := H1
                              clear H1
                              by_cases c42 : (t175.length : Int) = (l0.length : Int)
                              · rw [if_pos c42] at H
                                have c42b0 : ((t175.length : Int) == (l0.length : Int)) = true := beq_iff_eq.mpr c42
                                have c42b1 : ((t175.length : Int) != (l0.length : Int)) = false := bne_eq_false_iff_eq.mpr c42
                                have c42b2 : (t175.length == l0.length) = true := by first | simpa using c42 | (simp at c42 ⊢; omega)
                                clear c42
                                by_cases c43 : 0 ≤ a2
                                · rw [if_pos c43] at H
                                  have c43b0 : decide (0 ≤ a2) = true := decide_eq_true c43
                                  clear c43
                                  by_cases c44 : a2 < (t175.length : Int)
                                  · rw [if_pos c44] at H
                                    have c44b0 : decide (a2 < (t175.length : Int)) = true := decide_eq_true c44
                                    clear c44
                                    have H' := Aside0.mk H
                                    clear H
                                    obtain ⟨Ao45, co45, eo45⟩ := Kd.S_slice HO_9.out
                                    subst eo45
                                    have p172 : 0 ≤ (a1 : Int) := of_decide_eq_true (by first | (with_reducible assumption) | assumption)
                                    have q172 : a1 < (t168.length : Int) := of_decide_eq_true (by first | (with_reducible assumption) | assumption)
                                    obtain ⟨ad172, A172_0, c172_0, e172, hx172_0, hl172_0, hi172_0⟩ := at_L1 (Kd.S_reads' HO_9.out).2.2 a1 p172 q172
                                    cases e172
                                    obtain ⟨ce172, hce172, hMe172, hcc172⟩ := Kd.S_get HO_9.out [] a1 p172 (by first | exact q172 | exact of_decide_eq_true (by first | (with_reducible assumption) | assumption) | (have e_ := (Kd.S_reads' HO_9.out).1; omega))
                                    obtain ⟨ve172_0, rfl, ge172_0⟩ := hMe172
                                    have hv172_0 := hcc172 0 _ rfl
                                    rw [Nat.add_zero, show ((Kd.slice 3 (Kd.int .i64))).sz = 1 from rfl, Nat.mul_one] at hv172_0
                                    replace hv172_0 := Option.some.inj (hv172_0.symm.trans hx172_0)
                                    rw [hv172_0] at ge172_0
                                    have HL172_0 := Aside0.mk (show Kd.R (Kd.int .i64) 3 _ _ _ _ (rd_L1 t168 a1) from ge172_0)
                                    clear hv172_0 ge172_0
                                    clear hcc172 hce172
                                    have HR172_0 := Aside0.mk hi172_0
                                    have HC172_0 := Aside0.mk hl172_0
                                    clear hi172_0 hl172_0
                                    replace p172 := eq_true p172
                                    replace q172 := eq_true q172
                                    have p173 : 0 ≤ (a1 : Int) := of_decide_eq_true (by first | (with_reducible assumption) | assumption)
                                    have q173 : a1 < (t168.length : Int) := of_decide_eq_true (by first | (with_reducible assumption) | assumption)
                                    obtain ⟨ad173, A173_0, c173_0, e173, hx173_0, hl173_0, hi173_0⟩ := at_L1 (Kd.S_reads' HO_9.out).2.2 a1 p173 q173
                                    obtain rfl : ad172 = ad173 := (by injection e173)
                                    obtain ⟨ce173, hce173, hMe173, hcc173⟩ := Kd.S_get HO_9.out [] a1 p173 (by first | exact q173 | exact of_decide_eq_true (by first | (with_reducible assumption) | assumption) | (have e_ := (Kd.S_reads' HO_9.out).1; omega))
                                    obtain ⟨ve173_0, rfl, ge173_0⟩ := hMe173
                                    have hv173_0 := hcc173 0 _ rfl
                                    rw [Nat.add_zero, show ((Kd.slice 3 (Kd.int .i64))).sz = 1 from rfl, Nat.mul_one] at hv173_0
                                    replace hv173_0 := Option.some.inj (hv173_0.symm.trans hx173_0)
                                    rw [hv173_0] at ge173_0
                                    have HL173_0 := Aside0.mk (show Kd.R (Kd.int .i64) 3 _ _ _ _ (rd_L1 t168 a1) from ge173_0)
                                    clear hv173_0 ge173_0
                                    clear hcc173 hce173
                                    have HR173_0 := Aside0.mk hi173_0
                                    have HC173_0 := Aside0.mk hl173_0
                                    clear hi173_0 hl173_0
                                    replace p173 := eq_true p173
                                    replace q173 := eq_true q173
                                    have ea_ := Option.some.inj (hx172_0.symm.trans hx173_0)
                                    injection ea_ with ea_ en_ ec_
                                    subst ea_
                                    subst ec_
                                    clear en_
                                    have p174 : 0 ≤ (x12_3 : Int) := of_decide_eq_true (by first | (with_reducible assumption) | assumption)
                                    have q174 : x12_3 < ((rd_L1 t168 a1).length : Int) := of_decide_eq_true (by first | (with_reducible assumption) | assumption)
                                    obtain ⟨ad174, e174, hx174_0⟩ := Kd.at_int (by repeat (first | (with_reducible exact HR173_0.out) | (with_reducible refine Kd.C_alloc ?_ _) | (with_reducible refine Kd.C_drewN ?_ _) | (with_reducible refine Kd.C_drew ?_) | exact HR173_0.out)) x12_3 p174 q174
                                    cases e174
                                    replace p174 := eq_true p174
                                    replace q174 := eq_true q174
                                    go_wp2_with (first | ((with_reducible refine gate_callee (f := 23) rfl ?_); refine goesL_ (some 95) rfl rfl Try.func23 (by kernel_rfl) rfl #[.slice A0 l0.length c0, .int .i64 (rd (rd_L1 t168 a1) x12_3)] rfl (by (try simp only [List.map_toArray, List.map_cons, List.map_nil]); first | done | rfl | (simp only [List.length_drop, List.length_take]; rfl)) ?_; (with_reducible refine (graph_Reach.calls _ _ l0 (rd (rd_L1 t168 a1) x12_3) t175 _ ?side1 ?side2 A38.out).mono ?_); (case side1 => repeat (first | exact (Kd.C_below HR0.out HB.out) | (with_reducible refine Kd.C_alloc ?_ _) | (with_reducible refine Kd.C_drewN ?_ _) | (with_reducible refine Kd.C_drew ?_))); (case side2 => exact HC0.out); rintro e w46 ⟨v176, rfl, ho0, hb⟩; refine ⟨_, rfl, ?_⟩; have n0_ := Aside0.mk (Kd.R_elder' (by (with_reducible repeat (first | apply Kd.R_alloc | apply Kd.R_drewN | apply Kd.R_drew)); exact HO_8.out) (Kd.R_base ho0) hb); have n1_ := Aside0.mk (Kd.S_below (by (with_reducible repeat (first | apply Kd.S_alloc | apply Kd.S_drewN | apply Kd.S_drew)); exact HO_9.out) hb); have n2_ := Aside0.mk (Kd.R_below (by (with_reducible repeat (first | apply Kd.R_alloc | apply Kd.R_drewN | apply Kd.R_drew)); exact HL172_0.out) hb); have n3_ := Aside0.mk (Kd.R_below (by (with_reducible repeat (first | apply Kd.R_alloc | apply Kd.R_drewN | apply Kd.R_drew)); exact HL173_0.out) hb); have n4_ := Aside0.mk (Kd.R_lower (Kd.R_new' ho0 (Kd.R_lt (by (with_reducible repeat (first | apply Kd.R_alloc | apply Kd.R_drewN | apply Kd.R_drew)); exact HO_8.out))) (below_size (by repeat (first | (with_reducible first | exact HB.out | apply below_alloc | apply pw_below_drewN | apply below_drew1) | exact HB.out)))); have n5_ := Aside0.mk (Kd.C_below (by repeat (first | (with_reducible exact HR172_0.out) | (with_reducible refine Kd.C_alloc ?_ _) | (with_reducible refine Kd.C_drewN ?_ _) | (with_reducible refine Kd.C_drew ?_) | exact HR172_0.out)) hb); have n6_ := Aside0.mk (Kd.C_below (by repeat (first | (with_reducible exact HR173_0.out) | (with_reducible refine Kd.C_alloc ?_ _) | (with_reducible refine Kd.C_drewN ?_ _) | (with_reducible refine Kd.C_drew ?_) | exact HR173_0.out)) hb); have n7_ := Aside0.mk (below_step (by repeat (first | (with_reducible first | exact HB.out | apply below_alloc | apply pw_below_drewN | apply below_drew1) | exact HB.out)) hb); clear HO_8; clear HO_9; clear HL172_0; clear HL173_0; clear HR172_0; clear HR173_0; clear HB; have HO_8 := n0_; have HO_9 := n1_; have HL172_0 := n2_; have HL173_0 := n3_; have HO177 := n4_; have HR172_0 := n5_; have HR173_0 := n6_; have HB := n7_; clear n0_ n1_ n2_ n3_ n4_ n5_ n6_ n7_; (try clear hb); (try clear hb2); (try clear hk); (try clear hi); (try clear ho0); obtain ⟨Ao47, co47, eo47⟩ := Kd.R_slice HO177.out; subst eo47; have p178 : 0 ≤ (a2 : Int) := of_decide_eq_true (by first | (with_reducible assumption) | assumption); have q178 : a2 < (t175.length : Int) := of_decide_eq_true (by first | (with_reducible assumption) | assumption); obtain ⟨ad178, e178, hx178_0⟩ := Kd.at_bool (Kd.R_reads' HO177.out).2.2 a2 p178 q178; cases e178; replace p178 := eq_true p178; replace q178 := eq_true q178))
                                    go_roundg k3
                                    case measure => have := HJ8.out; have := HJ17.out; have := HK3.out; omega
                                    case rel => exact ⟨(rdOf false t175 a2), (wrap64 (x12_3 + 1)), (by first | rfl | (simp; done) | (simp [*]; done)), (by first | rfl | (simp; done) | (simp [*]; done)), H', ⟨by have := HJ8.out; have := HJ17.out; have := HK3.out; omega⟩, ⟨by (with_reducible repeat (first | apply Kd.R_alloc | apply Kd.R_drewN | apply Kd.R_drew)); exact Kd.R_mono HO_8.out (fun _ hk => trivial)⟩, ⟨by (with_reducible repeat (first | apply Kd.S_alloc | apply Kd.S_drewN | apply Kd.S_drew)); exact HO_9.out⟩, ⟨by repeat (first | (with_reducible first | exact HB.out | apply below_alloc | apply pw_below_drewN | apply below_drew1) | exact HB.out)⟩⟩
                                  · rw [if_neg c44] at H
                                    exact absurd H (by simp)
                                · rw [if_neg c43] at H
                                  exact absurd H (by simp)
                              · rw [if_neg c42] at H
                                have c42b0 : ((t175.length : Int) == (l0.length : Int)) = false := beq_eq_false_iff_ne.mpr c42
                                have c42b1 : ((t175.length : Int) != (l0.length : Int)) = true := bne_iff_ne.mpr c42
                                have c42b2 : (t175.length == l0.length) = false := by first | simpa using c42 | (simp at c42 ⊢; omega)
                                have H' := Aside0.mk H
                                clear H
                                obtain ⟨Ao48, co48, eo48⟩ := Kd.S_slice HO_9.out
                                subst eo48
                                have p172 : 0 ≤ (a1 : Int) := of_decide_eq_true (by first | (with_reducible assumption) | assumption)
                                have q172 : a1 < (t168.length : Int) := of_decide_eq_true (by first | (with_reducible assumption) | assumption)
                                obtain ⟨ad172, A172_0, c172_0, e172, hx172_0, hl172_0, hi172_0⟩ := at_L1 (Kd.S_reads' HO_9.out).2.2 a1 p172 q172
                                cases e172
                                obtain ⟨ce172, hce172, hMe172, hcc172⟩ := Kd.S_get HO_9.out [] a1 p172 (by first | exact q172 | exact of_decide_eq_true (by first | (with_reducible assumption) | assumption) | (have e_ := (Kd.S_reads' HO_9.out).1; omega))
                                obtain ⟨ve172_0, rfl, ge172_0⟩ := hMe172
                                have hv172_0 := hcc172 0 _ rfl
                                rw [Nat.add_zero, show ((Kd.slice 3 (Kd.int .i64))).sz = 1 from rfl, Nat.mul_one] at hv172_0
                                replace hv172_0 := Option.some.inj (hv172_0.symm.trans hx172_0)
                                rw [hv172_0] at ge172_0
                                have HL172_0 := Aside0.mk (show Kd.R (Kd.int .i64) 3 _ _ _ _ (rd_L1 t168 a1) from ge172_0)
                                clear hv172_0 ge172_0
                                clear hcc172 hce172
                                have HR172_0 := Aside0.mk hi172_0
                                have HC172_0 := Aside0.mk hl172_0
                                clear hi172_0 hl172_0
                                replace p172 := eq_true p172
                                replace q172 := eq_true q172
                                have p173 : 0 ≤ (a1 : Int) := of_decide_eq_true (by first | (with_reducible assumption) | assumption)
                                have q173 : a1 < (t168.length : Int) := of_decide_eq_true (by first | (with_reducible assumption) | assumption)
                                obtain ⟨ad173, A173_0, c173_0, e173, hx173_0, hl173_0, hi173_0⟩ := at_L1 (Kd.S_reads' HO_9.out).2.2 a1 p173 q173
                                obtain rfl : ad172 = ad173 := (by injection e173)
                                obtain ⟨ce173, hce173, hMe173, hcc173⟩ := Kd.S_get HO_9.out [] a1 p173 (by first | exact q173 | exact of_decide_eq_true (by first | (with_reducible assumption) | assumption) | (have e_ := (Kd.S_reads' HO_9.out).1; omega))
                                obtain ⟨ve173_0, rfl, ge173_0⟩ := hMe173
                                have hv173_0 := hcc173 0 _ rfl
                                rw [Nat.add_zero, show ((Kd.slice 3 (Kd.int .i64))).sz = 1 from rfl, Nat.mul_one] at hv173_0
                                replace hv173_0 := Option.some.inj (hv173_0.symm.trans hx173_0)
                                rw [hv173_0] at ge173_0
                                have HL173_0 := Aside0.mk (show Kd.R (Kd.int .i64) 3 _ _ _ _ (rd_L1 t168 a1) from ge173_0)
                                clear hv173_0 ge173_0
                                clear hcc173 hce173
                                have HR173_0 := Aside0.mk hi173_0
                                have HC173_0 := Aside0.mk hl173_0
                                clear hi173_0 hl173_0
                                replace p173 := eq_true p173
                                replace q173 := eq_true q173
                                have ea_ := Option.some.inj (hx172_0.symm.trans hx173_0)
                                injection ea_ with ea_ en_ ec_
                                subst ea_
                                subst ec_
                                clear en_
                                have p174 : 0 ≤ (x12_3 : Int) := of_decide_eq_true (by first | (with_reducible assumption) | assumption)
                                have q174 : x12_3 < ((rd_L1 t168 a1).length : Int) := of_decide_eq_true (by first | (with_reducible assumption) | assumption)
                                obtain ⟨ad174, e174, hx174_0⟩ := Kd.at_int (by repeat (first | (with_reducible exact HR173_0.out) | (with_reducible refine Kd.C_alloc ?_ _) | (with_reducible refine Kd.C_drewN ?_ _) | (with_reducible refine Kd.C_drew ?_) | exact HR173_0.out)) x12_3 p174 q174
                                cases e174
                                replace p174 := eq_true p174
                                replace q174 := eq_true q174
                                go_wp2_with (first | ((with_reducible refine gate_callee (f := 23) rfl ?_); refine goesL_ (some 95) rfl rfl Try.func23 (by kernel_rfl) rfl #[.slice A0 l0.length c0, .int .i64 (rd (rd_L1 t168 a1) x12_3)] rfl (by (try simp only [List.map_toArray, List.map_cons, List.map_nil]); first | done | rfl | (simp only [List.length_drop, List.length_take]; rfl)) ?_; (with_reducible refine (graph_Reach.calls _ _ l0 (rd (rd_L1 t168 a1) x12_3) t175 _ ?side1 ?side2 A38.out).mono ?_); (case side1 => repeat (first | exact (Kd.C_below HR0.out HB.out) | (with_reducible refine Kd.C_alloc ?_ _) | (with_reducible refine Kd.C_drewN ?_ _) | (with_reducible refine Kd.C_drew ?_))); (case side2 => exact HC0.out); rintro e w49 ⟨v176, rfl, ho0, hb⟩; refine ⟨_, rfl, ?_⟩; have n0_ := Aside0.mk (Kd.R_elder' (by (with_reducible repeat (first | apply Kd.R_alloc | apply Kd.R_drewN | apply Kd.R_drew)); exact HO_8.out) (Kd.R_base ho0) hb); have n1_ := Aside0.mk (Kd.S_below (by (with_reducible repeat (first | apply Kd.S_alloc | apply Kd.S_drewN | apply Kd.S_drew)); exact HO_9.out) hb); have n2_ := Aside0.mk (Kd.R_below (by (with_reducible repeat (first | apply Kd.R_alloc | apply Kd.R_drewN | apply Kd.R_drew)); exact HL172_0.out) hb); have n3_ := Aside0.mk (Kd.R_below (by (with_reducible repeat (first | apply Kd.R_alloc | apply Kd.R_drewN | apply Kd.R_drew)); exact HL173_0.out) hb); have n4_ := Aside0.mk (Kd.R_lower (Kd.R_new' ho0 (Kd.R_lt (by (with_reducible repeat (first | apply Kd.R_alloc | apply Kd.R_drewN | apply Kd.R_drew)); exact HO_8.out))) (below_size (by repeat (first | (with_reducible first | exact HB.out | apply below_alloc | apply pw_below_drewN | apply below_drew1) | exact HB.out)))); have n5_ := Aside0.mk (Kd.C_below (by repeat (first | (with_reducible exact HR172_0.out) | (with_reducible refine Kd.C_alloc ?_ _) | (with_reducible refine Kd.C_drewN ?_ _) | (with_reducible refine Kd.C_drew ?_) | exact HR172_0.out)) hb); have n6_ := Aside0.mk (Kd.C_below (by repeat (first | (with_reducible exact HR173_0.out) | (with_reducible refine Kd.C_alloc ?_ _) | (with_reducible refine Kd.C_drewN ?_ _) | (with_reducible refine Kd.C_drew ?_) | exact HR173_0.out)) hb); have n7_ := Aside0.mk (below_step (by repeat (first | (with_reducible first | exact HB.out | apply below_alloc | apply pw_below_drewN | apply below_drew1) | exact HB.out)) hb); clear HO_8; clear HO_9; clear HL172_0; clear HL173_0; clear HR172_0; clear HR173_0; clear HB; have HO_8 := n0_; have HO_9 := n1_; have HL172_0 := n2_; have HL173_0 := n3_; have HO177 := n4_; have HR172_0 := n5_; have HR173_0 := n6_; have HB := n7_; clear n0_ n1_ n2_ n3_ n4_ n5_ n6_ n7_; (try clear hb); (try clear hb2); (try clear hk); (try clear hi); (try clear ho0); obtain ⟨Ao50, co50, eo50⟩ := Kd.R_slice HO177.out; subst eo50))
                                go_roundg k3
                                case measure => have := HJ8.out; have := HJ17.out; have := HK3.out; omega
                                case rel => exact ⟨(false), (wrap64 (x12_3 + 1)), (by first | rfl | (simp; done) | (simp [*]; done)), (by first | rfl | (simp; done) | (simp [*]; done)), H', ⟨by have := HJ8.out; have := HJ17.out; have := HK3.out; omega⟩, ⟨by (with_reducible repeat (first | apply Kd.R_alloc | apply Kd.R_drewN | apply Kd.R_drew)); exact Kd.R_mono HO_8.out (fun _ hk => trivial)⟩, ⟨by (with_reducible repeat (first | apply Kd.S_alloc | apply Kd.S_drewN | apply Kd.S_drew)); exact HO_9.out⟩, ⟨by repeat (first | (with_reducible first | exact HB.out | apply below_alloc | apply pw_below_drewN | apply below_drew1) | exact HB.out)⟩⟩
                          · rw [if_neg c37] at H
                            exact absurd H (by simp)
                        · rw [if_neg c36] at H
                          have c36b0 : decide (x12_3 < ((rd_L1 t168 a1).length : Int)) = false := decide_eq_false c36
                          clear c36
                          by_cases c51 : t163 = true
                          · subst c51
                            have H1 : (if 0 ≤ a2 then (if a2 < (t165.length : Int) then (some ((rdOf false t165 a2) == x11_3)) else (none)) else (none)) = some r := by rw [if_pos rfl] at H; exact H
                            clear H
                            have H := H1
                            clear H1
                            by_cases c52 : 0 ≤ a2
                            · rw [if_pos c52] at H
                              have c52b0 : decide (0 ≤ a2) = true := decide_eq_true c52
                              clear c52
                              by_cases c53 : a2 < (t165.length : Int)
                              · rw [if_pos c53] at H
                                have c53b0 : decide (a2 < (t165.length : Int)) = true := decide_eq_true c53
                                clear c53
                                obtain rfl := Option.some.inj H
                                obtain ⟨Ao54, co54, eo54⟩ := Kd.S_slice HO_9.out
                                subst eo54
                                have p172 : 0 ≤ (a1 : Int) := of_decide_eq_true (by first | (with_reducible assumption) | assumption)
                                have q172 : a1 < (t168.length : Int) := of_decide_eq_true (by first | (with_reducible assumption) | assumption)
                                obtain ⟨ad172, A172_0, c172_0, e172, hx172_0, hl172_0, hi172_0⟩ := at_L1 (Kd.S_reads' HO_9.out).2.2 a1 p172 q172
                                cases e172
                                obtain ⟨ce172, hce172, hMe172, hcc172⟩ := Kd.S_get HO_9.out [] a1 p172 (by first | exact q172 | exact of_decide_eq_true (by first | (with_reducible assumption) | assumption) | (have e_ := (Kd.S_reads' HO_9.out).1; omega))
                                obtain ⟨ve172_0, rfl, ge172_0⟩ := hMe172
                                have hv172_0 := hcc172 0 _ rfl
                                rw [Nat.add_zero, show ((Kd.slice 3 (Kd.int .i64))).sz = 1 from rfl, Nat.mul_one] at hv172_0
                                replace hv172_0 := Option.some.inj (hv172_0.symm.trans hx172_0)
                                rw [hv172_0] at ge172_0
                                have HL172_0 := Aside0.mk (show Kd.R (Kd.int .i64) 3 _ _ _ _ (rd_L1 t168 a1) from ge172_0)
                                clear hv172_0 ge172_0
                                clear hcc172 hce172
                                have HR172_0 := Aside0.mk hi172_0
                                have HC172_0 := Aside0.mk hl172_0
                                clear hi172_0 hl172_0
                                replace p172 := eq_true p172
                                replace q172 := eq_true q172
                                obtain ⟨Ao55, co55, eo55⟩ := Kd.R_slice HO_8.out
                                subst eo55
                                have p179 : 0 ≤ (a2 : Int) := of_decide_eq_true (by first | (with_reducible assumption) | assumption)
                                have q179 : a2 < (t165.length : Int) := of_decide_eq_true (by first | (with_reducible assumption) | assumption)
                                obtain ⟨ad179, e179, hx179_0⟩ := Kd.at_bool (Kd.R_reads' HO_8.out).2.2 a2 p179 q179
                                cases e179
                                replace p179 := eq_true p179
                                replace q179 := eq_true q179
                                go_wp2
                                go_ret
                                exact ⟨by first | rfl | (simp [errW_none, errW_some] <;> rfl) | (simp [*, errW_none, errW_some] <;> rfl), by repeat (first | (with_reducible first | exact HB.out | apply below_alloc | apply pw_below_drewN | apply below_drew1) | exact HB.out)⟩
                              · rw [if_neg c53] at H
                                exact absurd H (by simp)
                            · rw [if_neg c52] at H
                              exact absurd H (by simp)
                          · replace c51 := Bool.eq_false_iff.mpr c51
                            subst c51
                            have H1 : (some false) = some r := by rw [if_neg (show ¬ (false = true) by decide)] at H; exact H
                            clear H
                            have H := H1
                            clear H1
                            obtain rfl := Option.some.inj H
                            obtain ⟨Ao56, co56, eo56⟩ := Kd.S_slice HO_9.out
                            subst eo56
                            have p172 : 0 ≤ (a1 : Int) := of_decide_eq_true (by first | (with_reducible assumption) | assumption)
                            have q172 : a1 < (t168.length : Int) := of_decide_eq_true (by first | (with_reducible assumption) | assumption)
                            obtain ⟨ad172, A172_0, c172_0, e172, hx172_0, hl172_0, hi172_0⟩ := at_L1 (Kd.S_reads' HO_9.out).2.2 a1 p172 q172
                            cases e172
                            obtain ⟨ce172, hce172, hMe172, hcc172⟩ := Kd.S_get HO_9.out [] a1 p172 (by first | exact q172 | exact of_decide_eq_true (by first | (with_reducible assumption) | assumption) | (have e_ := (Kd.S_reads' HO_9.out).1; omega))
                            obtain ⟨ve172_0, rfl, ge172_0⟩ := hMe172
                            have hv172_0 := hcc172 0 _ rfl
                            rw [Nat.add_zero, show ((Kd.slice 3 (Kd.int .i64))).sz = 1 from rfl, Nat.mul_one] at hv172_0
                            replace hv172_0 := Option.some.inj (hv172_0.symm.trans hx172_0)
                            rw [hv172_0] at ge172_0
                            have HL172_0 := Aside0.mk (show Kd.R (Kd.int .i64) 3 _ _ _ _ (rd_L1 t168 a1) from ge172_0)
                            clear hv172_0 ge172_0
                            clear hcc172 hce172
                            have HR172_0 := Aside0.mk hi172_0
                            have HC172_0 := Aside0.mk hl172_0
                            clear hi172_0 hl172_0
                            replace p172 := eq_true p172
                            replace q172 := eq_true q172
                            go_wp2
                            go_ret
                            exact ⟨by first | rfl | (simp [errW_none, errW_some] <;> rfl) | (simp [*, errW_none, errW_some] <;> rfl), by repeat (first | (with_reducible first | exact HB.out | apply below_alloc | apply pw_below_drewN | apply below_drew1) | exact HB.out)⟩
                      · rw [if_neg c35] at H
                        exact absurd H (by simp)
                    · rw [if_neg c34] at H
                      exact absurd H (by simp)
  · replace c6 := Bool.eq_false_iff.mpr c6
    subst c6
    have H1 : (some t163) = some r := by rw [if_neg (show ¬ (false = true) by decide)] at H; exact H
    clear H
    have H := H1
    clear H1
    obtain rfl := Option.some.inj H
    go_enter Try.func5, Try.ntmps5
    go_wp2_with (first | ((with_reducible refine gate_callee (f := 20) rfl ?_); refine goesL_ (some 14) rfl rfl Try.func20 (by kernel_rfl) rfl #[] rfl (by (try simp only [List.map_toArray, List.map_cons, List.map_nil]); first | done | rfl | (simp only [List.length_drop, List.length_take]; rfl)) ?_; (with_reducible refine (bywashlaw10_awake.calls k  t163 _ A4.out).mono ?_); rintro e w57 ⟨rfl, hb⟩; refine ⟨_, rfl, ?_⟩; have n0_ := Aside0.mk (below_step (by repeat (first | (with_reducible first | exact HB.out | apply below_alloc | apply pw_below_drewN | apply below_drew1) | exact HB.out)) hb); clear HB; have HB := n0_; clear n0_; (try clear hb); (try clear hb2); (try clear hk); (try clear hi)) | ((with_reducible refine gate_callee (f := 21) rfl ?_); refine goesL_ (some 16) rfl rfl Try.func21 (by kernel_rfl) rfl #[.slice A0 l0.length c0] rfl (by (try simp only [List.map_toArray, List.map_cons, List.map_nil]); first | done | rfl | (simp only [List.length_drop, List.length_take]; rfl)) ?_; (with_reducible refine (bywashref10_Few.calls k _ _ l0 false _ ?side1 ?side2 A5.out).mono ?_); (case side1 => repeat (first | exact (Kd.C_below HR0.out HB.out) | (with_reducible refine Kd.C_alloc ?_ _) | (with_reducible refine Kd.C_drewN ?_ _) | (with_reducible refine Kd.C_drew ?_))); (case side2 => exact HC0.out); rintro e w' ⟨rfl, ⟨nd, rfl⟩⟩; refine ⟨_, rfl, ?_⟩))
    go_ret
    exact ⟨by first | rfl | (simp [errW_none, errW_some] <;> rfl) | (simp [*, errW_none, errW_some] <;> rfl), by repeat (first | (with_reducible first | exact HB.out | apply below_alloc | apply pw_below_drewN | apply below_drew1) | exact HB.out)⟩

end Go.Proofs.Ytnhcimhdkdgccaa.P
