/- What the claim uses of: PlawSccLoopsTF PlawSccLoopsT PureSccLoops -/
import Derived.Test.YtdknhgbjgdmfkaaQE6
namespace Go.Proofs.Ytdknhgbjgdmfkaa.P
open Go.RowKit Go.Proofs.YtdknhgbjgdmfkaaW.PrintWords Go.Proofs.YtdknhgbjgdmfkaaW.PrintLast Go.Proofs.YtdknhgbjgdmfkaaW.PrintMore
attribute [local go_sem] max2_int min2_int max_two min_two max_three min_three max_four min_four
set_option linter.unusedVariables false
set_option linter.unusedSimpArgs false
mutual
def bywashlaw11_SccLoops.j0 : Nat → List (List Int) → Int → Int → Bool → Bool → Option (Bool)
 | 0, _, _, _, _, _ => none
 | k + 1, x0, x1, x2, x7, x38 => if x38 = true then (some x7) else ((scc_Loops.f x0).bind fun t379 => ((scc_Leads.f x0).bind fun t382 => ((graph_Clean.f x0).bind fun t385 => ((graph_Reach.f x0 x1).bind fun t388 => ((graph_With.f x0 x2 x1).bind fun t391 => ((scc_Loops.f t391).bind fun t394 => (if (t379.length : Int) = (x0.length : Int) then (if (t382.length : Int) = (x0.length : Int) then (if (t385.length : Int) = (x0.length : Int) then (if (t388.length : Int) = (x0.length : Int) then (bywashlaw11_SccLoops.j1 k x0 x1 x2 x7 t379 t382 t385 t388 t394 ((t394.length : Int) != (x0.length : Int))) else (bywashlaw11_SccLoops.j1 k x0 x1 x2 x7 t379 t382 t385 t388 t394 true)) else (bywashlaw11_SccLoops.j1 k x0 x1 x2 x7 t379 t382 t385 t388 t394 true)) else (bywashlaw11_SccLoops.j1 k x0 x1 x2 x7 t379 t382 t385 t388 t394 true)) else (bywashlaw11_SccLoops.j1 k x0 x1 x2 x7 t379 t382 t385 t388 t394 true))))))))
def bywashlaw11_SccLoops.j1 : Nat → List (List Int) → Int → Int → Bool → List Bool → List Int → List (List Int) → List Bool → List Bool → Bool → Option (Bool)
 | 0, _, _, _, _, _, _, _, _, _, _ => none
 | k + 1, x0, x1, x2, x7, x8, x9, x10, x11, x12, x86 => if x86 = true then (some false) else (bywashlaw11_SccLoops.l0 k x0 x1 x2 x7 x8 x9 x10 x11 x12 0 0)
def bywashlaw11_SccLoops.l0 : Nat → List (List Int) → Int → Int → Bool → List Bool → List Int → List (List Int) → List Bool → List Bool → Int → Int → Option (Bool)
 | 0, _, _, _, _, _, _, _, _, _, _, _ => none
 | k + 1, x0, x1, x2, x7, x8, x9, x10, x11, x12, x13, x14 => if x14 < (x0.length : Int) then (if 0 ≤ x14 then (if x14 < (x9.length : Int) then (if 0 ≤ x1 then (if x1 < (x9.length : Int) then (if (rd x9 x14) = (rd x9 x1) then (bywashlaw11_SccLoops.l0 k x0 x1 x2 x7 x8 x9 x10 x11 x12 (wrap64 (x13 + 1)) (wrap64 (x14 + 1))) else (bywashlaw11_SccLoops.l0 k x0 x1 x2 x7 x8 x9 x10 x11 x12 x13 (wrap64 (x14 + 1)))) else (none)) else (none)) else (none)) else (none)) else (if x7 = true then (if 0 ≤ x1 then (if x1 < (x8.length : Int) then (if x13 > 1 then (if ((rdOf false x8 x1) == true) = true then ((graph_Path.f x0 x1 x1).bind fun t401 => (if ((rdOf false x8 x1) == t401) = true then (if 0 ≤ x2 then (if x2 < (x11.length : Int) then (if rdOf false x11 x2 = true then (if x1 < (x12.length : Int) then (if rdOf false x12 x1 = true then (if x2 < (x12.length : Int) then (some (rdOf false x12 x2)) else (none)) else (some false)) else (none)) else (some true)) else (none)) else (none)) else (some false))) else (some false)) else (if x1 < (x10.length : Int) then ((bywashref10_Has.f k (rd_L1 x10 x1) x1).bind fun t406 => (if ((rdOf false x8 x1) == t406) = true then ((graph_Path.f x0 x1 x1).bind fun t408 => (if ((rdOf false x8 x1) == t408) = true then (if 0 ≤ x2 then (if x2 < (x11.length : Int) then (if rdOf false x11 x2 = true then (if x1 < (x12.length : Int) then (if rdOf false x12 x1 = true then (if x2 < (x12.length : Int) then (some (rdOf false x12 x2)) else (none)) else (some false)) else (none)) else (some true)) else (none)) else (none)) else (some false))) else (some false))) else (none))) else (none)) else (none)) else (some false))
end
def bywashlaw11_SccLoops.f (k : Nat) (l0 : List (List Int)) (a1 : Int) (a2 : Int) : Option (Bool) := (bywashlaw11_awake.f k).bind fun t377 => ((bywashref10_Few.f k l0).bind fun t378 => (if t378 = true then (if a1 < 0 then (bywashlaw11_SccLoops.j0 k l0 a1 a2 t377 true) else (if a1 ≥ (l0.length : Int) then (bywashlaw11_SccLoops.j0 k l0 a1 a2 t377 true) else (if a2 < 0 then (bywashlaw11_SccLoops.j0 k l0 a1 a2 t377 true) else (bywashlaw11_SccLoops.j0 k l0 a1 a2 t377 (decide (a2 ≥ (l0.length : Int))))))) else (bywashlaw11_SccLoops.j0 k l0 a1 a2 t377 true)))
theorem bywashlaw11_SccLoops.mono_l : ∀ k, (∀ y0 y1 y2 y3 y4, LeO (bywashlaw11_SccLoops.j0 k y0 y1 y2 y3 y4) (bywashlaw11_SccLoops.j0 (k + 1) y0 y1 y2 y3 y4)) ∧ (∀ y0 y1 y2 y3 y4 y5 y6 y7 y8 y9, LeO (bywashlaw11_SccLoops.j1 k y0 y1 y2 y3 y4 y5 y6 y7 y8 y9) (bywashlaw11_SccLoops.j1 (k + 1) y0 y1 y2 y3 y4 y5 y6 y7 y8 y9)) ∧ (∀ y0 y1 y2 y3 y4 y5 y6 y7 y8 y9 y10, LeO (bywashlaw11_SccLoops.l0 k y0 y1 y2 y3 y4 y5 y6 y7 y8 y9 y10) (bywashlaw11_SccLoops.l0 (k + 1) y0 y1 y2 y3 y4 y5 y6 y7 y8 y9 y10))
 | 0 => ⟨fun _ _ _ _ _ r h => by simp [bywashlaw11_SccLoops.j0] at h, fun _ _ _ _ _ _ _ _ _ _ r h => by simp [bywashlaw11_SccLoops.j1] at h, fun _ _ _ _ _ _ _ _ _ _ _ r h => by simp [bywashlaw11_SccLoops.l0] at h⟩
 | k + 1 => by
  obtain ⟨ih0, ih1, ih2⟩ := bywashlaw11_SccLoops.mono_l k
  refine ⟨?_, ?_, ?_⟩
  ·
   intro y0 y1 y2 y3 y4
   unfold bywashlaw11_SccLoops.j0
   repeat' first
   | (with_reducible exact ih0 _ _ _ _ _)
   | (with_reducible exact ih1 _ _ _ _ _ _ _ _ _ _)
   | (with_reducible exact ih2 _ _ _ _ _ _ _ _ _ _ _)
   | (with_reducible exact bywashlaw11_awake.mono _)
   | (with_reducible exact bywashref10_Few.mono _ _)
   | (with_reducible exact bywashref10_Has.mono _ _ _)
   | (with_reducible exact LeO.refl _)
   | (with_reducible exact LeO.none _)
   | (with_reducible refine LeO.ite ?_ ?_)
   | (with_reducible refine LeO.bind ?_ (fun _ => ?_))
   | exact ih0 _ _ _ _ _
   | exact ih1 _ _ _ _ _ _ _ _ _ _
   | exact ih2 _ _ _ _ _ _ _ _ _ _ _
   | exact bywashlaw11_awake.mono _
   | exact bywashref10_Few.mono _ _
   | exact bywashref10_Has.mono _ _ _
   | exact LeO.none _
   | refine LeO.ite ?_ ?_
   | refine LeO.bind ?_ (fun _ => ?_)
  ·
   intro y0 y1 y2 y3 y4 y5 y6 y7 y8 y9
   unfold bywashlaw11_SccLoops.j1
   repeat' first
   | (with_reducible exact ih0 _ _ _ _ _)
   | (with_reducible exact ih1 _ _ _ _ _ _ _ _ _ _)
   | (with_reducible exact ih2 _ _ _ _ _ _ _ _ _ _ _)
   | (with_reducible exact bywashlaw11_awake.mono _)
   | (with_reducible exact bywashref10_Few.mono _ _)
   | (with_reducible exact bywashref10_Has.mono _ _ _)
   | (with_reducible exact LeO.refl _)
   | (with_reducible exact LeO.none _)
   | (with_reducible refine LeO.ite ?_ ?_)
   | (with_reducible refine LeO.bind ?_ (fun _ => ?_))
   | exact ih0 _ _ _ _ _
   | exact ih1 _ _ _ _ _ _ _ _ _ _
   | exact ih2 _ _ _ _ _ _ _ _ _ _ _
   | exact bywashlaw11_awake.mono _
   | exact bywashref10_Few.mono _ _
   | exact bywashref10_Has.mono _ _ _
   | exact LeO.none _
   | refine LeO.ite ?_ ?_
   | refine LeO.bind ?_ (fun _ => ?_)
  ·
   intro y0 y1 y2 y3 y4 y5 y6 y7 y8 y9 y10
   unfold bywashlaw11_SccLoops.l0
   repeat' first
   | (with_reducible exact ih0 _ _ _ _ _)
   | (with_reducible exact ih1 _ _ _ _ _ _ _ _ _ _)
   | (with_reducible exact ih2 _ _ _ _ _ _ _ _ _ _ _)
   | (with_reducible exact bywashlaw11_awake.mono _)
   | (with_reducible exact bywashref10_Few.mono _ _)
   | (with_reducible exact bywashref10_Has.mono _ _ _)
   | (with_reducible exact LeO.refl _)
   | (with_reducible exact LeO.none _)
   | (with_reducible refine LeO.ite ?_ ?_)
   | (with_reducible refine LeO.bind ?_ (fun _ => ?_))
   | exact ih0 _ _ _ _ _
   | exact ih1 _ _ _ _ _ _ _ _ _ _
   | exact ih2 _ _ _ _ _ _ _ _ _ _ _
   | exact bywashlaw11_awake.mono _
   | exact bywashref10_Few.mono _ _
   | exact bywashref10_Has.mono _ _ _
   | exact LeO.none _
   | refine LeO.ite ?_ ?_
   | refine LeO.bind ?_ (fun _ => ?_)
theorem bywashlaw11_SccLoops.mono : ∀ a0 a1 a2 k, LeO (bywashlaw11_SccLoops.f k a0 a1 a2) (bywashlaw11_SccLoops.f (k + 1) a0 a1 a2) := by
 intro a0 a1 a2 k
 obtain ⟨ih0, ih1, ih2⟩ := bywashlaw11_SccLoops.mono_l k
 unfold bywashlaw11_SccLoops.f
 repeat' first
   | (with_reducible exact ih0 _ _ _ _ _)
   | (with_reducible exact ih1 _ _ _ _ _ _ _ _ _ _)
   | (with_reducible exact ih2 _ _ _ _ _ _ _ _ _ _ _)
   | (with_reducible exact bywashlaw11_awake.mono _)
   | (with_reducible exact bywashref10_Few.mono _ _)
   | (with_reducible exact bywashref10_Has.mono _ _ _)
   | (with_reducible exact LeO.refl _)
   | (with_reducible exact LeO.none _)
   | (with_reducible refine LeO.ite ?_ ?_)
   | (with_reducible refine LeO.bind ?_ (fun _ => ?_))
   | exact ih0 _ _ _ _ _
   | exact ih1 _ _ _ _ _ _ _ _ _ _
   | exact ih2 _ _ _ _ _ _ _ _ _ _ _
   | exact bywashlaw11_awake.mono _
   | exact bywashref10_Few.mono _ _
   | exact bywashref10_Has.mono _ _ _
   | exact LeO.none _
   | refine LeO.ite ?_ ?_
   | refine LeO.bind ?_ (fun _ => ?_)
end Go.Proofs.Ytdknhgbjgdmfkaa.P
namespace Go.Proofs.Ytdknhgbjgdmfkaa.P
open Go.RowKit Go.Proofs.YtdknhgbjgdmfkaaW.PrintWords Go.Proofs.YtdknhgbjgdmfkaaW.PrintLast Go.Proofs.YtdknhgbjgdmfkaaW.PrintMore
attribute [local go_sem] max2_int min2_int max_two min_two max_three min_three max_four min_four
set_option linter.unusedVariables false
set_option linter.unusedSimpArgs false
theorem za_ {α : Type} (l : List α) (i : Nat) (a : α) : l.toArray.setIfInBounds i a = (l.set i a).toArray := List.setIfInBounds_toArray ..
theorem zb_ {α : Type} (l : List α) (a b : α) : (a :: l).set 0 b = b :: l := rfl
theorem zc_ {α : Type} (l : List α) (a b : α) (n : Nat) : (a :: l).set (n + 1) b = a :: l.set n b := rfl
def mm (l : List (Nat × Bool)) : Array Bool := (l.flatMap fun p => List.replicate p.1 p.2).toArray
def bywashlaw11_SccLoops.T15 : Bool × List (List Nat × List Nat) := (true, [([], []), ([], []), ([0, 1], [0, 1]), ([2], [2]), ([], []), ([], []), ([4, 5], [4, 5]), ([6], [6]), ([3, 7], [3, 7])])
def bywashlaw11_SccLoops.B15 : List Nat := [0, 0, 3, 7, 0, 0, 48, 112, 255]
theorem bywashlaw11_SccLoops.tab15 : rtab .any (opsOf Try.f8 15) = bywashlaw11_SccLoops.T15 := by kernel_rfl
theorem bywashlaw11_SccLoops.bits15 : waitsOk bywashlaw11_SccLoops.T15.2 bywashlaw11_SccLoops.B15 = true := by kernel_rfl
def bywashlaw11_SccLoops.T17 : Bool × List (List Nat × List Nat) := (true, [([], []), ([0], [0]), ([1], [1]), ([1], [1]), ([2, 3, 1], [1, 2, 3]), ([4, 1], [1, 4]), ([1], [1]), ([6, 1], [1, 6]), ([7, 1, 1], [1, 7]), ([8], [8]), ([8], [8]), ([9, 10, 8], [8, 9, 10]), ([11, 8], [8, 11]), ([8], [8]), ([12, 13, 8, 8], [8, 12, 13]), ([8, 14, 1], [1, 8, 14]), ([5, 15, 1], [1, 5, 15]), ([1, 16], [1, 16]), ([17, 14], [17]), ([18], [18]), ([18], [18]), ([19, 20, 18], [18, 19, 20]), ([21, 18], [18, 21]), ([18], [18]), ([18], [18]), ([18], [18]), ([23, 24, 25, 18, 18], [18, 23, 24, 25]), ([22, 26, 18], [18, 22, 26]), ([18, 27], [18, 27]), ([28, 26], [28]), ([29], [29]), ([29], [29]), ([30, 31, 29], [29, 30, 31]), ([32, 29], [29, 32]), ([33, 29], [29, 33]), ([34, 29, 29], [29, 34]), ([35], [35]), ([35], [35]), ([36, 37, 35], [35, 36, 37]), ([38, 35], [35, 38]), ([39, 35, 35], [35, 39]), ([40], [40]), ([40], [40]), ([41, 42, 40], [40, 41, 42]), ([43, 40], [40, 43]), ([40, 44, 35], [35, 40, 44]), ([35, 45, 29], [29, 35, 45]), ([29, 46], [29, 46]), ([47, 40, 0, 1, 2, 3, 4, 5, 6, 7, 8, 9, 10, 11, 12, 13, 14, 15, 16, 17, 18, 19, 20, 21, 22, 23, 24, 25, 26, 27, 28, 29, 30, 31, 32, 33, 34, 35, 36, 37, 38, 39, 40, 41, 42, 43, 44, 45, 46, 47], [47])])
def bywashlaw11_SccLoops.B17 : List Nat := [0, 1, 3, 3, 15, 31, 3, 67, 195, 451, 451, 1987, 4035, 451, 16323, 32707, 65535, 131071, 262143, 524287, 524287, 2097151, 4194303, 524287, 524287, 524287, 59244543, 134217727, 268435455, 536870911, 1073741823, 1073741823, 4294967295, 8589934591, 17179869183, 34359738367, 68719476735, 68719476735, 274877906943, 549755813887, 1099511627775, 2199023255551, 2199023255551, 8796093022207, 17592186044415, 35184372088831, 70368744177663, 140737488355327, 281474976710655]
theorem bywashlaw11_SccLoops.tab17 : rtab .any (opsOf Try.f8 17) = bywashlaw11_SccLoops.T17 := by kernel_rfl
theorem bywashlaw11_SccLoops.bits17 : waitsOk bywashlaw11_SccLoops.T17.2 bywashlaw11_SccLoops.B17 = true := by kernel_rfl
set_option maxHeartbeats 8000000 in
set_option maxRecDepth 100000 in
theorem SccLoops_t (k : Nat) (A0 : Option Addr) (c0 : Nat) (l0 : List (List Int)) (a1 : Int) (a2 : Int) (r : Bool) (w : World) (hr0 : Kd.C (Kd.slice 3 (Kd.int .i64)) w A0 l0.length l0) (hc0 : l0.length ≤ c0) (hrt : r = true) (h : bywashlaw11_SccLoops.f k l0 a1 a2 = some r) :
  Calls Try.prog 8 #[.slice A0 l0.length c0, .int .i64 a1, .int .i64 a2] w fun e w' => e = .returned (.bool r) ∧ Below w.heap.size w w' := by
 have HRT := Aside0.mk hrt
 clear hrt
 have HR0 := Aside0.mk hr0
 have HC0 := Aside0.mk hc0
 clear hr0 hc0
 have HB := Aside0.mk (Below.refl w.heap.size w)
 have H : ((bywashlaw11_awake.f k).bind fun t377 => ((bywashref10_Few.f k l0).bind fun t378 => (if t378 = true then (if a1 < 0 then (bywashlaw11_SccLoops.j0 k l0 a1 a2 t377 true) else (if a1 ≥ (l0.length : Int) then (bywashlaw11_SccLoops.j0 k l0 a1 a2 t377 true) else (if a2 < 0 then (bywashlaw11_SccLoops.j0 k l0 a1 a2 t377 true) else (bywashlaw11_SccLoops.j0 k l0 a1 a2 t377 (decide (a2 ≥ (l0.length : Int))))))) else (bywashlaw11_SccLoops.j0 k l0 a1 a2 t377 true)))) = some r := h
 clear h
 replace H := Option.bind_eq_some_iff.mp H
 obtain ⟨t377, A40, H⟩ := H
 replace H : ((bywashref10_Few.f k l0).bind fun t378 => (if t378 = true then (if a1 < 0 then (bywashlaw11_SccLoops.j0 k l0 a1 a2 t377 true) else (if a1 ≥ (l0.length : Int) then (bywashlaw11_SccLoops.j0 k l0 a1 a2 t377 true) else (if a2 < 0 then (bywashlaw11_SccLoops.j0 k l0 a1 a2 t377 true) else (bywashlaw11_SccLoops.j0 k l0 a1 a2 t377 (decide (a2 ≥ (l0.length : Int))))))) else (bywashlaw11_SccLoops.j0 k l0 a1 a2 t377 true))) = some r := H
 have A4 := Aside0.mk A40
 clear A40
 have HC5 := Aside0.mk H
 clear H
 go_enter Try.func8, Try.ntmps8
 go_upto_region 2 with (first | ((with_reducible refine gate_callee (f := 34) rfl ?_); refine goesL_ (some 15) rfl rfl Try.func34 (by kernel_rfl) rfl #[] rfl (by (try simp only [List.map_toArray, List.map_cons, List.map_nil]); first | done | rfl | (simp only [List.length_drop, List.length_take]; rfl)) ?_; (with_reducible refine (bywashlaw11_awake.calls k  t377 _ A4.out).mono ?_); rintro e w6 ⟨rfl, hb⟩; refine ⟨_, rfl, ?_⟩; have n0_ := Aside0.mk (below_step (by repeat (first | (with_reducible first | exact HB.out | apply below_alloc | apply pw_below_drewN | apply below_drew1) | exact HB.out)) hb); clear HB; have HB := n0_; clear n0_; (try clear hb); (try clear hb2); (try clear hk); (try clear hi)))
 (try simp only [Act.put, za_, zb_, zc_])
 go_cut [38] (fun v38 wc => ∃ (kq : Nat) (x38_4 : Bool), v38 = .bool x38_4 ∧ Aside0 (bywashlaw11_SccLoops.j0 kq l0 a1 a2 t377 x38_4 = some r) ∧ Aside0 (kq ≤ k) ∧ Aside0 (Below w.heap.size w wc))
 case first =>
  have H := HC5.out
  clear HC5
  replace H := Option.bind_eq_some_iff.mp H
  obtain ⟨t378, A70, H⟩ := H
  replace H : (if t378 = true then (if a1 < 0 then (bywashlaw11_SccLoops.j0 k l0 a1 a2 t377 true) else (if a1 ≥ (l0.length : Int) then (bywashlaw11_SccLoops.j0 k l0 a1 a2 t377 true) else (if a2 < 0 then (bywashlaw11_SccLoops.j0 k l0 a1 a2 t377 true) else (bywashlaw11_SccLoops.j0 k l0 a1 a2 t377 (decide (a2 ≥ (l0.length : Int))))))) else (bywashlaw11_SccLoops.j0 k l0 a1 a2 t377 true)) = some r := H
  have A7 := Aside0.mk A70
  clear A70
  by_cases c8 : t378 = true
  ·
   subst c8
   have H1 : (if a1 < 0 then (bywashlaw11_SccLoops.j0 k l0 a1 a2 t377 true) else (if a1 ≥ (l0.length : Int) then (bywashlaw11_SccLoops.j0 k l0 a1 a2 t377 true) else (if a2 < 0 then (bywashlaw11_SccLoops.j0 k l0 a1 a2 t377 true) else (bywashlaw11_SccLoops.j0 k l0 a1 a2 t377 (decide (a2 ≥ (l0.length : Int))))))) = some r := by rw [if_pos rfl] at H; exact H
   clear H
   have H := H1
   clear H1
   by_cases c9 : a1 < 0
   ·
    rw [if_pos c9] at H
    have c9b0 : decide (a1 < 0) = true := decide_eq_true c9
    clear c9
    (first | rw [c9b0] | (simp only [i64_w, i32_w]; rw [c9b0]) | skip)
    have H' := Aside0.mk H
    clear H
    go_wp2_with (first | ((with_reducible refine gate_callee (f := 14) rfl ?_); refine goesL_ (some 17) rfl rfl Try.func14 (by kernel_rfl) rfl #[.slice A0 l0.length c0] rfl (by (try simp only [List.map_toArray, List.map_cons, List.map_nil]); first | done | rfl | (simp only [List.length_drop, List.length_take]; rfl)) ?_; (with_reducible refine (bywashref10_Few.calls k _ _ l0 true _ ?side1 ?side2 A7.out).mono ?_); (case side1 => repeat (first | exact (Kd.C_below HR0.out HB.out) | (with_reducible refine Kd.C_alloc ?_ _) | (with_reducible refine Kd.C_drewN ?_ _) | (with_reducible refine Kd.C_drew ?_))); (case side2 => exact HC0.out); rintro e w' ⟨rfl, ⟨nd, rfl⟩⟩; refine ⟨_, rfl, ?_⟩))
    go_meet
    case rel => exact ⟨_, (true), (by first | rfl | (simp; done) | (simp [*]; done)), H', ⟨by first | omega | exact Nat.le_refl _⟩, ⟨by repeat (first | (with_reducible first | exact HB.out | apply below_alloc | apply pw_below_drewN | apply below_drew1) | exact HB.out)⟩⟩
   ·
    rw [if_neg c9] at H
    have c9b0 : decide (a1 < 0) = false := decide_eq_false c9
    clear c9
    (first | rw [c9b0] | (simp only [i64_w, i32_w]; rw [c9b0]) | skip)
    by_cases c10 : a1 ≥ (l0.length : Int)
    ·
     rw [if_pos c10] at H
     have c10b0 : decide ((l0.length : Int) ≤ a1) = true := decide_eq_true c10
     clear c10
     have H' := Aside0.mk H
     clear H
     go_wp2_with (first | ((with_reducible refine gate_callee (f := 14) rfl ?_); refine goesL_ (some 17) rfl rfl Try.func14 (by kernel_rfl) rfl #[.slice A0 l0.length c0] rfl (by (try simp only [List.map_toArray, List.map_cons, List.map_nil]); first | done | rfl | (simp only [List.length_drop, List.length_take]; rfl)) ?_; (with_reducible refine (bywashref10_Few.calls k _ _ l0 true _ ?side1 ?side2 A7.out).mono ?_); (case side1 => repeat (first | exact (Kd.C_below HR0.out HB.out) | (with_reducible refine Kd.C_alloc ?_ _) | (with_reducible refine Kd.C_drewN ?_ _) | (with_reducible refine Kd.C_drew ?_))); (case side2 => exact HC0.out); rintro e w' ⟨rfl, ⟨nd, rfl⟩⟩; refine ⟨_, rfl, ?_⟩))
     go_meet
     case rel => exact ⟨_, (true), (by first | rfl | (simp; done) | (simp [*]; done)), H', ⟨by first | omega | exact Nat.le_refl _⟩, ⟨by repeat (first | (with_reducible first | exact HB.out | apply below_alloc | apply pw_below_drewN | apply below_drew1) | exact HB.out)⟩⟩
    ·
     rw [if_neg c10] at H
     have c10b0 : decide ((l0.length : Int) ≤ a1) = false := decide_eq_false c10
     clear c10
     by_cases c11 : a2 < 0
     ·
      rw [if_pos c11] at H
      have c11b0 : decide (a2 < 0) = true := decide_eq_true c11
      clear c11
      have H' := Aside0.mk H
      clear H
      go_wp2_with (first | ((with_reducible refine gate_callee (f := 14) rfl ?_); refine goesL_ (some 17) rfl rfl Try.func14 (by kernel_rfl) rfl #[.slice A0 l0.length c0] rfl (by (try simp only [List.map_toArray, List.map_cons, List.map_nil]); first | done | rfl | (simp only [List.length_drop, List.length_take]; rfl)) ?_; (with_reducible refine (bywashref10_Few.calls k _ _ l0 true _ ?side1 ?side2 A7.out).mono ?_); (case side1 => repeat (first | exact (Kd.C_below HR0.out HB.out) | (with_reducible refine Kd.C_alloc ?_ _) | (with_reducible refine Kd.C_drewN ?_ _) | (with_reducible refine Kd.C_drew ?_))); (case side2 => exact HC0.out); rintro e w' ⟨rfl, ⟨nd, rfl⟩⟩; refine ⟨_, rfl, ?_⟩))
      go_meet
      case rel => exact ⟨_, (true), (by first | rfl | (simp; done) | (simp [*]; done)), H', ⟨by first | omega | exact Nat.le_refl _⟩, ⟨by repeat (first | (with_reducible first | exact HB.out | apply below_alloc | apply pw_below_drewN | apply below_drew1) | exact HB.out)⟩⟩
     ·
      rw [if_neg c11] at H
      have c11b0 : decide (a2 < 0) = false := decide_eq_false c11
      clear c11
      have H' := Aside0.mk H
      clear H
      go_wp2_with (first | ((with_reducible refine gate_callee (f := 14) rfl ?_); refine goesL_ (some 17) rfl rfl Try.func14 (by kernel_rfl) rfl #[.slice A0 l0.length c0] rfl (by (try simp only [List.map_toArray, List.map_cons, List.map_nil]); first | done | rfl | (simp only [List.length_drop, List.length_take]; rfl)) ?_; (with_reducible refine (bywashref10_Few.calls k _ _ l0 true _ ?side1 ?side2 A7.out).mono ?_); (case side1 => repeat (first | exact (Kd.C_below HR0.out HB.out) | (with_reducible refine Kd.C_alloc ?_ _) | (with_reducible refine Kd.C_drewN ?_ _) | (with_reducible refine Kd.C_drew ?_))); (case side2 => exact HC0.out); rintro e w' ⟨rfl, ⟨nd, rfl⟩⟩; refine ⟨_, rfl, ?_⟩))
      go_meet
      case rel => exact ⟨_, (decide (a2 ≥ (l0.length : Int))), (by first | rfl | (simp; done) | (simp [*]; done)), H', ⟨by first | omega | exact Nat.le_refl _⟩, ⟨by repeat (first | (with_reducible first | exact HB.out | apply below_alloc | apply pw_below_drewN | apply below_drew1) | exact HB.out)⟩⟩
  ·
   replace c8 := Bool.eq_false_iff.mpr c8
   subst c8
   have H1 : (bywashlaw11_SccLoops.j0 k l0 a1 a2 t377 true) = some r := by rw [if_neg (show ¬ (false = true) by decide)] at H; exact H
   clear H
   have H := H1
   clear H1
   have H' := Aside0.mk H
   clear H
   go_wp2_with (first | ((with_reducible refine gate_callee (f := 14) rfl ?_); refine goesL_ (some 17) rfl rfl Try.func14 (by kernel_rfl) rfl #[.slice A0 l0.length c0] rfl (by (try simp only [List.map_toArray, List.map_cons, List.map_nil]); first | done | rfl | (simp only [List.length_drop, List.length_take]; rfl)) ?_; (with_reducible refine (bywashref10_Few.calls k _ _ l0 false _ ?side1 ?side2 A7.out).mono ?_); (case side1 => repeat (first | exact (Kd.C_below HR0.out HB.out) | (with_reducible refine Kd.C_alloc ?_ _) | (with_reducible refine Kd.C_drewN ?_ _) | (with_reducible refine Kd.C_drew ?_))); (case side2 => exact HC0.out); rintro e w' ⟨rfl, ⟨nd, rfl⟩⟩; refine ⟨_, rfl, ?_⟩))
   go_meet
   case rel => exact ⟨_, (true), (by first | rfl | (simp; done) | (simp [*]; done)), H', ⟨by first | omega | exact Nat.le_refl _⟩, ⟨by repeat (first | (with_reducible first | exact HB.out | apply below_alloc | apply pw_below_drewN | apply below_drew1) | exact HB.out)⟩⟩
 case rest =>
  clear HC5
  try clear c1
  try clear p2
  try clear c3
  try clear c8
  try clear c9
  try clear c9b0
  try clear c10
  try clear c10b0
  try clear c11
  try clear c11b0
  obtain ⟨kq, x38_4, rfl, HA, HJ4, HB⟩ := hcut
  cases kq with
  | zero => exact absurd HA.out (by simp [bywashlaw11_SccLoops.j0])
  | succ kj4 =>
   have H := HA.out
   clear HA
   simp only [bywashlaw11_SccLoops.j0] at H
   by_cases c12 : x38_4 = true
   ·
    subst c12
    have H1 : (some t377) = some r := by rw [if_pos rfl] at H; exact H
    clear H
    have H := H1
    clear H1
    obtain rfl := Option.some.inj H
    go_wp2
    go_ret
    exact ⟨by first | rfl | (simp [errW_none, errW_some] <;> rfl) | (simp [*, errW_none, errW_some] <;> rfl) | (exfalso; (try simp_all); (try omega); done), by repeat (first | (with_reducible first | exact HB.out | apply below_alloc | apply pw_below_drewN | apply below_drew1) | exact HB.out)⟩
   ·
    replace c12 := Bool.eq_false_iff.mpr c12
    subst c12
    have H1 : ((scc_Loops.f l0).bind fun t379 => ((scc_Leads.f l0).bind fun t382 => ((graph_Clean.f l0).bind fun t385 => ((graph_Reach.f l0 a1).bind fun t388 => ((graph_With.f l0 a2 a1).bind fun t391 => ((scc_Loops.f t391).bind fun t394 => (if (t379.length : Int) = (l0.length : Int) then (if (t382.length : Int) = (l0.length : Int) then (if (t385.length : Int) = (l0.length : Int) then (if (t388.length : Int) = (l0.length : Int) then (bywashlaw11_SccLoops.j1 kj4 l0 a1 a2 t377 t379 t382 t385 t388 t394 ((t394.length : Int) != (l0.length : Int))) else (bywashlaw11_SccLoops.j1 kj4 l0 a1 a2 t377 t379 t382 t385 t388 t394 true)) else (bywashlaw11_SccLoops.j1 kj4 l0 a1 a2 t377 t379 t382 t385 t388 t394 true)) else (bywashlaw11_SccLoops.j1 kj4 l0 a1 a2 t377 t379 t382 t385 t388 t394 true)) else (bywashlaw11_SccLoops.j1 kj4 l0 a1 a2 t377 t379 t382 t385 t388 t394 true)))))))) = some r := by rw [if_neg (show ¬ (false = true) by decide)] at H; exact H
    clear H
    have H := H1
    clear H1
    replace H := Option.bind_eq_some_iff.mp H
    obtain ⟨t379, A130, H⟩ := H
    replace H : ((scc_Leads.f l0).bind fun t382 => ((graph_Clean.f l0).bind fun t385 => ((graph_Reach.f l0 a1).bind fun t388 => ((graph_With.f l0 a2 a1).bind fun t391 => ((scc_Loops.f t391).bind fun t394 => (if (t379.length : Int) = (l0.length : Int) then (if (t382.length : Int) = (l0.length : Int) then (if (t385.length : Int) = (l0.length : Int) then (if (t388.length : Int) = (l0.length : Int) then (bywashlaw11_SccLoops.j1 kj4 l0 a1 a2 t377 t379 t382 t385 t388 t394 ((t394.length : Int) != (l0.length : Int))) else (bywashlaw11_SccLoops.j1 kj4 l0 a1 a2 t377 t379 t382 t385 t388 t394 true)) else (bywashlaw11_SccLoops.j1 kj4 l0 a1 a2 t377 t379 t382 t385 t388 t394 true)) else (bywashlaw11_SccLoops.j1 kj4 l0 a1 a2 t377 t379 t382 t385 t388 t394 true)) else (bywashlaw11_SccLoops.j1 kj4 l0 a1 a2 t377 t379 t382 t385 t388 t394 true))))))) = some r := H
    have A13 := Aside0.mk A130
    clear A130
    replace H := Option.bind_eq_some_iff.mp H
    obtain ⟨t382, A140, H⟩ := H
    replace H : ((graph_Clean.f l0).bind fun t385 => ((graph_Reach.f l0 a1).bind fun t388 => ((graph_With.f l0 a2 a1).bind fun t391 => ((scc_Loops.f t391).bind fun t394 => (if (t379.length : Int) = (l0.length : Int) then (if (t382.length : Int) = (l0.length : Int) then (if (t385.length : Int) = (l0.length : Int) then (if (t388.length : Int) = (l0.length : Int) then (bywashlaw11_SccLoops.j1 kj4 l0 a1 a2 t377 t379 t382 t385 t388 t394 ((t394.length : Int) != (l0.length : Int))) else (bywashlaw11_SccLoops.j1 kj4 l0 a1 a2 t377 t379 t382 t385 t388 t394 true)) else (bywashlaw11_SccLoops.j1 kj4 l0 a1 a2 t377 t379 t382 t385 t388 t394 true)) else (bywashlaw11_SccLoops.j1 kj4 l0 a1 a2 t377 t379 t382 t385 t388 t394 true)) else (bywashlaw11_SccLoops.j1 kj4 l0 a1 a2 t377 t379 t382 t385 t388 t394 true)))))) = some r := H
    have A14 := Aside0.mk A140
    clear A140
    replace H := Option.bind_eq_some_iff.mp H
    obtain ⟨t385, A150, H⟩ := H
    replace H : ((graph_Reach.f l0 a1).bind fun t388 => ((graph_With.f l0 a2 a1).bind fun t391 => ((scc_Loops.f t391).bind fun t394 => (if (t379.length : Int) = (l0.length : Int) then (if (t382.length : Int) = (l0.length : Int) then (if (t385.length : Int) = (l0.length : Int) then (if (t388.length : Int) = (l0.length : Int) then (bywashlaw11_SccLoops.j1 kj4 l0 a1 a2 t377 t379 t382 t385 t388 t394 ((t394.length : Int) != (l0.length : Int))) else (bywashlaw11_SccLoops.j1 kj4 l0 a1 a2 t377 t379 t382 t385 t388 t394 true)) else (bywashlaw11_SccLoops.j1 kj4 l0 a1 a2 t377 t379 t382 t385 t388 t394 true)) else (bywashlaw11_SccLoops.j1 kj4 l0 a1 a2 t377 t379 t382 t385 t388 t394 true)) else (bywashlaw11_SccLoops.j1 kj4 l0 a1 a2 t377 t379 t382 t385 t388 t394 true))))) = some r := H
    have A15 := Aside0.mk A150
    clear A150
    replace H := Option.bind_eq_some_iff.mp H
    obtain ⟨t388, A160, H⟩ := H
    replace H : ((graph_With.f l0 a2 a1).bind fun t391 => ((scc_Loops.f t391).bind fun t394 => (if (t379.length : Int) = (l0.length : Int) then (if (t382.length : Int) = (l0.length : Int) then (if (t385.length : Int) = (l0.length : Int) then (if (t388.length : Int) = (l0.length : Int) then (bywashlaw11_SccLoops.j1 kj4 l0 a1 a2 t377 t379 t382 t385 t388 t394 ((t394.length : Int) != (l0.length : Int))) else (bywashlaw11_SccLoops.j1 kj4 l0 a1 a2 t377 t379 t382 t385 t388 t394 true)) else (bywashlaw11_SccLoops.j1 kj4 l0 a1 a2 t377 t379 t382 t385 t388 t394 true)) else (bywashlaw11_SccLoops.j1 kj4 l0 a1 a2 t377 t379 t382 t385 t388 t394 true)) else (bywashlaw11_SccLoops.j1 kj4 l0 a1 a2 t377 t379 t382 t385 t388 t394 true)))) = some r := H
    have A16 := Aside0.mk A160
    clear A160
    replace H := Option.bind_eq_some_iff.mp H
    obtain ⟨t391, A170, H⟩ := H
    replace H : ((scc_Loops.f t391).bind fun t394 => (if (t379.length : Int) = (l0.length : Int) then (if (t382.length : Int) = (l0.length : Int) then (if (t385.length : Int) = (l0.length : Int) then (if (t388.length : Int) = (l0.length : Int) then (bywashlaw11_SccLoops.j1 kj4 l0 a1 a2 t377 t379 t382 t385 t388 t394 ((t394.length : Int) != (l0.length : Int))) else (bywashlaw11_SccLoops.j1 kj4 l0 a1 a2 t377 t379 t382 t385 t388 t394 true)) else (bywashlaw11_SccLoops.j1 kj4 l0 a1 a2 t377 t379 t382 t385 t388 t394 true)) else (bywashlaw11_SccLoops.j1 kj4 l0 a1 a2 t377 t379 t382 t385 t388 t394 true)) else (bywashlaw11_SccLoops.j1 kj4 l0 a1 a2 t377 t379 t382 t385 t388 t394 true))) = some r := H
    have A17 := Aside0.mk A170
    clear A170
    replace H := Option.bind_eq_some_iff.mp H
    obtain ⟨t394, A180, H⟩ := H
    replace H : (if (t379.length : Int) = (l0.length : Int) then (if (t382.length : Int) = (l0.length : Int) then (if (t385.length : Int) = (l0.length : Int) then (if (t388.length : Int) = (l0.length : Int) then (bywashlaw11_SccLoops.j1 kj4 l0 a1 a2 t377 t379 t382 t385 t388 t394 ((t394.length : Int) != (l0.length : Int))) else (bywashlaw11_SccLoops.j1 kj4 l0 a1 a2 t377 t379 t382 t385 t388 t394 true)) else (bywashlaw11_SccLoops.j1 kj4 l0 a1 a2 t377 t379 t382 t385 t388 t394 true)) else (bywashlaw11_SccLoops.j1 kj4 l0 a1 a2 t377 t379 t382 t385 t388 t394 true)) else (bywashlaw11_SccLoops.j1 kj4 l0 a1 a2 t377 t379 t382 t385 t388 t394 true)) = some r := H
    have A18 := Aside0.mk A180
    clear A180
    have HC19 := Aside0.mk H
    clear H
    go_upto_region 9 with (first | ((with_reducible refine gate_callee (f := 41) rfl ?_); refine goesL_ (some 41) rfl rfl Try.func41 (by kernel_rfl) rfl #[.slice A0 l0.length c0] rfl (by (try simp only [List.map_toArray, List.map_cons, List.map_nil]); first | done | rfl | (simp only [List.length_drop, List.length_take]; rfl)) ?_; (with_reducible refine (scc_Loops.calls _ _ l0 t379 _ ?side1 ?side2 A13.out).mono ?_); (case side1 => repeat (first | exact (Kd.C_below HR0.out HB.out) | (with_reducible refine Kd.C_alloc ?_ _) | (with_reducible refine Kd.C_drewN ?_ _) | (with_reducible refine Kd.C_drew ?_))); (case side2 => exact HC0.out); rintro e w20 ⟨v380, rfl, ho0, hb⟩; refine ⟨_, rfl, ?_⟩; have n0_ := Aside0.mk (Kd.R_lower ho0 (below_size (by repeat (first | (with_reducible first | exact HB.out | apply below_alloc | apply pw_below_drewN | apply below_drew1) | exact HB.out)))); have n1_ := Aside0.mk (below_step (by repeat (first | (with_reducible first | exact HB.out | apply below_alloc | apply pw_below_drewN | apply below_drew1) | exact HB.out)) hb); clear HB; have HO381 := n0_; have HB := n1_; clear n0_ n1_; (try clear hb); (try clear hb2); (try clear hk); (try clear hi); (try clear ho0)) | ((with_reducible refine gate_callee (f := 35) rfl ?_); refine goesL_ (some 43) rfl rfl Try.func35 (by kernel_rfl) rfl #[.slice A0 l0.length c0] rfl (by (try simp only [List.map_toArray, List.map_cons, List.map_nil]); first | done | rfl | (simp only [List.length_drop, List.length_take]; rfl)) ?_; (with_reducible refine (scc_Leads.calls _ _ l0 t382 _ ?side1 ?side2 A14.out).mono ?_); (case side1 => repeat (first | exact (Kd.C_below HR0.out HB.out) | (with_reducible refine Kd.C_alloc ?_ _) | (with_reducible refine Kd.C_drewN ?_ _) | (with_reducible refine Kd.C_drew ?_))); (case side2 => exact HC0.out); rintro e w21 ⟨v383, rfl, ho0, hb⟩; refine ⟨_, rfl, ?_⟩; have n0_ := Aside0.mk (Kd.R_below (by (with_reducible repeat (first | apply Kd.R_alloc | apply Kd.R_drewN | apply Kd.R_drew)); exact HO381.out) hb); have n1_ := Aside0.mk (Kd.R_lower ho0 (below_size (by repeat (first | (with_reducible first | exact HB.out | apply below_alloc | apply pw_below_drewN | apply below_drew1) | exact HB.out)))); have n2_ := Aside0.mk (below_step (by repeat (first | (with_reducible first | exact HB.out | apply below_alloc | apply pw_below_drewN | apply below_drew1) | exact HB.out)) hb); clear HO381; clear HB; have HO381 := n0_; have HO384 := n1_; have HB := n2_; clear n0_ n1_ n2_; (try clear hb); (try clear hb2); (try clear hk); (try clear hi); (try clear ho0)) | ((with_reducible refine gate_callee (f := 16) rfl ?_); refine goesL_ (some 45) rfl rfl Try.func16 (by kernel_rfl) rfl #[.slice A0 l0.length c0] rfl (by (try simp only [List.map_toArray, List.map_cons, List.map_nil]); first | done | rfl | (simp only [List.length_drop, List.length_take]; rfl)) ?_; (with_reducible refine (graph_Clean.calls _ _ l0 t385 _ ?side1 ?side2 A15.out).mono ?_); (case side1 => repeat (first | exact (Kd.C_below HR0.out HB.out) | (with_reducible refine Kd.C_alloc ?_ _) | (with_reducible refine Kd.C_drewN ?_ _) | (with_reducible refine Kd.C_drew ?_))); (case side2 => exact HC0.out); rintro e w22 ⟨v386, rfl, ho0, hb⟩; refine ⟨_, rfl, ?_⟩; have n0_ := Aside0.mk (Kd.R_below (by (with_reducible repeat (first | apply Kd.R_alloc | apply Kd.R_drewN | apply Kd.R_drew)); exact HO381.out) hb); have n1_ := Aside0.mk (Kd.R_below (by (with_reducible repeat (first | apply Kd.R_alloc | apply Kd.R_drewN | apply Kd.R_drew)); exact HO384.out) hb); have n2_ := Aside0.mk (Kd.S_lower (Kd.S_new' ho0 (Kd.R_lt (by (with_reducible repeat (first | apply Kd.R_alloc | apply Kd.R_drewN | apply Kd.R_drew)); exact HO384.out))) (below_size (by repeat (first | (with_reducible first | exact HB.out | apply below_alloc | apply pw_below_drewN | apply below_drew1) | exact HB.out)))); have n3_ := Aside0.mk (below_step (by repeat (first | (with_reducible first | exact HB.out | apply below_alloc | apply pw_below_drewN | apply below_drew1) | exact HB.out)) hb); clear HO381; clear HO384; clear HB; have HO381 := n0_; have HO384 := n1_; have HO387 := n2_; have HB := n3_; clear n0_ n1_ n2_ n3_; (try clear hb); (try clear hb2); (try clear hk); (try clear hi); (try clear ho0)) | ((with_reducible refine gate_callee (f := 21) rfl ?_); refine goesL_ (some 48) rfl rfl Try.func21 (by kernel_rfl) rfl #[.slice A0 l0.length c0, .int .i64 a1] rfl (by (try simp only [List.map_toArray, List.map_cons, List.map_nil]); first | done | rfl | (simp only [List.length_drop, List.length_take]; rfl)) ?_; (with_reducible refine (graph_Reach.calls _ _ l0 a1 t388 _ ?side1 ?side2 A16.out).mono ?_); (case side1 => repeat (first | exact (Kd.C_below HR0.out HB.out) | (with_reducible refine Kd.C_alloc ?_ _) | (with_reducible refine Kd.C_drewN ?_ _) | (with_reducible refine Kd.C_drew ?_))); (case side2 => exact HC0.out); rintro e w23 ⟨v389, rfl, ho0, hb⟩; refine ⟨_, rfl, ?_⟩; have n0_ := Aside0.mk (Kd.R_elder' (by (with_reducible repeat (first | apply Kd.R_alloc | apply Kd.R_drewN | apply Kd.R_drew)); exact HO381.out) (Kd.R_base ho0) hb); have n1_ := Aside0.mk (Kd.R_below (by (with_reducible repeat (first | apply Kd.R_alloc | apply Kd.R_drewN | apply Kd.R_drew)); exact HO384.out) hb); have n2_ := Aside0.mk (Kd.S_below (by (with_reducible repeat (first | apply Kd.S_alloc | apply Kd.S_drewN | apply Kd.S_drew)); exact HO387.out) hb); have n3_ := Aside0.mk (Kd.R_lower (Kd.R_new' ho0 (Kd.R_lt (by (with_reducible repeat (first | apply Kd.R_alloc | apply Kd.R_drewN | apply Kd.R_drew)); exact HO381.out))) (below_size (by repeat (first | (with_reducible first | exact HB.out | apply below_alloc | apply pw_below_drewN | apply below_drew1) | exact HB.out)))); have n4_ := Aside0.mk (below_step (by repeat (first | (with_reducible first | exact HB.out | apply below_alloc | apply pw_below_drewN | apply below_drew1) | exact HB.out)) hb); clear HO381; clear HO384; clear HO387; clear HB; have HO381 := n0_; have HO384 := n1_; have HO387 := n2_; have HO390 := n3_; have HB := n4_; clear n0_ n1_ n2_ n3_ n4_; (try clear hb); (try clear hb2); (try clear hk); (try clear hi); (try clear ho0)) | ((with_reducible refine gate_callee (f := 26) rfl ?_); refine goesL_ (some 52) rfl rfl Try.func26 (by kernel_rfl) rfl #[.slice A0 l0.length c0, .int .i64 a2, .int .i64 a1] rfl (by (try simp only [List.map_toArray, List.map_cons, List.map_nil]); first | done | rfl | (simp only [List.length_drop, List.length_take]; rfl)) ?_; (with_reducible refine (graph_With.calls _ _ l0 a2 a1 t391 _ ?side1 ?side2 A17.out).mono ?_); (case side1 => repeat (first | exact (Kd.C_below HR0.out HB.out) | (with_reducible refine Kd.C_alloc ?_ _) | (with_reducible refine Kd.C_drewN ?_ _) | (with_reducible refine Kd.C_drew ?_))); (case side2 => exact HC0.out); rintro e w24 ⟨v392, rfl, ho0, hb⟩; refine ⟨_, rfl, ?_⟩; have n0_ := Aside0.mk (Kd.R_below (by (with_reducible repeat (first | apply Kd.R_alloc | apply Kd.R_drewN | apply Kd.R_drew)); exact HO381.out) hb); have n1_ := Aside0.mk (Kd.R_below (by (with_reducible repeat (first | apply Kd.R_alloc | apply Kd.R_drewN | apply Kd.R_drew)); exact HO384.out) hb); have n2_ := Aside0.mk (Kd.S_elder' (by (with_reducible repeat (first | apply Kd.S_alloc | apply Kd.S_drewN | apply Kd.S_drew)); exact HO387.out) (Kd.S_base ho0) hb); have n3_ := Aside0.mk (Kd.R_below (by (with_reducible repeat (first | apply Kd.R_alloc | apply Kd.R_drewN | apply Kd.R_drew)); exact HO390.out) hb); have n4_ := Aside0.mk (Kd.S_lower (Kd.S_new' (Kd.S_new' ho0 (Kd.R_lt (by (with_reducible repeat (first | apply Kd.R_alloc | apply Kd.R_drewN | apply Kd.R_drew)); exact HO384.out))) (Kd.S_lt (by (with_reducible repeat (first | apply Kd.S_alloc | apply Kd.S_drewN | apply Kd.S_drew)); exact HO387.out))) (below_size (by repeat (first | (with_reducible first | exact HB.out | apply below_alloc | apply pw_below_drewN | apply below_drew1) | exact HB.out)))); have n5_ := Aside0.mk (below_step (by repeat (first | (with_reducible first | exact HB.out | apply below_alloc | apply pw_below_drewN | apply below_drew1) | exact HB.out)) hb); clear HO381; clear HO384; clear HO387; clear HO390; clear HB; have HO381 := n0_; have HO384 := n1_; have HO387 := n2_; have HO390 := n3_; have HO393 := n4_; have HB := n5_; clear n0_ n1_ n2_ n3_ n4_ n5_; (try clear hb); (try clear hb2); (try clear hk); (try clear hi); (try clear ho0); obtain ⟨Ao25, co25, eo25⟩ := Kd.S_slice HO393.out; subst eo25) | ((with_reducible refine gate_callee (f := 41) rfl ?_); refine goesL_ (some 53) rfl rfl Try.func41 (by kernel_rfl) rfl #[.slice Ao25 t391.length co25] rfl (by (try simp only [List.map_toArray, List.map_cons, List.map_nil]); first | done | rfl | (simp only [List.length_drop, List.length_take]; rfl)) ?_; (with_reducible refine (scc_Loops.calls _ _ t391 t394 _ ?side1 ?side2 A18.out).mono ?_); (case side1 => repeat (first | exact (Kd.S_reads' HO393.out).2.2 | (with_reducible refine Kd.C_alloc ?_ _) | (with_reducible refine Kd.C_drewN ?_ _) | (with_reducible refine Kd.C_drew ?_))); (case side2 => exact (Kd.S_reads' HO393.out).2.1); rintro e w26 ⟨v395, rfl, ho0, hb⟩; refine ⟨_, rfl, ?_⟩; have n0_ := Aside0.mk (Kd.R_elder' (by (with_reducible repeat (first | apply Kd.R_alloc | apply Kd.R_drewN | apply Kd.R_drew)); exact HO381.out) (Kd.R_base ho0) hb); have n1_ := Aside0.mk (Kd.R_below (by (with_reducible repeat (first | apply Kd.R_alloc | apply Kd.R_drewN | apply Kd.R_drew)); exact HO384.out) hb); have n2_ := Aside0.mk (Kd.S_below (by (with_reducible repeat (first | apply Kd.S_alloc | apply Kd.S_drewN | apply Kd.S_drew)); exact HO387.out) hb); have n3_ := Aside0.mk (Kd.R_elder' (by (with_reducible repeat (first | apply Kd.R_alloc | apply Kd.R_drewN | apply Kd.R_drew)); exact HO390.out) (Kd.R_base ho0) hb); have n4_ := Aside0.mk (Kd.S_below (by (with_reducible repeat (first | apply Kd.S_alloc | apply Kd.S_drewN | apply Kd.S_drew)); exact HO393.out) hb); have n5_ := Aside0.mk (Kd.R_lower (Kd.R_new' (Kd.R_new' ho0 (Kd.R_lt (by (with_reducible repeat (first | apply Kd.R_alloc | apply Kd.R_drewN | apply Kd.R_drew)); exact HO381.out))) (Kd.R_lt (by (with_reducible repeat (first | apply Kd.R_alloc | apply Kd.R_drewN | apply Kd.R_drew)); exact HO390.out))) (below_size (by repeat (first | (with_reducible first | exact HB.out | apply below_alloc | apply pw_below_drewN | apply below_drew1) | exact HB.out)))); have n6_ := Aside0.mk (below_step (by repeat (first | (with_reducible first | exact HB.out | apply below_alloc | apply pw_below_drewN | apply below_drew1) | exact HB.out)) hb); clear HO381; clear HO384; clear HO387; clear HO390; clear HO393; clear HB; have HO381 := n0_; have HO384 := n1_; have HO387 := n2_; have HO390 := n3_; have HO393 := n4_; have HO396 := n5_; have HB := n6_; clear n0_ n1_ n2_ n3_ n4_ n5_ n6_; (try clear hb); (try clear hb2); (try clear hk); (try clear hi); (try clear ho0)))
    (try simp only [Act.put, za_, zb_, zc_])
    go_cut [86] (fun v86 wc => ∃ (kq : Nat) (x86_18 : Bool), v86 = .bool x86_18 ∧ Aside0 (bywashlaw11_SccLoops.j1 kq l0 a1 a2 t377 t379 t382 t385 t388 t394 x86_18 = some r) ∧ Aside0 (kq ≤ kj4) ∧ Aside0 (Kd.R Kd.bool 4 wc w.heap.size (fun k_ => some k_ ≠ (v389 : Value).ownBlock ∧ some k_ ≠ (v395 : Value).ownBlock) v380 t379) ∧ Aside0 (Kd.R (Kd.int .i64) 3 wc w.heap.size (fun _ => True) v383 t382) ∧ Aside0 (Kd.S (Kd.slice 3 (Kd.int .i64)) 32 wc w.heap.size (fun k_ => some k_ ≠ (v383 : Value).ownBlock) v386 t385) ∧ Aside0 (Kd.R Kd.bool 4 wc w.heap.size (fun k_ => some k_ ≠ (v380 : Value).ownBlock ∧ some k_ ≠ (v395 : Value).ownBlock) v389 t388) ∧ Aside0 (Kd.R Kd.bool 4 wc w.heap.size (fun k_ => some k_ ≠ (v380 : Value).ownBlock ∧ some k_ ≠ (v389 : Value).ownBlock) v395 t394) ∧ Aside0 (Below w.heap.size w wc))
    case first =>
     have H := HC19.out
     clear HC19
     by_cases c27 : (t379.length : Int) = (l0.length : Int)
     ·
      rw [if_pos c27] at H
      have c27b0 : ((t379.length : Int) == (l0.length : Int)) = true := beq_iff_eq.mpr c27
      have c27b1 : ((t379.length : Int) != (l0.length : Int)) = false := bne_eq_false_iff_eq.mpr c27
      have c27b2 : (t379.length == l0.length) = true := by first | simpa using c27 | (simp at c27 ⊢; omega)
      clear c27
      (first | rw [c27b0] | (simp only [i64_w, i32_w]; rw [c27b0]) | skip)
      by_cases c28 : (t382.length : Int) = (l0.length : Int)
      ·
       rw [if_pos c28] at H
       have c28b0 : ((t382.length : Int) == (l0.length : Int)) = true := beq_iff_eq.mpr c28
       have c28b1 : ((t382.length : Int) != (l0.length : Int)) = false := bne_eq_false_iff_eq.mpr c28
       have c28b2 : (t382.length == l0.length) = true := by first | simpa using c28 | (simp at c28 ⊢; omega)
       clear c28
       by_cases c29 : (t385.length : Int) = (l0.length : Int)
       ·
        rw [if_pos c29] at H
        have c29b0 : ((t385.length : Int) == (l0.length : Int)) = true := beq_iff_eq.mpr c29
        have c29b1 : ((t385.length : Int) != (l0.length : Int)) = false := bne_eq_false_iff_eq.mpr c29
        have c29b2 : (t385.length == l0.length) = true := by first | simpa using c29 | (simp at c29 ⊢; omega)
        clear c29
        by_cases c30 : (t388.length : Int) = (l0.length : Int)
        ·
         rw [if_pos c30] at H
         have c30b0 : ((t388.length : Int) == (l0.length : Int)) = true := beq_iff_eq.mpr c30
         have c30b1 : ((t388.length : Int) != (l0.length : Int)) = false := bne_eq_false_iff_eq.mpr c30
         have c30b2 : (t388.length == l0.length) = true := by first | simpa using c30 | (simp at c30 ⊢; omega)
         clear c30
         have H' := Aside0.mk H
         clear H
         obtain ⟨Ao31, co31, eo31⟩ := Kd.R_slice HO381.out
         subst eo31
         obtain ⟨Ao32, co32, eo32⟩ := Kd.R_slice HO384.out
         subst eo32
         obtain ⟨Ao33, co33, eo33⟩ := Kd.S_slice HO387.out
         subst eo33
         obtain ⟨Ao34, co34, eo34⟩ := Kd.R_slice HO390.out
         subst eo34
         obtain ⟨Ao35, co35, eo35⟩ := Kd.R_slice HO396.out
         subst eo35
         go_wp2
         go_meet
         case rel => exact ⟨_, (((t394.length : Int) != (l0.length : Int))), (by first | rfl | (simp; done) | (simp [*]; done)), H', ⟨by have := HJ4.out; first | omega | exact Nat.le_refl _⟩, ⟨by (with_reducible repeat (first | apply Kd.R_alloc | apply Kd.R_drewN | apply Kd.R_drew)); exact Kd.R_mono HO381.out (fun _ hk => ⟨hk.1.2, hk.2⟩)⟩, ⟨by (with_reducible repeat (first | apply Kd.R_alloc | apply Kd.R_drewN | apply Kd.R_drew)); exact HO384.out⟩, ⟨by (with_reducible repeat (first | apply Kd.S_alloc | apply Kd.S_drewN | apply Kd.S_drew)); exact Kd.S_mono HO387.out (fun _ hk => hk.1.2)⟩, ⟨by (with_reducible repeat (first | apply Kd.R_alloc | apply Kd.R_drewN | apply Kd.R_drew)); exact Kd.R_mono HO390.out (fun _ hk => ⟨hk.1.2, hk.2⟩)⟩, ⟨by (with_reducible repeat (first | apply Kd.R_alloc | apply Kd.R_drewN | apply Kd.R_drew)); exact Kd.R_mono HO396.out (fun _ hk => ⟨hk.1.2, hk.2⟩)⟩, ⟨by repeat (first | (with_reducible first | exact HB.out | apply below_alloc | apply pw_below_drewN | apply below_drew1) | exact HB.out)⟩⟩
        ·
         rw [if_neg c30] at H
         have c30b0 : ((t388.length : Int) == (l0.length : Int)) = false := beq_eq_false_iff_ne.mpr c30
         have c30b1 : ((t388.length : Int) != (l0.length : Int)) = true := bne_iff_ne.mpr c30
         have c30b2 : (t388.length == l0.length) = false := by first | simpa using c30 | (simp at c30 ⊢; omega)
         have H' := Aside0.mk H
         clear H
         obtain ⟨Ao36, co36, eo36⟩ := Kd.R_slice HO381.out
         subst eo36
         obtain ⟨Ao37, co37, eo37⟩ := Kd.R_slice HO384.out
         subst eo37
         obtain ⟨Ao38, co38, eo38⟩ := Kd.S_slice HO387.out
         subst eo38
         obtain ⟨Ao39, co39, eo39⟩ := Kd.R_slice HO390.out
         subst eo39
         go_wp2
         go_meet
         case rel => exact ⟨_, (true), (by first | rfl | (simp; done) | (simp [*]; done)), H', ⟨by have := HJ4.out; first | omega | exact Nat.le_refl _⟩, ⟨by (with_reducible repeat (first | apply Kd.R_alloc | apply Kd.R_drewN | apply Kd.R_drew)); exact Kd.R_mono HO381.out (fun _ hk => ⟨hk.1.2, hk.2⟩)⟩, ⟨by (with_reducible repeat (first | apply Kd.R_alloc | apply Kd.R_drewN | apply Kd.R_drew)); exact HO384.out⟩, ⟨by (with_reducible repeat (first | apply Kd.S_alloc | apply Kd.S_drewN | apply Kd.S_drew)); exact Kd.S_mono HO387.out (fun _ hk => hk.1.2)⟩, ⟨by (with_reducible repeat (first | apply Kd.R_alloc | apply Kd.R_drewN | apply Kd.R_drew)); exact Kd.R_mono HO390.out (fun _ hk => ⟨hk.1.2, hk.2⟩)⟩, ⟨by (with_reducible repeat (first | apply Kd.R_alloc | apply Kd.R_drewN | apply Kd.R_drew)); exact Kd.R_mono HO396.out (fun _ hk => ⟨hk.1.2, hk.2⟩)⟩, ⟨by repeat (first | (with_reducible first | exact HB.out | apply below_alloc | apply pw_below_drewN | apply below_drew1) | exact HB.out)⟩⟩
       ·
        rw [if_neg c29] at H
        have c29b0 : ((t385.length : Int) == (l0.length : Int)) = false := beq_eq_false_iff_ne.mpr c29
        have c29b1 : ((t385.length : Int) != (l0.length : Int)) = true := bne_iff_ne.mpr c29
        have c29b2 : (t385.length == l0.length) = false := by first | simpa using c29 | (simp at c29 ⊢; omega)
        have H' := Aside0.mk H
        clear H
        obtain ⟨Ao40, co40, eo40⟩ := Kd.R_slice HO381.out
        subst eo40
        obtain ⟨Ao41, co41, eo41⟩ := Kd.R_slice HO384.out
        subst eo41
        obtain ⟨Ao42, co42, eo42⟩ := Kd.S_slice HO387.out
        subst eo42
        go_wp2
        go_meet
        case rel => exact ⟨_, (true), (by first | rfl | (simp; done) | (simp [*]; done)), H', ⟨by have := HJ4.out; first | omega | exact Nat.le_refl _⟩, ⟨by (with_reducible repeat (first | apply Kd.R_alloc | apply Kd.R_drewN | apply Kd.R_drew)); exact Kd.R_mono HO381.out (fun _ hk => ⟨hk.1.2, hk.2⟩)⟩, ⟨by (with_reducible repeat (first | apply Kd.R_alloc | apply Kd.R_drewN | apply Kd.R_drew)); exact HO384.out⟩, ⟨by (with_reducible repeat (first | apply Kd.S_alloc | apply Kd.S_drewN | apply Kd.S_drew)); exact Kd.S_mono HO387.out (fun _ hk => hk.1.2)⟩, ⟨by (with_reducible repeat (first | apply Kd.R_alloc | apply Kd.R_drewN | apply Kd.R_drew)); exact Kd.R_mono HO390.out (fun _ hk => ⟨hk.1.2, hk.2⟩)⟩, ⟨by (with_reducible repeat (first | apply Kd.R_alloc | apply Kd.R_drewN | apply Kd.R_drew)); exact Kd.R_mono HO396.out (fun _ hk => ⟨hk.1.2, hk.2⟩)⟩, ⟨by repeat (first | (with_reducible first | exact HB.out | apply below_alloc | apply pw_below_drewN | apply below_drew1) | exact HB.out)⟩⟩
      ·
       rw [if_neg c28] at H
       have c28b0 : ((t382.length : Int) == (l0.length : Int)) = false := beq_eq_false_iff_ne.mpr c28
       have c28b1 : ((t382.length : Int) != (l0.length : Int)) = true := bne_iff_ne.mpr c28
       have c28b2 : (t382.length == l0.length) = false := by first | simpa using c28 | (simp at c28 ⊢; omega)
       have H' := Aside0.mk H
       clear H
       obtain ⟨Ao43, co43, eo43⟩ := Kd.R_slice HO381.out
       subst eo43
       obtain ⟨Ao44, co44, eo44⟩ := Kd.R_slice HO384.out
       subst eo44
       go_wp2
       go_meet
       case rel => exact ⟨_, (true), (by first | rfl | (simp; done) | (simp [*]; done)), H', ⟨by have := HJ4.out; first | omega | exact Nat.le_refl _⟩, ⟨by (with_reducible repeat (first | apply Kd.R_alloc | apply Kd.R_drewN | apply Kd.R_drew)); exact Kd.R_mono HO381.out (fun _ hk => ⟨hk.1.2, hk.2⟩)⟩, ⟨by (with_reducible repeat (first | apply Kd.R_alloc | apply Kd.R_drewN | apply Kd.R_drew)); exact HO384.out⟩, ⟨by (with_reducible repeat (first | apply Kd.S_alloc | apply Kd.S_drewN | apply Kd.S_drew)); exact Kd.S_mono HO387.out (fun _ hk => hk.1.2)⟩, ⟨by (with_reducible repeat (first | apply Kd.R_alloc | apply Kd.R_drewN | apply Kd.R_drew)); exact Kd.R_mono HO390.out (fun _ hk => ⟨hk.1.2, hk.2⟩)⟩, ⟨by (with_reducible repeat (first | apply Kd.R_alloc | apply Kd.R_drewN | apply Kd.R_drew)); exact Kd.R_mono HO396.out (fun _ hk => ⟨hk.1.2, hk.2⟩)⟩, ⟨by repeat (first | (with_reducible first | exact HB.out | apply below_alloc | apply pw_below_drewN | apply below_drew1) | exact HB.out)⟩⟩
     ·
      rw [if_neg c27] at H
      have c27b0 : ((t379.length : Int) == (l0.length : Int)) = false := beq_eq_false_iff_ne.mpr c27
      have c27b1 : ((t379.length : Int) != (l0.length : Int)) = true := bne_iff_ne.mpr c27
      have c27b2 : (t379.length == l0.length) = false := by first | simpa using c27 | (simp at c27 ⊢; omega)
      (first | rw [c27b0] | (simp only [i64_w, i32_w]; rw [c27b0]) | skip)
      have H' := Aside0.mk H
      clear H
      obtain ⟨Ao45, co45, eo45⟩ := Kd.R_slice HO381.out
      subst eo45
      go_wp2
      go_meet
      case rel => exact ⟨_, (true), (by first | rfl | (simp; done) | (simp [*]; done)), H', ⟨by have := HJ4.out; first | omega | exact Nat.le_refl _⟩, ⟨by (with_reducible repeat (first | apply Kd.R_alloc | apply Kd.R_drewN | apply Kd.R_drew)); exact Kd.R_mono HO381.out (fun _ hk => ⟨hk.1.2, hk.2⟩)⟩, ⟨by (with_reducible repeat (first | apply Kd.R_alloc | apply Kd.R_drewN | apply Kd.R_drew)); exact HO384.out⟩, ⟨by (with_reducible repeat (first | apply Kd.S_alloc | apply Kd.S_drewN | apply Kd.S_drew)); exact Kd.S_mono HO387.out (fun _ hk => hk.1.2)⟩, ⟨by (with_reducible repeat (first | apply Kd.R_alloc | apply Kd.R_drewN | apply Kd.R_drew)); exact Kd.R_mono HO390.out (fun _ hk => ⟨hk.1.2, hk.2⟩)⟩, ⟨by (with_reducible repeat (first | apply Kd.R_alloc | apply Kd.R_drewN | apply Kd.R_drew)); exact Kd.R_mono HO396.out (fun _ hk => ⟨hk.1.2, hk.2⟩)⟩, ⟨by repeat (first | (with_reducible first | exact HB.out | apply below_alloc | apply pw_below_drewN | apply below_drew1) | exact HB.out)⟩⟩
    case rest =>
     clear HC19
     try clear c1
     try clear c2
     try clear p2
     try clear c3
     try clear c4
     try clear c8
     try clear c9
     try clear c9b0
     try clear c10
     try clear c10b0
     try clear c11
     try clear c11b0
     try clear c12
     try clear c14
     try clear c16
     try clear c21
     try clear c26
     try clear c27
     try clear c27b0
     try clear c27b1
     try clear c27b2
     try clear c28
     try clear c28b0
     try clear c28b1
     try clear c28b2
     try clear c29
     try clear c29b0
     try clear c29b1
     try clear c29b2
     try clear c30
     try clear c30b0
     try clear c30b1
     try clear c30b2
     try clear c34
     try clear c35
     try clear c41
     try clear p2
     obtain ⟨kq, x86_18, rfl, HA, HJ18, HO_8, HO_9, HO_10, HO_11, HO_12, HB⟩ := hcut
     cases kq with
     | zero => exact absurd HA.out (by simp [bywashlaw11_SccLoops.j1])
     | succ kj18 =>
      have H := HA.out
      clear HA
      simp only [bywashlaw11_SccLoops.j1] at H
      by_cases c46 : x86_18 = true
      ·
       subst c46
       have H1 : (some false) = some r := by rw [if_pos rfl] at H; exact H
       clear H
       have H := H1
       exact absurd (Option.some.inj H) (by rw [HRT.out]; decide)
      ·
       replace c46 := Bool.eq_false_iff.mpr c46
       subst c46
       have H1 : (bywashlaw11_SccLoops.l0 kj18 l0 a1 a2 t377 t379 t382 t385 t388 t394 0 0) = some r := by rw [if_neg (show ¬ (false = true) by decide)] at H; exact H
       clear H
       have H := H1
       clear H1
       have H' := Aside0.mk H
       clear H
       go_wp2
       go_loopg [13, 14] kj18 (fun kq v13 v14 w' => ∃ (x13_3 : Int) (x14_3 : Int), v13 = .int .i64 x13_3 ∧ v14 = .int .i64 x14_3 ∧ Aside0 (bywashlaw11_SccLoops.l0 kq l0 a1 a2 t377 t379 t382 t385 t388 t394 x13_3 x14_3 = some r) ∧ Aside0 (kq ≤ kj18) ∧ Aside0 (Kd.R Kd.bool 4 w' w.heap.size (fun k_ => some k_ ≠ (v389 : Value).ownBlock ∧ some k_ ≠ (v395 : Value).ownBlock) v380 t379) ∧ Aside0 (Kd.R (Kd.int .i64) 3 w' w.heap.size (fun _ => True) v383 t382) ∧ Aside0 (Kd.S (Kd.slice 3 (Kd.int .i64)) 32 w' w.heap.size (fun k_ => some k_ ≠ (v383 : Value).ownBlock) v386 t385) ∧ Aside0 (Kd.R Kd.bool 4 w' w.heap.size (fun k_ => some k_ ≠ (v380 : Value).ownBlock ∧ some k_ ≠ (v395 : Value).ownBlock) v389 t388) ∧ Aside0 (Kd.R Kd.bool 4 w' w.heap.size (fun k_ => some k_ ≠ (v380 : Value).ownBlock ∧ some k_ ≠ (v389 : Value).ownBlock) v395 t394) ∧ Aside0 (Below w.heap.size w w'))
       case atStart => exact ⟨(0), (0), (by first | rfl | (simp; done) | (simp [*]; done)), (by first | rfl | (simp; done) | (simp [*]; done)), H', ⟨Nat.le_refl _⟩, ⟨by (with_reducible repeat (first | apply Kd.R_alloc | apply Kd.R_drewN | apply Kd.R_drew)); exact HO_8.out⟩, ⟨by (with_reducible repeat (first | apply Kd.R_alloc | apply Kd.R_drewN | apply Kd.R_drew)); exact HO_9.out⟩, ⟨by (with_reducible repeat (first | apply Kd.S_alloc | apply Kd.S_drewN | apply Kd.S_drew)); exact HO_10.out⟩, ⟨by (with_reducible repeat (first | apply Kd.R_alloc | apply Kd.R_drewN | apply Kd.R_drew)); exact HO_11.out⟩, ⟨by (with_reducible repeat (first | apply Kd.R_alloc | apply Kd.R_drewN | apply Kd.R_drew)); exact HO_12.out⟩, ⟨by repeat (first | (with_reducible first | exact HB.out | apply below_alloc | apply pw_below_drewN | apply below_drew1) | exact HB.out)⟩⟩
       case round =>
        clear H'
        try clear c1
        try clear c2
        try clear p2
        try clear c3
        try clear c4
        try clear c8
        try clear c9
        try clear c9b0
        try clear c10
        try clear c10b0
        try clear c11
        try clear c11b0
        try clear c12
        try clear c14
        try clear c16
        try clear c21
        try clear c26
        try clear c27
        try clear c27b0
        try clear c27b1
        try clear c27b2
        try clear c28
        try clear c28b0
        try clear c28b1
        try clear c28b2
        try clear c29
        try clear c29b0
        try clear c29b1
        try clear c29b2
        try clear c30
        try clear c30b0
        try clear c30b1
        try clear c30b2
        try clear c34
        try clear c35
        try clear c41
        try clear c46
        try clear p2
        obtain ⟨x13_3, x14_3, rfl, rfl, HA, HK3, HO_8, HO_9, HO_10, HO_11, HO_12, HB⟩ := hrel
        cases gk with
        | zero => exact absurd HA.out (by simp [bywashlaw11_SccLoops.l0])
        | succ k3 =>
         have H := HA.out
         clear HA
         simp only [bywashlaw11_SccLoops.l0] at H
         by_cases c47 : x14_3 < (l0.length : Int)
         ·
          rw [if_pos c47] at H
          have c47b0 : decide (x14_3 < (l0.length : Int)) = true := decide_eq_true c47
          clear c47
          by_cases c48 : 0 ≤ x14_3
          ·
           rw [if_pos c48] at H
           have c48b0 : decide (0 ≤ x14_3) = true := decide_eq_true c48
           clear c48
           by_cases c49 : x14_3 < (t382.length : Int)
           ·
            rw [if_pos c49] at H
            have c49b0 : decide (x14_3 < (t382.length : Int)) = true := decide_eq_true c49
            clear c49
            by_cases c50 : 0 ≤ a1
            ·
             rw [if_pos c50] at H
             have c50b0 : decide (0 ≤ a1) = true := decide_eq_true c50
             clear c50
             by_cases c51 : a1 < (t382.length : Int)
             ·
              rw [if_pos c51] at H
              have c51b0 : decide (a1 < (t382.length : Int)) = true := decide_eq_true c51
              clear c51
              by_cases c52 : (rd t382 x14_3) = (rd t382 a1)
              ·
               rw [if_pos c52] at H
               have c52b0 : ((rd t382 x14_3) == (rd t382 a1)) = true := beq_iff_eq.mpr c52
               have c52b1 : ((rd t382 x14_3) != (rd t382 a1)) = false := bne_eq_false_iff_eq.mpr c52
               clear c52
               have H' := Aside0.mk H
               clear H
               try go_wp2
               have n0_ := Aside0.mk (Kd.R_drew HO_8.out)
               have n1_ := Aside0.mk (Kd.R_drew HO_9.out)
               have n2_ := Aside0.mk (Kd.S_drew HO_10.out)
               have n3_ := Aside0.mk (Kd.R_drew HO_11.out)
               have n4_ := Aside0.mk (Kd.R_drew HO_12.out)
               have n5_ := Aside0.mk (below_drew1 HB.out)
               clear HO_8 HO_9 HO_10 HO_11 HO_12 HB
               have HO_8 := n0_
               have HO_9 := n1_
               have HO_10 := n2_
               have HO_11 := n3_
               have HO_12 := n4_
               have HB := n5_
               clear n0_ n1_ n2_ n3_ n4_ n5_
               obtain ⟨Ao54, co54, eo54⟩ := Kd.R_slice HO_9.out
               (first | subst eo54 | (injection eo54 with f1_ f2_ f3_; have f4_ := f1_.symm; have f5_ := f3_.symm; clear f1_ f2_ f3_; subst f4_; subst f5_))
               have p397 : 0 ≤ (x14_3 : Int) := of_decide_eq_true (by first | (with_reducible assumption) | assumption)
               have q397 : x14_3 < (t382.length : Int) := of_decide_eq_true (by first | (with_reducible assumption) | assumption)
               obtain ⟨ad397, e397, hx397_0⟩ := Kd.at_int (Kd.R_reads' HO_9.out).2.2 x14_3 p397 q397
               cases e397
               replace p397 := eq_true p397
               replace q397 := eq_true q397
               have p398 : 0 ≤ (a1 : Int) := of_decide_eq_true (by first | (with_reducible assumption) | assumption)
               have q398 : a1 < (t382.length : Int) := of_decide_eq_true (by first | (with_reducible assumption) | assumption)
               obtain ⟨ad398, e398, hx398_0⟩ := Kd.at_int (Kd.R_reads' HO_9.out).2.2 a1 p398 q398
               obtain rfl : ad397 = ad398 := (by injection e398)
               replace p398 := eq_true p398
               replace q398 := eq_true q398
               refine start_ (n := 9) (S := fun w' => w'.cell? (ad397.add (x14_3).toNat) = some (.int .i64 (rd t382 x14_3)) ∧ w'.cell? (ad397.add (a1).toNat) = some (.int .i64 (rd t382 a1))) (ds := []) (mm [(9, false)]) (by kernel_rfl) rfl rfl ⟨hx397_0, hx398_0⟩ (fun hHeld => ?_); refine with_tabW bywashlaw11_SccLoops.tab15 bywashlaw11_SccLoops.bits15 (fun HT_ HW_ => ?_)
               generalize wr.drew = w53 at HO_8 HO_9 HO_10 HO_11 HO_12 HB hx397_0 hx398_0 hHeld ⊢
               refine pure_ (i := 0) (N := some 93) (v := ?_) (a' := ?_) (mm [(1, true), (8, false)]) rfl rfl (any_of HT_.out (by kernel_rfl)) (fun _ _ _ h => h) (Or.inl ⟨by rfl, ?_⟩) ?_ ?_
               rotate_left
               ·
                intro w'
                go_simp
                with_reducible rfl
               rotate_left
               ·
                simp only [Act.put, za_, zb_, zc_, i64_w, i32_w]
                rfl
               refine pure_ (i := 1) (N := some 94) (v := ?_) (a' := ?_) (mm [(2, true), (7, false)]) rfl rfl (any_of HT_.out (by kernel_rfl)) (fun _ _ _ h => h) (Or.inl ⟨by rfl, ?_⟩) ?_ ?_
               rotate_left
               ·
                intro w'
                go_simp
                with_reducible rfl
               rotate_left
               ·
                simp only [Act.put, za_, zb_, zc_, i64_w, i32_w]
                rfl
               refine pure_ (i := 2) (N := some 95) (v := ?_) (a' := ?_) (mm [(3, true), (6, false)]) rfl rfl (any_of HT_.out (by kernel_rfl)) (fun _ _ _ h => h) (Or.inl ⟨by rfl, ?_⟩) ?_ ?_
               rotate_left
               ·
                intro w'
                go_simp
                with_reducible rfl
               rotate_left
               ·
                simp only [Act.put, za_, zb_, zc_, i64_w, i32_w]
                rfl
               refine pure_ (i := 4) (N := some 97) (v := ?_) (a' := ?_) (mm [(3, true), (1, false), (1, true), (4, false)]) rfl rfl (any_of HT_.out (by kernel_rfl)) (fun _ _ _ h => h) (Or.inl ⟨by rfl, ?_⟩) ?_ ?_
               rotate_left
               ·
                intro w'
                go_simp
                with_reducible rfl
               rotate_left
               ·
                simp only [Act.put, za_, zb_, zc_, i64_w, i32_w]
                rfl
               refine pure_ (i := 5) (N := some 98) (v := ?_) (a' := ?_) (mm [(3, true), (1, false), (2, true), (3, false)]) rfl rfl (any_of HT_.out (by kernel_rfl)) (fun _ _ _ h => h) (Or.inl ⟨by rfl, ?_⟩) ?_ ?_
               rotate_left
               ·
                intro w'
                go_simp
                with_reducible rfl
               rotate_left
               ·
                simp only [Act.put, za_, zb_, zc_, i64_w, i32_w]
                rfl
               refine pure_ (i := 6) (N := some 99) (v := ?_) (a' := ?_) (mm [(3, true), (1, false), (3, true), (2, false)]) rfl rfl (any_of HT_.out (by kernel_rfl)) (fun _ _ _ h => h) (Or.inl ⟨by rfl, ?_⟩) ?_ ?_
               rotate_left
               ·
                intro w'
                go_simp
                with_reducible rfl
               rotate_left
               ·
                simp only [Act.put, za_, zb_, zc_, i64_w, i32_w]
                rfl
               refine take_ (i := 3) (N := some 96) (v := ?_) (a' := ?_) (mm [(7, true), (2, false)]) rfl rfl (take_ofW HT_.out HW_.out (by kernel_rfl)) (fun _ _ _ h => h) (Or.inl ⟨by rfl, ?_⟩) hHeld ?_ ?_
               rotate_left
               ·
                rintro w' ⟨s0, s1⟩
                go_simp
                with_reducible rfl
               rotate_left
               ·
                simp only [Act.put, za_, zb_, zc_, i64_w, i32_w]
                rfl
               refine take_ (i := 7) (N := some 100) (v := ?_) (a' := ?_) (mm [(8, true), (1, false)]) rfl rfl (take_ofW HT_.out HW_.out (by kernel_rfl)) (fun _ _ _ h => h) (Or.inl ⟨by rfl, ?_⟩) hHeld ?_ ?_
               rotate_left
               ·
                rintro w' ⟨s0, s1⟩
                go_simp
                with_reducible rfl
               rotate_left
               ·
                simp only [Act.put, za_, zb_, zc_, i64_w, i32_w]
                rfl
               refine pure_ (i := 8) (N := some 101) (v := ?_) (a' := ?_) (mm [(9, true)]) rfl rfl (any_of HT_.out (by kernel_rfl)) (fun _ _ _ h => h) (Or.inl ⟨by rfl, ?_⟩) ?_ ?_
               rotate_left
               ·
                intro w'
                go_simp
                with_reducible rfl
               rotate_left
               ·
                simp only [Act.put, za_, zb_, zc_, i64_w, i32_w]
                rfl
               refine done_ (done_of HT_.out (by kernel_rfl)) ?_
               try go_wp2
               go_roundg k3
               case measure => have := HJ4.out; have := HJ18.out; have := HK3.out; omega
               case rel => exact ⟨(wrap64 (x13_3 + 1)), (wrap64 (x14_3 + 1)), (by first | rfl | (simp; done) | (simp [*]; done)), (by first | rfl | (simp; done) | (simp [*]; done)), H', ⟨by have := HJ4.out; have := HJ18.out; have := HK3.out; omega⟩, ⟨by (with_reducible repeat (first | apply Kd.R_alloc | apply Kd.R_drewN | apply Kd.R_drew)); exact HO_8.out⟩, ⟨by (with_reducible repeat (first | apply Kd.R_alloc | apply Kd.R_drewN | apply Kd.R_drew)); exact HO_9.out⟩, ⟨by (with_reducible repeat (first | apply Kd.S_alloc | apply Kd.S_drewN | apply Kd.S_drew)); exact HO_10.out⟩, ⟨by (with_reducible repeat (first | apply Kd.R_alloc | apply Kd.R_drewN | apply Kd.R_drew)); exact HO_11.out⟩, ⟨by (with_reducible repeat (first | apply Kd.R_alloc | apply Kd.R_drewN | apply Kd.R_drew)); exact HO_12.out⟩, ⟨by repeat (first | (with_reducible first | exact HB.out | apply below_alloc | apply pw_below_drewN | apply below_drew1) | exact HB.out)⟩⟩
              ·
               rw [if_neg c52] at H
               have c52b0 : ((rd t382 x14_3) == (rd t382 a1)) = false := beq_eq_false_iff_ne.mpr c52
               have c52b1 : ((rd t382 x14_3) != (rd t382 a1)) = true := bne_iff_ne.mpr c52
               have H' := Aside0.mk H
               clear H
               try go_wp2
               have n0_ := Aside0.mk (Kd.R_drew HO_8.out)
               have n1_ := Aside0.mk (Kd.R_drew HO_9.out)
               have n2_ := Aside0.mk (Kd.S_drew HO_10.out)
               have n3_ := Aside0.mk (Kd.R_drew HO_11.out)
               have n4_ := Aside0.mk (Kd.R_drew HO_12.out)
               have n5_ := Aside0.mk (below_drew1 HB.out)
               clear HO_8 HO_9 HO_10 HO_11 HO_12 HB
               have HO_8 := n0_
               have HO_9 := n1_
               have HO_10 := n2_
               have HO_11 := n3_
               have HO_12 := n4_
               have HB := n5_
               clear n0_ n1_ n2_ n3_ n4_ n5_
               obtain ⟨Ao56, co56, eo56⟩ := Kd.R_slice HO_9.out
               (first | subst eo56 | (injection eo56 with f1_ f2_ f3_; have f4_ := f1_.symm; have f5_ := f3_.symm; clear f1_ f2_ f3_; subst f4_; subst f5_))
               have p397 : 0 ≤ (x14_3 : Int) := of_decide_eq_true (by first | (with_reducible assumption) | assumption)
               have q397 : x14_3 < (t382.length : Int) := of_decide_eq_true (by first | (with_reducible assumption) | assumption)
               obtain ⟨ad397, e397, hx397_0⟩ := Kd.at_int (Kd.R_reads' HO_9.out).2.2 x14_3 p397 q397
               cases e397
               replace p397 := eq_true p397
               replace q397 := eq_true q397
               have p398 : 0 ≤ (a1 : Int) := of_decide_eq_true (by first | (with_reducible assumption) | assumption)
               have q398 : a1 < (t382.length : Int) := of_decide_eq_true (by first | (with_reducible assumption) | assumption)
               obtain ⟨ad398, e398, hx398_0⟩ := Kd.at_int (Kd.R_reads' HO_9.out).2.2 a1 p398 q398
               obtain rfl : ad397 = ad398 := (by injection e398)
               replace p398 := eq_true p398
               replace q398 := eq_true q398
               refine start_ (n := 9) (S := fun w' => w'.cell? (ad397.add (x14_3).toNat) = some (.int .i64 (rd t382 x14_3)) ∧ w'.cell? (ad397.add (a1).toNat) = some (.int .i64 (rd t382 a1))) (ds := []) (mm [(9, false)]) (by kernel_rfl) rfl rfl ⟨hx397_0, hx398_0⟩ (fun hHeld => ?_); refine with_tabW bywashlaw11_SccLoops.tab15 bywashlaw11_SccLoops.bits15 (fun HT_ HW_ => ?_)
               generalize wr.drew = w55 at HO_8 HO_9 HO_10 HO_11 HO_12 HB hx397_0 hx398_0 hHeld ⊢
               refine pure_ (i := 0) (N := some 93) (v := ?_) (a' := ?_) (mm [(1, true), (8, false)]) rfl rfl (any_of HT_.out (by kernel_rfl)) (fun _ _ _ h => h) (Or.inl ⟨by rfl, ?_⟩) ?_ ?_
               rotate_left
               ·
                intro w'
                go_simp
                with_reducible rfl
               rotate_left
               ·
                simp only [Act.put, za_, zb_, zc_, i64_w, i32_w]
                rfl
               refine pure_ (i := 1) (N := some 94) (v := ?_) (a' := ?_) (mm [(2, true), (7, false)]) rfl rfl (any_of HT_.out (by kernel_rfl)) (fun _ _ _ h => h) (Or.inl ⟨by rfl, ?_⟩) ?_ ?_
               rotate_left
               ·
                intro w'
                go_simp
                with_reducible rfl
               rotate_left
               ·
                simp only [Act.put, za_, zb_, zc_, i64_w, i32_w]
                rfl
               refine pure_ (i := 2) (N := some 95) (v := ?_) (a' := ?_) (mm [(3, true), (6, false)]) rfl rfl (any_of HT_.out (by kernel_rfl)) (fun _ _ _ h => h) (Or.inl ⟨by rfl, ?_⟩) ?_ ?_
               rotate_left
               ·
                intro w'
                go_simp
                with_reducible rfl
               rotate_left
               ·
                simp only [Act.put, za_, zb_, zc_, i64_w, i32_w]
                rfl
               refine pure_ (i := 4) (N := some 97) (v := ?_) (a' := ?_) (mm [(3, true), (1, false), (1, true), (4, false)]) rfl rfl (any_of HT_.out (by kernel_rfl)) (fun _ _ _ h => h) (Or.inl ⟨by rfl, ?_⟩) ?_ ?_
               rotate_left
               ·
                intro w'
                go_simp
                with_reducible rfl
               rotate_left
               ·
                simp only [Act.put, za_, zb_, zc_, i64_w, i32_w]
                rfl
               refine pure_ (i := 5) (N := some 98) (v := ?_) (a' := ?_) (mm [(3, true), (1, false), (2, true), (3, false)]) rfl rfl (any_of HT_.out (by kernel_rfl)) (fun _ _ _ h => h) (Or.inl ⟨by rfl, ?_⟩) ?_ ?_
               rotate_left
               ·
                intro w'
                go_simp
                with_reducible rfl
               rotate_left
               ·
                simp only [Act.put, za_, zb_, zc_, i64_w, i32_w]
                rfl
               refine pure_ (i := 6) (N := some 99) (v := ?_) (a' := ?_) (mm [(3, true), (1, false), (3, true), (2, false)]) rfl rfl (any_of HT_.out (by kernel_rfl)) (fun _ _ _ h => h) (Or.inl ⟨by rfl, ?_⟩) ?_ ?_
               rotate_left
               ·
                intro w'
                go_simp
                with_reducible rfl
               rotate_left
               ·
                simp only [Act.put, za_, zb_, zc_, i64_w, i32_w]
                rfl
               refine take_ (i := 3) (N := some 96) (v := ?_) (a' := ?_) (mm [(7, true), (2, false)]) rfl rfl (take_ofW HT_.out HW_.out (by kernel_rfl)) (fun _ _ _ h => h) (Or.inl ⟨by rfl, ?_⟩) hHeld ?_ ?_
               rotate_left
               ·
                rintro w' ⟨s0, s1⟩
                go_simp
                with_reducible rfl
               rotate_left
               ·
                simp only [Act.put, za_, zb_, zc_, i64_w, i32_w]
                rfl
               refine take_ (i := 7) (N := some 100) (v := ?_) (a' := ?_) (mm [(8, true), (1, false)]) rfl rfl (take_ofW HT_.out HW_.out (by kernel_rfl)) (fun _ _ _ h => h) (Or.inl ⟨by rfl, ?_⟩) hHeld ?_ ?_
               rotate_left
               ·
                rintro w' ⟨s0, s1⟩
                go_simp
                with_reducible rfl
               rotate_left
               ·
                simp only [Act.put, za_, zb_, zc_, i64_w, i32_w]
                rfl
               refine pure_ (i := 8) (N := some 101) (v := ?_) (a' := ?_) (mm [(9, true)]) rfl rfl (any_of HT_.out (by kernel_rfl)) (fun _ _ _ h => h) (Or.inl ⟨by rfl, ?_⟩) ?_ ?_
               rotate_left
               ·
                intro w'
                go_simp
                with_reducible rfl
               rotate_left
               ·
                simp only [Act.put, za_, zb_, zc_, i64_w, i32_w]
                rfl
               refine done_ (done_of HT_.out (by kernel_rfl)) ?_
               try go_wp2
               go_roundg k3
               case measure => have := HJ4.out; have := HJ18.out; have := HK3.out; omega
               case rel => exact ⟨(x13_3), (wrap64 (x14_3 + 1)), (by first | rfl | (simp; done) | (simp [*]; done)), (by first | rfl | (simp; done) | (simp [*]; done)), H', ⟨by have := HJ4.out; have := HJ18.out; have := HK3.out; omega⟩, ⟨by (with_reducible repeat (first | apply Kd.R_alloc | apply Kd.R_drewN | apply Kd.R_drew)); exact HO_8.out⟩, ⟨by (with_reducible repeat (first | apply Kd.R_alloc | apply Kd.R_drewN | apply Kd.R_drew)); exact HO_9.out⟩, ⟨by (with_reducible repeat (first | apply Kd.S_alloc | apply Kd.S_drewN | apply Kd.S_drew)); exact HO_10.out⟩, ⟨by (with_reducible repeat (first | apply Kd.R_alloc | apply Kd.R_drewN | apply Kd.R_drew)); exact HO_11.out⟩, ⟨by (with_reducible repeat (first | apply Kd.R_alloc | apply Kd.R_drewN | apply Kd.R_drew)); exact HO_12.out⟩, ⟨by repeat (first | (with_reducible first | exact HB.out | apply below_alloc | apply pw_below_drewN | apply below_drew1) | exact HB.out)⟩⟩
             ·
              rw [if_neg c51] at H
              exact absurd H (by simp)
            ·
             rw [if_neg c50] at H
             exact absurd H (by simp)
           ·
            rw [if_neg c49] at H
            exact absurd H (by simp)
          ·
           rw [if_neg c48] at H
           exact absurd H (by simp)
         ·
          rw [if_neg c47] at H
          have c47b0 : decide (x14_3 < (l0.length : Int)) = false := decide_eq_false c47
          clear c47
          by_cases c57 : t377 = true
          ·
           subst c57
           have H1 : (if 0 ≤ a1 then (if a1 < (t379.length : Int) then (if x13_3 > 1 then (if ((rdOf false t379 a1) == true) = true then ((graph_Path.f l0 a1 a1).bind fun t401 => (if ((rdOf false t379 a1) == t401) = true then (if 0 ≤ a2 then (if a2 < (t388.length : Int) then (if rdOf false t388 a2 = true then (if a1 < (t394.length : Int) then (if rdOf false t394 a1 = true then (if a2 < (t394.length : Int) then (some (rdOf false t394 a2)) else (none)) else (some false)) else (none)) else (some true)) else (none)) else (none)) else (some false))) else (some false)) else (if a1 < (t385.length : Int) then ((bywashref10_Has.f k3 (rd_L1 t385 a1) a1).bind fun t406 => (if ((rdOf false t379 a1) == t406) = true then ((graph_Path.f l0 a1 a1).bind fun t408 => (if ((rdOf false t379 a1) == t408) = true then (if 0 ≤ a2 then (if a2 < (t388.length : Int) then (if rdOf false t388 a2 = true then (if a1 < (t394.length : Int) then (if rdOf false t394 a1 = true then (if a2 < (t394.length : Int) then (some (rdOf false t394 a2)) else (none)) else (some false)) else (none)) else (some true)) else (none)) else (none)) else (some false))) else (some false))) else (none))) else (none)) else (none)) = some r := by rw [if_pos rfl] at H; exact H
           clear H
           have H := H1
           clear H1
           by_cases c58 : 0 ≤ a1
           ·
            rw [if_pos c58] at H
            have c58b0 : decide (0 ≤ a1) = true := decide_eq_true c58
            clear c58
            by_cases c59 : a1 < (t379.length : Int)
            ·
             rw [if_pos c59] at H
             have c59b0 : decide (a1 < (t379.length : Int)) = true := decide_eq_true c59
             clear c59
             by_cases c60 : x13_3 > 1
             ·
              rw [if_pos c60] at H
              have c60b0 : decide (1 < x13_3) = true := decide_eq_true c60
              clear c60
              by_cases c61 : ((rdOf false t379 a1) == true) = true
              ·
               rw [if_pos c61] at H
               have c61b0 : ((rdOf false t379 a1) == true) = true := c61
               (try (have c61b1 : decide ((rdOf false t379 a1) = true) = true := by simpa using c61))
               (try (have c61b2 : ((rdOf false t379 a1) == true) = true := by simpa using c61))
               clear c61
               replace H := Option.bind_eq_some_iff.mp H
               obtain ⟨t401, A620, H⟩ := H
               replace H : (if ((rdOf false t379 a1) == t401) = true then (if 0 ≤ a2 then (if a2 < (t388.length : Int) then (if rdOf false t388 a2 = true then (if a1 < (t394.length : Int) then (if rdOf false t394 a1 = true then (if a2 < (t394.length : Int) then (some (rdOf false t394 a2)) else (none)) else (some false)) else (none)) else (some true)) else (none)) else (none)) else (some false)) = some r := H
               have A62 := Aside0.mk A620
               clear A620
               by_cases c63 : ((rdOf false t379 a1) == t401) = true
               ·
                rw [if_pos c63] at H
                have c63b0 : ((rdOf false t379 a1) == t401) = true := c63
                (try (have c63b1 : decide ((rdOf false t379 a1) = t401) = true := by simpa using c63))
                (try (have c63b2 : ((rdOf false t379 a1) == t401) = true := by simpa using c63))
                clear c63
                by_cases c64 : 0 ≤ a2
                ·
                 rw [if_pos c64] at H
                 have c64b0 : decide (0 ≤ a2) = true := decide_eq_true c64
                 clear c64
                 by_cases c65 : a2 < (t388.length : Int)
                 ·
                  rw [if_pos c65] at H
                  have c65b0 : decide (a2 < (t388.length : Int)) = true := decide_eq_true c65
                  clear c65
                  obtain ⟨bq66, hbq66⟩ : ∃ b_ : Bool, b_ = (rdOf false t388 a2) := ⟨_, rfl⟩
                  replace H : (if bq66 = true then (if a1 < (t394.length : Int) then (if rdOf false t394 a1 = true then (if a2 < (t394.length : Int) then (some (rdOf false t394 a2)) else (none)) else (some false)) else (none)) else (some true)) = some r := by rw [← hbq66] at H; exact H
                  have Nbq66 := Aside0.mk hbq66
                  clear hbq66
                  by_cases c67 : bq66 = true
                  ·
                   subst c67
                   have H1 : (if a1 < (t394.length : Int) then (if rdOf false t394 a1 = true then (if a2 < (t394.length : Int) then (some (rdOf false t394 a2)) else (none)) else (some false)) else (none)) = some r := by rw [if_pos rfl] at H; exact H
                   clear H
                   have H := H1
                   clear H1
                   by_cases c68 : a1 < (t394.length : Int)
                   ·
                    rw [if_pos c68] at H
                    have c68b0 : decide (a1 < (t394.length : Int)) = true := decide_eq_true c68
                    clear c68
                    obtain ⟨bq69, hbq69⟩ : ∃ b_ : Bool, b_ = (rdOf false t394 a1) := ⟨_, rfl⟩
                    replace H : (if bq69 = true then (if a2 < (t394.length : Int) then (some (rdOf false t394 a2)) else (none)) else (some false)) = some r := by rw [← hbq69] at H; exact H
                    have Nbq69 := Aside0.mk hbq69
                    clear hbq69
                    by_cases c70 : bq69 = true
                    ·
                     subst c70
                     have H1 : (if a2 < (t394.length : Int) then (some (rdOf false t394 a2)) else (none)) = some r := by rw [if_pos rfl] at H; exact H
                     clear H
                     have H := H1
                     clear H1
                     by_cases c71 : a2 < (t394.length : Int)
                     ·
                      rw [if_pos c71] at H
                      have c71b0 : decide (a2 < (t394.length : Int)) = true := decide_eq_true c71
                      clear c71
                      obtain rfl := Option.some.inj H
                      try go_wp2
                      have n0_ := Aside0.mk (Kd.R_drew HO_8.out)
                      have n1_ := Aside0.mk (Kd.R_drew HO_9.out)
                      have n2_ := Aside0.mk (Kd.S_drew HO_10.out)
                      have n3_ := Aside0.mk (Kd.R_drew HO_11.out)
                      have n4_ := Aside0.mk (Kd.R_drew HO_12.out)
                      have n5_ := Aside0.mk (below_drew1 HB.out)
                      clear HO_8 HO_9 HO_10 HO_11 HO_12 HB
                      have HO_8 := n0_
                      have HO_9 := n1_
                      have HO_10 := n2_
                      have HO_11 := n3_
                      have HO_12 := n4_
                      have HB := n5_
                      clear n0_ n1_ n2_ n3_ n4_ n5_
                      obtain ⟨Ao73, co73, eo73⟩ := Kd.R_slice HO_8.out
                      (first | subst eo73 | (injection eo73 with f1_ f2_ f3_; have f4_ := f1_.symm; have f5_ := f3_.symm; clear f1_ f2_ f3_; subst f4_; subst f5_))
                      have p399 : 0 ≤ (a1 : Int) := of_decide_eq_true (by first | (with_reducible assumption) | assumption)
                      have q399 : a1 < (t379.length : Int) := of_decide_eq_true (by first | (with_reducible assumption) | assumption)
                      obtain ⟨ad399, e399, hx399_0⟩ := Kd.at_bool (Kd.R_reads' HO_8.out).2.2 a1 p399 q399
                      (try rw [← Nbq66.out] at hx399_0)
                      (try rw [← Nbq69.out] at hx399_0)
                      cases e399
                      replace p399 := eq_true p399
                      replace q399 := eq_true q399
                      have p400 : 0 ≤ (a1 : Int) := of_decide_eq_true (by first | (with_reducible assumption) | assumption)
                      have q400 : a1 < (t379.length : Int) := of_decide_eq_true (by first | (with_reducible assumption) | assumption)
                      obtain ⟨ad400, e400, hx400_0⟩ := Kd.at_bool (Kd.R_reads' HO_8.out).2.2 a1 p400 q400
                      (try rw [← Nbq66.out] at hx400_0)
                      (try rw [← Nbq69.out] at hx400_0)
                      obtain rfl : ad399 = ad400 := (by injection e400)
                      replace p400 := eq_true p400
                      replace q400 := eq_true q400
                      (try (obtain ⟨Az402, cz402, ez402⟩ := Kd.R_slice HO_11.out; subst ez402))
                      have p402 : 0 ≤ (a2 : Int) := of_decide_eq_true (by first | (with_reducible assumption) | assumption)
                      have q402 : a2 < (t388.length : Int) := of_decide_eq_true (by first | (with_reducible assumption) | assumption)
                      obtain ⟨ad402, e402, hx402_0⟩ := Kd.at_bool (Kd.R_reads' HO_11.out).2.2 a2 p402 q402
                      (try rw [← Nbq66.out] at hx402_0)
                      (try rw [← Nbq69.out] at hx402_0)
                      cases e402
                      replace p402 := eq_true p402
                      replace q402 := eq_true q402
                      (try (obtain ⟨Az403, cz403, ez403⟩ := Kd.R_slice HO_12.out; subst ez403))
                      have p403 : 0 ≤ (a1 : Int) := of_decide_eq_true (by first | (with_reducible assumption) | assumption)
                      have q403 : a1 < (t394.length : Int) := of_decide_eq_true (by first | (with_reducible assumption) | assumption)
                      obtain ⟨ad403, e403, hx403_0⟩ := Kd.at_bool (Kd.R_reads' HO_12.out).2.2 a1 p403 q403
                      (try rw [← Nbq66.out] at hx403_0)
                      (try rw [← Nbq69.out] at hx403_0)
                      cases e403
                      replace p403 := eq_true p403
                      replace q403 := eq_true q403
                      (try (obtain ⟨Az404, cz404, ez404⟩ := Kd.R_slice HO_12.out; subst ez404))
                      have p404 : 0 ≤ (a2 : Int) := of_decide_eq_true (by first | (with_reducible assumption) | assumption)
                      have q404 : a2 < (t394.length : Int) := of_decide_eq_true (by first | (with_reducible assumption) | assumption)
                      obtain ⟨ad404, e404, hx404_0⟩ := Kd.at_bool (Kd.R_reads' HO_12.out).2.2 a2 p404 q404
                      (try rw [← Nbq66.out] at hx404_0)
                      (try rw [← Nbq69.out] at hx404_0)
                      obtain rfl : ad403 = ad404 := (by injection e404)
                      replace p404 := eq_true p404
                      replace q404 := eq_true q404
                      refine start_ (n := 49) (S := fun w' => w'.cell? (ad399.add (a1).toNat) = some (.bool (rdOf false t379 a1)) ∧ w'.cell? (ad399.add (a1).toNat) = some (.bool (rdOf false t379 a1)) ∧ w'.cell? (ad402.add (a2).toNat) = some (.bool true) ∧ w'.cell? (ad403.add (a1).toNat) = some (.bool true) ∧ w'.cell? (ad403.add (a2).toNat) = some (.bool (rdOf false t394 a2))) (ds := []) (mm [(49, false)]) (by kernel_rfl) rfl rfl ⟨hx399_0, hx400_0, hx402_0, hx403_0, hx404_0⟩ (fun hHeld => ?_); refine with_tabW bywashlaw11_SccLoops.tab17 bywashlaw11_SccLoops.bits17 (fun HT_ HW_ => ?_)
                      generalize wr.drew = w72 at HO_8 HO_9 HO_10 HO_11 HO_12 HB hx399_0 hx400_0 hx402_0 hx403_0 hx404_0 hHeld ⊢
                      refine pure_ (i := 0) (N := some 104) (v := ?_) (a' := ?_) (mm [(1, true), (48, false)]) rfl rfl (any_of HT_.out (by kernel_rfl)) (fun _ _ _ h => h) (Or.inl ⟨by rfl, ?_⟩) ?_ ?_
                      rotate_left
                      ·
                       intro w'
                       go_simp
                       with_reducible rfl
                      rotate_left
                      ·
                       simp only [Act.put, za_, zb_, zc_, i64_w, i32_w]
                       rfl
                      refine pure_ (i := 1) (N := some 105) (v := ?_) (a' := ?_) (mm [(2, true), (47, false)]) rfl rfl (any_of HT_.out (by kernel_rfl)) (fun _ _ _ h => h) (Or.inl ⟨by rfl, ?_⟩) ?_ ?_
                      rotate_left
                      ·
                       intro w'
                       go_simp
                       with_reducible rfl
                      rotate_left
                      ·
                       simp only [Act.put, za_, zb_, zc_, i64_w, i32_w]
                       rfl
                      refine pure_ (i := 2) (N := some 106) (v := ?_) (a' := ?_) (mm [(3, true), (46, false)]) rfl rfl (any_of HT_.out (by kernel_rfl)) (fun _ _ _ h => h) (Or.inl ⟨by rfl, ?_⟩) ?_ ?_
                      rotate_left
                      ·
                       intro w'
                       go_simp
                       with_reducible rfl
                      rotate_left
                      ·
                       simp only [Act.put, za_, zb_, zc_, i64_w, i32_w]
                       rfl
                      refine pure_ (i := 3) (N := some 107) (v := ?_) (a' := ?_) (mm [(4, true), (45, false)]) rfl rfl (any_of HT_.out (by kernel_rfl)) (fun _ _ _ h => h) (Or.inl ⟨by rfl, ?_⟩) ?_ ?_
                      rotate_left
                      ·
                       intro w'
                       go_simp
                       with_reducible rfl
                      rotate_left
                      ·
                       simp only [Act.put, za_, zb_, zc_, i64_w, i32_w]
                       rfl
                      refine pure_ (i := 4) (N := some 108) (v := ?_) (a' := ?_) (mm [(5, true), (44, false)]) rfl rfl (any_of HT_.out (by kernel_rfl)) (fun _ _ _ h => h) (Or.inl ⟨by rfl, ?_⟩) ?_ ?_
                      rotate_left
                      ·
                       intro w'
                       go_simp
                       with_reducible rfl
                      rotate_left
                      ·
                       simp only [Act.put, za_, zb_, zc_, i64_w, i32_w]
                       rfl
                      refine pure_ (i := 6) (N := some 110) (v := ?_) (a' := ?_) (mm [(5, true), (1, false), (1, true), (42, false)]) rfl rfl (any_of HT_.out (by kernel_rfl)) (fun _ _ _ h => h) (Or.inl ⟨by rfl, ?_⟩) ?_ ?_
                      rotate_left
                      ·
                       intro w'
                       go_simp
                       with_reducible rfl
                      rotate_left
                      ·
                       simp only [Act.put, za_, zb_, zc_, i64_w, i32_w]
                       rfl
                      refine pure_ (i := 7) (N := some 111) (v := ?_) (a' := ?_) (mm [(5, true), (1, false), (2, true), (41, false)]) rfl rfl (any_of HT_.out (by kernel_rfl)) (fun _ _ _ h => h) (Or.inl ⟨by rfl, ?_⟩) ?_ ?_
                      rotate_left
                      ·
                       intro w'
                       go_simp
                       with_reducible rfl
                      rotate_left
                      ·
                       simp only [Act.put, za_, zb_, zc_, i64_w, i32_w]
                       rfl
                      refine pure_ (i := 8) (N := some 112) (v := ?_) (a' := ?_) (mm [(5, true), (1, false), (3, true), (40, false)]) rfl rfl (any_of HT_.out (by kernel_rfl)) (fun _ _ _ h => h) (Or.inl ⟨by rfl, ?_⟩) ?_ ?_
                      rotate_left
                      ·
                       intro w'
                       go_simp
                       with_reducible rfl
                      rotate_left
                      ·
                       simp only [Act.put, za_, zb_, zc_, i64_w, i32_w]
                       rfl
                      refine pure_ (i := 9) (N := some 113) (v := undef) (a' := ?_) (mm [(5, true), (1, false), (4, true), (39, false)]) rfl rfl (any_of HT_.out (by kernel_rfl)) (fun _ _ _ h => h) (Or.inr ⟨by rfl, rfl⟩) ?_ ?_
                      rotate_left
                      ·
                       simp only [Act.put, za_, zb_, zc_, i64_w, i32_w]
                       rfl
                      refine pure_ (i := 10) (N := some 114) (v := undef) (a' := ?_) (mm [(5, true), (1, false), (5, true), (38, false)]) rfl rfl (any_of HT_.out (by kernel_rfl)) (fun _ _ _ h => h) (Or.inr ⟨by rfl, rfl⟩) ?_ ?_
                      rotate_left
                      ·
                       simp only [Act.put, za_, zb_, zc_, i64_w, i32_w]
                       rfl
                      refine pure_ (i := 11) (N := some 115) (v := undef) (a' := ?_) (mm [(5, true), (1, false), (6, true), (37, false)]) rfl rfl (any_of HT_.out (by kernel_rfl)) (fun _ _ _ h => h) (Or.inr ⟨by rfl, rfl⟩) ?_ ?_
                      rotate_left
                      ·
                       simp only [Act.put, za_, zb_, zc_, i64_w, i32_w]
                       rfl
                      refine pure_ (i := 12) (N := some 116) (v := undef) (a' := ?_) (mm [(5, true), (1, false), (7, true), (36, false)]) rfl rfl (any_of HT_.out (by kernel_rfl)) (fun _ _ _ h => h) (Or.inr ⟨by rfl, rfl⟩) ?_ ?_
                      rotate_left
                      ·
                       simp only [Act.put, za_, zb_, zc_, i64_w, i32_w]
                       rfl
                      refine pure_ (i := 13) (N := some 117) (v := undef) (a' := ?_) (mm [(5, true), (1, false), (8, true), (35, false)]) rfl rfl (any_of HT_.out (by kernel_rfl)) (fun _ _ _ h => h) (Or.inr ⟨by rfl, rfl⟩) ?_ ?_
                      rotate_left
                      ·
                       simp only [Act.put, za_, zb_, zc_, i64_w, i32_w]
                       rfl
                      refine pure_ (i := 14) (N := some 118) (v := undef) (a' := ?_) (mm [(5, true), (1, false), (9, true), (34, false)]) rfl rfl (any_of HT_.out (by kernel_rfl)) (fun _ _ _ h => h) (Or.inr ⟨by rfl, rfl⟩) ?_ ?_
                      rotate_left
                      ·
                       simp only [Act.put, za_, zb_, zc_, i64_w, i32_w]
                       rfl
                      refine pure_ (i := 15) (N := some 119) (v := ?_) (a' := ?_) (mm [(5, true), (1, false), (10, true), (33, false)]) rfl rfl (any_of HT_.out (by kernel_rfl)) (fun _ _ _ h => h) (Or.inl ⟨by rfl, ?_⟩) ?_ ?_
                      rotate_left
                      ·
                       intro w'
                       go_simp
                       with_reducible rfl
                      rotate_left
                      ·
                       simp only [Act.put, za_, zb_, zc_, i64_w, i32_w]
                       rfl
                      refine take_ (i := 5) (N := some 109) (v := ?_) (a' := ?_) (mm [(16, true), (33, false)]) rfl rfl (take_ofW HT_.out HW_.out (by kernel_rfl)) (fun _ _ _ h => h) (Or.inl ⟨by rfl, ?_⟩) hHeld ?_ ?_
                      rotate_left
                      ·
                       rintro w' ⟨s0, s1, s2, s3, s4⟩
                       go_simp
                       with_reducible rfl
                      rotate_left
                      ·
                       simp only [Act.put, za_, zb_, zc_, i64_w, i32_w]
                       rfl
                      refine pure_ (i := 16) (N := some 120) (v := ?_) (a' := ?_) (mm [(17, true), (32, false)]) rfl rfl (any_of HT_.out (by kernel_rfl)) (fun _ _ _ h => h) (Or.inl ⟨by rfl, ?_⟩) ?_ ?_
                      rotate_left
                      ·
                       intro w'
                       go_simp
                       with_reducible rfl
                      rotate_left
                      ·
                       simp only [Act.put, za_, zb_, zc_, i64_w, i32_w]
                       rfl
                      refine pure_ (i := 17) (N := some 121) (v := ?_) (a' := ?_) (mm [(18, true), (31, false)]) rfl rfl (any_of HT_.out (by kernel_rfl)) (fun _ _ _ h => h) (Or.inl ⟨by rfl, ?_⟩) ?_ ?_
                      rotate_left
                      ·
                       intro w'
                       go_simp
                       with_reducible rfl
                      rotate_left
                      ·
                       simp only [Act.put, za_, zb_, zc_, i64_w, i32_w]
                       rfl
                      refine pure_ (i := 18) (N := some 122) (v := ?_) (a' := ?_) (mm [(19, true), (30, false)]) rfl rfl (any_of HT_.out (by kernel_rfl)) (fun _ _ _ h => h) (Or.inl ⟨by rfl, ?_⟩) ?_ ?_
                      rotate_left
                      ·
                       intro w'
                       go_simp
                       with_reducible rfl
                      rotate_left
                      ·
                       simp only [Act.put, za_, zb_, zc_, i64_w, i32_w]
                       rfl
                      refine pure_ (i := 19) (N := some 123) (v := ?_) (a' := ?_) (mm [(20, true), (29, false)]) rfl rfl (any_of HT_.out (by kernel_rfl)) (fun _ _ _ h => h) (Or.inl ⟨by rfl, ?_⟩) ?_ ?_
                      rotate_left
                      ·
                       intro w'
                       go_simp
                       with_reducible rfl
                      rotate_left
                      ·
                       simp only [Act.put, za_, zb_, zc_, i64_w, i32_w]
                       rfl
                      refine pure_ (i := 20) (N := some 124) (v := ?_) (a' := ?_) (mm [(21, true), (28, false)]) rfl rfl (any_of HT_.out (by kernel_rfl)) (fun _ _ _ h => h) (Or.inl ⟨by rfl, ?_⟩) ?_ ?_
                      rotate_left
                      ·
                       intro w'
                       go_simp
                       with_reducible rfl
                      rotate_left
                      ·
                       simp only [Act.put, za_, zb_, zc_, i64_w, i32_w]
                       rfl
                      refine pure_ (i := 21) (N := some 125) (v := ?_) (a' := ?_) (mm [(22, true), (27, false)]) rfl rfl (any_of HT_.out (by kernel_rfl)) (fun _ _ _ h => h) (Or.inl ⟨by rfl, ?_⟩) ?_ ?_
                      rotate_left
                      ·
                       intro w'
                       go_simp
                       with_reducible rfl
                      rotate_left
                      ·
                       simp only [Act.put, za_, zb_, zc_, i64_w, i32_w]
                       rfl
                      refine pure_ (i := 23) (N := some 127) (v := ?_) (a' := ?_) (mm [(22, true), (1, false), (1, true), (25, false)]) rfl rfl (any_of HT_.out (by kernel_rfl)) (fun _ _ _ h => h) (Or.inl ⟨by rfl, ?_⟩) ?_ ?_
                      rotate_left
                      ·
                       intro w'
                       go_simp
                       with_reducible rfl
                      rotate_left
                      ·
                       simp only [Act.put, za_, zb_, zc_, i64_w, i32_w]
                       rfl
                      refine pure_ (i := 24) (N := some 128) (v := ?_) (a' := ?_) (mm [(22, true), (1, false), (2, true), (24, false)]) rfl rfl (any_of HT_.out (by kernel_rfl)) (fun _ _ _ h => h) (Or.inl ⟨by rfl, ?_⟩) ?_ ?_
                      rotate_left
                      ·
                       intro w'
                       go_simp
                       with_reducible rfl
                      rotate_left
                      ·
                       simp only [Act.put, za_, zb_, zc_, i64_w, i32_w]
                       rfl
                      refine pure_ (i := 25) (N := some 129) (v := ?_) (a' := ?_) (mm [(22, true), (1, false), (3, true), (23, false)]) rfl rfl (any_of HT_.out (by kernel_rfl)) (fun _ _ _ h => h) (Or.inl ⟨by rfl, ?_⟩) ?_ ?_
                      rotate_left
                      ·
                       intro w'
                       go_simp
                       with_reducible rfl
                      rotate_left
                      ·
                       simp only [Act.put, za_, zb_, zc_, i64_w, i32_w]
                       rfl
                      refine take_ (i := 22) (N := some 126) (v := ?_) (a' := ?_) (mm [(26, true), (23, false)]) rfl rfl (take_ofW HT_.out HW_.out (by kernel_rfl)) (fun _ _ _ h => h) (Or.inl ⟨by rfl, ?_⟩) hHeld ?_ ?_
                      rotate_left
                      ·
                       rintro w' ⟨s0, s1, s2, s3, s4⟩
                       go_simp
                       with_reducible rfl
                      rotate_left
                      ·
                       simp only [Act.put, za_, zb_, zc_, i64_w, i32_w]
                       rfl
                      refine one_ (i := 26) (N := some 130) (mm [(27, true), (22, false)]) rfl rfl (one_of HT_.out (by kernel_rfl)) (by decide) (fun K hK => ?_)
                      refine goes_ Try.func30 (by kernel_rfl) rfl #[.slice A0 l0.length c0, .int .i64 a1, .int .i64 a1] (by rfl) rfl rfl (by (try simp only [List.map_toArray, List.map_cons, List.map_nil]); first | done | rfl | (simp only [List.length_drop, List.length_take]; rfl)) ?_
                      with_reducible refine (graph_Path.calls _ _ l0 a1 a1 t401 _ ?side1 ?side2 A62.out).mono ?_
                      (case side1 => repeat (first | exact (Kd.C_below HR0.out HB.out) | (with_reducible refine Kd.C_alloc ?_ _) | (with_reducible refine Kd.C_drewN ?_ _) | (with_reducible refine Kd.C_drew ?_)))
                      (case side2 => exact HC0.out)
                      rintro e w74 ⟨rfl, hb⟩
                      have HS0_ := (hb.cell (World.block_lt_of_cell? _ _ (hHeld.1))).trans (hHeld.1)
                      have HS1_ := (hb.cell (World.block_lt_of_cell? _ _ (hHeld.2.1))).trans (hHeld.2.1)
                      have HS2_ := (hb.cell (World.block_lt_of_cell? _ _ (hHeld.2.2.1))).trans (hHeld.2.2.1)
                      have HS3_ := (hb.cell (World.block_lt_of_cell? _ _ (hHeld.2.2.2.1))).trans (hHeld.2.2.2.1)
                      have HS4_ := (hb.cell (World.block_lt_of_cell? _ _ (hHeld.2.2.2.2))).trans (hHeld.2.2.2.2)
                      refine ⟨_, rfl, ?_⟩
                      have n0_ := Aside0.mk (Kd.R_below (by (with_reducible repeat (first | apply Kd.R_alloc | apply Kd.R_drewN | apply Kd.R_drew)); exact HO_8.out) hb)
                      have n1_ := Aside0.mk (Kd.R_below (by (with_reducible repeat (first | apply Kd.R_alloc | apply Kd.R_drewN | apply Kd.R_drew)); exact HO_9.out) hb)
                      have n2_ := Aside0.mk (Kd.S_below (by (with_reducible repeat (first | apply Kd.S_alloc | apply Kd.S_drewN | apply Kd.S_drew)); exact HO_10.out) hb)
                      have n3_ := Aside0.mk (Kd.R_below (by (with_reducible repeat (first | apply Kd.R_alloc | apply Kd.R_drewN | apply Kd.R_drew)); exact HO_11.out) hb)
                      have n4_ := Aside0.mk (Kd.R_below (by (with_reducible repeat (first | apply Kd.R_alloc | apply Kd.R_drewN | apply Kd.R_drew)); exact HO_12.out) hb)
                      have n5_ := Aside0.mk (below_step (by repeat (first | (with_reducible first | exact HB.out | apply below_alloc | apply pw_below_drewN | apply below_drew1) | exact HB.out)) hb)
                      clear HO_8 HO_9 HO_10 HO_11 HO_12 HB
                      have HO_8 := n0_
                      have HO_9 := n1_
                      have HO_10 := n2_
                      have HO_11 := n3_
                      have HO_12 := n4_
                      have HB := n5_
                      clear n0_ n1_ n2_ n3_ n4_ n5_
                      (try clear hb)
                      (try clear hb2)
                      (try clear hk)
                      (try clear hi)
                      obtain ⟨Ao75, co75, eo75⟩ := Kd.R_slice HO_11.out
                      (first | subst eo75 | (injection eo75 with f1_ f2_ f3_; have f4_ := f1_.symm; have f5_ := f3_.symm; clear f1_ f2_ f3_; subst f4_; subst f5_))
                      obtain ⟨Ao76, co76, eo76⟩ := Kd.R_slice HO_12.out
                      (first | subst eo76 | (injection eo76 with f1_ f2_ f3_; have f4_ := f1_.symm; have f5_ := f3_.symm; clear f1_ f2_ f3_; subst f4_; subst f5_))
                      refine hK.out _ _ ⟨HS0_, HS1_, HS2_, HS3_, HS4_⟩ (fun hHeld => ?_)
                      clear hK K
                      refine norm_ (a' := ?_) ?_ ?_
                      rotate_left
                      ·
                       show Act.put _ (some 130) _ = _
                       simp only [Act.put, za_, zb_, zc_, i64_w, i32_w]
                       rfl
                      refine pure_ (i := 27) (N := some 131) (v := ?_) (a' := ?_) (mm [(28, true), (21, false)]) rfl rfl (any_of HT_.out (by kernel_rfl)) (fun _ _ _ h => h) (Or.inl ⟨by rfl, ?_⟩) ?_ ?_
                      rotate_left
                      ·
                       intro w'
                       go_simp
                       with_reducible rfl
                      rotate_left
                      ·
                       simp only [Act.put, za_, zb_, zc_, i64_w, i32_w]
                       rfl
                      refine pure_ (i := 28) (N := some 132) (v := ?_) (a' := ?_) (mm [(29, true), (20, false)]) rfl rfl (any_of HT_.out (by kernel_rfl)) (fun _ _ _ h => h) (Or.inl ⟨by rfl, ?_⟩) ?_ ?_
                      rotate_left
                      ·
                       intro w'
                       go_simp
                       with_reducible rfl
                      rotate_left
                      ·
                       simp only [Act.put, za_, zb_, zc_, i64_w, i32_w]
                       rfl
                      refine pure_ (i := 29) (N := some 133) (v := ?_) (a' := ?_) (mm [(30, true), (19, false)]) rfl rfl (any_of HT_.out (by kernel_rfl)) (fun _ _ _ h => h) (Or.inl ⟨by rfl, ?_⟩) ?_ ?_
                      rotate_left
                      ·
                       intro w'
                       go_simp
                       with_reducible rfl
                      rotate_left
                      ·
                       simp only [Act.put, za_, zb_, zc_, i64_w, i32_w]
                       rfl
                      refine pure_ (i := 30) (N := some 134) (v := ?_) (a' := ?_) (mm [(31, true), (18, false)]) rfl rfl (any_of HT_.out (by kernel_rfl)) (fun _ _ _ h => h) (Or.inl ⟨by rfl, ?_⟩) ?_ ?_
                      rotate_left
                      ·
                       intro w'
                       go_simp
                       with_reducible rfl
                      rotate_left
                      ·
                       simp only [Act.put, za_, zb_, zc_, i64_w, i32_w]
                       rfl
                      refine pure_ (i := 31) (N := some 135) (v := ?_) (a' := ?_) (mm [(32, true), (17, false)]) rfl rfl (any_of HT_.out (by kernel_rfl)) (fun _ _ _ h => h) (Or.inl ⟨by rfl, ?_⟩) ?_ ?_
                      rotate_left
                      ·
                       intro w'
                       go_simp
                       with_reducible rfl
                      rotate_left
                      ·
                       simp only [Act.put, za_, zb_, zc_, i64_w, i32_w]
                       rfl
                      refine pure_ (i := 32) (N := some 136) (v := ?_) (a' := ?_) (mm [(33, true), (16, false)]) rfl rfl (any_of HT_.out (by kernel_rfl)) (fun _ _ _ h => h) (Or.inl ⟨by rfl, ?_⟩) ?_ ?_
                      rotate_left
                      ·
                       intro w'
                       go_simp
                       with_reducible rfl
                      rotate_left
                      ·
                       simp only [Act.put, za_, zb_, zc_, i64_w, i32_w]
                       rfl
                      refine take_ (i := 33) (N := some 137) (v := ?_) (a' := ?_) (mm [(34, true), (15, false)]) rfl rfl (take_ofW HT_.out HW_.out (by kernel_rfl)) (fun _ _ _ h => h) (Or.inl ⟨by rfl, ?_⟩) hHeld ?_ ?_
                      rotate_left
                      ·
                       rintro w' ⟨s0, s1, s2, s3, s4⟩
                       go_simp
                       with_reducible rfl
                      rotate_left
                      ·
                       simp only [Act.put, za_, zb_, zc_, i64_w, i32_w]
                       rfl
                      refine pure_ (i := 34) (N := some 138) (v := ?_) (a' := ?_) (mm [(35, true), (14, false)]) rfl rfl (any_of HT_.out (by kernel_rfl)) (fun _ _ _ h => h) (Or.inl ⟨by rfl, ?_⟩) ?_ ?_
                      rotate_left
                      ·
                       intro w'
                       go_simp
                       with_reducible rfl
                      rotate_left
                      ·
                       simp only [Act.put, za_, zb_, zc_, i64_w, i32_w]
                       rfl
                      refine pure_ (i := 35) (N := some 139) (v := ?_) (a' := ?_) (mm [(36, true), (13, false)]) rfl rfl (any_of HT_.out (by kernel_rfl)) (fun _ _ _ h => h) (Or.inl ⟨by rfl, ?_⟩) ?_ ?_
                      rotate_left
                      ·
                       intro w'
                       go_simp
                       with_reducible rfl
                      rotate_left
                      ·
                       simp only [Act.put, za_, zb_, zc_, i64_w, i32_w]
                       rfl
                      refine pure_ (i := 36) (N := some 140) (v := ?_) (a' := ?_) (mm [(37, true), (12, false)]) rfl rfl (any_of HT_.out (by kernel_rfl)) (fun _ _ _ h => h) (Or.inl ⟨by rfl, ?_⟩) ?_ ?_
                      rotate_left
                      ·
                       intro w'
                       go_simp
                       with_reducible rfl
                      rotate_left
                      ·
                       simp only [Act.put, za_, zb_, zc_, i64_w, i32_w]
                       rfl
                      refine pure_ (i := 37) (N := some 141) (v := ?_) (a' := ?_) (mm [(38, true), (11, false)]) rfl rfl (any_of HT_.out (by kernel_rfl)) (fun _ _ _ h => h) (Or.inl ⟨by rfl, ?_⟩) ?_ ?_
                      rotate_left
                      ·
                       intro w'
                       go_simp
                       with_reducible rfl
                      rotate_left
                      ·
                       simp only [Act.put, za_, zb_, zc_, i64_w, i32_w]
                       rfl
                      refine pure_ (i := 38) (N := some 142) (v := ?_) (a' := ?_) (mm [(39, true), (10, false)]) rfl rfl (any_of HT_.out (by kernel_rfl)) (fun _ _ _ h => h) (Or.inl ⟨by rfl, ?_⟩) ?_ ?_
                      rotate_left
                      ·
                       intro w'
                       go_simp
                       with_reducible rfl
                      rotate_left
                      ·
                       simp only [Act.put, za_, zb_, zc_, i64_w, i32_w]
                       rfl
                      refine take_ (i := 39) (N := some 143) (v := ?_) (a' := ?_) (mm [(40, true), (9, false)]) rfl rfl (take_ofW HT_.out HW_.out (by kernel_rfl)) (fun _ _ _ h => h) (Or.inl ⟨by rfl, ?_⟩) hHeld ?_ ?_
                      rotate_left
                      ·
                       rintro w' ⟨s0, s1, s2, s3, s4⟩
                       go_simp
                       with_reducible rfl
                      rotate_left
                      ·
                       simp only [Act.put, za_, zb_, zc_, i64_w, i32_w]
                       rfl
                      refine pure_ (i := 40) (N := some 144) (v := ?_) (a' := ?_) (mm [(41, true), (8, false)]) rfl rfl (any_of HT_.out (by kernel_rfl)) (fun _ _ _ h => h) (Or.inl ⟨by rfl, ?_⟩) ?_ ?_
                      rotate_left
                      ·
                       intro w'
                       go_simp
                       with_reducible rfl
                      rotate_left
                      ·
                       simp only [Act.put, za_, zb_, zc_, i64_w, i32_w]
                       rfl
                      refine pure_ (i := 41) (N := some 145) (v := ?_) (a' := ?_) (mm [(42, true), (7, false)]) rfl rfl (any_of HT_.out (by kernel_rfl)) (fun _ _ _ h => h) (Or.inl ⟨by rfl, ?_⟩) ?_ ?_
                      rotate_left
                      ·
                       intro w'
                       go_simp
                       with_reducible rfl
                      rotate_left
                      ·
                       simp only [Act.put, za_, zb_, zc_, i64_w, i32_w]
                       rfl
                      refine pure_ (i := 42) (N := some 146) (v := ?_) (a' := ?_) (mm [(43, true), (6, false)]) rfl rfl (any_of HT_.out (by kernel_rfl)) (fun _ _ _ h => h) (Or.inl ⟨by rfl, ?_⟩) ?_ ?_
                      rotate_left
                      ·
                       intro w'
                       go_simp
                       with_reducible rfl
                      rotate_left
                      ·
                       simp only [Act.put, za_, zb_, zc_, i64_w, i32_w]
                       rfl
                      refine pure_ (i := 43) (N := some 147) (v := ?_) (a' := ?_) (mm [(44, true), (5, false)]) rfl rfl (any_of HT_.out (by kernel_rfl)) (fun _ _ _ h => h) (Or.inl ⟨by rfl, ?_⟩) ?_ ?_
                      rotate_left
                      ·
                       intro w'
                       go_simp
                       with_reducible rfl
                      rotate_left
                      ·
                       simp only [Act.put, za_, zb_, zc_, i64_w, i32_w]
                       rfl
                      refine take_ (i := 44) (N := some 148) (v := ?_) (a' := ?_) (mm [(45, true), (4, false)]) rfl rfl (take_ofW HT_.out HW_.out (by kernel_rfl)) (fun _ _ _ h => h) (Or.inl ⟨by rfl, ?_⟩) hHeld ?_ ?_
                      rotate_left
                      ·
                       rintro w' ⟨s0, s1, s2, s3, s4⟩
                       go_simp
                       with_reducible rfl
                      rotate_left
                      ·
                       simp only [Act.put, za_, zb_, zc_, i64_w, i32_w]
                       rfl
                      refine pure_ (i := 45) (N := some 149) (v := ?_) (a' := ?_) (mm [(46, true), (3, false)]) rfl rfl (any_of HT_.out (by kernel_rfl)) (fun _ _ _ h => h) (Or.inl ⟨by rfl, ?_⟩) ?_ ?_
                      rotate_left
                      ·
                       intro w'
                       go_simp
                       with_reducible rfl
                      rotate_left
                      ·
                       simp only [Act.put, za_, zb_, zc_, i64_w, i32_w]
                       rfl
                      refine pure_ (i := 46) (N := some 150) (v := ?_) (a' := ?_) (mm [(47, true), (2, false)]) rfl rfl (any_of HT_.out (by kernel_rfl)) (fun _ _ _ h => h) (Or.inl ⟨by rfl, ?_⟩) ?_ ?_
                      rotate_left
                      ·
                       intro w'
                       go_simp
                       with_reducible rfl
                      rotate_left
                      ·
                       simp only [Act.put, za_, zb_, zc_, i64_w, i32_w]
                       rfl
                      refine pure_ (i := 47) (N := some 151) (v := ?_) (a' := ?_) (mm [(48, true), (1, false)]) rfl rfl (any_of HT_.out (by kernel_rfl)) (fun _ _ _ h => h) (Or.inl ⟨by rfl, ?_⟩) ?_ ?_
                      rotate_left
                      ·
                       intro w'
                       go_simp
                       with_reducible rfl
                      rotate_left
                      ·
                       simp only [Act.put, za_, zb_, zc_, i64_w, i32_w]
                       rfl
                      refine pure_ (i := 48) (N := some 6) (v := ?_) (a' := ?_) (mm [(49, true)]) rfl rfl (any_of HT_.out (by kernel_rfl)) (fun _ _ _ h => h) (Or.inl ⟨by rfl, ?_⟩) ?_ ?_
                      rotate_left
                      ·
                       intro w'
                       go_simp
                       with_reducible rfl
                      rotate_left
                      ·
                       simp only [Act.put, za_, zb_, zc_, i64_w, i32_w]
                       rfl
                      refine done_ (done_of HT_.out (by kernel_rfl)) ?_
                      try go_wp2
                      go_ret
                      exact ⟨by first | rfl | (simp [errW_none, errW_some] <;> rfl) | (simp [*, errW_none, errW_some] <;> rfl) | (exfalso; (try simp_all); (try omega); done), by repeat (first | (with_reducible first | exact HB.out | apply below_alloc | apply pw_below_drewN | apply below_drew1) | exact HB.out)⟩
                     ·
                      rw [if_neg c71] at H
                      exact absurd H (by simp)
                    ·
                     replace c70 := Bool.eq_false_iff.mpr c70
                     subst c70
                     have H1 : (some false) = some r := by rw [if_neg (show ¬ (false = true) by decide)] at H; exact H
                     clear H
                     have H := H1
                     exact absurd (Option.some.inj H) (by rw [HRT.out]; decide)
                   ·
                    rw [if_neg c68] at H
                    exact absurd H (by simp)
                  ·
                   replace c67 := Bool.eq_false_iff.mpr c67
                   subst c67
                   have H1 : (some true) = some r := by rw [if_neg (show ¬ (false = true) by decide)] at H; exact H
                   clear H
                   have H := H1
                   clear H1
                   obtain rfl := Option.some.inj H
                   try go_wp2
                   have n0_ := Aside0.mk (Kd.R_drew HO_8.out)
                   have n1_ := Aside0.mk (Kd.R_drew HO_9.out)
                   have n2_ := Aside0.mk (Kd.S_drew HO_10.out)
                   have n3_ := Aside0.mk (Kd.R_drew HO_11.out)
                   have n4_ := Aside0.mk (Kd.R_drew HO_12.out)
                   have n5_ := Aside0.mk (below_drew1 HB.out)
                   clear HO_8 HO_9 HO_10 HO_11 HO_12 HB
                   have HO_8 := n0_
                   have HO_9 := n1_
                   have HO_10 := n2_
                   have HO_11 := n3_
                   have HO_12 := n4_
                   have HB := n5_
                   clear n0_ n1_ n2_ n3_ n4_ n5_
                   obtain ⟨Ao83, co83, eo83⟩ := Kd.R_slice HO_8.out
                   (first | subst eo83 | (injection eo83 with f1_ f2_ f3_; have f4_ := f1_.symm; have f5_ := f3_.symm; clear f1_ f2_ f3_; subst f4_; subst f5_))
                   have p399 : 0 ≤ (a1 : Int) := of_decide_eq_true (by first | (with_reducible assumption) | assumption)
                   have q399 : a1 < (t379.length : Int) := of_decide_eq_true (by first | (with_reducible assumption) | assumption)
                   obtain ⟨ad399, e399, hx399_0⟩ := Kd.at_bool (Kd.R_reads' HO_8.out).2.2 a1 p399 q399
                   (try rw [← Nbq66.out] at hx399_0)
                   cases e399
                   replace p399 := eq_true p399
                   replace q399 := eq_true q399
                   have p400 : 0 ≤ (a1 : Int) := of_decide_eq_true (by first | (with_reducible assumption) | assumption)
                   have q400 : a1 < (t379.length : Int) := of_decide_eq_true (by first | (with_reducible assumption) | assumption)
                   obtain ⟨ad400, e400, hx400_0⟩ := Kd.at_bool (Kd.R_reads' HO_8.out).2.2 a1 p400 q400
                   (try rw [← Nbq66.out] at hx400_0)
                   obtain rfl : ad399 = ad400 := (by injection e400)
                   replace p400 := eq_true p400
                   replace q400 := eq_true q400
                   (try (obtain ⟨Az402, cz402, ez402⟩ := Kd.R_slice HO_11.out; subst ez402))
                   have p402 : 0 ≤ (a2 : Int) := of_decide_eq_true (by first | (with_reducible assumption) | assumption)
                   have q402 : a2 < (t388.length : Int) := of_decide_eq_true (by first | (with_reducible assumption) | assumption)
                   obtain ⟨ad402, e402, hx402_0⟩ := Kd.at_bool (Kd.R_reads' HO_11.out).2.2 a2 p402 q402
                   (try rw [← Nbq66.out] at hx402_0)
                   cases e402
                   replace p402 := eq_true p402
                   replace q402 := eq_true q402
                   refine start_ (n := 49) (S := fun w' => w'.cell? (ad399.add (a1).toNat) = some (.bool (rdOf false t379 a1)) ∧ w'.cell? (ad399.add (a1).toNat) = some (.bool (rdOf false t379 a1)) ∧ w'.cell? (ad402.add (a2).toNat) = some (.bool false)) (ds := []) (mm [(49, false)]) (by kernel_rfl) rfl rfl ⟨hx399_0, hx400_0, hx402_0⟩ (fun hHeld => ?_); refine with_tabW bywashlaw11_SccLoops.tab17 bywashlaw11_SccLoops.bits17 (fun HT_ HW_ => ?_)
                   generalize wr.drew = w82 at HO_8 HO_9 HO_10 HO_11 HO_12 HB hx399_0 hx400_0 hx402_0 hHeld ⊢
                   refine pure_ (i := 0) (N := some 104) (v := ?_) (a' := ?_) (mm [(1, true), (48, false)]) rfl rfl (any_of HT_.out (by kernel_rfl)) (fun _ _ _ h => h) (Or.inl ⟨by rfl, ?_⟩) ?_ ?_
                   rotate_left
                   ·
                    intro w'
                    go_simp
                    with_reducible rfl
                   rotate_left
                   ·
                    simp only [Act.put, za_, zb_, zc_, i64_w, i32_w]
                    rfl
                   refine pure_ (i := 1) (N := some 105) (v := ?_) (a' := ?_) (mm [(2, true), (47, false)]) rfl rfl (any_of HT_.out (by kernel_rfl)) (fun _ _ _ h => h) (Or.inl ⟨by rfl, ?_⟩) ?_ ?_
                   rotate_left
                   ·
                    intro w'
                    go_simp
                    with_reducible rfl
                   rotate_left
                   ·
                    simp only [Act.put, za_, zb_, zc_, i64_w, i32_w]
                    rfl
                   refine pure_ (i := 2) (N := some 106) (v := ?_) (a' := ?_) (mm [(3, true), (46, false)]) rfl rfl (any_of HT_.out (by kernel_rfl)) (fun _ _ _ h => h) (Or.inl ⟨by rfl, ?_⟩) ?_ ?_
                   rotate_left
                   ·
                    intro w'
                    go_simp
                    with_reducible rfl
                   rotate_left
                   ·
                    simp only [Act.put, za_, zb_, zc_, i64_w, i32_w]
                    rfl
                   refine pure_ (i := 3) (N := some 107) (v := ?_) (a' := ?_) (mm [(4, true), (45, false)]) rfl rfl (any_of HT_.out (by kernel_rfl)) (fun _ _ _ h => h) (Or.inl ⟨by rfl, ?_⟩) ?_ ?_
                   rotate_left
                   ·
                    intro w'
                    go_simp
                    with_reducible rfl
                   rotate_left
                   ·
                    simp only [Act.put, za_, zb_, zc_, i64_w, i32_w]
                    rfl
                   refine pure_ (i := 4) (N := some 108) (v := ?_) (a' := ?_) (mm [(5, true), (44, false)]) rfl rfl (any_of HT_.out (by kernel_rfl)) (fun _ _ _ h => h) (Or.inl ⟨by rfl, ?_⟩) ?_ ?_
                   rotate_left
                   ·
                    intro w'
                    go_simp
                    with_reducible rfl
                   rotate_left
                   ·
                    simp only [Act.put, za_, zb_, zc_, i64_w, i32_w]
                    rfl
                   refine pure_ (i := 6) (N := some 110) (v := ?_) (a' := ?_) (mm [(5, true), (1, false), (1, true), (42, false)]) rfl rfl (any_of HT_.out (by kernel_rfl)) (fun _ _ _ h => h) (Or.inl ⟨by rfl, ?_⟩) ?_ ?_
                   rotate_left
                   ·
                    intro w'
                    go_simp
                    with_reducible rfl
                   rotate_left
                   ·
                    simp only [Act.put, za_, zb_, zc_, i64_w, i32_w]
                    rfl
                   refine pure_ (i := 7) (N := some 111) (v := ?_) (a' := ?_) (mm [(5, true), (1, false), (2, true), (41, false)]) rfl rfl (any_of HT_.out (by kernel_rfl)) (fun _ _ _ h => h) (Or.inl ⟨by rfl, ?_⟩) ?_ ?_
                   rotate_left
                   ·
                    intro w'
                    go_simp
                    with_reducible rfl
                   rotate_left
                   ·
                    simp only [Act.put, za_, zb_, zc_, i64_w, i32_w]
                    rfl
                   refine pure_ (i := 8) (N := some 112) (v := ?_) (a' := ?_) (mm [(5, true), (1, false), (3, true), (40, false)]) rfl rfl (any_of HT_.out (by kernel_rfl)) (fun _ _ _ h => h) (Or.inl ⟨by rfl, ?_⟩) ?_ ?_
                   rotate_left
                   ·
                    intro w'
                    go_simp
                    with_reducible rfl
                   rotate_left
                   ·
                    simp only [Act.put, za_, zb_, zc_, i64_w, i32_w]
                    rfl
                   refine pure_ (i := 9) (N := some 113) (v := undef) (a' := ?_) (mm [(5, true), (1, false), (4, true), (39, false)]) rfl rfl (any_of HT_.out (by kernel_rfl)) (fun _ _ _ h => h) (Or.inr ⟨by rfl, rfl⟩) ?_ ?_
                   rotate_left
                   ·
                    simp only [Act.put, za_, zb_, zc_, i64_w, i32_w]
                    rfl
                   refine pure_ (i := 10) (N := some 114) (v := undef) (a' := ?_) (mm [(5, true), (1, false), (5, true), (38, false)]) rfl rfl (any_of HT_.out (by kernel_rfl)) (fun _ _ _ h => h) (Or.inr ⟨by rfl, rfl⟩) ?_ ?_
                   rotate_left
                   ·
                    simp only [Act.put, za_, zb_, zc_, i64_w, i32_w]
                    rfl
                   refine pure_ (i := 11) (N := some 115) (v := undef) (a' := ?_) (mm [(5, true), (1, false), (6, true), (37, false)]) rfl rfl (any_of HT_.out (by kernel_rfl)) (fun _ _ _ h => h) (Or.inr ⟨by rfl, rfl⟩) ?_ ?_
                   rotate_left
                   ·
                    simp only [Act.put, za_, zb_, zc_, i64_w, i32_w]
                    rfl
                   refine pure_ (i := 12) (N := some 116) (v := undef) (a' := ?_) (mm [(5, true), (1, false), (7, true), (36, false)]) rfl rfl (any_of HT_.out (by kernel_rfl)) (fun _ _ _ h => h) (Or.inr ⟨by rfl, rfl⟩) ?_ ?_
                   rotate_left
                   ·
                    simp only [Act.put, za_, zb_, zc_, i64_w, i32_w]
                    rfl
                   refine pure_ (i := 13) (N := some 117) (v := undef) (a' := ?_) (mm [(5, true), (1, false), (8, true), (35, false)]) rfl rfl (any_of HT_.out (by kernel_rfl)) (fun _ _ _ h => h) (Or.inr ⟨by rfl, rfl⟩) ?_ ?_
                   rotate_left
                   ·
                    simp only [Act.put, za_, zb_, zc_, i64_w, i32_w]
                    rfl
                   refine pure_ (i := 14) (N := some 118) (v := undef) (a' := ?_) (mm [(5, true), (1, false), (9, true), (34, false)]) rfl rfl (any_of HT_.out (by kernel_rfl)) (fun _ _ _ h => h) (Or.inr ⟨by rfl, rfl⟩) ?_ ?_
                   rotate_left
                   ·
                    simp only [Act.put, za_, zb_, zc_, i64_w, i32_w]
                    rfl
                   refine pure_ (i := 15) (N := some 119) (v := ?_) (a' := ?_) (mm [(5, true), (1, false), (10, true), (33, false)]) rfl rfl (any_of HT_.out (by kernel_rfl)) (fun _ _ _ h => h) (Or.inl ⟨by rfl, ?_⟩) ?_ ?_
                   rotate_left
                   ·
                    intro w'
                    go_simp
                    with_reducible rfl
                   rotate_left
                   ·
                    simp only [Act.put, za_, zb_, zc_, i64_w, i32_w]
                    rfl
                   refine take_ (i := 5) (N := some 109) (v := ?_) (a' := ?_) (mm [(16, true), (33, false)]) rfl rfl (take_ofW HT_.out HW_.out (by kernel_rfl)) (fun _ _ _ h => h) (Or.inl ⟨by rfl, ?_⟩) hHeld ?_ ?_
                   rotate_left
                   ·
                    rintro w' ⟨s0, s1, s2⟩
                    go_simp
                    with_reducible rfl
                   rotate_left
                   ·
                    simp only [Act.put, za_, zb_, zc_, i64_w, i32_w]
                    rfl
                   refine pure_ (i := 16) (N := some 120) (v := ?_) (a' := ?_) (mm [(17, true), (32, false)]) rfl rfl (any_of HT_.out (by kernel_rfl)) (fun _ _ _ h => h) (Or.inl ⟨by rfl, ?_⟩) ?_ ?_
                   rotate_left
                   ·
                    intro w'
                    go_simp
                    with_reducible rfl
                   rotate_left
                   ·
                    simp only [Act.put, za_, zb_, zc_, i64_w, i32_w]
                    rfl
                   refine pure_ (i := 17) (N := some 121) (v := ?_) (a' := ?_) (mm [(18, true), (31, false)]) rfl rfl (any_of HT_.out (by kernel_rfl)) (fun _ _ _ h => h) (Or.inl ⟨by rfl, ?_⟩) ?_ ?_
                   rotate_left
                   ·
                    intro w'
                    go_simp
                    with_reducible rfl
                   rotate_left
                   ·
                    simp only [Act.put, za_, zb_, zc_, i64_w, i32_w]
                    rfl
                   refine pure_ (i := 18) (N := some 122) (v := ?_) (a' := ?_) (mm [(19, true), (30, false)]) rfl rfl (any_of HT_.out (by kernel_rfl)) (fun _ _ _ h => h) (Or.inl ⟨by rfl, ?_⟩) ?_ ?_
                   rotate_left
                   ·
                    intro w'
                    go_simp
                    with_reducible rfl
                   rotate_left
                   ·
                    simp only [Act.put, za_, zb_, zc_, i64_w, i32_w]
                    rfl
                   refine pure_ (i := 19) (N := some 123) (v := ?_) (a' := ?_) (mm [(20, true), (29, false)]) rfl rfl (any_of HT_.out (by kernel_rfl)) (fun _ _ _ h => h) (Or.inl ⟨by rfl, ?_⟩) ?_ ?_
                   rotate_left
                   ·
                    intro w'
                    go_simp
                    with_reducible rfl
                   rotate_left
                   ·
                    simp only [Act.put, za_, zb_, zc_, i64_w, i32_w]
                    rfl
                   refine pure_ (i := 20) (N := some 124) (v := ?_) (a' := ?_) (mm [(21, true), (28, false)]) rfl rfl (any_of HT_.out (by kernel_rfl)) (fun _ _ _ h => h) (Or.inl ⟨by rfl, ?_⟩) ?_ ?_
                   rotate_left
                   ·
                    intro w'
                    go_simp
                    with_reducible rfl
                   rotate_left
                   ·
                    simp only [Act.put, za_, zb_, zc_, i64_w, i32_w]
                    rfl
                   refine pure_ (i := 21) (N := some 125) (v := ?_) (a' := ?_) (mm [(22, true), (27, false)]) rfl rfl (any_of HT_.out (by kernel_rfl)) (fun _ _ _ h => h) (Or.inl ⟨by rfl, ?_⟩) ?_ ?_
                   rotate_left
                   ·
                    intro w'
                    go_simp
                    with_reducible rfl
                   rotate_left
                   ·
                    simp only [Act.put, za_, zb_, zc_, i64_w, i32_w]
                    rfl
                   refine pure_ (i := 23) (N := some 127) (v := ?_) (a' := ?_) (mm [(22, true), (1, false), (1, true), (25, false)]) rfl rfl (any_of HT_.out (by kernel_rfl)) (fun _ _ _ h => h) (Or.inl ⟨by rfl, ?_⟩) ?_ ?_
                   rotate_left
                   ·
                    intro w'
                    go_simp
                    with_reducible rfl
                   rotate_left
                   ·
                    simp only [Act.put, za_, zb_, zc_, i64_w, i32_w]
                    rfl
                   refine pure_ (i := 24) (N := some 128) (v := ?_) (a' := ?_) (mm [(22, true), (1, false), (2, true), (24, false)]) rfl rfl (any_of HT_.out (by kernel_rfl)) (fun _ _ _ h => h) (Or.inl ⟨by rfl, ?_⟩) ?_ ?_
                   rotate_left
                   ·
                    intro w'
                    go_simp
                    with_reducible rfl
                   rotate_left
                   ·
                    simp only [Act.put, za_, zb_, zc_, i64_w, i32_w]
                    rfl
                   refine pure_ (i := 25) (N := some 129) (v := ?_) (a' := ?_) (mm [(22, true), (1, false), (3, true), (23, false)]) rfl rfl (any_of HT_.out (by kernel_rfl)) (fun _ _ _ h => h) (Or.inl ⟨by rfl, ?_⟩) ?_ ?_
                   rotate_left
                   ·
                    intro w'
                    go_simp
                    with_reducible rfl
                   rotate_left
                   ·
                    simp only [Act.put, za_, zb_, zc_, i64_w, i32_w]
                    rfl
                   refine take_ (i := 22) (N := some 126) (v := ?_) (a' := ?_) (mm [(26, true), (23, false)]) rfl rfl (take_ofW HT_.out HW_.out (by kernel_rfl)) (fun _ _ _ h => h) (Or.inl ⟨by rfl, ?_⟩) hHeld ?_ ?_
                   rotate_left
                   ·
                    rintro w' ⟨s0, s1, s2⟩
                    go_simp
                    with_reducible rfl
                   rotate_left
                   ·
                    simp only [Act.put, za_, zb_, zc_, i64_w, i32_w]
                    rfl
                   refine one_ (i := 26) (N := some 130) (mm [(27, true), (22, false)]) rfl rfl (one_of HT_.out (by kernel_rfl)) (by decide) (fun K hK => ?_)
                   refine goes_ Try.func30 (by kernel_rfl) rfl #[.slice A0 l0.length c0, .int .i64 a1, .int .i64 a1] (by rfl) rfl rfl (by (try simp only [List.map_toArray, List.map_cons, List.map_nil]); first | done | rfl | (simp only [List.length_drop, List.length_take]; rfl)) ?_
                   with_reducible refine (graph_Path.calls _ _ l0 a1 a1 t401 _ ?side1 ?side2 A62.out).mono ?_
                   (case side1 => repeat (first | exact (Kd.C_below HR0.out HB.out) | (with_reducible refine Kd.C_alloc ?_ _) | (with_reducible refine Kd.C_drewN ?_ _) | (with_reducible refine Kd.C_drew ?_)))
                   (case side2 => exact HC0.out)
                   rintro e w84 ⟨rfl, hb⟩
                   have HS0_ := (hb.cell (World.block_lt_of_cell? _ _ (hHeld.1))).trans (hHeld.1)
                   have HS1_ := (hb.cell (World.block_lt_of_cell? _ _ (hHeld.2.1))).trans (hHeld.2.1)
                   have HS2_ := (hb.cell (World.block_lt_of_cell? _ _ (hHeld.2.2))).trans (hHeld.2.2)
                   refine ⟨_, rfl, ?_⟩
                   have n0_ := Aside0.mk (Kd.R_below (by (with_reducible repeat (first | apply Kd.R_alloc | apply Kd.R_drewN | apply Kd.R_drew)); exact HO_8.out) hb)
                   have n1_ := Aside0.mk (Kd.R_below (by (with_reducible repeat (first | apply Kd.R_alloc | apply Kd.R_drewN | apply Kd.R_drew)); exact HO_9.out) hb)
                   have n2_ := Aside0.mk (Kd.S_below (by (with_reducible repeat (first | apply Kd.S_alloc | apply Kd.S_drewN | apply Kd.S_drew)); exact HO_10.out) hb)
                   have n3_ := Aside0.mk (Kd.R_below (by (with_reducible repeat (first | apply Kd.R_alloc | apply Kd.R_drewN | apply Kd.R_drew)); exact HO_11.out) hb)
                   have n4_ := Aside0.mk (Kd.R_below (by (with_reducible repeat (first | apply Kd.R_alloc | apply Kd.R_drewN | apply Kd.R_drew)); exact HO_12.out) hb)
                   have n5_ := Aside0.mk (below_step (by repeat (first | (with_reducible first | exact HB.out | apply below_alloc | apply pw_below_drewN | apply below_drew1) | exact HB.out)) hb)
                   clear HO_8 HO_9 HO_10 HO_11 HO_12 HB
                   have HO_8 := n0_
                   have HO_9 := n1_
                   have HO_10 := n2_
                   have HO_11 := n3_
                   have HO_12 := n4_
                   have HB := n5_
                   clear n0_ n1_ n2_ n3_ n4_ n5_
                   (try clear hb)
                   (try clear hb2)
                   (try clear hk)
                   (try clear hi)
                   obtain ⟨Ao85, co85, eo85⟩ := Kd.R_slice HO_11.out
                   (first | subst eo85 | (injection eo85 with f1_ f2_ f3_; have f4_ := f1_.symm; have f5_ := f3_.symm; clear f1_ f2_ f3_; subst f4_; subst f5_))
                   refine hK.out _ _ ⟨HS0_, HS1_, HS2_⟩ (fun hHeld => ?_)
                   clear hK K
                   refine norm_ (a' := ?_) ?_ ?_
                   rotate_left
                   ·
                    show Act.put _ (some 130) _ = _
                    simp only [Act.put, za_, zb_, zc_, i64_w, i32_w]
                    rfl
                   refine pure_ (i := 27) (N := some 131) (v := ?_) (a' := ?_) (mm [(28, true), (21, false)]) rfl rfl (any_of HT_.out (by kernel_rfl)) (fun _ _ _ h => h) (Or.inl ⟨by rfl, ?_⟩) ?_ ?_
                   rotate_left
                   ·
                    intro w'
                    go_simp
                    with_reducible rfl
                   rotate_left
                   ·
                    simp only [Act.put, za_, zb_, zc_, i64_w, i32_w]
                    rfl
                   refine pure_ (i := 28) (N := some 132) (v := ?_) (a' := ?_) (mm [(29, true), (20, false)]) rfl rfl (any_of HT_.out (by kernel_rfl)) (fun _ _ _ h => h) (Or.inl ⟨by rfl, ?_⟩) ?_ ?_
                   rotate_left
                   ·
                    intro w'
                    go_simp
                    with_reducible rfl
                   rotate_left
                   ·
                    simp only [Act.put, za_, zb_, zc_, i64_w, i32_w]
                    rfl
                   refine pure_ (i := 29) (N := some 133) (v := ?_) (a' := ?_) (mm [(30, true), (19, false)]) rfl rfl (any_of HT_.out (by kernel_rfl)) (fun _ _ _ h => h) (Or.inl ⟨by rfl, ?_⟩) ?_ ?_
                   rotate_left
                   ·
                    intro w'
                    go_simp
                    with_reducible rfl
                   rotate_left
                   ·
                    simp only [Act.put, za_, zb_, zc_, i64_w, i32_w]
                    rfl
                   refine pure_ (i := 30) (N := some 134) (v := ?_) (a' := ?_) (mm [(31, true), (18, false)]) rfl rfl (any_of HT_.out (by kernel_rfl)) (fun _ _ _ h => h) (Or.inl ⟨by rfl, ?_⟩) ?_ ?_
                   rotate_left
                   ·
                    intro w'
                    go_simp
                    with_reducible rfl
                   rotate_left
                   ·
                    simp only [Act.put, za_, zb_, zc_, i64_w, i32_w]
                    rfl
                   refine pure_ (i := 31) (N := some 135) (v := ?_) (a' := ?_) (mm [(32, true), (17, false)]) rfl rfl (any_of HT_.out (by kernel_rfl)) (fun _ _ _ h => h) (Or.inl ⟨by rfl, ?_⟩) ?_ ?_
                   rotate_left
                   ·
                    intro w'
                    go_simp
                    with_reducible rfl
                   rotate_left
                   ·
                    simp only [Act.put, za_, zb_, zc_, i64_w, i32_w]
                    rfl
                   refine pure_ (i := 32) (N := some 136) (v := ?_) (a' := ?_) (mm [(33, true), (16, false)]) rfl rfl (any_of HT_.out (by kernel_rfl)) (fun _ _ _ h => h) (Or.inl ⟨by rfl, ?_⟩) ?_ ?_
                   rotate_left
                   ·
                    intro w'
                    go_simp
                    with_reducible rfl
                   rotate_left
                   ·
                    simp only [Act.put, za_, zb_, zc_, i64_w, i32_w]
                    rfl
                   refine take_ (i := 33) (N := some 137) (v := ?_) (a' := ?_) (mm [(34, true), (15, false)]) rfl rfl (take_ofW HT_.out HW_.out (by kernel_rfl)) (fun _ _ _ h => h) (Or.inl ⟨by rfl, ?_⟩) hHeld ?_ ?_
                   rotate_left
                   ·
                    rintro w' ⟨s0, s1, s2⟩
                    go_simp
                    with_reducible rfl
                   rotate_left
                   ·
                    simp only [Act.put, za_, zb_, zc_, i64_w, i32_w]
                    rfl
                   refine pure_ (i := 34) (N := some 138) (v := ?_) (a' := ?_) (mm [(35, true), (14, false)]) rfl rfl (any_of HT_.out (by kernel_rfl)) (fun _ _ _ h => h) (Or.inl ⟨by rfl, ?_⟩) ?_ ?_
                   rotate_left
                   ·
                    intro w'
                    go_simp
                    with_reducible rfl
                   rotate_left
                   ·
                    simp only [Act.put, za_, zb_, zc_, i64_w, i32_w]
                    rfl
                   refine pure_ (i := 35) (N := some 139) (v := ?_) (a' := ?_) (mm [(36, true), (13, false)]) rfl rfl (any_of HT_.out (by kernel_rfl)) (fun _ _ _ h => h) (Or.inl ⟨by rfl, ?_⟩) ?_ ?_
                   rotate_left
                   ·
                    intro w'
                    go_simp
                    with_reducible rfl
                   rotate_left
                   ·
                    simp only [Act.put, za_, zb_, zc_, i64_w, i32_w]
                    rfl
                   refine pure_ (i := 36) (N := some 140) (v := undef) (a' := ?_) (mm [(37, true), (12, false)]) rfl rfl (any_of HT_.out (by kernel_rfl)) (fun _ _ _ h => h) (Or.inr ⟨by rfl, rfl⟩) ?_ ?_
                   rotate_left
                   ·
                    simp only [Act.put, za_, zb_, zc_, i64_w, i32_w]
                    rfl
                   refine pure_ (i := 37) (N := some 141) (v := undef) (a' := ?_) (mm [(38, true), (11, false)]) rfl rfl (any_of HT_.out (by kernel_rfl)) (fun _ _ _ h => h) (Or.inr ⟨by rfl, rfl⟩) ?_ ?_
                   rotate_left
                   ·
                    simp only [Act.put, za_, zb_, zc_, i64_w, i32_w]
                    rfl
                   refine pure_ (i := 38) (N := some 142) (v := undef) (a' := ?_) (mm [(39, true), (10, false)]) rfl rfl (any_of HT_.out (by kernel_rfl)) (fun _ _ _ h => h) (Or.inr ⟨by rfl, rfl⟩) ?_ ?_
                   rotate_left
                   ·
                    simp only [Act.put, za_, zb_, zc_, i64_w, i32_w]
                    rfl
                   refine pure_ (i := 39) (N := some 143) (v := undef) (a' := ?_) (mm [(40, true), (9, false)]) rfl rfl (any_of HT_.out (by kernel_rfl)) (fun _ _ _ h => h) (Or.inr ⟨by rfl, rfl⟩) ?_ ?_
                   rotate_left
                   ·
                    simp only [Act.put, za_, zb_, zc_, i64_w, i32_w]
                    rfl
                   refine pure_ (i := 40) (N := some 144) (v := undef) (a' := ?_) (mm [(41, true), (8, false)]) rfl rfl (any_of HT_.out (by kernel_rfl)) (fun _ _ _ h => h) (Or.inr ⟨by rfl, rfl⟩) ?_ ?_
                   rotate_left
                   ·
                    simp only [Act.put, za_, zb_, zc_, i64_w, i32_w]
                    rfl
                   refine pure_ (i := 41) (N := some 145) (v := undef) (a' := ?_) (mm [(42, true), (7, false)]) rfl rfl (any_of HT_.out (by kernel_rfl)) (fun _ _ _ h => h) (Or.inr ⟨by rfl, rfl⟩) ?_ ?_
                   rotate_left
                   ·
                    simp only [Act.put, za_, zb_, zc_, i64_w, i32_w]
                    rfl
                   refine pure_ (i := 42) (N := some 146) (v := undef) (a' := ?_) (mm [(43, true), (6, false)]) rfl rfl (any_of HT_.out (by kernel_rfl)) (fun _ _ _ h => h) (Or.inr ⟨by rfl, rfl⟩) ?_ ?_
                   rotate_left
                   ·
                    simp only [Act.put, za_, zb_, zc_, i64_w, i32_w]
                    rfl
                   refine pure_ (i := 43) (N := some 147) (v := undef) (a' := ?_) (mm [(44, true), (5, false)]) rfl rfl (any_of HT_.out (by kernel_rfl)) (fun _ _ _ h => h) (Or.inr ⟨by rfl, rfl⟩) ?_ ?_
                   rotate_left
                   ·
                    simp only [Act.put, za_, zb_, zc_, i64_w, i32_w]
                    rfl
                   refine pure_ (i := 44) (N := some 148) (v := undef) (a' := ?_) (mm [(45, true), (4, false)]) rfl rfl (any_of HT_.out (by kernel_rfl)) (fun _ _ _ h => h) (Or.inr ⟨by rfl, rfl⟩) ?_ ?_
                   rotate_left
                   ·
                    simp only [Act.put, za_, zb_, zc_, i64_w, i32_w]
                    rfl
                   refine pure_ (i := 45) (N := some 149) (v := undef) (a' := ?_) (mm [(46, true), (3, false)]) rfl rfl (any_of HT_.out (by kernel_rfl)) (fun _ _ _ h => h) (Or.inr ⟨by rfl, rfl⟩) ?_ ?_
                   rotate_left
                   ·
                    simp only [Act.put, za_, zb_, zc_, i64_w, i32_w]
                    rfl
                   refine pure_ (i := 46) (N := some 150) (v := ?_) (a' := ?_) (mm [(47, true), (2, false)]) rfl rfl (any_of HT_.out (by kernel_rfl)) (fun _ _ _ h => h) (Or.inl ⟨by rfl, ?_⟩) ?_ ?_
                   rotate_left
                   ·
                    intro w'
                    go_simp
                    with_reducible rfl
                   rotate_left
                   ·
                    simp only [Act.put, za_, zb_, zc_, i64_w, i32_w]
                    rfl
                   refine pure_ (i := 47) (N := some 151) (v := ?_) (a' := ?_) (mm [(48, true), (1, false)]) rfl rfl (any_of HT_.out (by kernel_rfl)) (fun _ _ _ h => h) (Or.inl ⟨by rfl, ?_⟩) ?_ ?_
                   rotate_left
                   ·
                    intro w'
                    go_simp
                    with_reducible rfl
                   rotate_left
                   ·
                    simp only [Act.put, za_, zb_, zc_, i64_w, i32_w]
                    rfl
                   refine pure_ (i := 48) (N := some 6) (v := ?_) (a' := ?_) (mm [(49, true)]) rfl rfl (any_of HT_.out (by kernel_rfl)) (fun _ _ _ h => h) (Or.inl ⟨by rfl, ?_⟩) ?_ ?_
                   rotate_left
                   ·
                    intro w'
                    go_simp
                    with_reducible rfl
                   rotate_left
                   ·
                    simp only [Act.put, za_, zb_, zc_, i64_w, i32_w]
                    rfl
                   refine done_ (done_of HT_.out (by kernel_rfl)) ?_
                   try go_wp2
                   go_ret
                   exact ⟨by first | rfl | (simp [errW_none, errW_some] <;> rfl) | (simp [*, errW_none, errW_some] <;> rfl) | (exfalso; (try simp_all); (try omega); done), by repeat (first | (with_reducible first | exact HB.out | apply below_alloc | apply pw_below_drewN | apply below_drew1) | exact HB.out)⟩
                 ·
                  rw [if_neg c65] at H
                  exact absurd H (by simp)
                ·
                 rw [if_neg c64] at H
                 exact absurd H (by simp)
               ·
                rw [if_neg c63] at H
                exact absurd (Option.some.inj H) (by rw [HRT.out]; decide)
              ·
               rw [if_neg c61] at H
               exact absurd (Option.some.inj H) (by rw [HRT.out]; decide)
             ·
              rw [if_neg c60] at H
              have c60b0 : decide (1 < x13_3) = false := decide_eq_false c60
              clear c60
              by_cases c91 : a1 < (t385.length : Int)
              ·
               rw [if_pos c91] at H
               have c91b0 : decide (a1 < (t385.length : Int)) = true := decide_eq_true c91
               clear c91
               replace H := Option.bind_eq_some_iff.mp H
               obtain ⟨t406, A920, H⟩ := H
               replace H : (if ((rdOf false t379 a1) == t406) = true then ((graph_Path.f l0 a1 a1).bind fun t408 => (if ((rdOf false t379 a1) == t408) = true then (if 0 ≤ a2 then (if a2 < (t388.length : Int) then (if rdOf false t388 a2 = true then (if a1 < (t394.length : Int) then (if rdOf false t394 a1 = true then (if a2 < (t394.length : Int) then (some (rdOf false t394 a2)) else (none)) else (some false)) else (none)) else (some true)) else (none)) else (none)) else (some false))) else (some false)) = some r := H
               have A92 := Aside0.mk A920
               clear A920
               by_cases c93 : ((rdOf false t379 a1) == t406) = true
               ·
                rw [if_pos c93] at H
                have c93b0 : ((rdOf false t379 a1) == t406) = true := c93
                (try (have c93b1 : decide ((rdOf false t379 a1) = t406) = true := by simpa using c93))
                (try (have c93b2 : ((rdOf false t379 a1) == t406) = true := by simpa using c93))
                clear c93
                replace H := Option.bind_eq_some_iff.mp H
                obtain ⟨t408, A940, H⟩ := H
                replace H : (if ((rdOf false t379 a1) == t408) = true then (if 0 ≤ a2 then (if a2 < (t388.length : Int) then (if rdOf false t388 a2 = true then (if a1 < (t394.length : Int) then (if rdOf false t394 a1 = true then (if a2 < (t394.length : Int) then (some (rdOf false t394 a2)) else (none)) else (some false)) else (none)) else (some true)) else (none)) else (none)) else (some false)) = some r := H
                have A94 := Aside0.mk A940
                clear A940
                by_cases c95 : ((rdOf false t379 a1) == t408) = true
                ·
                 rw [if_pos c95] at H
                 have c95b0 : ((rdOf false t379 a1) == t408) = true := c95
                 (try (have c95b1 : decide ((rdOf false t379 a1) = t408) = true := by simpa using c95))
                 (try (have c95b2 : ((rdOf false t379 a1) == t408) = true := by simpa using c95))
                 clear c95
                 by_cases c96 : 0 ≤ a2
                 ·
                  rw [if_pos c96] at H
                  have c96b0 : decide (0 ≤ a2) = true := decide_eq_true c96
                  clear c96
                  by_cases c97 : a2 < (t388.length : Int)
                  ·
                   rw [if_pos c97] at H
                   have c97b0 : decide (a2 < (t388.length : Int)) = true := decide_eq_true c97
                   clear c97
                   obtain ⟨bq98, hbq98⟩ : ∃ b_ : Bool, b_ = (rdOf false t388 a2) := ⟨_, rfl⟩
                   replace H : (if bq98 = true then (if a1 < (t394.length : Int) then (if rdOf false t394 a1 = true then (if a2 < (t394.length : Int) then (some (rdOf false t394 a2)) else (none)) else (some false)) else (none)) else (some true)) = some r := by rw [← hbq98] at H; exact H
                   have Nbq98 := Aside0.mk hbq98
                   clear hbq98
                   by_cases c99 : bq98 = true
                   ·
                    subst c99
                    have H1 : (if a1 < (t394.length : Int) then (if rdOf false t394 a1 = true then (if a2 < (t394.length : Int) then (some (rdOf false t394 a2)) else (none)) else (some false)) else (none)) = some r := by rw [if_pos rfl] at H; exact H
                    clear H
                    have H := H1
                    clear H1
                    by_cases c100 : a1 < (t394.length : Int)
                    ·
                     rw [if_pos c100] at H
                     have c100b0 : decide (a1 < (t394.length : Int)) = true := decide_eq_true c100
                     clear c100
                     obtain ⟨bq101, hbq101⟩ : ∃ b_ : Bool, b_ = (rdOf false t394 a1) := ⟨_, rfl⟩
                     replace H : (if bq101 = true then (if a2 < (t394.length : Int) then (some (rdOf false t394 a2)) else (none)) else (some false)) = some r := by rw [← hbq101] at H; exact H
                     have Nbq101 := Aside0.mk hbq101
                     clear hbq101
                     by_cases c102 : bq101 = true
                     ·
                      subst c102
                      have H1 : (if a2 < (t394.length : Int) then (some (rdOf false t394 a2)) else (none)) = some r := by rw [if_pos rfl] at H; exact H
                      clear H
                      have H := H1
                      clear H1
                      by_cases c103 : a2 < (t394.length : Int)
                      ·
                       rw [if_pos c103] at H
                       have c103b0 : decide (a2 < (t394.length : Int)) = true := decide_eq_true c103
                       clear c103
                       obtain rfl := Option.some.inj H
                       try go_wp2
                       have n0_ := Aside0.mk (Kd.R_drew HO_8.out)
                       have n1_ := Aside0.mk (Kd.R_drew HO_9.out)
                       have n2_ := Aside0.mk (Kd.S_drew HO_10.out)
                       have n3_ := Aside0.mk (Kd.R_drew HO_11.out)
                       have n4_ := Aside0.mk (Kd.R_drew HO_12.out)
                       have n5_ := Aside0.mk (below_drew1 HB.out)
                       clear HO_8 HO_9 HO_10 HO_11 HO_12 HB
                       have HO_8 := n0_
                       have HO_9 := n1_
                       have HO_10 := n2_
                       have HO_11 := n3_
                       have HO_12 := n4_
                       have HB := n5_
                       clear n0_ n1_ n2_ n3_ n4_ n5_
                       obtain ⟨Ao105, co105, eo105⟩ := Kd.R_slice HO_8.out
                       (first | subst eo105 | (injection eo105 with f1_ f2_ f3_; have f4_ := f1_.symm; have f5_ := f3_.symm; clear f1_ f2_ f3_; subst f4_; subst f5_))
                       have p399 : 0 ≤ (a1 : Int) := of_decide_eq_true (by first | (with_reducible assumption) | assumption)
                       have q399 : a1 < (t379.length : Int) := of_decide_eq_true (by first | (with_reducible assumption) | assumption)
                       obtain ⟨ad399, e399, hx399_0⟩ := Kd.at_bool (Kd.R_reads' HO_8.out).2.2 a1 p399 q399
                       (try rw [← Nbq98.out] at hx399_0)
                       (try rw [← Nbq101.out] at hx399_0)
                       cases e399
                       replace p399 := eq_true p399
                       replace q399 := eq_true q399
                       obtain ⟨Ao106, co106, eo106⟩ := Kd.S_slice HO_10.out
                       (first | subst eo106 | (injection eo106 with f1_ f2_ f3_; have f4_ := f1_.symm; have f5_ := f3_.symm; clear f1_ f2_ f3_; subst f4_; subst f5_))
                       have p405 : 0 ≤ (a1 : Int) := of_decide_eq_true (by first | (with_reducible assumption) | assumption)
                       have q405 : a1 < (t385.length : Int) := of_decide_eq_true (by first | (with_reducible assumption) | assumption)
                       obtain ⟨ad405, A405_0, c405_0, e405, hx405_0, hl405_0, hi405_0⟩ := at_L1 (Kd.S_reads' HO_10.out).2.2 a1 p405 q405
                       cases e405
                       obtain ⟨ce405, hce405, hMe405, hcc405⟩ := Kd.S_get HO_10.out [] a1 p405 (by first | exact q405 | exact of_decide_eq_true (by first | (with_reducible assumption) | assumption) | (have e_ := (Kd.S_reads' HO_10.out).1; omega))
                       obtain ⟨ve405_0, rfl, ge405_0⟩ := hMe405
                       have hv405_0 := hcc405 0 _ rfl
                       rw [Nat.add_zero, show ((Kd.slice 3 (Kd.int .i64))).sz = 1 from rfl, Nat.mul_one] at hv405_0
                       replace hv405_0 := Option.some.inj (hv405_0.symm.trans hx405_0)
                       rw [hv405_0] at ge405_0
                       have HL405_0 := Aside0.mk (show Kd.R (Kd.int .i64) 3 _ _ _ _ (rd_L1 t385 a1) from ge405_0)
                       clear hv405_0 ge405_0
                       clear hcc405 hce405
                       have HR405_0 := Aside0.mk hi405_0
                       have HC405_0 := Aside0.mk hl405_0
                       clear hi405_0 hl405_0
                       replace p405 := eq_true p405
                       replace q405 := eq_true q405
                       have p407 : 0 ≤ (a1 : Int) := of_decide_eq_true (by first | (with_reducible assumption) | assumption)
                       have q407 : a1 < (t379.length : Int) := of_decide_eq_true (by first | (with_reducible assumption) | assumption)
                       obtain ⟨ad407, e407, hx407_0⟩ := Kd.at_bool (Kd.R_reads' HO_8.out).2.2 a1 p407 q407
                       (try rw [← Nbq98.out] at hx407_0)
                       (try rw [← Nbq101.out] at hx407_0)
                       obtain rfl : ad399 = ad407 := (by injection e407)
                       replace p407 := eq_true p407
                       replace q407 := eq_true q407
                       (try (obtain ⟨Az409, cz409, ez409⟩ := Kd.R_slice HO_11.out; subst ez409))
                       have p409 : 0 ≤ (a2 : Int) := of_decide_eq_true (by first | (with_reducible assumption) | assumption)
                       have q409 : a2 < (t388.length : Int) := of_decide_eq_true (by first | (with_reducible assumption) | assumption)
                       obtain ⟨ad409, e409, hx409_0⟩ := Kd.at_bool (Kd.R_reads' HO_11.out).2.2 a2 p409 q409
                       (try rw [← Nbq98.out] at hx409_0)
                       (try rw [← Nbq101.out] at hx409_0)
                       cases e409
                       replace p409 := eq_true p409
                       replace q409 := eq_true q409
                       (try (obtain ⟨Az410, cz410, ez410⟩ := Kd.R_slice HO_12.out; subst ez410))
                       have p410 : 0 ≤ (a1 : Int) := of_decide_eq_true (by first | (with_reducible assumption) | assumption)
                       have q410 : a1 < (t394.length : Int) := of_decide_eq_true (by first | (with_reducible assumption) | assumption)
                       obtain ⟨ad410, e410, hx410_0⟩ := Kd.at_bool (Kd.R_reads' HO_12.out).2.2 a1 p410 q410
                       (try rw [← Nbq98.out] at hx410_0)
                       (try rw [← Nbq101.out] at hx410_0)
                       cases e410
                       replace p410 := eq_true p410
                       replace q410 := eq_true q410
                       (try (obtain ⟨Az411, cz411, ez411⟩ := Kd.R_slice HO_12.out; subst ez411))
                       have p411 : 0 ≤ (a2 : Int) := of_decide_eq_true (by first | (with_reducible assumption) | assumption)
                       have q411 : a2 < (t394.length : Int) := of_decide_eq_true (by first | (with_reducible assumption) | assumption)
                       obtain ⟨ad411, e411, hx411_0⟩ := Kd.at_bool (Kd.R_reads' HO_12.out).2.2 a2 p411 q411
                       (try rw [← Nbq98.out] at hx411_0)
                       (try rw [← Nbq101.out] at hx411_0)
                       obtain rfl : ad410 = ad411 := (by injection e411)
                       replace p411 := eq_true p411
                       replace q411 := eq_true q411
                       refine start_ (n := 49) (S := fun w' => w'.cell? (ad399.add (a1).toNat) = some (.bool (rdOf false t379 a1)) ∧ w'.cell? (ad405.add (a1).toNat) = some (.slice A405_0 (rd_L1 t385 a1).length c405_0) ∧ w'.cell? (ad399.add (a1).toNat) = some (.bool (rdOf false t379 a1)) ∧ w'.cell? (ad409.add (a2).toNat) = some (.bool true) ∧ w'.cell? (ad410.add (a1).toNat) = some (.bool true) ∧ w'.cell? (ad410.add (a2).toNat) = some (.bool (rdOf false t394 a2))) (ds := []) (mm [(49, false)]) (by kernel_rfl) rfl rfl ⟨hx399_0, hx405_0, hx407_0, hx409_0, hx410_0, hx411_0⟩ (fun hHeld => ?_); refine with_tabW bywashlaw11_SccLoops.tab17 bywashlaw11_SccLoops.bits17 (fun HT_ HW_ => ?_)
                       generalize wr.drew = w104 at HO_8 HO_9 HO_10 HO_11 HO_12 HB HL405_0 HR405_0 hx399_0 hx405_0 hx407_0 hx409_0 hx410_0 hx411_0 hHeld ⊢
                       refine pure_ (i := 0) (N := some 104) (v := ?_) (a' := ?_) (mm [(1, true), (48, false)]) rfl rfl (any_of HT_.out (by kernel_rfl)) (fun _ _ _ h => h) (Or.inl ⟨by rfl, ?_⟩) ?_ ?_
                       rotate_left
                       ·
                        intro w'
                        go_simp
                        with_reducible rfl
                       rotate_left
                       ·
                        simp only [Act.put, za_, zb_, zc_, i64_w, i32_w]
                        rfl
                       refine pure_ (i := 1) (N := some 105) (v := ?_) (a' := ?_) (mm [(2, true), (47, false)]) rfl rfl (any_of HT_.out (by kernel_rfl)) (fun _ _ _ h => h) (Or.inl ⟨by rfl, ?_⟩) ?_ ?_
                       rotate_left
                       ·
                        intro w'
                        go_simp
                        with_reducible rfl
                       rotate_left
                       ·
                        simp only [Act.put, za_, zb_, zc_, i64_w, i32_w]
                        rfl
                       refine pure_ (i := 2) (N := some 106) (v := ?_) (a' := ?_) (mm [(3, true), (46, false)]) rfl rfl (any_of HT_.out (by kernel_rfl)) (fun _ _ _ h => h) (Or.inl ⟨by rfl, ?_⟩) ?_ ?_
                       rotate_left
                       ·
                        intro w'
                        go_simp
                        with_reducible rfl
                       rotate_left
                       ·
                        simp only [Act.put, za_, zb_, zc_, i64_w, i32_w]
                        rfl
                       refine pure_ (i := 3) (N := some 107) (v := ?_) (a' := ?_) (mm [(4, true), (45, false)]) rfl rfl (any_of HT_.out (by kernel_rfl)) (fun _ _ _ h => h) (Or.inl ⟨by rfl, ?_⟩) ?_ ?_
                       rotate_left
                       ·
                        intro w'
                        go_simp
                        with_reducible rfl
                       rotate_left
                       ·
                        simp only [Act.put, za_, zb_, zc_, i64_w, i32_w]
                        rfl
                       refine pure_ (i := 4) (N := some 108) (v := ?_) (a' := ?_) (mm [(5, true), (44, false)]) rfl rfl (any_of HT_.out (by kernel_rfl)) (fun _ _ _ h => h) (Or.inl ⟨by rfl, ?_⟩) ?_ ?_
                       rotate_left
                       ·
                        intro w'
                        go_simp
                        with_reducible rfl
                       rotate_left
                       ·
                        simp only [Act.put, za_, zb_, zc_, i64_w, i32_w]
                        rfl
                       refine pure_ (i := 6) (N := some 110) (v := ?_) (a' := ?_) (mm [(5, true), (1, false), (1, true), (42, false)]) rfl rfl (any_of HT_.out (by kernel_rfl)) (fun _ _ _ h => h) (Or.inl ⟨by rfl, ?_⟩) ?_ ?_
                       rotate_left
                       ·
                        intro w'
                        go_simp
                        with_reducible rfl
                       rotate_left
                       ·
                        simp only [Act.put, za_, zb_, zc_, i64_w, i32_w]
                        rfl
                       refine pure_ (i := 7) (N := some 111) (v := ?_) (a' := ?_) (mm [(5, true), (1, false), (2, true), (41, false)]) rfl rfl (any_of HT_.out (by kernel_rfl)) (fun _ _ _ h => h) (Or.inl ⟨by rfl, ?_⟩) ?_ ?_
                       rotate_left
                       ·
                        intro w'
                        go_simp
                        with_reducible rfl
                       rotate_left
                       ·
                        simp only [Act.put, za_, zb_, zc_, i64_w, i32_w]
                        rfl
                       refine pure_ (i := 8) (N := some 112) (v := ?_) (a' := ?_) (mm [(5, true), (1, false), (3, true), (40, false)]) rfl rfl (any_of HT_.out (by kernel_rfl)) (fun _ _ _ h => h) (Or.inl ⟨by rfl, ?_⟩) ?_ ?_
                       rotate_left
                       ·
                        intro w'
                        go_simp
                        with_reducible rfl
                       rotate_left
                       ·
                        simp only [Act.put, za_, zb_, zc_, i64_w, i32_w]
                        rfl
                       refine pure_ (i := 9) (N := some 113) (v := ?_) (a' := ?_) (mm [(5, true), (1, false), (4, true), (39, false)]) rfl rfl (any_of HT_.out (by kernel_rfl)) (fun _ _ _ h => h) (Or.inl ⟨by rfl, ?_⟩) ?_ ?_
                       rotate_left
                       ·
                        intro w'
                        go_simp
                        with_reducible rfl
                       rotate_left
                       ·
                        simp only [Act.put, za_, zb_, zc_, i64_w, i32_w]
                        rfl
                       refine pure_ (i := 10) (N := some 114) (v := ?_) (a' := ?_) (mm [(5, true), (1, false), (5, true), (38, false)]) rfl rfl (any_of HT_.out (by kernel_rfl)) (fun _ _ _ h => h) (Or.inl ⟨by rfl, ?_⟩) ?_ ?_
                       rotate_left
                       ·
                        intro w'
                        go_simp
                        with_reducible rfl
                       rotate_left
                       ·
                        simp only [Act.put, za_, zb_, zc_, i64_w, i32_w]
                        rfl
                       refine pure_ (i := 11) (N := some 115) (v := ?_) (a' := ?_) (mm [(5, true), (1, false), (6, true), (37, false)]) rfl rfl (any_of HT_.out (by kernel_rfl)) (fun _ _ _ h => h) (Or.inl ⟨by rfl, ?_⟩) ?_ ?_
                       rotate_left
                       ·
                        intro w'
                        go_simp
                        with_reducible rfl
                       rotate_left
                       ·
                        simp only [Act.put, za_, zb_, zc_, i64_w, i32_w]
                        rfl
                       refine pure_ (i := 13) (N := some 117) (v := ?_) (a' := ?_) (mm [(5, true), (1, false), (6, true), (1, false), (1, true), (35, false)]) rfl rfl (any_of HT_.out (by kernel_rfl)) (fun _ _ _ h => h) (Or.inl ⟨by rfl, ?_⟩) ?_ ?_
                       rotate_left
                       ·
                        intro w'
                        go_simp
                        with_reducible rfl
                       rotate_left
                       ·
                        simp only [Act.put, za_, zb_, zc_, i64_w, i32_w]
                        rfl
                       refine take_ (i := 5) (N := some 109) (v := ?_) (a' := ?_) (mm [(12, true), (1, false), (1, true), (35, false)]) rfl rfl (take_ofW HT_.out HW_.out (by kernel_rfl)) (fun _ _ _ h => h) (Or.inl ⟨by rfl, ?_⟩) hHeld ?_ ?_
                       rotate_left
                       ·
                        rintro w' ⟨s0, s1, s2, s3, s4, s5⟩
                        go_simp
                        with_reducible rfl
                       rotate_left
                       ·
                        simp only [Act.put, za_, zb_, zc_, i64_w, i32_w]
                        rfl
                       refine take_ (i := 12) (N := some 116) (v := ?_) (a' := ?_) (mm [(14, true), (35, false)]) rfl rfl (take_ofW HT_.out HW_.out (by kernel_rfl)) (fun _ _ _ h => h) (Or.inl ⟨by rfl, ?_⟩) hHeld ?_ ?_
                       rotate_left
                       ·
                        rintro w' ⟨s0, s1, s2, s3, s4, s5⟩
                        go_simp
                        with_reducible rfl
                       rotate_left
                       ·
                        simp only [Act.put, za_, zb_, zc_, i64_w, i32_w]
                        rfl
                       refine one_ (i := 14) (N := some 118) (mm [(15, true), (34, false)]) rfl rfl (one_of HT_.out (by kernel_rfl)) (by decide) (fun K hK => ?_)
                       refine goes_ Try.func43 (by kernel_rfl) rfl #[.slice A405_0 (rd_L1 t385 a1).length c405_0, .int .i64 a1] (by rfl) rfl rfl (by (try simp only [List.map_toArray, List.map_cons, List.map_nil]); first | done | rfl | (simp only [List.length_drop, List.length_take]; rfl)) ?_
                       with_reducible refine (bywashref10_Has.calls k3 _ _ (rd_L1 t385 a1) a1 t406 _ ?side1 ?side2 A92.out).mono ?_
                       (case side1 => repeat (first | exact (by repeat (first | (with_reducible exact HR405_0.out) | (with_reducible refine Kd.C_alloc ?_ _) | (with_reducible refine Kd.C_drewN ?_ _) | (with_reducible refine Kd.C_drew ?_) | exact HR405_0.out)) | (with_reducible refine Kd.C_alloc ?_ _) | (with_reducible refine Kd.C_drewN ?_ _) | (with_reducible refine Kd.C_drew ?_)))
                       (case side2 => exact HC405_0.out)
                       rintro e w' ⟨rfl, ⟨nd, rfl⟩⟩
                       refine ⟨_, rfl, ?_⟩
                       refine hK.out _ _ ⟨hHeld.1, hHeld.2.1, hHeld.2.2.1, hHeld.2.2.2.1, hHeld.2.2.2.2.1, hHeld.2.2.2.2.2⟩ (fun hHeld => ?_)
                       clear hK K
                       refine norm_ (a' := ?_) ?_ ?_
                       rotate_left
                       ·
                        show Act.put _ (some 118) _ = _
                        simp only [Act.put, za_, zb_, zc_, i64_w, i32_w]
                        rfl
                       refine pure_ (i := 15) (N := some 119) (v := ?_) (a' := ?_) (mm [(16, true), (33, false)]) rfl rfl (any_of HT_.out (by kernel_rfl)) (fun _ _ _ h => h) (Or.inl ⟨by rfl, ?_⟩) ?_ ?_
                       rotate_left
                       ·
                        intro w'
                        go_simp
                        with_reducible rfl
                       rotate_left
                       ·
                        simp only [Act.put, za_, zb_, zc_, i64_w, i32_w]
                        rfl
                       refine pure_ (i := 16) (N := some 120) (v := ?_) (a' := ?_) (mm [(17, true), (32, false)]) rfl rfl (any_of HT_.out (by kernel_rfl)) (fun _ _ _ h => h) (Or.inl ⟨by rfl, ?_⟩) ?_ ?_
                       rotate_left
                       ·
                        intro w'
                        go_simp
                        with_reducible rfl
                       rotate_left
                       ·
                        simp only [Act.put, za_, zb_, zc_, i64_w, i32_w]
                        rfl
                       refine pure_ (i := 17) (N := some 121) (v := ?_) (a' := ?_) (mm [(18, true), (31, false)]) rfl rfl (any_of HT_.out (by kernel_rfl)) (fun _ _ _ h => h) (Or.inl ⟨by rfl, ?_⟩) ?_ ?_
                       rotate_left
                       ·
                        intro w'
                        go_simp
                        with_reducible rfl
                       rotate_left
                       ·
                        simp only [Act.put, za_, zb_, zc_, i64_w, i32_w]
                        rfl
                       refine pure_ (i := 18) (N := some 122) (v := ?_) (a' := ?_) (mm [(19, true), (30, false)]) rfl rfl (any_of HT_.out (by kernel_rfl)) (fun _ _ _ h => h) (Or.inl ⟨by rfl, ?_⟩) ?_ ?_
                       rotate_left
                       ·
                        intro w'
                        go_simp
                        with_reducible rfl
                       rotate_left
                       ·
                        simp only [Act.put, za_, zb_, zc_, i64_w, i32_w]
                        rfl
                       refine pure_ (i := 19) (N := some 123) (v := ?_) (a' := ?_) (mm [(20, true), (29, false)]) rfl rfl (any_of HT_.out (by kernel_rfl)) (fun _ _ _ h => h) (Or.inl ⟨by rfl, ?_⟩) ?_ ?_
                       rotate_left
                       ·
                        intro w'
                        go_simp
                        with_reducible rfl
                       rotate_left
                       ·
                        simp only [Act.put, za_, zb_, zc_, i64_w, i32_w]
                        rfl
                       refine pure_ (i := 20) (N := some 124) (v := ?_) (a' := ?_) (mm [(21, true), (28, false)]) rfl rfl (any_of HT_.out (by kernel_rfl)) (fun _ _ _ h => h) (Or.inl ⟨by rfl, ?_⟩) ?_ ?_
                       rotate_left
                       ·
                        intro w'
                        go_simp
                        with_reducible rfl
                       rotate_left
                       ·
                        simp only [Act.put, za_, zb_, zc_, i64_w, i32_w]
                        rfl
                       refine pure_ (i := 21) (N := some 125) (v := ?_) (a' := ?_) (mm [(22, true), (27, false)]) rfl rfl (any_of HT_.out (by kernel_rfl)) (fun _ _ _ h => h) (Or.inl ⟨by rfl, ?_⟩) ?_ ?_
                       rotate_left
                       ·
                        intro w'
                        go_simp
                        with_reducible rfl
                       rotate_left
                       ·
                        simp only [Act.put, za_, zb_, zc_, i64_w, i32_w]
                        rfl
                       refine pure_ (i := 23) (N := some 127) (v := ?_) (a' := ?_) (mm [(22, true), (1, false), (1, true), (25, false)]) rfl rfl (any_of HT_.out (by kernel_rfl)) (fun _ _ _ h => h) (Or.inl ⟨by rfl, ?_⟩) ?_ ?_
                       rotate_left
                       ·
                        intro w'
                        go_simp
                        with_reducible rfl
                       rotate_left
                       ·
                        simp only [Act.put, za_, zb_, zc_, i64_w, i32_w]
                        rfl
                       refine pure_ (i := 24) (N := some 128) (v := ?_) (a' := ?_) (mm [(22, true), (1, false), (2, true), (24, false)]) rfl rfl (any_of HT_.out (by kernel_rfl)) (fun _ _ _ h => h) (Or.inl ⟨by rfl, ?_⟩) ?_ ?_
                       rotate_left
                       ·
                        intro w'
                        go_simp
                        with_reducible rfl
                       rotate_left
                       ·
                        simp only [Act.put, za_, zb_, zc_, i64_w, i32_w]
                        rfl
                       refine pure_ (i := 25) (N := some 129) (v := ?_) (a' := ?_) (mm [(22, true), (1, false), (3, true), (23, false)]) rfl rfl (any_of HT_.out (by kernel_rfl)) (fun _ _ _ h => h) (Or.inl ⟨by rfl, ?_⟩) ?_ ?_
                       rotate_left
                       ·
                        intro w'
                        go_simp
                        with_reducible rfl
                       rotate_left
                       ·
                        simp only [Act.put, za_, zb_, zc_, i64_w, i32_w]
                        rfl
                       refine take_ (i := 22) (N := some 126) (v := ?_) (a' := ?_) (mm [(26, true), (23, false)]) rfl rfl (take_ofW HT_.out HW_.out (by kernel_rfl)) (fun _ _ _ h => h) (Or.inl ⟨by rfl, ?_⟩) hHeld ?_ ?_
                       rotate_left
                       ·
                        rintro w' ⟨s0, s1, s2, s3, s4, s5⟩
                        go_simp
                        with_reducible rfl
                       rotate_left
                       ·
                        simp only [Act.put, za_, zb_, zc_, i64_w, i32_w]
                        rfl
                       refine one_ (i := 26) (N := some 130) (mm [(27, true), (22, false)]) rfl rfl (one_of HT_.out (by kernel_rfl)) (by decide) (fun K hK => ?_)
                       refine goes_ Try.func30 (by kernel_rfl) rfl #[.slice A0 l0.length c0, .int .i64 a1, .int .i64 a1] (by rfl) rfl rfl (by (try simp only [List.map_toArray, List.map_cons, List.map_nil]); first | done | rfl | (simp only [List.length_drop, List.length_take]; rfl)) ?_
                       with_reducible refine (graph_Path.calls _ _ l0 a1 a1 t408 _ ?side1 ?side2 A94.out).mono ?_
                       (case side1 => repeat (first | exact (Kd.C_below HR0.out (by repeat (first | (with_reducible first | exact HB.out | apply below_alloc | apply pw_below_drewN | apply below_drew1) | exact HB.out))) | (with_reducible refine Kd.C_alloc ?_ _) | (with_reducible refine Kd.C_drewN ?_ _) | (with_reducible refine Kd.C_drew ?_)))
                       (case side2 => exact HC0.out)
                       rintro e w107 ⟨rfl, hb⟩
                       have HS0_ := (hb.cell (World.block_lt_of_cell? _ _ (hHeld.1))).trans (hHeld.1)
                       have HS1_ := (hb.cell (World.block_lt_of_cell? _ _ (hHeld.2.1))).trans (hHeld.2.1)
                       have HS2_ := (hb.cell (World.block_lt_of_cell? _ _ (hHeld.2.2.1))).trans (hHeld.2.2.1)
                       have HS3_ := (hb.cell (World.block_lt_of_cell? _ _ (hHeld.2.2.2.1))).trans (hHeld.2.2.2.1)
                       have HS4_ := (hb.cell (World.block_lt_of_cell? _ _ (hHeld.2.2.2.2.1))).trans (hHeld.2.2.2.2.1)
                       have HS5_ := (hb.cell (World.block_lt_of_cell? _ _ (hHeld.2.2.2.2.2))).trans (hHeld.2.2.2.2.2)
                       refine ⟨_, rfl, ?_⟩
                       have n0_ := Aside0.mk (Kd.R_below (by (with_reducible repeat (first | apply Kd.R_alloc | apply Kd.R_drewN | apply Kd.R_drew)); exact HO_8.out) hb)
                       have n1_ := Aside0.mk (Kd.R_below (by (with_reducible repeat (first | apply Kd.R_alloc | apply Kd.R_drewN | apply Kd.R_drew)); exact HO_9.out) hb)
                       have n2_ := Aside0.mk (Kd.S_below (by (with_reducible repeat (first | apply Kd.S_alloc | apply Kd.S_drewN | apply Kd.S_drew)); exact HO_10.out) hb)
                       have n3_ := Aside0.mk (Kd.R_below (by (with_reducible repeat (first | apply Kd.R_alloc | apply Kd.R_drewN | apply Kd.R_drew)); exact HO_11.out) hb)
                       have n4_ := Aside0.mk (Kd.R_below (by (with_reducible repeat (first | apply Kd.R_alloc | apply Kd.R_drewN | apply Kd.R_drew)); exact HO_12.out) hb)
                       have n5_ := Aside0.mk (Kd.R_below (by (with_reducible repeat (first | apply Kd.R_alloc | apply Kd.R_drewN | apply Kd.R_drew)); exact HL405_0.out) hb)
                       have n6_ := Aside0.mk (Kd.C_below (by repeat (first | (with_reducible exact HR405_0.out) | (with_reducible refine Kd.C_alloc ?_ _) | (with_reducible refine Kd.C_drewN ?_ _) | (with_reducible refine Kd.C_drew ?_) | exact HR405_0.out)) hb)
                       have n7_ := Aside0.mk (below_step (by repeat (first | (with_reducible first | exact HB.out | apply below_alloc | apply pw_below_drewN | apply below_drew1) | exact HB.out)) hb)
                       clear HO_8 HO_9 HO_10 HO_11 HO_12 HL405_0 HR405_0 HB
                       have HO_8 := n0_
                       have HO_9 := n1_
                       have HO_10 := n2_
                       have HO_11 := n3_
                       have HO_12 := n4_
                       have HL405_0 := n5_
                       have HR405_0 := n6_
                       have HB := n7_
                       clear n0_ n1_ n2_ n3_ n4_ n5_ n6_ n7_
                       (try clear hb)
                       (try clear hb2)
                       (try clear hk)
                       (try clear hi)
                       obtain ⟨Ao108, co108, eo108⟩ := Kd.R_slice HO_11.out
                       (first | subst eo108 | (injection eo108 with f1_ f2_ f3_; have f4_ := f1_.symm; have f5_ := f3_.symm; clear f1_ f2_ f3_; subst f4_; subst f5_))
                       obtain ⟨Ao109, co109, eo109⟩ := Kd.R_slice HO_12.out
                       (first | subst eo109 | (injection eo109 with f1_ f2_ f3_; have f4_ := f1_.symm; have f5_ := f3_.symm; clear f1_ f2_ f3_; subst f4_; subst f5_))
                       refine hK.out _ _ ⟨HS0_, HS1_, HS2_, HS3_, HS4_, HS5_⟩ (fun hHeld => ?_)
                       clear hK K
                       refine norm_ (a' := ?_) ?_ ?_
                       rotate_left
                       ·
                        show Act.put _ (some 130) _ = _
                        simp only [Act.put, za_, zb_, zc_, i64_w, i32_w]
                        rfl
                       refine pure_ (i := 27) (N := some 131) (v := ?_) (a' := ?_) (mm [(28, true), (21, false)]) rfl rfl (any_of HT_.out (by kernel_rfl)) (fun _ _ _ h => h) (Or.inl ⟨by rfl, ?_⟩) ?_ ?_
                       rotate_left
                       ·
                        intro w'
                        go_simp
                        with_reducible rfl
                       rotate_left
                       ·
                        simp only [Act.put, za_, zb_, zc_, i64_w, i32_w]
                        rfl
                       refine pure_ (i := 28) (N := some 132) (v := ?_) (a' := ?_) (mm [(29, true), (20, false)]) rfl rfl (any_of HT_.out (by kernel_rfl)) (fun _ _ _ h => h) (Or.inl ⟨by rfl, ?_⟩) ?_ ?_
                       rotate_left
                       ·
                        intro w'
                        go_simp
                        with_reducible rfl
                       rotate_left
                       ·
                        simp only [Act.put, za_, zb_, zc_, i64_w, i32_w]
                        rfl
                       refine pure_ (i := 29) (N := some 133) (v := ?_) (a' := ?_) (mm [(30, true), (19, false)]) rfl rfl (any_of HT_.out (by kernel_rfl)) (fun _ _ _ h => h) (Or.inl ⟨by rfl, ?_⟩) ?_ ?_
                       rotate_left
                       ·
                        intro w'
                        go_simp
                        with_reducible rfl
                       rotate_left
                       ·
                        simp only [Act.put, za_, zb_, zc_, i64_w, i32_w]
                        rfl
                       refine pure_ (i := 30) (N := some 134) (v := ?_) (a' := ?_) (mm [(31, true), (18, false)]) rfl rfl (any_of HT_.out (by kernel_rfl)) (fun _ _ _ h => h) (Or.inl ⟨by rfl, ?_⟩) ?_ ?_
                       rotate_left
                       ·
                        intro w'
                        go_simp
                        with_reducible rfl
                       rotate_left
                       ·
                        simp only [Act.put, za_, zb_, zc_, i64_w, i32_w]
                        rfl
                       refine pure_ (i := 31) (N := some 135) (v := ?_) (a' := ?_) (mm [(32, true), (17, false)]) rfl rfl (any_of HT_.out (by kernel_rfl)) (fun _ _ _ h => h) (Or.inl ⟨by rfl, ?_⟩) ?_ ?_
                       rotate_left
                       ·
                        intro w'
                        go_simp
                        with_reducible rfl
                       rotate_left
                       ·
                        simp only [Act.put, za_, zb_, zc_, i64_w, i32_w]
                        rfl
                       refine pure_ (i := 32) (N := some 136) (v := ?_) (a' := ?_) (mm [(33, true), (16, false)]) rfl rfl (any_of HT_.out (by kernel_rfl)) (fun _ _ _ h => h) (Or.inl ⟨by rfl, ?_⟩) ?_ ?_
                       rotate_left
                       ·
                        intro w'
                        go_simp
                        with_reducible rfl
                       rotate_left
                       ·
                        simp only [Act.put, za_, zb_, zc_, i64_w, i32_w]
                        rfl
                       refine take_ (i := 33) (N := some 137) (v := ?_) (a' := ?_) (mm [(34, true), (15, false)]) rfl rfl (take_ofW HT_.out HW_.out (by kernel_rfl)) (fun _ _ _ h => h) (Or.inl ⟨by rfl, ?_⟩) hHeld ?_ ?_
                       rotate_left
                       ·
                        rintro w' ⟨s0, s1, s2, s3, s4, s5⟩
                        go_simp
                        with_reducible rfl
                       rotate_left
                       ·
                        simp only [Act.put, za_, zb_, zc_, i64_w, i32_w]
                        rfl
                       refine pure_ (i := 34) (N := some 138) (v := ?_) (a' := ?_) (mm [(35, true), (14, false)]) rfl rfl (any_of HT_.out (by kernel_rfl)) (fun _ _ _ h => h) (Or.inl ⟨by rfl, ?_⟩) ?_ ?_
                       rotate_left
                       ·
                        intro w'
                        go_simp
                        with_reducible rfl
                       rotate_left
                       ·
                        simp only [Act.put, za_, zb_, zc_, i64_w, i32_w]
                        rfl
                       refine pure_ (i := 35) (N := some 139) (v := ?_) (a' := ?_) (mm [(36, true), (13, false)]) rfl rfl (any_of HT_.out (by kernel_rfl)) (fun _ _ _ h => h) (Or.inl ⟨by rfl, ?_⟩) ?_ ?_
                       rotate_left
                       ·
                        intro w'
                        go_simp
                        with_reducible rfl
                       rotate_left
                       ·
                        simp only [Act.put, za_, zb_, zc_, i64_w, i32_w]
                        rfl
                       refine pure_ (i := 36) (N := some 140) (v := ?_) (a' := ?_) (mm [(37, true), (12, false)]) rfl rfl (any_of HT_.out (by kernel_rfl)) (fun _ _ _ h => h) (Or.inl ⟨by rfl, ?_⟩) ?_ ?_
                       rotate_left
                       ·
                        intro w'
                        go_simp
                        with_reducible rfl
                       rotate_left
                       ·
                        simp only [Act.put, za_, zb_, zc_, i64_w, i32_w]
                        rfl
                       refine pure_ (i := 37) (N := some 141) (v := ?_) (a' := ?_) (mm [(38, true), (11, false)]) rfl rfl (any_of HT_.out (by kernel_rfl)) (fun _ _ _ h => h) (Or.inl ⟨by rfl, ?_⟩) ?_ ?_
                       rotate_left
                       ·
                        intro w'
                        go_simp
                        with_reducible rfl
                       rotate_left
                       ·
                        simp only [Act.put, za_, zb_, zc_, i64_w, i32_w]
                        rfl
                       refine pure_ (i := 38) (N := some 142) (v := ?_) (a' := ?_) (mm [(39, true), (10, false)]) rfl rfl (any_of HT_.out (by kernel_rfl)) (fun _ _ _ h => h) (Or.inl ⟨by rfl, ?_⟩) ?_ ?_
                       rotate_left
                       ·
                        intro w'
                        go_simp
                        with_reducible rfl
                       rotate_left
                       ·
                        simp only [Act.put, za_, zb_, zc_, i64_w, i32_w]
                        rfl
                       refine take_ (i := 39) (N := some 143) (v := ?_) (a' := ?_) (mm [(40, true), (9, false)]) rfl rfl (take_ofW HT_.out HW_.out (by kernel_rfl)) (fun _ _ _ h => h) (Or.inl ⟨by rfl, ?_⟩) hHeld ?_ ?_
                       rotate_left
                       ·
                        rintro w' ⟨s0, s1, s2, s3, s4, s5⟩
                        go_simp
                        with_reducible rfl
                       rotate_left
                       ·
                        simp only [Act.put, za_, zb_, zc_, i64_w, i32_w]
                        rfl
                       refine pure_ (i := 40) (N := some 144) (v := ?_) (a' := ?_) (mm [(41, true), (8, false)]) rfl rfl (any_of HT_.out (by kernel_rfl)) (fun _ _ _ h => h) (Or.inl ⟨by rfl, ?_⟩) ?_ ?_
                       rotate_left
                       ·
                        intro w'
                        go_simp
                        with_reducible rfl
                       rotate_left
                       ·
                        simp only [Act.put, za_, zb_, zc_, i64_w, i32_w]
                        rfl
                       refine pure_ (i := 41) (N := some 145) (v := ?_) (a' := ?_) (mm [(42, true), (7, false)]) rfl rfl (any_of HT_.out (by kernel_rfl)) (fun _ _ _ h => h) (Or.inl ⟨by rfl, ?_⟩) ?_ ?_
                       rotate_left
                       ·
                        intro w'
                        go_simp
                        with_reducible rfl
                       rotate_left
                       ·
                        simp only [Act.put, za_, zb_, zc_, i64_w, i32_w]
                        rfl
                       refine pure_ (i := 42) (N := some 146) (v := ?_) (a' := ?_) (mm [(43, true), (6, false)]) rfl rfl (any_of HT_.out (by kernel_rfl)) (fun _ _ _ h => h) (Or.inl ⟨by rfl, ?_⟩) ?_ ?_
                       rotate_left
                       ·
                        intro w'
                        go_simp
                        with_reducible rfl
                       rotate_left
                       ·
                        simp only [Act.put, za_, zb_, zc_, i64_w, i32_w]
                        rfl
                       refine pure_ (i := 43) (N := some 147) (v := ?_) (a' := ?_) (mm [(44, true), (5, false)]) rfl rfl (any_of HT_.out (by kernel_rfl)) (fun _ _ _ h => h) (Or.inl ⟨by rfl, ?_⟩) ?_ ?_
                       rotate_left
                       ·
                        intro w'
                        go_simp
                        with_reducible rfl
                       rotate_left
                       ·
                        simp only [Act.put, za_, zb_, zc_, i64_w, i32_w]
                        rfl
                       refine take_ (i := 44) (N := some 148) (v := ?_) (a' := ?_) (mm [(45, true), (4, false)]) rfl rfl (take_ofW HT_.out HW_.out (by kernel_rfl)) (fun _ _ _ h => h) (Or.inl ⟨by rfl, ?_⟩) hHeld ?_ ?_
                       rotate_left
                       ·
                        rintro w' ⟨s0, s1, s2, s3, s4, s5⟩
                        go_simp
                        with_reducible rfl
                       rotate_left
                       ·
                        simp only [Act.put, za_, zb_, zc_, i64_w, i32_w]
                        rfl
                       refine pure_ (i := 45) (N := some 149) (v := ?_) (a' := ?_) (mm [(46, true), (3, false)]) rfl rfl (any_of HT_.out (by kernel_rfl)) (fun _ _ _ h => h) (Or.inl ⟨by rfl, ?_⟩) ?_ ?_
                       rotate_left
                       ·
                        intro w'
                        go_simp
                        with_reducible rfl
                       rotate_left
                       ·
                        simp only [Act.put, za_, zb_, zc_, i64_w, i32_w]
                        rfl
                       refine pure_ (i := 46) (N := some 150) (v := ?_) (a' := ?_) (mm [(47, true), (2, false)]) rfl rfl (any_of HT_.out (by kernel_rfl)) (fun _ _ _ h => h) (Or.inl ⟨by rfl, ?_⟩) ?_ ?_
                       rotate_left
                       ·
                        intro w'
                        go_simp
                        with_reducible rfl
                       rotate_left
                       ·
                        simp only [Act.put, za_, zb_, zc_, i64_w, i32_w]
                        rfl
                       refine pure_ (i := 47) (N := some 151) (v := ?_) (a' := ?_) (mm [(48, true), (1, false)]) rfl rfl (any_of HT_.out (by kernel_rfl)) (fun _ _ _ h => h) (Or.inl ⟨by rfl, ?_⟩) ?_ ?_
                       rotate_left
                       ·
                        intro w'
                        go_simp
                        with_reducible rfl
                       rotate_left
                       ·
                        simp only [Act.put, za_, zb_, zc_, i64_w, i32_w]
                        rfl
                       refine pure_ (i := 48) (N := some 6) (v := ?_) (a' := ?_) (mm [(49, true)]) rfl rfl (any_of HT_.out (by kernel_rfl)) (fun _ _ _ h => h) (Or.inl ⟨by rfl, ?_⟩) ?_ ?_
                       rotate_left
                       ·
                        intro w'
                        go_simp
                        with_reducible rfl
                       rotate_left
                       ·
                        simp only [Act.put, za_, zb_, zc_, i64_w, i32_w]
                        rfl
                       refine done_ (done_of HT_.out (by kernel_rfl)) ?_
                       try go_wp2
                       go_ret
                       exact ⟨by first | rfl | (simp [errW_none, errW_some] <;> rfl) | (simp [*, errW_none, errW_some] <;> rfl) | (exfalso; (try simp_all); (try omega); done), by repeat (first | (with_reducible first | exact HB.out | apply below_alloc | apply pw_below_drewN | apply below_drew1) | exact HB.out)⟩
                      ·
                       rw [if_neg c103] at H
                       exact absurd H (by simp)
                     ·
                      replace c102 := Bool.eq_false_iff.mpr c102
                      subst c102
                      have H1 : (some false) = some r := by rw [if_neg (show ¬ (false = true) by decide)] at H; exact H
                      clear H
                      have H := H1
                      exact absurd (Option.some.inj H) (by rw [HRT.out]; decide)
                    ·
                     rw [if_neg c100] at H
                     exact absurd H (by simp)
                   ·
                    replace c99 := Bool.eq_false_iff.mpr c99
                    subst c99
                    have H1 : (some true) = some r := by rw [if_neg (show ¬ (false = true) by decide)] at H; exact H
                    clear H
                    have H := H1
                    clear H1
                    obtain rfl := Option.some.inj H
                    try go_wp2
                    have n0_ := Aside0.mk (Kd.R_drew HO_8.out)
                    have n1_ := Aside0.mk (Kd.R_drew HO_9.out)
                    have n2_ := Aside0.mk (Kd.S_drew HO_10.out)
                    have n3_ := Aside0.mk (Kd.R_drew HO_11.out)
                    have n4_ := Aside0.mk (Kd.R_drew HO_12.out)
                    have n5_ := Aside0.mk (below_drew1 HB.out)
                    clear HO_8 HO_9 HO_10 HO_11 HO_12 HB
                    have HO_8 := n0_
                    have HO_9 := n1_
                    have HO_10 := n2_
                    have HO_11 := n3_
                    have HO_12 := n4_
                    have HB := n5_
                    clear n0_ n1_ n2_ n3_ n4_ n5_
                    obtain ⟨Ao117, co117, eo117⟩ := Kd.R_slice HO_8.out
                    (first | subst eo117 | (injection eo117 with f1_ f2_ f3_; have f4_ := f1_.symm; have f5_ := f3_.symm; clear f1_ f2_ f3_; subst f4_; subst f5_))
                    have p399 : 0 ≤ (a1 : Int) := of_decide_eq_true (by first | (with_reducible assumption) | assumption)
                    have q399 : a1 < (t379.length : Int) := of_decide_eq_true (by first | (with_reducible assumption) | assumption)
                    obtain ⟨ad399, e399, hx399_0⟩ := Kd.at_bool (Kd.R_reads' HO_8.out).2.2 a1 p399 q399
                    (try rw [← Nbq98.out] at hx399_0)
                    cases e399
                    replace p399 := eq_true p399
                    replace q399 := eq_true q399
                    obtain ⟨Ao118, co118, eo118⟩ := Kd.S_slice HO_10.out
                    (first | subst eo118 | (injection eo118 with f1_ f2_ f3_; have f4_ := f1_.symm; have f5_ := f3_.symm; clear f1_ f2_ f3_; subst f4_; subst f5_))
                    have p405 : 0 ≤ (a1 : Int) := of_decide_eq_true (by first | (with_reducible assumption) | assumption)
                    have q405 : a1 < (t385.length : Int) := of_decide_eq_true (by first | (with_reducible assumption) | assumption)
                    obtain ⟨ad405, A405_0, c405_0, e405, hx405_0, hl405_0, hi405_0⟩ := at_L1 (Kd.S_reads' HO_10.out).2.2 a1 p405 q405
                    cases e405
                    obtain ⟨ce405, hce405, hMe405, hcc405⟩ := Kd.S_get HO_10.out [] a1 p405 (by first | exact q405 | exact of_decide_eq_true (by first | (with_reducible assumption) | assumption) | (have e_ := (Kd.S_reads' HO_10.out).1; omega))
                    obtain ⟨ve405_0, rfl, ge405_0⟩ := hMe405
                    have hv405_0 := hcc405 0 _ rfl
                    rw [Nat.add_zero, show ((Kd.slice 3 (Kd.int .i64))).sz = 1 from rfl, Nat.mul_one] at hv405_0
                    replace hv405_0 := Option.some.inj (hv405_0.symm.trans hx405_0)
                    rw [hv405_0] at ge405_0
                    have HL405_0 := Aside0.mk (show Kd.R (Kd.int .i64) 3 _ _ _ _ (rd_L1 t385 a1) from ge405_0)
                    clear hv405_0 ge405_0
                    clear hcc405 hce405
                    have HR405_0 := Aside0.mk hi405_0
                    have HC405_0 := Aside0.mk hl405_0
                    clear hi405_0 hl405_0
                    replace p405 := eq_true p405
                    replace q405 := eq_true q405
                    have p407 : 0 ≤ (a1 : Int) := of_decide_eq_true (by first | (with_reducible assumption) | assumption)
                    have q407 : a1 < (t379.length : Int) := of_decide_eq_true (by first | (with_reducible assumption) | assumption)
                    obtain ⟨ad407, e407, hx407_0⟩ := Kd.at_bool (Kd.R_reads' HO_8.out).2.2 a1 p407 q407
                    (try rw [← Nbq98.out] at hx407_0)
                    obtain rfl : ad399 = ad407 := (by injection e407)
                    replace p407 := eq_true p407
                    replace q407 := eq_true q407
                    (try (obtain ⟨Az409, cz409, ez409⟩ := Kd.R_slice HO_11.out; subst ez409))
                    have p409 : 0 ≤ (a2 : Int) := of_decide_eq_true (by first | (with_reducible assumption) | assumption)
                    have q409 : a2 < (t388.length : Int) := of_decide_eq_true (by first | (with_reducible assumption) | assumption)
                    obtain ⟨ad409, e409, hx409_0⟩ := Kd.at_bool (Kd.R_reads' HO_11.out).2.2 a2 p409 q409
                    (try rw [← Nbq98.out] at hx409_0)
                    cases e409
                    replace p409 := eq_true p409
                    replace q409 := eq_true q409
                    refine start_ (n := 49) (S := fun w' => w'.cell? (ad399.add (a1).toNat) = some (.bool (rdOf false t379 a1)) ∧ w'.cell? (ad405.add (a1).toNat) = some (.slice A405_0 (rd_L1 t385 a1).length c405_0) ∧ w'.cell? (ad399.add (a1).toNat) = some (.bool (rdOf false t379 a1)) ∧ w'.cell? (ad409.add (a2).toNat) = some (.bool false)) (ds := []) (mm [(49, false)]) (by kernel_rfl) rfl rfl ⟨hx399_0, hx405_0, hx407_0, hx409_0⟩ (fun hHeld => ?_); refine with_tabW bywashlaw11_SccLoops.tab17 bywashlaw11_SccLoops.bits17 (fun HT_ HW_ => ?_)
                    generalize wr.drew = w116 at HO_8 HO_9 HO_10 HO_11 HO_12 HB HL405_0 HR405_0 hx399_0 hx405_0 hx407_0 hx409_0 hHeld ⊢
                    refine pure_ (i := 0) (N := some 104) (v := ?_) (a' := ?_) (mm [(1, true), (48, false)]) rfl rfl (any_of HT_.out (by kernel_rfl)) (fun _ _ _ h => h) (Or.inl ⟨by rfl, ?_⟩) ?_ ?_
                    rotate_left
                    ·
                     intro w'
                     go_simp
                     with_reducible rfl
                    rotate_left
                    ·
                     simp only [Act.put, za_, zb_, zc_, i64_w, i32_w]
                     rfl
                    refine pure_ (i := 1) (N := some 105) (v := ?_) (a' := ?_) (mm [(2, true), (47, false)]) rfl rfl (any_of HT_.out (by kernel_rfl)) (fun _ _ _ h => h) (Or.inl ⟨by rfl, ?_⟩) ?_ ?_
                    rotate_left
                    ·
                     intro w'
                     go_simp
                     with_reducible rfl
                    rotate_left
                    ·
                     simp only [Act.put, za_, zb_, zc_, i64_w, i32_w]
                     rfl
                    refine pure_ (i := 2) (N := some 106) (v := ?_) (a' := ?_) (mm [(3, true), (46, false)]) rfl rfl (any_of HT_.out (by kernel_rfl)) (fun _ _ _ h => h) (Or.inl ⟨by rfl, ?_⟩) ?_ ?_
                    rotate_left
                    ·
                     intro w'
                     go_simp
                     with_reducible rfl
                    rotate_left
                    ·
                     simp only [Act.put, za_, zb_, zc_, i64_w, i32_w]
                     rfl
                    refine pure_ (i := 3) (N := some 107) (v := ?_) (a' := ?_) (mm [(4, true), (45, false)]) rfl rfl (any_of HT_.out (by kernel_rfl)) (fun _ _ _ h => h) (Or.inl ⟨by rfl, ?_⟩) ?_ ?_
                    rotate_left
                    ·
                     intro w'
                     go_simp
                     with_reducible rfl
                    rotate_left
                    ·
                     simp only [Act.put, za_, zb_, zc_, i64_w, i32_w]
                     rfl
                    refine pure_ (i := 4) (N := some 108) (v := ?_) (a' := ?_) (mm [(5, true), (44, false)]) rfl rfl (any_of HT_.out (by kernel_rfl)) (fun _ _ _ h => h) (Or.inl ⟨by rfl, ?_⟩) ?_ ?_
                    rotate_left
                    ·
                     intro w'
                     go_simp
                     with_reducible rfl
                    rotate_left
                    ·
                     simp only [Act.put, za_, zb_, zc_, i64_w, i32_w]
                     rfl
                    refine pure_ (i := 6) (N := some 110) (v := ?_) (a' := ?_) (mm [(5, true), (1, false), (1, true), (42, false)]) rfl rfl (any_of HT_.out (by kernel_rfl)) (fun _ _ _ h => h) (Or.inl ⟨by rfl, ?_⟩) ?_ ?_
                    rotate_left
                    ·
                     intro w'
                     go_simp
                     with_reducible rfl
                    rotate_left
                    ·
                     simp only [Act.put, za_, zb_, zc_, i64_w, i32_w]
                     rfl
                    refine pure_ (i := 7) (N := some 111) (v := ?_) (a' := ?_) (mm [(5, true), (1, false), (2, true), (41, false)]) rfl rfl (any_of HT_.out (by kernel_rfl)) (fun _ _ _ h => h) (Or.inl ⟨by rfl, ?_⟩) ?_ ?_
                    rotate_left
                    ·
                     intro w'
                     go_simp
                     with_reducible rfl
                    rotate_left
                    ·
                     simp only [Act.put, za_, zb_, zc_, i64_w, i32_w]
                     rfl
                    refine pure_ (i := 8) (N := some 112) (v := ?_) (a' := ?_) (mm [(5, true), (1, false), (3, true), (40, false)]) rfl rfl (any_of HT_.out (by kernel_rfl)) (fun _ _ _ h => h) (Or.inl ⟨by rfl, ?_⟩) ?_ ?_
                    rotate_left
                    ·
                     intro w'
                     go_simp
                     with_reducible rfl
                    rotate_left
                    ·
                     simp only [Act.put, za_, zb_, zc_, i64_w, i32_w]
                     rfl
                    refine pure_ (i := 9) (N := some 113) (v := ?_) (a' := ?_) (mm [(5, true), (1, false), (4, true), (39, false)]) rfl rfl (any_of HT_.out (by kernel_rfl)) (fun _ _ _ h => h) (Or.inl ⟨by rfl, ?_⟩) ?_ ?_
                    rotate_left
                    ·
                     intro w'
                     go_simp
                     with_reducible rfl
                    rotate_left
                    ·
                     simp only [Act.put, za_, zb_, zc_, i64_w, i32_w]
                     rfl
                    refine pure_ (i := 10) (N := some 114) (v := ?_) (a' := ?_) (mm [(5, true), (1, false), (5, true), (38, false)]) rfl rfl (any_of HT_.out (by kernel_rfl)) (fun _ _ _ h => h) (Or.inl ⟨by rfl, ?_⟩) ?_ ?_
                    rotate_left
                    ·
                     intro w'
                     go_simp
                     with_reducible rfl
                    rotate_left
                    ·
                     simp only [Act.put, za_, zb_, zc_, i64_w, i32_w]
                     rfl
                    refine pure_ (i := 11) (N := some 115) (v := ?_) (a' := ?_) (mm [(5, true), (1, false), (6, true), (37, false)]) rfl rfl (any_of HT_.out (by kernel_rfl)) (fun _ _ _ h => h) (Or.inl ⟨by rfl, ?_⟩) ?_ ?_
                    rotate_left
                    ·
                     intro w'
                     go_simp
                     with_reducible rfl
                    rotate_left
                    ·
                     simp only [Act.put, za_, zb_, zc_, i64_w, i32_w]
                     rfl
                    refine pure_ (i := 13) (N := some 117) (v := ?_) (a' := ?_) (mm [(5, true), (1, false), (6, true), (1, false), (1, true), (35, false)]) rfl rfl (any_of HT_.out (by kernel_rfl)) (fun _ _ _ h => h) (Or.inl ⟨by rfl, ?_⟩) ?_ ?_
                    rotate_left
                    ·
                     intro w'
                     go_simp
                     with_reducible rfl
                    rotate_left
                    ·
                     simp only [Act.put, za_, zb_, zc_, i64_w, i32_w]
                     rfl
                    refine take_ (i := 5) (N := some 109) (v := ?_) (a' := ?_) (mm [(12, true), (1, false), (1, true), (35, false)]) rfl rfl (take_ofW HT_.out HW_.out (by kernel_rfl)) (fun _ _ _ h => h) (Or.inl ⟨by rfl, ?_⟩) hHeld ?_ ?_
                    rotate_left
                    ·
                     rintro w' ⟨s0, s1, s2, s3⟩
                     go_simp
                     with_reducible rfl
                    rotate_left
                    ·
                     simp only [Act.put, za_, zb_, zc_, i64_w, i32_w]
                     rfl
                    refine take_ (i := 12) (N := some 116) (v := ?_) (a' := ?_) (mm [(14, true), (35, false)]) rfl rfl (take_ofW HT_.out HW_.out (by kernel_rfl)) (fun _ _ _ h => h) (Or.inl ⟨by rfl, ?_⟩) hHeld ?_ ?_
                    rotate_left
                    ·
                     rintro w' ⟨s0, s1, s2, s3⟩
                     go_simp
                     with_reducible rfl
                    rotate_left
                    ·
                     simp only [Act.put, za_, zb_, zc_, i64_w, i32_w]
                     rfl
                    refine one_ (i := 14) (N := some 118) (mm [(15, true), (34, false)]) rfl rfl (one_of HT_.out (by kernel_rfl)) (by decide) (fun K hK => ?_)
                    refine goes_ Try.func43 (by kernel_rfl) rfl #[.slice A405_0 (rd_L1 t385 a1).length c405_0, .int .i64 a1] (by rfl) rfl rfl (by (try simp only [List.map_toArray, List.map_cons, List.map_nil]); first | done | rfl | (simp only [List.length_drop, List.length_take]; rfl)) ?_
                    with_reducible refine (bywashref10_Has.calls k3 _ _ (rd_L1 t385 a1) a1 t406 _ ?side1 ?side2 A92.out).mono ?_
                    (case side1 => repeat (first | exact (by repeat (first | (with_reducible exact HR405_0.out) | (with_reducible refine Kd.C_alloc ?_ _) | (with_reducible refine Kd.C_drewN ?_ _) | (with_reducible refine Kd.C_drew ?_) | exact HR405_0.out)) | (with_reducible refine Kd.C_alloc ?_ _) | (with_reducible refine Kd.C_drewN ?_ _) | (with_reducible refine Kd.C_drew ?_)))
                    (case side2 => exact HC405_0.out)
                    rintro e w' ⟨rfl, ⟨nd, rfl⟩⟩
                    refine ⟨_, rfl, ?_⟩
                    refine hK.out _ _ ⟨hHeld.1, hHeld.2.1, hHeld.2.2.1, hHeld.2.2.2⟩ (fun hHeld => ?_)
                    clear hK K
                    refine norm_ (a' := ?_) ?_ ?_
                    rotate_left
                    ·
                     show Act.put _ (some 118) _ = _
                     simp only [Act.put, za_, zb_, zc_, i64_w, i32_w]
                     rfl
                    refine pure_ (i := 15) (N := some 119) (v := ?_) (a' := ?_) (mm [(16, true), (33, false)]) rfl rfl (any_of HT_.out (by kernel_rfl)) (fun _ _ _ h => h) (Or.inl ⟨by rfl, ?_⟩) ?_ ?_
                    rotate_left
                    ·
                     intro w'
                     go_simp
                     with_reducible rfl
                    rotate_left
                    ·
                     simp only [Act.put, za_, zb_, zc_, i64_w, i32_w]
                     rfl
                    refine pure_ (i := 16) (N := some 120) (v := ?_) (a' := ?_) (mm [(17, true), (32, false)]) rfl rfl (any_of HT_.out (by kernel_rfl)) (fun _ _ _ h => h) (Or.inl ⟨by rfl, ?_⟩) ?_ ?_
                    rotate_left
                    ·
                     intro w'
                     go_simp
                     with_reducible rfl
                    rotate_left
                    ·
                     simp only [Act.put, za_, zb_, zc_, i64_w, i32_w]
                     rfl
                    refine pure_ (i := 17) (N := some 121) (v := ?_) (a' := ?_) (mm [(18, true), (31, false)]) rfl rfl (any_of HT_.out (by kernel_rfl)) (fun _ _ _ h => h) (Or.inl ⟨by rfl, ?_⟩) ?_ ?_
                    rotate_left
                    ·
                     intro w'
                     go_simp
                     with_reducible rfl
                    rotate_left
                    ·
                     simp only [Act.put, za_, zb_, zc_, i64_w, i32_w]
                     rfl
                    refine pure_ (i := 18) (N := some 122) (v := ?_) (a' := ?_) (mm [(19, true), (30, false)]) rfl rfl (any_of HT_.out (by kernel_rfl)) (fun _ _ _ h => h) (Or.inl ⟨by rfl, ?_⟩) ?_ ?_
                    rotate_left
                    ·
                     intro w'
                     go_simp
                     with_reducible rfl
                    rotate_left
                    ·
                     simp only [Act.put, za_, zb_, zc_, i64_w, i32_w]
                     rfl
                    refine pure_ (i := 19) (N := some 123) (v := ?_) (a' := ?_) (mm [(20, true), (29, false)]) rfl rfl (any_of HT_.out (by kernel_rfl)) (fun _ _ _ h => h) (Or.inl ⟨by rfl, ?_⟩) ?_ ?_
                    rotate_left
                    ·
                     intro w'
                     go_simp
                     with_reducible rfl
                    rotate_left
                    ·
                     simp only [Act.put, za_, zb_, zc_, i64_w, i32_w]
                     rfl
                    refine pure_ (i := 20) (N := some 124) (v := ?_) (a' := ?_) (mm [(21, true), (28, false)]) rfl rfl (any_of HT_.out (by kernel_rfl)) (fun _ _ _ h => h) (Or.inl ⟨by rfl, ?_⟩) ?_ ?_
                    rotate_left
                    ·
                     intro w'
                     go_simp
                     with_reducible rfl
                    rotate_left
                    ·
                     simp only [Act.put, za_, zb_, zc_, i64_w, i32_w]
                     rfl
                    refine pure_ (i := 21) (N := some 125) (v := ?_) (a' := ?_) (mm [(22, true), (27, false)]) rfl rfl (any_of HT_.out (by kernel_rfl)) (fun _ _ _ h => h) (Or.inl ⟨by rfl, ?_⟩) ?_ ?_
                    rotate_left
                    ·
                     intro w'
                     go_simp
                     with_reducible rfl
                    rotate_left
                    ·
                     simp only [Act.put, za_, zb_, zc_, i64_w, i32_w]
                     rfl
                    refine pure_ (i := 23) (N := some 127) (v := ?_) (a' := ?_) (mm [(22, true), (1, false), (1, true), (25, false)]) rfl rfl (any_of HT_.out (by kernel_rfl)) (fun _ _ _ h => h) (Or.inl ⟨by rfl, ?_⟩) ?_ ?_
                    rotate_left
                    ·
                     intro w'
                     go_simp
                     with_reducible rfl
                    rotate_left
                    ·
                     simp only [Act.put, za_, zb_, zc_, i64_w, i32_w]
                     rfl
                    refine pure_ (i := 24) (N := some 128) (v := ?_) (a' := ?_) (mm [(22, true), (1, false), (2, true), (24, false)]) rfl rfl (any_of HT_.out (by kernel_rfl)) (fun _ _ _ h => h) (Or.inl ⟨by rfl, ?_⟩) ?_ ?_
                    rotate_left
                    ·
                     intro w'
                     go_simp
                     with_reducible rfl
                    rotate_left
                    ·
                     simp only [Act.put, za_, zb_, zc_, i64_w, i32_w]
                     rfl
                    refine pure_ (i := 25) (N := some 129) (v := ?_) (a' := ?_) (mm [(22, true), (1, false), (3, true), (23, false)]) rfl rfl (any_of HT_.out (by kernel_rfl)) (fun _ _ _ h => h) (Or.inl ⟨by rfl, ?_⟩) ?_ ?_
                    rotate_left
                    ·
                     intro w'
                     go_simp
                     with_reducible rfl
                    rotate_left
                    ·
                     simp only [Act.put, za_, zb_, zc_, i64_w, i32_w]
                     rfl
                    refine take_ (i := 22) (N := some 126) (v := ?_) (a' := ?_) (mm [(26, true), (23, false)]) rfl rfl (take_ofW HT_.out HW_.out (by kernel_rfl)) (fun _ _ _ h => h) (Or.inl ⟨by rfl, ?_⟩) hHeld ?_ ?_
                    rotate_left
                    ·
                     rintro w' ⟨s0, s1, s2, s3⟩
                     go_simp
                     with_reducible rfl
                    rotate_left
                    ·
                     simp only [Act.put, za_, zb_, zc_, i64_w, i32_w]
                     rfl
                    refine one_ (i := 26) (N := some 130) (mm [(27, true), (22, false)]) rfl rfl (one_of HT_.out (by kernel_rfl)) (by decide) (fun K hK => ?_)
                    refine goes_ Try.func30 (by kernel_rfl) rfl #[.slice A0 l0.length c0, .int .i64 a1, .int .i64 a1] (by rfl) rfl rfl (by (try simp only [List.map_toArray, List.map_cons, List.map_nil]); first | done | rfl | (simp only [List.length_drop, List.length_take]; rfl)) ?_
                    with_reducible refine (graph_Path.calls _ _ l0 a1 a1 t408 _ ?side1 ?side2 A94.out).mono ?_
                    (case side1 => repeat (first | exact (Kd.C_below HR0.out (by repeat (first | (with_reducible first | exact HB.out | apply below_alloc | apply pw_below_drewN | apply below_drew1) | exact HB.out))) | (with_reducible refine Kd.C_alloc ?_ _) | (with_reducible refine Kd.C_drewN ?_ _) | (with_reducible refine Kd.C_drew ?_)))
                    (case side2 => exact HC0.out)
                    rintro e w119 ⟨rfl, hb⟩
                    have HS0_ := (hb.cell (World.block_lt_of_cell? _ _ (hHeld.1))).trans (hHeld.1)
                    have HS1_ := (hb.cell (World.block_lt_of_cell? _ _ (hHeld.2.1))).trans (hHeld.2.1)
                    have HS2_ := (hb.cell (World.block_lt_of_cell? _ _ (hHeld.2.2.1))).trans (hHeld.2.2.1)
                    have HS3_ := (hb.cell (World.block_lt_of_cell? _ _ (hHeld.2.2.2))).trans (hHeld.2.2.2)
                    refine ⟨_, rfl, ?_⟩
                    have n0_ := Aside0.mk (Kd.R_below (by (with_reducible repeat (first | apply Kd.R_alloc | apply Kd.R_drewN | apply Kd.R_drew)); exact HO_8.out) hb)
                    have n1_ := Aside0.mk (Kd.R_below (by (with_reducible repeat (first | apply Kd.R_alloc | apply Kd.R_drewN | apply Kd.R_drew)); exact HO_9.out) hb)
                    have n2_ := Aside0.mk (Kd.S_below (by (with_reducible repeat (first | apply Kd.S_alloc | apply Kd.S_drewN | apply Kd.S_drew)); exact HO_10.out) hb)
                    have n3_ := Aside0.mk (Kd.R_below (by (with_reducible repeat (first | apply Kd.R_alloc | apply Kd.R_drewN | apply Kd.R_drew)); exact HO_11.out) hb)
                    have n4_ := Aside0.mk (Kd.R_below (by (with_reducible repeat (first | apply Kd.R_alloc | apply Kd.R_drewN | apply Kd.R_drew)); exact HO_12.out) hb)
                    have n5_ := Aside0.mk (Kd.R_below (by (with_reducible repeat (first | apply Kd.R_alloc | apply Kd.R_drewN | apply Kd.R_drew)); exact HL405_0.out) hb)
                    have n6_ := Aside0.mk (Kd.C_below (by repeat (first | (with_reducible exact HR405_0.out) | (with_reducible refine Kd.C_alloc ?_ _) | (with_reducible refine Kd.C_drewN ?_ _) | (with_reducible refine Kd.C_drew ?_) | exact HR405_0.out)) hb)
                    have n7_ := Aside0.mk (below_step (by repeat (first | (with_reducible first | exact HB.out | apply below_alloc | apply pw_below_drewN | apply below_drew1) | exact HB.out)) hb)
                    clear HO_8 HO_9 HO_10 HO_11 HO_12 HL405_0 HR405_0 HB
                    have HO_8 := n0_
                    have HO_9 := n1_
                    have HO_10 := n2_
                    have HO_11 := n3_
                    have HO_12 := n4_
                    have HL405_0 := n5_
                    have HR405_0 := n6_
                    have HB := n7_
                    clear n0_ n1_ n2_ n3_ n4_ n5_ n6_ n7_
                    (try clear hb)
                    (try clear hb2)
                    (try clear hk)
                    (try clear hi)
                    obtain ⟨Ao120, co120, eo120⟩ := Kd.R_slice HO_11.out
                    (first | subst eo120 | (injection eo120 with f1_ f2_ f3_; have f4_ := f1_.symm; have f5_ := f3_.symm; clear f1_ f2_ f3_; subst f4_; subst f5_))
                    refine hK.out _ _ ⟨HS0_, HS1_, HS2_, HS3_⟩ (fun hHeld => ?_)
                    clear hK K
                    refine norm_ (a' := ?_) ?_ ?_
                    rotate_left
                    ·
                     show Act.put _ (some 130) _ = _
                     simp only [Act.put, za_, zb_, zc_, i64_w, i32_w]
                     rfl
                    refine pure_ (i := 27) (N := some 131) (v := ?_) (a' := ?_) (mm [(28, true), (21, false)]) rfl rfl (any_of HT_.out (by kernel_rfl)) (fun _ _ _ h => h) (Or.inl ⟨by rfl, ?_⟩) ?_ ?_
                    rotate_left
                    ·
                     intro w'
                     go_simp
                     with_reducible rfl
                    rotate_left
                    ·
                     simp only [Act.put, za_, zb_, zc_, i64_w, i32_w]
                     rfl
                    refine pure_ (i := 28) (N := some 132) (v := ?_) (a' := ?_) (mm [(29, true), (20, false)]) rfl rfl (any_of HT_.out (by kernel_rfl)) (fun _ _ _ h => h) (Or.inl ⟨by rfl, ?_⟩) ?_ ?_
                    rotate_left
                    ·
                     intro w'
                     go_simp
                     with_reducible rfl
                    rotate_left
                    ·
                     simp only [Act.put, za_, zb_, zc_, i64_w, i32_w]
                     rfl
                    refine pure_ (i := 29) (N := some 133) (v := ?_) (a' := ?_) (mm [(30, true), (19, false)]) rfl rfl (any_of HT_.out (by kernel_rfl)) (fun _ _ _ h => h) (Or.inl ⟨by rfl, ?_⟩) ?_ ?_
                    rotate_left
                    ·
                     intro w'
                     go_simp
                     with_reducible rfl
                    rotate_left
                    ·
                     simp only [Act.put, za_, zb_, zc_, i64_w, i32_w]
                     rfl
                    refine pure_ (i := 30) (N := some 134) (v := ?_) (a' := ?_) (mm [(31, true), (18, false)]) rfl rfl (any_of HT_.out (by kernel_rfl)) (fun _ _ _ h => h) (Or.inl ⟨by rfl, ?_⟩) ?_ ?_
                    rotate_left
                    ·
                     intro w'
                     go_simp
                     with_reducible rfl
                    rotate_left
                    ·
                     simp only [Act.put, za_, zb_, zc_, i64_w, i32_w]
                     rfl
                    refine pure_ (i := 31) (N := some 135) (v := ?_) (a' := ?_) (mm [(32, true), (17, false)]) rfl rfl (any_of HT_.out (by kernel_rfl)) (fun _ _ _ h => h) (Or.inl ⟨by rfl, ?_⟩) ?_ ?_
                    rotate_left
                    ·
                     intro w'
                     go_simp
                     with_reducible rfl
                    rotate_left
                    ·
                     simp only [Act.put, za_, zb_, zc_, i64_w, i32_w]
                     rfl
                    refine pure_ (i := 32) (N := some 136) (v := ?_) (a' := ?_) (mm [(33, true), (16, false)]) rfl rfl (any_of HT_.out (by kernel_rfl)) (fun _ _ _ h => h) (Or.inl ⟨by rfl, ?_⟩) ?_ ?_
                    rotate_left
                    ·
                     intro w'
                     go_simp
                     with_reducible rfl
                    rotate_left
                    ·
                     simp only [Act.put, za_, zb_, zc_, i64_w, i32_w]
                     rfl
                    refine take_ (i := 33) (N := some 137) (v := ?_) (a' := ?_) (mm [(34, true), (15, false)]) rfl rfl (take_ofW HT_.out HW_.out (by kernel_rfl)) (fun _ _ _ h => h) (Or.inl ⟨by rfl, ?_⟩) hHeld ?_ ?_
                    rotate_left
                    ·
                     rintro w' ⟨s0, s1, s2, s3⟩
                     go_simp
                     with_reducible rfl
                    rotate_left
                    ·
                     simp only [Act.put, za_, zb_, zc_, i64_w, i32_w]
                     rfl
                    refine pure_ (i := 34) (N := some 138) (v := ?_) (a' := ?_) (mm [(35, true), (14, false)]) rfl rfl (any_of HT_.out (by kernel_rfl)) (fun _ _ _ h => h) (Or.inl ⟨by rfl, ?_⟩) ?_ ?_
                    rotate_left
                    ·
                     intro w'
                     go_simp
                     with_reducible rfl
                    rotate_left
                    ·
                     simp only [Act.put, za_, zb_, zc_, i64_w, i32_w]
                     rfl
                    refine pure_ (i := 35) (N := some 139) (v := ?_) (a' := ?_) (mm [(36, true), (13, false)]) rfl rfl (any_of HT_.out (by kernel_rfl)) (fun _ _ _ h => h) (Or.inl ⟨by rfl, ?_⟩) ?_ ?_
                    rotate_left
                    ·
                     intro w'
                     go_simp
                     with_reducible rfl
                    rotate_left
                    ·
                     simp only [Act.put, za_, zb_, zc_, i64_w, i32_w]
                     rfl
                    refine pure_ (i := 36) (N := some 140) (v := undef) (a' := ?_) (mm [(37, true), (12, false)]) rfl rfl (any_of HT_.out (by kernel_rfl)) (fun _ _ _ h => h) (Or.inr ⟨by rfl, rfl⟩) ?_ ?_
                    rotate_left
                    ·
                     simp only [Act.put, za_, zb_, zc_, i64_w, i32_w]
                     rfl
                    refine pure_ (i := 37) (N := some 141) (v := undef) (a' := ?_) (mm [(38, true), (11, false)]) rfl rfl (any_of HT_.out (by kernel_rfl)) (fun _ _ _ h => h) (Or.inr ⟨by rfl, rfl⟩) ?_ ?_
                    rotate_left
                    ·
                     simp only [Act.put, za_, zb_, zc_, i64_w, i32_w]
                     rfl
                    refine pure_ (i := 38) (N := some 142) (v := undef) (a' := ?_) (mm [(39, true), (10, false)]) rfl rfl (any_of HT_.out (by kernel_rfl)) (fun _ _ _ h => h) (Or.inr ⟨by rfl, rfl⟩) ?_ ?_
                    rotate_left
                    ·
                     simp only [Act.put, za_, zb_, zc_, i64_w, i32_w]
                     rfl
                    refine pure_ (i := 39) (N := some 143) (v := undef) (a' := ?_) (mm [(40, true), (9, false)]) rfl rfl (any_of HT_.out (by kernel_rfl)) (fun _ _ _ h => h) (Or.inr ⟨by rfl, rfl⟩) ?_ ?_
                    rotate_left
                    ·
                     simp only [Act.put, za_, zb_, zc_, i64_w, i32_w]
                     rfl
                    refine pure_ (i := 40) (N := some 144) (v := undef) (a' := ?_) (mm [(41, true), (8, false)]) rfl rfl (any_of HT_.out (by kernel_rfl)) (fun _ _ _ h => h) (Or.inr ⟨by rfl, rfl⟩) ?_ ?_
                    rotate_left
                    ·
                     simp only [Act.put, za_, zb_, zc_, i64_w, i32_w]
                     rfl
                    refine pure_ (i := 41) (N := some 145) (v := undef) (a' := ?_) (mm [(42, true), (7, false)]) rfl rfl (any_of HT_.out (by kernel_rfl)) (fun _ _ _ h => h) (Or.inr ⟨by rfl, rfl⟩) ?_ ?_
                    rotate_left
                    ·
                     simp only [Act.put, za_, zb_, zc_, i64_w, i32_w]
                     rfl
                    refine pure_ (i := 42) (N := some 146) (v := undef) (a' := ?_) (mm [(43, true), (6, false)]) rfl rfl (any_of HT_.out (by kernel_rfl)) (fun _ _ _ h => h) (Or.inr ⟨by rfl, rfl⟩) ?_ ?_
                    rotate_left
                    ·
                     simp only [Act.put, za_, zb_, zc_, i64_w, i32_w]
                     rfl
                    refine pure_ (i := 43) (N := some 147) (v := undef) (a' := ?_) (mm [(44, true), (5, false)]) rfl rfl (any_of HT_.out (by kernel_rfl)) (fun _ _ _ h => h) (Or.inr ⟨by rfl, rfl⟩) ?_ ?_
                    rotate_left
                    ·
                     simp only [Act.put, za_, zb_, zc_, i64_w, i32_w]
                     rfl
                    refine pure_ (i := 44) (N := some 148) (v := undef) (a' := ?_) (mm [(45, true), (4, false)]) rfl rfl (any_of HT_.out (by kernel_rfl)) (fun _ _ _ h => h) (Or.inr ⟨by rfl, rfl⟩) ?_ ?_
                    rotate_left
                    ·
                     simp only [Act.put, za_, zb_, zc_, i64_w, i32_w]
                     rfl
                    refine pure_ (i := 45) (N := some 149) (v := undef) (a' := ?_) (mm [(46, true), (3, false)]) rfl rfl (any_of HT_.out (by kernel_rfl)) (fun _ _ _ h => h) (Or.inr ⟨by rfl, rfl⟩) ?_ ?_
                    rotate_left
                    ·
                     simp only [Act.put, za_, zb_, zc_, i64_w, i32_w]
                     rfl
                    refine pure_ (i := 46) (N := some 150) (v := ?_) (a' := ?_) (mm [(47, true), (2, false)]) rfl rfl (any_of HT_.out (by kernel_rfl)) (fun _ _ _ h => h) (Or.inl ⟨by rfl, ?_⟩) ?_ ?_
                    rotate_left
                    ·
                     intro w'
                     go_simp
                     with_reducible rfl
                    rotate_left
                    ·
                     simp only [Act.put, za_, zb_, zc_, i64_w, i32_w]
                     rfl
                    refine pure_ (i := 47) (N := some 151) (v := ?_) (a' := ?_) (mm [(48, true), (1, false)]) rfl rfl (any_of HT_.out (by kernel_rfl)) (fun _ _ _ h => h) (Or.inl ⟨by rfl, ?_⟩) ?_ ?_
                    rotate_left
                    ·
                     intro w'
                     go_simp
                     with_reducible rfl
                    rotate_left
                    ·
                     simp only [Act.put, za_, zb_, zc_, i64_w, i32_w]
                     rfl
                    refine pure_ (i := 48) (N := some 6) (v := ?_) (a' := ?_) (mm [(49, true)]) rfl rfl (any_of HT_.out (by kernel_rfl)) (fun _ _ _ h => h) (Or.inl ⟨by rfl, ?_⟩) ?_ ?_
                    rotate_left
                    ·
                     intro w'
                     go_simp
                     with_reducible rfl
                    rotate_left
                    ·
                     simp only [Act.put, za_, zb_, zc_, i64_w, i32_w]
                     rfl
                    refine done_ (done_of HT_.out (by kernel_rfl)) ?_
                    try go_wp2
                    go_ret
                    exact ⟨by first | rfl | (simp [errW_none, errW_some] <;> rfl) | (simp [*, errW_none, errW_some] <;> rfl) | (exfalso; (try simp_all); (try omega); done), by repeat (first | (with_reducible first | exact HB.out | apply below_alloc | apply pw_below_drewN | apply below_drew1) | exact HB.out)⟩
                  ·
                   rw [if_neg c97] at H
                   exact absurd H (by simp)
                 ·
                  rw [if_neg c96] at H
                  exact absurd H (by simp)
                ·
                 rw [if_neg c95] at H
                 exact absurd (Option.some.inj H) (by rw [HRT.out]; decide)
               ·
                rw [if_neg c93] at H
                exact absurd (Option.some.inj H) (by rw [HRT.out]; decide)
              ·
               rw [if_neg c91] at H
               exact absurd H (by simp)
            ·
             rw [if_neg c59] at H
             exact absurd H (by simp)
           ·
            rw [if_neg c58] at H
            exact absurd H (by simp)
          ·
           replace c57 := Bool.eq_false_iff.mpr c57
           subst c57
           have H1 : (some false) = some r := by rw [if_neg (show ¬ (false = true) by decide)] at H; exact H
           clear H
           have H := H1
           exact absurd (Option.some.inj H) (by rw [HRT.out]; decide)
end Go.Proofs.Ytdknhgbjgdmfkaa.P
namespace Go.Proofs.Ytdknhgbjgdmfkaa.P
open Go.RowKit Go.Lib Go.Proofs.YtdknhgbjgdmfkaaW.PrintWords
theorem part_count {c : List (List Int)} (hv : Valid c) {a : Int} (ha : Node c a) : (nodes c.length).countP (fun x => decide (leadOf c x = leadOf c a)) = (partOf c a).length := by
  unfold partOf
  rw [← List.countP_eq_length_filter]
  refine List.countP_congr (fun x hx => ?_)
  have hN := mem_nodes.1 hx
  rw [decide_eq_true_iff, lead_eq hv hN ha, eqvB_iff hv ha hN]
  exact ⟨fun h => ⟨h.2, h.1⟩, fun h => ⟨h.2, h.1⟩⟩
theorem loop_count {c : List (List Int)} (hv : Valid c) {a : Int} (ha : Node c a) : loopB c a = (decide (1 < (nodes c.length).countP (fun x => decide (leadOf c x = leadOf c a))) || decide (a ∈ row c a)) := by
  obtain ⟨p, hp, hap⟩ := (partsB_facts hv).2.1 a ha
  rw [loop_part hv hp hap, part_count hv ha, ← part_is hv hp hap]
theorem way_withE {c : List (List Int)} (hv : Valid c) {a b s t : Int} (ha : Node c a) (hb : Node c b) (hs : Node c s) (h : Way c s t) : Way (withE c a b) s t := (way_with hv ha hb hs).2 (.inl h)
theorem loop_back {c : List (List Int)} (hv : Valid c) {a b : Int} (ha : Node c a) (hb : Node c b) (h : Way c a b) : loopB (withE c b a) a = true ∧ loopB (withE c b a) b = true := by
  have hw := withE_Valid (a := b) (b := a) hv
  have hN : ∀ {x}, Node c x → Node (withE c b a) x := by intro x hx; unfold Node; rw [withE_len]; exact hx
  have hba : a ∈ row (withE c b a) b := (mem_withE hb ha hb.1).2 (.inr ⟨rfl, rfl⟩)
  have hab : Way (withE c b a) a b := way_withE hv hb ha ha h
  refine ⟨(loopB_iff hw (hN ha)).2 ?_, (loopB_iff hw (hN hb)).2 ⟨a, hba, hab⟩⟩
  cases hab with
  | refl => exact ⟨_, hba, .refl _⟩
  | step hx hxb => exact ⟨_, hx, hxb.trans (.edge hba)⟩
theorem nodes_count_succ (f : Int → Bool) (i : Nat) : (nodes (i + 1)).countP f = (nodes i).countP f + if f (i : Int) = true then 1 else 0 := by
  rw [nodes_snoc, List.countP_append]
  simp [List.countP_cons]
theorem sccloops_l0 (x0 : List (List Int)) (a1 a2 : Int) (c : List (List Int)) (x8 x11 x12 : List Bool) (hcl : c.length = x0.length) (hn : x0.length ≤ 900) (hv : Valid c) (ha : Node c a1)
    (hend : Ev (fun k => bywashlaw11_SccLoops.l0 k x0 a1 a2 true x8 (leadB c) c x11 x12 (((nodes x0.length).countP (fun x => decide (leadOf c x = leadOf c a1)) : Nat) : Int) (x0.length : Int)) true) :
    ∀ d i : Nat, i + d = x0.length → Ev (fun k => bywashlaw11_SccLoops.l0 k x0 a1 a2 true x8 (leadB c) c x11 x12 (((nodes i).countP (fun x => decide (leadOf c x = leadOf c a1)) : Nat) : Int) (i : Int)) true
  | 0, i, hi => by
    obtain rfl : i = x0.length := by omega
    exact hend
  | d + 1, i, hi => by
    have hN : Node c (i : Int) := ⟨by omega, by omega⟩
    have hll : (leadB c).length = x0.length := by rw [leadB_len, hcl]
    have h0 := ha.1
    have h1 := ha.2
    have ih := sccloops_l0 x0 a1 a2 c x8 x11 x12 hcl hn hv ha hend d (i + 1) (by omega)
    rw [nodes_count_succ] at ih
    have hcl' : (nodes i).countP (fun x => decide (leadOf c x = leadOf c a1)) ≤ i := by
      have := List.countP_le_length (p := fun x => decide (leadOf c x = leadOf c a1)) (l := nodes i)
      rwa [nodes_len] at this
    by_cases e : leadOf c (i : Int) = leadOf c a1
    · rw [if_pos (decide_eq_true e)] at ih
      refine Ev.step (f := fun k => bywashlaw11_SccLoops.l0 k x0 a1 a2 true x8 (leadB c) c x11 x12 (((nodes i).countP (fun x => decide (leadOf c x = leadOf c a1)) + 1 : Nat) : Int) ((i + 1 : Nat) : Int)) (fun k => ?_) ih
      rw [bywashlaw11_SccLoops.l0, if_pos (by omega), if_pos (by omega), if_pos (by omega), if_pos (by omega), if_pos (by omega), leadB_get hN, leadB_get ha, if_pos e, wrap_succ (by omega), wrap_succ (by omega)]
    · rw [if_neg (by rw [decide_eq_false e]; decide), Nat.add_zero] at ih
      refine Ev.step (f := fun k => bywashlaw11_SccLoops.l0 k x0 a1 a2 true x8 (leadB c) c x11 x12 (((nodes i).countP (fun x => decide (leadOf c x = leadOf c a1)) : Nat) : Int) ((i + 1 : Nat) : Int)) (fun k => ?_) ih
      rw [bywashlaw11_SccLoops.l0, if_pos (by omega), if_pos (by omega), if_pos (by omega), if_pos (by omega), if_pos (by omega), leadB_get hN, leadB_get ha, if_neg e, wrap_succ (by omega)]
theorem SccLoops_ev (l0 : List (List Int)) (a1 a2 : Int) (hm : l0.length ≤ 9223372036854775807) : Ev (fun k => bywashlaw11_SccLoops.f k l0 a1 a2) true := by
  unfold bywashlaw11_SccLoops.f
  refine Ev.bind awake11_ev ?_
  refine Ev.bind (few_ev l0 hm) ?_
  have hout : Ev (fun k => bywashlaw11_SccLoops.j0 k l0 a1 a2 true true) true := Ev.step (f := fun _ => some true) (fun k => by rw [bywashlaw11_SccLoops.j0, if_pos rfl]) (Ev.now _)
  by_cases hf : few l0 = true
  · simp only [hf, if_true]
    by_cases p1 : a1 < 0
    · simp only [p1, if_true]; exact hout
    by_cases p2 : a1 ≥ (l0.length : Int)
    · simp only [p1, p2, if_true, if_false]; exact hout
    by_cases p3 : a2 < 0
    · simp only [p1, p2, p3, if_true, if_false]; exact hout
    by_cases p4 : a2 ≥ (l0.length : Int)
    · simp only [p1, p2, p3, p4, if_false, decide_true]; exact hout
    simp only [p1, p2, p3, p4, if_false, decide_false]
    have hs := few_small hf
    have hv := clean_Valid l0
    have hr := clean_rises l0
    have h40 := (few_iff.1 hf).2
    have hNa : Node (clean l0) a1 := clean_node.2 ⟨by omega, by omega⟩
    have hNb : Node (clean l0) a2 := clean_node.2 ⟨by omega, by omega⟩
    have hvw := withE_Valid (a := a2) (b := a1) hv
    have hrw := withE_rises (a := a2) (b := a1) hr
    have hcw : clean (withE (clean l0) a2 a1) = withE (clean l0) a2 a1 := clean_self hvw hrw
    have hsw : Small (withE (clean l0) a2 a1) := small_of hvw hrw (by rw [withE_len, clean_len]; omega)
    have e2 : graph_With.f l0 a2 a1 = some (withE (clean l0) a2 a1) := by unfold graph_With.f; rw [if_pos hs.1]
    have e3 : scc_Loops.f (withE (clean l0) a2 a1) = some (loopsB (withE (clean l0) a2 a1)) := by rw [loops_now hsw.1, hcw]
    have e4 : scc_Loops.f l0 = some (loopsB (clean l0)) := loops_now hs.1
    obtain ⟨x, hx1, hx2, hx3⟩ := reach_now hs a1
    have k1 : (loopsB (clean l0)).length = l0.length := by rw [loopsB_len, clean_len]
    have k2 : (leadB (clean l0)).length = l0.length := by rw [leadB_len, clean_len]
    have k3 : (loopsB (withE (clean l0) a2 a1)).length = l0.length := by rw [loopsB_len, withE_len, clean_len]
    have k4 := clean_len l0
    have e5 : (((loopsB (withE (clean l0) a2 a1)).length : Int) != (l0.length : Int)) = false := by rw [k3]; simp
    refine Ev.step (f := fun k => bywashlaw11_SccLoops.j1 k l0 a1 a2 true (loopsB (clean l0)) (leadB (clean l0)) (clean l0) x (loopsB (withE (clean l0) a2 a1)) false) (fun k => ?_) ?_
    · rw [bywashlaw11_SccLoops.j0, if_neg (by decide), e4, Option.bind_some, leads_now hs.1, Option.bind_some, clean_now hs.1, Option.bind_some, hx1, Option.bind_some, e2, Option.bind_some, e3, Option.bind_some, if_pos (by omega), if_pos (by omega), if_pos (by omega), if_pos (by omega), e5]
    refine Ev.step (f := fun k => bywashlaw11_SccLoops.l0 k l0 a1 a2 true (loopsB (clean l0)) (leadB (clean l0)) (clean l0) x (loopsB (withE (clean l0) a2 a1)) (((nodes 0).countP (fun x => decide (leadOf (clean l0) x = leadOf (clean l0) a1)) : Nat) : Int) ((0 : Nat) : Int)) (fun k => by rw [bywashlaw11_SccLoops.j1, if_neg (by decide)]; rfl) ?_
    refine sccloops_l0 l0 a1 a2 (clean l0) _ x _ k4 (by omega) hv hNa ?_ l0.length 0 (by omega)
    have hlc := loop_count hv hNa
    rw [k4] at hlc
    obtain ⟨M, eM⟩ : ∃ M, M = (nodes l0.length).countP (fun x => decide (leadOf (clean l0) x = leadOf (clean l0) a1)) := ⟨_, rfl⟩
    rw [← eM] at hlc ⊢
    have hg := loopsB_get hNa
    have hNw : ∀ {y}, Node (clean l0) y → Node (withE (clean l0) a2 a1) y := by intro y hy; unfold Node; rw [withE_len]; exact hy
    have hga := loopsB_get (hNw hNa)
    have hgb := loopsB_get (hNw hNb)
    obtain ⟨p, hp, hpi⟩ := path_now hs a1 a1
    have hpl : p = loopB (clean l0) a1 := by
      rw [Bool.eq_iff_iff, loopB_iff hv hNa, hpi]
      exact ⟨fun h => h.2.2, fun h => ⟨⟨by omega, by omega⟩, ⟨by omega, by omega⟩, h⟩⟩

    have hfin : (if rdOf false x a2 = true then (if a1 < ((loopsB (withE (clean l0) a2 a1)).length : Int) then (if rdOf false (loopsB (withE (clean l0) a2 a1)) a1 = true then (if a2 < ((loopsB (withE (clean l0) a2 a1)).length : Int) then some (rdOf false (loopsB (withE (clean l0) a2 a1)) a2) else none) else some false) else none) else some true) = some true := by
      by_cases hr1 : rdOf false x a2 = true
      · have hw := ((hx3 a2 (by omega) (by omega)).1 hr1).2
        obtain ⟨b1, b2⟩ := loop_back hv hNa hNb hw
        rw [if_pos hr1, if_pos (by omega), hga, if_pos b1, if_pos (by omega), hgb, b2]
      · rw [if_neg hr1]
    by_cases hM : (M : Int) > 1
    · have hl1 : loopB (clean l0) a1 = true := by rw [hlc, decide_eq_true (by omega), Bool.true_or]
      refine Ev.step (f := fun _ => some true) (fun k => ?_) (Ev.now _)
      rw [bywashlaw11_SccLoops.l0, if_neg (by omega), if_pos rfl, if_pos (by omega), if_pos (by omega), if_pos hM, hg, hl1, if_pos (by decide), hp, Option.bind_some, hpl, hl1, if_pos (by decide), if_pos (by omega), if_pos (by omega)]
      exact hfin
    · have hl1 : loopB (clean l0) a1 = decide (a1 ∈ row (clean l0) a1) := by rw [hlc, decide_eq_false (by omega), Bool.false_or]
      refine Ev.step (f := fun k => (bywashref10_Has.f k (row (clean l0) a1) a1).bind fun t => if (loopB (clean l0) a1 == t) = true then some true else some false) (fun k => ?_) ?_
      · rw [bywashlaw11_SccLoops.l0, if_neg (by omega), if_pos rfl, if_pos (by omega), if_pos (by omega), if_neg hM, if_pos (by omega), hg]
        show (bywashref10_Has.f k (row (clean l0) a1) a1).bind _ = _
        congr 1
        funext t
        by_cases ht : (loopB (clean l0) a1 == t) = true
        · rw [if_pos ht, if_pos ht, hp, Option.bind_some, hpl, if_pos (by simp), if_pos (by omega), if_pos (by omega)]
          exact hfin
        · rw [if_neg ht, if_neg ht]
      · refine Ev.bind (has_ev _ _ ?_) ?_
        · rcases Nat.eq_zero_or_pos (row (clean l0) a1).length with h | h
          · omega
          · have := clean_row_le _ (row_mem (List.getElem_mem h))
            omega
        · rw [← hl1]
          simp only [beq_self_eq_true, if_true]
          exact Ev.now _
  · rw [Bool.not_eq_true] at hf
    simp only [hf, Bool.false_eq_true, if_false]
    exact hout
theorem SccLoops_c (A0 : Option Addr) (c0 : Nat) (l0 : List (List Int)) (a1 a2 : Int) (w : World) (hr0 : (Kd.slice 3 (Kd.int .i64)).C w A0 l0.length l0) (hc0 : l0.length ≤ c0)
    (hm0 : l0.length ≤ 9223372036854775807) (_ : ∀ r ∈ l0, r.length ≤ 9223372036854775807 ∧ ∀ y ∈ r, (Lit.int .i64 y).wf = true) (_ : (Lit.int .i64 a1).wf = true) (_ : (Lit.int .i64 a2).wf = true) :
    Calls Try.prog 8 #[.slice A0 l0.length c0, .int .i64 a1, .int .i64 a2] w fun e w' => e = .returned (.bool true) ∧ Below w.heap.size w w' := by
  obtain ⟨k, h⟩ := (SccLoops_ev l0 a1 a2 hm0).rounds
  exact SccLoops_t k A0 c0 l0 a1 a2 true w hr0 hc0 rfl h
end Go.Proofs.Ytdknhgbjgdmfkaa.P
