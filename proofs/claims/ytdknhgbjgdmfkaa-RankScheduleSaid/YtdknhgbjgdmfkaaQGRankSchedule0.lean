/- What the claim uses of: PlawRankScheduleTF PlawRankScheduleT PureRankSchedule -/
import Derived.Test.YtdknhgbjgdmfkaaQG4
namespace Go.Proofs.Ytdknhgbjgdmfkaa.P
open Go.RowKit Go.Proofs.YtdknhgbjgdmfkaaW.PrintWords Go.Proofs.YtdknhgbjgdmfkaaW.PrintLast Go.Proofs.YtdknhgbjgdmfkaaW.PrintMore
attribute [local go_sem] max2_int min2_int max_two min_two max_three min_three max_four min_four
set_option linter.unusedVariables false
set_option linter.unusedSimpArgs false
mutual
def bywashlaw12_RankSchedule.j0 : Nat → Bool → List Int → List Int → List Bool → List Int → Bool → Option (Bool)
 | 0, _, _, _, _, _, _ => none
 | k + 1, x5, x6, x7, x8, x9, x55 => if x55 = true then (some false) else (bywashlaw12_RankSchedule.l0 k x5 x6 x7 x8 x9 0)
def bywashlaw12_RankSchedule.l0 : Nat → Bool → List Int → List Int → List Bool → List Int → Int → Option (Bool)
 | 0, _, _, _, _, _, _ => none
 | k + 1, x5, x6, x7, x8, x9, x10 => if x10 < (x6.length : Int) then (if 0 ≤ x10 then (if x10 < (x9.length : Int) then (if (rd x9 x10) < 0 then (bywashlaw12_RankSchedule.j2 k x5 x6 x7 x8 x9 x10 true) else (if 0 ≤ (rd x9 x10) then (if (rd x9 x10) < (x6.length : Int) then (bywashlaw12_RankSchedule.j2 k x5 x6 x7 x8 x9 x10 ((rd x6 (rd x9 x10)) != x10)) else (none)) else (none))) else (none)) else (none)) else (some x5)
def bywashlaw12_RankSchedule.j2 : Nat → Bool → List Int → List Int → List Bool → List Int → Int → Bool → Option (Bool)
 | 0, _, _, _, _, _, _, _ => none
 | k + 1, x5, x6, x7, x8, x9, x10, x77 => if x77 = true then (some false) else (if x10 = 0 then (bywashlaw12_RankSchedule.l0 k x5 x6 x7 x8 x9 (wrap64 (x10 + 1))) else (if 0 ≤ (wrap64 (x10 - 1)) then (if (wrap64 (x10 - 1)) < (x6.length : Int) then (if 0 ≤ x10 then (if x10 < (x6.length : Int) then (if 0 ≤ (rd x6 (wrap64 (x10 - 1))) then (if (rd x6 (wrap64 (x10 - 1))) < (x7.length : Int) then (if 0 ≤ (rd x6 x10) then (if (rd x6 x10) < (x7.length : Int) then (if (rd x7 (rd x6 (wrap64 (x10 - 1)))) > (rd x7 (rd x6 x10)) then (some false) else (if (rd x7 (rd x6 (wrap64 (x10 - 1)))) = (rd x7 (rd x6 x10)) then (if (rd x6 (wrap64 (x10 - 1))) < (x8.length : Int) then (if (rdOf false x8 (rd x6 (wrap64 (x10 - 1))) = true) then (bywashlaw12_RankSchedule.l0 k x5 x6 x7 x8 x9 (wrap64 (x10 + 1))) else (if (rd x6 x10) < (x8.length : Int) then (if rdOf false x8 (rd x6 x10) = true then (some false) else (if (rdOf false x8 (rd x6 x10) = true) then (bywashlaw12_RankSchedule.l0 k x5 x6 x7 x8 x9 (wrap64 (x10 + 1))) else (if (rd x6 (wrap64 (x10 - 1))) ≥ (rd x6 x10) then (some false) else (bywashlaw12_RankSchedule.l0 k x5 x6 x7 x8 x9 (wrap64 (x10 + 1)))))) else (none))) else (none)) else (bywashlaw12_RankSchedule.l0 k x5 x6 x7 x8 x9 (wrap64 (x10 + 1))))) else (none)) else (none)) else (none)) else (none)) else (none)) else (none)) else (none)) else (none)))
end
def bywashlaw12_RankSchedule.f (k : Nat) (l0 : List (List Int)) (a1 : Int) : Option (Bool) := (bywashlaw12_awake.f k).bind fun t583 => ((bywashref10_Few.f k l0).bind fun t584 => (if t584 = true then ((rank_Schedule.f k l0 a1).bind fun t585 => ((rank_Ranks.f k l0).bind fun t588 => ((graph_Reach.f l0 a1).bind fun t591 => ((rank_Places.f t585 (l0.length : Int)).bind fun t594 => (if (t585.length : Int) = (l0.length : Int) then (if (t588.length : Int) = (l0.length : Int) then (if (t591.length : Int) = (l0.length : Int) then (bywashlaw12_RankSchedule.j0 k t583 t585 t588 t591 t594 ((t594.length : Int) != (l0.length : Int))) else (bywashlaw12_RankSchedule.j0 k t583 t585 t588 t591 t594 true)) else (bywashlaw12_RankSchedule.j0 k t583 t585 t588 t591 t594 true)) else (bywashlaw12_RankSchedule.j0 k t583 t585 t588 t591 t594 true)))))) else (some t583)))
theorem bywashlaw12_RankSchedule.mono_l : ∀ k, (∀ y0 y1 y2 y3 y4 y5, LeO (bywashlaw12_RankSchedule.j0 k y0 y1 y2 y3 y4 y5) (bywashlaw12_RankSchedule.j0 (k + 1) y0 y1 y2 y3 y4 y5)) ∧ (∀ y0 y1 y2 y3 y4 y5, LeO (bywashlaw12_RankSchedule.l0 k y0 y1 y2 y3 y4 y5) (bywashlaw12_RankSchedule.l0 (k + 1) y0 y1 y2 y3 y4 y5)) ∧ (∀ y0 y1 y2 y3 y4 y5 y6, LeO (bywashlaw12_RankSchedule.j2 k y0 y1 y2 y3 y4 y5 y6) (bywashlaw12_RankSchedule.j2 (k + 1) y0 y1 y2 y3 y4 y5 y6))
 | 0 => ⟨fun _ _ _ _ _ _ r h => by simp [bywashlaw12_RankSchedule.j0] at h, fun _ _ _ _ _ _ r h => by simp [bywashlaw12_RankSchedule.l0] at h, fun _ _ _ _ _ _ _ r h => by simp [bywashlaw12_RankSchedule.j2] at h⟩
 | k + 1 => by
  obtain ⟨ih0, ih1, ih2⟩ := bywashlaw12_RankSchedule.mono_l k
  refine ⟨?_, ?_, ?_⟩
  ·
   intro y0 y1 y2 y3 y4 y5
   unfold bywashlaw12_RankSchedule.j0
   repeat' first
   | (with_reducible exact ih0 _ _ _ _ _ _)
   | (with_reducible exact ih1 _ _ _ _ _ _)
   | (with_reducible exact ih2 _ _ _ _ _ _ _)
   | (with_reducible exact bywashlaw12_awake.mono _)
   | (with_reducible exact bywashref10_Few.mono _ _)
   | (with_reducible exact rank_Ranks.mono _ _)
   | (with_reducible exact rank_Schedule.mono _ _ _)
   | (with_reducible exact LeO.refl _)
   | (with_reducible exact LeO.none _)
   | (with_reducible refine LeO.ite ?_ ?_)
   | (with_reducible refine LeO.bind ?_ (fun _ => ?_))
   | exact ih0 _ _ _ _ _ _
   | exact ih1 _ _ _ _ _ _
   | exact ih2 _ _ _ _ _ _ _
   | exact bywashlaw12_awake.mono _
   | exact bywashref10_Few.mono _ _
   | exact rank_Ranks.mono _ _
   | exact rank_Schedule.mono _ _ _
   | exact LeO.none _
   | refine LeO.ite ?_ ?_
   | refine LeO.bind ?_ (fun _ => ?_)
  ·
   intro y0 y1 y2 y3 y4 y5
   unfold bywashlaw12_RankSchedule.l0
   repeat' first
   | (with_reducible exact ih0 _ _ _ _ _ _)
   | (with_reducible exact ih1 _ _ _ _ _ _)
   | (with_reducible exact ih2 _ _ _ _ _ _ _)
   | (with_reducible exact bywashlaw12_awake.mono _)
   | (with_reducible exact bywashref10_Few.mono _ _)
   | (with_reducible exact rank_Ranks.mono _ _)
   | (with_reducible exact rank_Schedule.mono _ _ _)
   | (with_reducible exact LeO.refl _)
   | (with_reducible exact LeO.none _)
   | (with_reducible refine LeO.ite ?_ ?_)
   | (with_reducible refine LeO.bind ?_ (fun _ => ?_))
   | exact ih0 _ _ _ _ _ _
   | exact ih1 _ _ _ _ _ _
   | exact ih2 _ _ _ _ _ _ _
   | exact bywashlaw12_awake.mono _
   | exact bywashref10_Few.mono _ _
   | exact rank_Ranks.mono _ _
   | exact rank_Schedule.mono _ _ _
   | exact LeO.none _
   | refine LeO.ite ?_ ?_
   | refine LeO.bind ?_ (fun _ => ?_)
  ·
   intro y0 y1 y2 y3 y4 y5 y6
   unfold bywashlaw12_RankSchedule.j2
   repeat' first
   | (with_reducible exact ih0 _ _ _ _ _ _)
   | (with_reducible exact ih1 _ _ _ _ _ _)
   | (with_reducible exact ih2 _ _ _ _ _ _ _)
   | (with_reducible exact bywashlaw12_awake.mono _)
   | (with_reducible exact bywashref10_Few.mono _ _)
   | (with_reducible exact rank_Ranks.mono _ _)
   | (with_reducible exact rank_Schedule.mono _ _ _)
   | (with_reducible exact LeO.refl _)
   | (with_reducible exact LeO.none _)
   | (with_reducible refine LeO.ite ?_ ?_)
   | (with_reducible refine LeO.bind ?_ (fun _ => ?_))
   | exact ih0 _ _ _ _ _ _
   | exact ih1 _ _ _ _ _ _
   | exact ih2 _ _ _ _ _ _ _
   | exact bywashlaw12_awake.mono _
   | exact bywashref10_Few.mono _ _
   | exact rank_Ranks.mono _ _
   | exact rank_Schedule.mono _ _ _
   | exact LeO.none _
   | refine LeO.ite ?_ ?_
   | refine LeO.bind ?_ (fun _ => ?_)
theorem bywashlaw12_RankSchedule.mono : ∀ a0 a1 k, LeO (bywashlaw12_RankSchedule.f k a0 a1) (bywashlaw12_RankSchedule.f (k + 1) a0 a1) := by
 intro a0 a1 k
 obtain ⟨ih0, ih1, ih2⟩ := bywashlaw12_RankSchedule.mono_l k
 unfold bywashlaw12_RankSchedule.f
 repeat' first
   | (with_reducible exact ih0 _ _ _ _ _ _)
   | (with_reducible exact ih1 _ _ _ _ _ _)
   | (with_reducible exact ih2 _ _ _ _ _ _ _)
   | (with_reducible exact bywashlaw12_awake.mono _)
   | (with_reducible exact bywashref10_Few.mono _ _)
   | (with_reducible exact rank_Ranks.mono _ _)
   | (with_reducible exact rank_Schedule.mono _ _ _)
   | (with_reducible exact LeO.refl _)
   | (with_reducible exact LeO.none _)
   | (with_reducible refine LeO.ite ?_ ?_)
   | (with_reducible refine LeO.bind ?_ (fun _ => ?_))
   | exact ih0 _ _ _ _ _ _
   | exact ih1 _ _ _ _ _ _
   | exact ih2 _ _ _ _ _ _ _
   | exact bywashlaw12_awake.mono _
   | exact bywashref10_Few.mono _ _
   | exact rank_Ranks.mono _ _
   | exact rank_Schedule.mono _ _ _
   | exact LeO.none _
   | refine LeO.ite ?_ ?_
   | refine LeO.bind ?_ (fun _ => ?_)
end Go.Proofs.Ytdknhgbjgdmfkaa.P
namespace Go.Proofs.Ytdknhgbjgdmfkaa.P
open Go.RowKit Go.Proofs.YtdknhgbjgdmfkaaW.PrintWords Go.Proofs.YtdknhgbjgdmfkaaW.PrintLast Go.Proofs.YtdknhgbjgdmfkaaW.PrintMore
attribute [local go_sem] max2_int min2_int max_two min_two max_three min_three max_four min_four
set_option linter.unusedVariables false
set_option linter.unusedSimpArgs false
theorem za_ {α : Type} (l : List α) (i : Nat) (a : α) : l.toArray.setIfInBounds i a = (l.set i a).toArray := List.setIfInBounds_toArray ..
theorem zb_ {α : Type} (l : List α) (a b : α) : (a :: l).set 0 b = b :: l := rfl
theorem zc_ {α : Type} (l : List α) (a b : α) (n : Nat) : (a :: l).set (n + 1) b = a :: l.set n b := rfl
def mm (l : List (Nat × Bool)) : Array Bool := (l.flatMap fun p => List.replicate p.1 p.2).toArray
set_option maxHeartbeats 8000000 in
set_option maxRecDepth 100000 in
theorem RankSchedule_t (k : Nat) (A0 : Option Addr) (c0 : Nat) (l0 : List (List Int)) (a1 : Int) (r : Bool) (w : World) (hr0 : Kd.C (Kd.slice 3 (Kd.int .i64)) w A0 l0.length l0) (hc0 : l0.length ≤ c0) (hrt : r = true) (h : bywashlaw12_RankSchedule.f k l0 a1 = some r) :
  Calls Try.prog 9 #[.slice A0 l0.length c0, .int .i64 a1] w fun e w' => e = .returned (.bool r) ∧ Below w.heap.size w w' := by
 have HRT := Aside0.mk hrt
 clear hrt
 have HR0 := Aside0.mk hr0
 have HC0 := Aside0.mk hc0
 clear hr0 hc0
 have HB := Aside0.mk (Below.refl w.heap.size w)
 have H : ((bywashlaw12_awake.f k).bind fun t583 => ((bywashref10_Few.f k l0).bind fun t584 => (if t584 = true then ((rank_Schedule.f k l0 a1).bind fun t585 => ((rank_Ranks.f k l0).bind fun t588 => ((graph_Reach.f l0 a1).bind fun t591 => ((rank_Places.f t585 (l0.length : Int)).bind fun t594 => (if (t585.length : Int) = (l0.length : Int) then (if (t588.length : Int) = (l0.length : Int) then (if (t591.length : Int) = (l0.length : Int) then (bywashlaw12_RankSchedule.j0 k t583 t585 t588 t591 t594 ((t594.length : Int) != (l0.length : Int))) else (bywashlaw12_RankSchedule.j0 k t583 t585 t588 t591 t594 true)) else (bywashlaw12_RankSchedule.j0 k t583 t585 t588 t591 t594 true)) else (bywashlaw12_RankSchedule.j0 k t583 t585 t588 t591 t594 true)))))) else (some t583)))) = some r := h
 clear h
 replace H := Option.bind_eq_some_iff.mp H
 obtain ⟨t583, A30, H⟩ := H
 replace H : ((bywashref10_Few.f k l0).bind fun t584 => (if t584 = true then ((rank_Schedule.f k l0 a1).bind fun t585 => ((rank_Ranks.f k l0).bind fun t588 => ((graph_Reach.f l0 a1).bind fun t591 => ((rank_Places.f t585 (l0.length : Int)).bind fun t594 => (if (t585.length : Int) = (l0.length : Int) then (if (t588.length : Int) = (l0.length : Int) then (if (t591.length : Int) = (l0.length : Int) then (bywashlaw12_RankSchedule.j0 k t583 t585 t588 t591 t594 ((t594.length : Int) != (l0.length : Int))) else (bywashlaw12_RankSchedule.j0 k t583 t585 t588 t591 t594 true)) else (bywashlaw12_RankSchedule.j0 k t583 t585 t588 t591 t594 true)) else (bywashlaw12_RankSchedule.j0 k t583 t585 t588 t591 t594 true)))))) else (some t583))) = some r := H
 have A3 := Aside0.mk A30
 clear A30
 replace H := Option.bind_eq_some_iff.mp H
 obtain ⟨t584, A40, H⟩ := H
 replace H : (if t584 = true then ((rank_Schedule.f k l0 a1).bind fun t585 => ((rank_Ranks.f k l0).bind fun t588 => ((graph_Reach.f l0 a1).bind fun t591 => ((rank_Places.f t585 (l0.length : Int)).bind fun t594 => (if (t585.length : Int) = (l0.length : Int) then (if (t588.length : Int) = (l0.length : Int) then (if (t591.length : Int) = (l0.length : Int) then (bywashlaw12_RankSchedule.j0 k t583 t585 t588 t591 t594 ((t594.length : Int) != (l0.length : Int))) else (bywashlaw12_RankSchedule.j0 k t583 t585 t588 t591 t594 true)) else (bywashlaw12_RankSchedule.j0 k t583 t585 t588 t591 t594 true)) else (bywashlaw12_RankSchedule.j0 k t583 t585 t588 t591 t594 true)))))) else (some t583)) = some r := H
 have A4 := Aside0.mk A40
 clear A40
 by_cases c5 : t584 = true
 ·
  subst c5
  have H1 : ((rank_Schedule.f k l0 a1).bind fun t585 => ((rank_Ranks.f k l0).bind fun t588 => ((graph_Reach.f l0 a1).bind fun t591 => ((rank_Places.f t585 (l0.length : Int)).bind fun t594 => (if (t585.length : Int) = (l0.length : Int) then (if (t588.length : Int) = (l0.length : Int) then (if (t591.length : Int) = (l0.length : Int) then (bywashlaw12_RankSchedule.j0 k t583 t585 t588 t591 t594 ((t594.length : Int) != (l0.length : Int))) else (bywashlaw12_RankSchedule.j0 k t583 t585 t588 t591 t594 true)) else (bywashlaw12_RankSchedule.j0 k t583 t585 t588 t591 t594 true)) else (bywashlaw12_RankSchedule.j0 k t583 t585 t588 t591 t594 true)))))) = some r := by rw [if_pos rfl] at H; exact H
  clear H
  have H := H1
  clear H1
  replace H := Option.bind_eq_some_iff.mp H
  obtain ⟨t585, A60, H⟩ := H
  replace H : ((rank_Ranks.f k l0).bind fun t588 => ((graph_Reach.f l0 a1).bind fun t591 => ((rank_Places.f t585 (l0.length : Int)).bind fun t594 => (if (t585.length : Int) = (l0.length : Int) then (if (t588.length : Int) = (l0.length : Int) then (if (t591.length : Int) = (l0.length : Int) then (bywashlaw12_RankSchedule.j0 k t583 t585 t588 t591 t594 ((t594.length : Int) != (l0.length : Int))) else (bywashlaw12_RankSchedule.j0 k t583 t585 t588 t591 t594 true)) else (bywashlaw12_RankSchedule.j0 k t583 t585 t588 t591 t594 true)) else (bywashlaw12_RankSchedule.j0 k t583 t585 t588 t591 t594 true))))) = some r := H
  have A6 := Aside0.mk A60
  clear A60
  replace H := Option.bind_eq_some_iff.mp H
  obtain ⟨t588, A70, H⟩ := H
  replace H : ((graph_Reach.f l0 a1).bind fun t591 => ((rank_Places.f t585 (l0.length : Int)).bind fun t594 => (if (t585.length : Int) = (l0.length : Int) then (if (t588.length : Int) = (l0.length : Int) then (if (t591.length : Int) = (l0.length : Int) then (bywashlaw12_RankSchedule.j0 k t583 t585 t588 t591 t594 ((t594.length : Int) != (l0.length : Int))) else (bywashlaw12_RankSchedule.j0 k t583 t585 t588 t591 t594 true)) else (bywashlaw12_RankSchedule.j0 k t583 t585 t588 t591 t594 true)) else (bywashlaw12_RankSchedule.j0 k t583 t585 t588 t591 t594 true)))) = some r := H
  have A7 := Aside0.mk A70
  clear A70
  replace H := Option.bind_eq_some_iff.mp H
  obtain ⟨t591, A80, H⟩ := H
  replace H : ((rank_Places.f t585 (l0.length : Int)).bind fun t594 => (if (t585.length : Int) = (l0.length : Int) then (if (t588.length : Int) = (l0.length : Int) then (if (t591.length : Int) = (l0.length : Int) then (bywashlaw12_RankSchedule.j0 k t583 t585 t588 t591 t594 ((t594.length : Int) != (l0.length : Int))) else (bywashlaw12_RankSchedule.j0 k t583 t585 t588 t591 t594 true)) else (bywashlaw12_RankSchedule.j0 k t583 t585 t588 t591 t594 true)) else (bywashlaw12_RankSchedule.j0 k t583 t585 t588 t591 t594 true))) = some r := H
  have A8 := Aside0.mk A80
  clear A80
  replace H := Option.bind_eq_some_iff.mp H
  obtain ⟨t594, A90, H⟩ := H
  replace H : (if (t585.length : Int) = (l0.length : Int) then (if (t588.length : Int) = (l0.length : Int) then (if (t591.length : Int) = (l0.length : Int) then (bywashlaw12_RankSchedule.j0 k t583 t585 t588 t591 t594 ((t594.length : Int) != (l0.length : Int))) else (bywashlaw12_RankSchedule.j0 k t583 t585 t588 t591 t594 true)) else (bywashlaw12_RankSchedule.j0 k t583 t585 t588 t591 t594 true)) else (bywashlaw12_RankSchedule.j0 k t583 t585 t588 t591 t594 true)) = some r := H
  have A9 := Aside0.mk A90
  clear A90
  have HC10 := Aside0.mk H
  clear H
  go_enter Try.func9, Try.ntmps9
  go_upto_region 8 with (first | (go_at_call 44; (with_reducible refine (bywashlaw12_awake.calls k  t583 _ A3.out).mono ?_); rintro e w11 ⟨rfl, hb⟩; have n0_ := Aside0.mk (below_step (by repeat (first | (with_reducible first | exact HB.out | apply below_alloc | apply pw_below_drewN | apply below_drew1) | exact HB.out)) hb); clear HB; have HB := n0_; clear n0_; (try clear hb); (try clear hb2); (try clear hk); (try clear hi)) | (go_at_call 14; (with_reducible refine (bywashref10_Few.calls k _ _ l0 true _ ?side1 ?side2 A4.out).mono ?_); (case side1 => repeat (first | exact (Kd.C_below HR0.out HB.out) | (with_reducible refine Kd.C_alloc ?_ _) | (with_reducible refine Kd.C_drewN ?_ _) | (with_reducible refine Kd.C_drew ?_))); (case side2 => exact HC0.out); rintro e w' ⟨rfl, ⟨nd, rfl⟩⟩; (try first | exact ⟨rfl, _, World.drewN_drewN _ _ _⟩ | exact ⟨rfl, _, Eq.trans (World.drewN_drewN _ _ _) (congrArg (World.drewN _) (Nat.add_assoc _ _ _))⟩)) | (go_at_call 45; (with_reducible refine (rank_Schedule.calls k _ _ l0 a1 t585 _ ?side1 ?side2 A6.out).mono ?_); (case side1 => repeat (first | exact (Kd.C_below HR0.out (by repeat (first | (with_reducible first | exact HB.out | apply below_alloc | apply pw_below_drewN | apply below_drew1) | exact HB.out))) | (with_reducible refine Kd.C_alloc ?_ _) | (with_reducible refine Kd.C_drewN ?_ _) | (with_reducible refine Kd.C_drew ?_))); (case side2 => exact HC0.out); rintro e w12 ⟨v586, rfl, ho0, hb⟩; have n0_ := Aside0.mk (Kd.R_lower ho0 (below_size (by repeat (first | (with_reducible first | exact HB.out | apply below_alloc | apply pw_below_drewN | apply below_drew1) | exact HB.out)))); have n1_ := Aside0.mk (below_step (by repeat (first | (with_reducible first | exact HB.out | apply below_alloc | apply pw_below_drewN | apply below_drew1) | exact HB.out)) hb); clear HB; have HO587 := n0_; have HB := n1_; clear n0_ n1_; (try clear hb); (try clear hb2); (try clear hk); (try clear hi); (try clear ho0)) | (go_at_call 46; (with_reducible refine (rank_Ranks.calls k _ _ l0 t588 _ ?side1 ?side2 A7.out).mono ?_); (case side1 => repeat (first | exact (Kd.C_below HR0.out HB.out) | (with_reducible refine Kd.C_alloc ?_ _) | (with_reducible refine Kd.C_drewN ?_ _) | (with_reducible refine Kd.C_drew ?_))); (case side2 => exact HC0.out); rintro e w13 ⟨v589, rfl, ho0, hb⟩; have n0_ := Aside0.mk (Kd.R_elder' (by (with_reducible repeat (first | apply Kd.R_alloc | apply Kd.R_drewN | apply Kd.R_drew)); exact HO587.out) (Kd.R_base ho0) hb); have n1_ := Aside0.mk (Kd.R_lower (Kd.R_new' ho0 (Kd.R_lt (by (with_reducible repeat (first | apply Kd.R_alloc | apply Kd.R_drewN | apply Kd.R_drew)); exact HO587.out))) (below_size (by repeat (first | (with_reducible first | exact HB.out | apply below_alloc | apply pw_below_drewN | apply below_drew1) | exact HB.out)))); have n2_ := Aside0.mk (below_step (by repeat (first | (with_reducible first | exact HB.out | apply below_alloc | apply pw_below_drewN | apply below_drew1) | exact HB.out)) hb); clear HO587; clear HB; have HO587 := n0_; have HO590 := n1_; have HB := n2_; clear n0_ n1_ n2_; (try clear hb); (try clear hb2); (try clear hk); (try clear hi); (try clear ho0)) | (go_at_call 21; (with_reducible refine (graph_Reach.calls _ _ l0 a1 t591 _ ?side1 ?side2 A8.out).mono ?_); (case side1 => repeat (first | exact (Kd.C_below HR0.out HB.out) | (with_reducible refine Kd.C_alloc ?_ _) | (with_reducible refine Kd.C_drewN ?_ _) | (with_reducible refine Kd.C_drew ?_))); (case side2 => exact HC0.out); rintro e w14 ⟨v592, rfl, ho0, hb⟩; have n0_ := Aside0.mk (Kd.R_below (by (with_reducible repeat (first | apply Kd.R_alloc | apply Kd.R_drewN | apply Kd.R_drew)); exact HO587.out) hb); have n1_ := Aside0.mk (Kd.R_below (by (with_reducible repeat (first | apply Kd.R_alloc | apply Kd.R_drewN | apply Kd.R_drew)); exact HO590.out) hb); have n2_ := Aside0.mk (Kd.R_lower ho0 (below_size (by repeat (first | (with_reducible first | exact HB.out | apply below_alloc | apply pw_below_drewN | apply below_drew1) | exact HB.out)))); have n3_ := Aside0.mk (below_step (by repeat (first | (with_reducible first | exact HB.out | apply below_alloc | apply pw_below_drewN | apply below_drew1) | exact HB.out)) hb); clear HO587; clear HO590; clear HB; have HO587 := n0_; have HO590 := n1_; have HO593 := n2_; have HB := n3_; clear n0_ n1_ n2_ n3_; (try clear hb); (try clear hb2); (try clear hk); (try clear hi); (try clear ho0); obtain ⟨Ao15, co15, eo15⟩ := Kd.R_slice HO587.out; subst eo15) | (go_at_call 47; (with_reducible refine (rank_Places.calls _ _ t585 (l0.length : Int) t594 _ ?side1 ?side2 A9.out).mono ?_); (case side1 => repeat (first | exact (Kd.R_reads' HO587.out).2.2 | (with_reducible refine Kd.C_alloc ?_ _) | (with_reducible refine Kd.C_drewN ?_ _) | (with_reducible refine Kd.C_drew ?_))); (case side2 => exact (Kd.R_reads' HO587.out).2.1); rintro e w16 ⟨v595, rfl, ho0, hb⟩; have n0_ := Aside0.mk (Kd.R_elder' (by (with_reducible repeat (first | apply Kd.R_alloc | apply Kd.R_drewN | apply Kd.R_drew)); exact HO587.out) (Kd.R_base ho0) hb); have n1_ := Aside0.mk (Kd.R_elder' (by (with_reducible repeat (first | apply Kd.R_alloc | apply Kd.R_drewN | apply Kd.R_drew)); exact HO590.out) (Kd.R_base ho0) hb); have n2_ := Aside0.mk (Kd.R_below (by (with_reducible repeat (first | apply Kd.R_alloc | apply Kd.R_drewN | apply Kd.R_drew)); exact HO593.out) hb); have n3_ := Aside0.mk (Kd.R_lower (Kd.R_new' (Kd.R_new' ho0 (Kd.R_lt (by (with_reducible repeat (first | apply Kd.R_alloc | apply Kd.R_drewN | apply Kd.R_drew)); exact HO587.out))) (Kd.R_lt (by (with_reducible repeat (first | apply Kd.R_alloc | apply Kd.R_drewN | apply Kd.R_drew)); exact HO590.out))) (below_size (by repeat (first | (with_reducible first | exact HB.out | apply below_alloc | apply pw_below_drewN | apply below_drew1) | exact HB.out)))); have n4_ := Aside0.mk (below_step (by repeat (first | (with_reducible first | exact HB.out | apply below_alloc | apply pw_below_drewN | apply below_drew1) | exact HB.out)) hb); clear HO587; clear HO590; clear HO593; clear HB; have HO587 := n0_; have HO590 := n1_; have HO593 := n2_; have HO596 := n3_; have HB := n4_; clear n0_ n1_ n2_ n3_ n4_; (try clear hb); (try clear hb2); (try clear hk); (try clear hi); (try clear ho0)))
  repeat (go_quiet (first | (go_at_call 44; (with_reducible refine (bywashlaw12_awake.calls k  t583 _ A3.out).mono ?_); rintro e w11 ⟨rfl, hb⟩; have n0_ := Aside0.mk (below_step (by repeat (first | (with_reducible first | exact HB.out | apply below_alloc | apply pw_below_drewN | apply below_drew1) | exact HB.out)) hb); clear HB; have HB := n0_; clear n0_; (try clear hb); (try clear hb2); (try clear hk); (try clear hi)) | (go_at_call 14; (with_reducible refine (bywashref10_Few.calls k _ _ l0 true _ ?side1 ?side2 A4.out).mono ?_); (case side1 => repeat (first | exact (Kd.C_below HR0.out HB.out) | (with_reducible refine Kd.C_alloc ?_ _) | (with_reducible refine Kd.C_drewN ?_ _) | (with_reducible refine Kd.C_drew ?_))); (case side2 => exact HC0.out); rintro e w' ⟨rfl, ⟨nd, rfl⟩⟩; (try first | exact ⟨rfl, _, World.drewN_drewN _ _ _⟩ | exact ⟨rfl, _, Eq.trans (World.drewN_drewN _ _ _) (congrArg (World.drewN _) (Nat.add_assoc _ _ _))⟩)) | (go_at_call 45; (with_reducible refine (rank_Schedule.calls k _ _ l0 a1 t585 _ ?side1 ?side2 A6.out).mono ?_); (case side1 => repeat (first | exact (Kd.C_below HR0.out (by repeat (first | (with_reducible first | exact HB.out | apply below_alloc | apply pw_below_drewN | apply below_drew1) | exact HB.out))) | (with_reducible refine Kd.C_alloc ?_ _) | (with_reducible refine Kd.C_drewN ?_ _) | (with_reducible refine Kd.C_drew ?_))); (case side2 => exact HC0.out); rintro e w12 ⟨v586, rfl, ho0, hb⟩; have n0_ := Aside0.mk (Kd.R_lower ho0 (below_size (by repeat (first | (with_reducible first | exact HB.out | apply below_alloc | apply pw_below_drewN | apply below_drew1) | exact HB.out)))); have n1_ := Aside0.mk (below_step (by repeat (first | (with_reducible first | exact HB.out | apply below_alloc | apply pw_below_drewN | apply below_drew1) | exact HB.out)) hb); clear HB; have HO587 := n0_; have HB := n1_; clear n0_ n1_; (try clear hb); (try clear hb2); (try clear hk); (try clear hi); (try clear ho0)) | (go_at_call 46; (with_reducible refine (rank_Ranks.calls k _ _ l0 t588 _ ?side1 ?side2 A7.out).mono ?_); (case side1 => repeat (first | exact (Kd.C_below HR0.out HB.out) | (with_reducible refine Kd.C_alloc ?_ _) | (with_reducible refine Kd.C_drewN ?_ _) | (with_reducible refine Kd.C_drew ?_))); (case side2 => exact HC0.out); rintro e w13 ⟨v589, rfl, ho0, hb⟩; have n0_ := Aside0.mk (Kd.R_elder' (by (with_reducible repeat (first | apply Kd.R_alloc | apply Kd.R_drewN | apply Kd.R_drew)); exact HO587.out) (Kd.R_base ho0) hb); have n1_ := Aside0.mk (Kd.R_lower (Kd.R_new' ho0 (Kd.R_lt (by (with_reducible repeat (first | apply Kd.R_alloc | apply Kd.R_drewN | apply Kd.R_drew)); exact HO587.out))) (below_size (by repeat (first | (with_reducible first | exact HB.out | apply below_alloc | apply pw_below_drewN | apply below_drew1) | exact HB.out)))); have n2_ := Aside0.mk (below_step (by repeat (first | (with_reducible first | exact HB.out | apply below_alloc | apply pw_below_drewN | apply below_drew1) | exact HB.out)) hb); clear HO587; clear HB; have HO587 := n0_; have HO590 := n1_; have HB := n2_; clear n0_ n1_ n2_; (try clear hb); (try clear hb2); (try clear hk); (try clear hi); (try clear ho0)) | (go_at_call 21; (with_reducible refine (graph_Reach.calls _ _ l0 a1 t591 _ ?side1 ?side2 A8.out).mono ?_); (case side1 => repeat (first | exact (Kd.C_below HR0.out HB.out) | (with_reducible refine Kd.C_alloc ?_ _) | (with_reducible refine Kd.C_drewN ?_ _) | (with_reducible refine Kd.C_drew ?_))); (case side2 => exact HC0.out); rintro e w14 ⟨v592, rfl, ho0, hb⟩; have n0_ := Aside0.mk (Kd.R_below (by (with_reducible repeat (first | apply Kd.R_alloc | apply Kd.R_drewN | apply Kd.R_drew)); exact HO587.out) hb); have n1_ := Aside0.mk (Kd.R_below (by (with_reducible repeat (first | apply Kd.R_alloc | apply Kd.R_drewN | apply Kd.R_drew)); exact HO590.out) hb); have n2_ := Aside0.mk (Kd.R_lower ho0 (below_size (by repeat (first | (with_reducible first | exact HB.out | apply below_alloc | apply pw_below_drewN | apply below_drew1) | exact HB.out)))); have n3_ := Aside0.mk (below_step (by repeat (first | (with_reducible first | exact HB.out | apply below_alloc | apply pw_below_drewN | apply below_drew1) | exact HB.out)) hb); clear HO587; clear HO590; clear HB; have HO587 := n0_; have HO590 := n1_; have HO593 := n2_; have HB := n3_; clear n0_ n1_ n2_ n3_; (try clear hb); (try clear hb2); (try clear hk); (try clear hi); (try clear ho0); obtain ⟨Ao15, co15, eo15⟩ := Kd.R_slice HO587.out; subst eo15) | (go_at_call 47; (with_reducible refine (rank_Places.calls _ _ t585 (l0.length : Int) t594 _ ?side1 ?side2 A9.out).mono ?_); (case side1 => repeat (first | exact (Kd.R_reads' HO587.out).2.2 | (with_reducible refine Kd.C_alloc ?_ _) | (with_reducible refine Kd.C_drewN ?_ _) | (with_reducible refine Kd.C_drew ?_))); (case side2 => exact (Kd.R_reads' HO587.out).2.1); rintro e w16 ⟨v595, rfl, ho0, hb⟩; have n0_ := Aside0.mk (Kd.R_elder' (by (with_reducible repeat (first | apply Kd.R_alloc | apply Kd.R_drewN | apply Kd.R_drew)); exact HO587.out) (Kd.R_base ho0) hb); have n1_ := Aside0.mk (Kd.R_elder' (by (with_reducible repeat (first | apply Kd.R_alloc | apply Kd.R_drewN | apply Kd.R_drew)); exact HO590.out) (Kd.R_base ho0) hb); have n2_ := Aside0.mk (Kd.R_below (by (with_reducible repeat (first | apply Kd.R_alloc | apply Kd.R_drewN | apply Kd.R_drew)); exact HO593.out) hb); have n3_ := Aside0.mk (Kd.R_lower (Kd.R_new' (Kd.R_new' ho0 (Kd.R_lt (by (with_reducible repeat (first | apply Kd.R_alloc | apply Kd.R_drewN | apply Kd.R_drew)); exact HO587.out))) (Kd.R_lt (by (with_reducible repeat (first | apply Kd.R_alloc | apply Kd.R_drewN | apply Kd.R_drew)); exact HO590.out))) (below_size (by repeat (first | (with_reducible first | exact HB.out | apply below_alloc | apply pw_below_drewN | apply below_drew1) | exact HB.out)))); have n4_ := Aside0.mk (below_step (by repeat (first | (with_reducible first | exact HB.out | apply below_alloc | apply pw_below_drewN | apply below_drew1) | exact HB.out)) hb); clear HO587; clear HO590; clear HO593; clear HB; have HO587 := n0_; have HO590 := n1_; have HO593 := n2_; have HO596 := n3_; have HB := n4_; clear n0_ n1_ n2_ n3_ n4_; (try clear hb); (try clear hb2); (try clear hk); (try clear hi); (try clear ho0))); go_upto_region 8 with (first | (go_at_call 44; (with_reducible refine (bywashlaw12_awake.calls k  t583 _ A3.out).mono ?_); rintro e w11 ⟨rfl, hb⟩; have n0_ := Aside0.mk (below_step (by repeat (first | (with_reducible first | exact HB.out | apply below_alloc | apply pw_below_drewN | apply below_drew1) | exact HB.out)) hb); clear HB; have HB := n0_; clear n0_; (try clear hb); (try clear hb2); (try clear hk); (try clear hi)) | (go_at_call 14; (with_reducible refine (bywashref10_Few.calls k _ _ l0 true _ ?side1 ?side2 A4.out).mono ?_); (case side1 => repeat (first | exact (Kd.C_below HR0.out HB.out) | (with_reducible refine Kd.C_alloc ?_ _) | (with_reducible refine Kd.C_drewN ?_ _) | (with_reducible refine Kd.C_drew ?_))); (case side2 => exact HC0.out); rintro e w' ⟨rfl, ⟨nd, rfl⟩⟩; (try first | exact ⟨rfl, _, World.drewN_drewN _ _ _⟩ | exact ⟨rfl, _, Eq.trans (World.drewN_drewN _ _ _) (congrArg (World.drewN _) (Nat.add_assoc _ _ _))⟩)) | (go_at_call 45; (with_reducible refine (rank_Schedule.calls k _ _ l0 a1 t585 _ ?side1 ?side2 A6.out).mono ?_); (case side1 => repeat (first | exact (Kd.C_below HR0.out (by repeat (first | (with_reducible first | exact HB.out | apply below_alloc | apply pw_below_drewN | apply below_drew1) | exact HB.out))) | (with_reducible refine Kd.C_alloc ?_ _) | (with_reducible refine Kd.C_drewN ?_ _) | (with_reducible refine Kd.C_drew ?_))); (case side2 => exact HC0.out); rintro e w12 ⟨v586, rfl, ho0, hb⟩; have n0_ := Aside0.mk (Kd.R_lower ho0 (below_size (by repeat (first | (with_reducible first | exact HB.out | apply below_alloc | apply pw_below_drewN | apply below_drew1) | exact HB.out)))); have n1_ := Aside0.mk (below_step (by repeat (first | (with_reducible first | exact HB.out | apply below_alloc | apply pw_below_drewN | apply below_drew1) | exact HB.out)) hb); clear HB; have HO587 := n0_; have HB := n1_; clear n0_ n1_; (try clear hb); (try clear hb2); (try clear hk); (try clear hi); (try clear ho0)) | (go_at_call 46; (with_reducible refine (rank_Ranks.calls k _ _ l0 t588 _ ?side1 ?side2 A7.out).mono ?_); (case side1 => repeat (first | exact (Kd.C_below HR0.out HB.out) | (with_reducible refine Kd.C_alloc ?_ _) | (with_reducible refine Kd.C_drewN ?_ _) | (with_reducible refine Kd.C_drew ?_))); (case side2 => exact HC0.out); rintro e w13 ⟨v589, rfl, ho0, hb⟩; have n0_ := Aside0.mk (Kd.R_elder' (by (with_reducible repeat (first | apply Kd.R_alloc | apply Kd.R_drewN | apply Kd.R_drew)); exact HO587.out) (Kd.R_base ho0) hb); have n1_ := Aside0.mk (Kd.R_lower (Kd.R_new' ho0 (Kd.R_lt (by (with_reducible repeat (first | apply Kd.R_alloc | apply Kd.R_drewN | apply Kd.R_drew)); exact HO587.out))) (below_size (by repeat (first | (with_reducible first | exact HB.out | apply below_alloc | apply pw_below_drewN | apply below_drew1) | exact HB.out)))); have n2_ := Aside0.mk (below_step (by repeat (first | (with_reducible first | exact HB.out | apply below_alloc | apply pw_below_drewN | apply below_drew1) | exact HB.out)) hb); clear HO587; clear HB; have HO587 := n0_; have HO590 := n1_; have HB := n2_; clear n0_ n1_ n2_; (try clear hb); (try clear hb2); (try clear hk); (try clear hi); (try clear ho0)) | (go_at_call 21; (with_reducible refine (graph_Reach.calls _ _ l0 a1 t591 _ ?side1 ?side2 A8.out).mono ?_); (case side1 => repeat (first | exact (Kd.C_below HR0.out HB.out) | (with_reducible refine Kd.C_alloc ?_ _) | (with_reducible refine Kd.C_drewN ?_ _) | (with_reducible refine Kd.C_drew ?_))); (case side2 => exact HC0.out); rintro e w14 ⟨v592, rfl, ho0, hb⟩; have n0_ := Aside0.mk (Kd.R_below (by (with_reducible repeat (first | apply Kd.R_alloc | apply Kd.R_drewN | apply Kd.R_drew)); exact HO587.out) hb); have n1_ := Aside0.mk (Kd.R_below (by (with_reducible repeat (first | apply Kd.R_alloc | apply Kd.R_drewN | apply Kd.R_drew)); exact HO590.out) hb); have n2_ := Aside0.mk (Kd.R_lower ho0 (below_size (by repeat (first | (with_reducible first | exact HB.out | apply below_alloc | apply pw_below_drewN | apply below_drew1) | exact HB.out)))); have n3_ := Aside0.mk (below_step (by repeat (first | (with_reducible first | exact HB.out | apply below_alloc | apply pw_below_drewN | apply below_drew1) | exact HB.out)) hb); clear HO587; clear HO590; clear HB; have HO587 := n0_; have HO590 := n1_; have HO593 := n2_; have HB := n3_; clear n0_ n1_ n2_ n3_; (try clear hb); (try clear hb2); (try clear hk); (try clear hi); (try clear ho0); obtain ⟨Ao15, co15, eo15⟩ := Kd.R_slice HO587.out; subst eo15) | (go_at_call 47; (with_reducible refine (rank_Places.calls _ _ t585 (l0.length : Int) t594 _ ?side1 ?side2 A9.out).mono ?_); (case side1 => repeat (first | exact (Kd.R_reads' HO587.out).2.2 | (with_reducible refine Kd.C_alloc ?_ _) | (with_reducible refine Kd.C_drewN ?_ _) | (with_reducible refine Kd.C_drew ?_))); (case side2 => exact (Kd.R_reads' HO587.out).2.1); rintro e w16 ⟨v595, rfl, ho0, hb⟩; have n0_ := Aside0.mk (Kd.R_elder' (by (with_reducible repeat (first | apply Kd.R_alloc | apply Kd.R_drewN | apply Kd.R_drew)); exact HO587.out) (Kd.R_base ho0) hb); have n1_ := Aside0.mk (Kd.R_elder' (by (with_reducible repeat (first | apply Kd.R_alloc | apply Kd.R_drewN | apply Kd.R_drew)); exact HO590.out) (Kd.R_base ho0) hb); have n2_ := Aside0.mk (Kd.R_below (by (with_reducible repeat (first | apply Kd.R_alloc | apply Kd.R_drewN | apply Kd.R_drew)); exact HO593.out) hb); have n3_ := Aside0.mk (Kd.R_lower (Kd.R_new' (Kd.R_new' ho0 (Kd.R_lt (by (with_reducible repeat (first | apply Kd.R_alloc | apply Kd.R_drewN | apply Kd.R_drew)); exact HO587.out))) (Kd.R_lt (by (with_reducible repeat (first | apply Kd.R_alloc | apply Kd.R_drewN | apply Kd.R_drew)); exact HO590.out))) (below_size (by repeat (first | (with_reducible first | exact HB.out | apply below_alloc | apply pw_below_drewN | apply below_drew1) | exact HB.out)))); have n4_ := Aside0.mk (below_step (by repeat (first | (with_reducible first | exact HB.out | apply below_alloc | apply pw_below_drewN | apply below_drew1) | exact HB.out)) hb); clear HO587; clear HO590; clear HO593; clear HB; have HO587 := n0_; have HO590 := n1_; have HO593 := n2_; have HO596 := n3_; have HB := n4_; clear n0_ n1_ n2_ n3_ n4_; (try clear hb); (try clear hb2); (try clear hk); (try clear hi); (try clear ho0))))
  (try simp only [Act.put, za_, zb_, zc_])
  go_cut [55] (fun v55 wc => ∃ (kq : Nat) (x55_9 : Bool), v55 = .bool x55_9 ∧ Aside0 (bywashlaw12_RankSchedule.j0 kq t583 t585 t588 t591 t594 x55_9 = some r) ∧ Aside0 (kq ≤ k) ∧ Aside0 (Kd.R (Kd.int .i64) 3 wc w.heap.size (fun k_ => some k_ ≠ (v589 : Value).ownBlock ∧ some k_ ≠ (v595 : Value).ownBlock) (.slice Ao15 t585.length co15) t585) ∧ Aside0 (Kd.R (Kd.int .i64) 3 wc w.heap.size (fun k_ => some k_ ≠ ((.slice Ao15 t585.length co15) : Value).ownBlock ∧ some k_ ≠ (v595 : Value).ownBlock) v589 t588) ∧ Aside0 (Kd.R Kd.bool 4 wc w.heap.size (fun _ => True) v592 t591) ∧ Aside0 (Kd.R (Kd.int .i64) 3 wc w.heap.size (fun k_ => some k_ ≠ ((.slice Ao15 t585.length co15) : Value).ownBlock ∧ some k_ ≠ (v589 : Value).ownBlock) v595 t594) ∧ Aside0 (Below w.heap.size w wc))
  case first =>
   have H := HC10.out
   clear HC10
   by_cases c17 : (t585.length : Int) = (l0.length : Int)
   ·
    rw [if_pos c17] at H
    have c17b0 : ((t585.length : Int) == (l0.length : Int)) = true := beq_iff_eq.mpr c17
    have c17b1 : ((t585.length : Int) != (l0.length : Int)) = false := bne_eq_false_iff_eq.mpr c17
    have c17b2 : (t585.length == l0.length) = true := by first | simpa using c17 | (simp at c17 ⊢; omega)
    clear c17
    (first | rw [c17b0] | (simp only [i64_w, i32_w]; rw [c17b0]) | skip)
    by_cases c18 : (t588.length : Int) = (l0.length : Int)
    ·
     rw [if_pos c18] at H
     have c18b0 : ((t588.length : Int) == (l0.length : Int)) = true := beq_iff_eq.mpr c18
     have c18b1 : ((t588.length : Int) != (l0.length : Int)) = false := bne_eq_false_iff_eq.mpr c18
     have c18b2 : (t588.length == l0.length) = true := by first | simpa using c18 | (simp at c18 ⊢; omega)
     clear c18
     by_cases c19 : (t591.length : Int) = (l0.length : Int)
     ·
      rw [if_pos c19] at H
      have c19b0 : ((t591.length : Int) == (l0.length : Int)) = true := beq_iff_eq.mpr c19
      have c19b1 : ((t591.length : Int) != (l0.length : Int)) = false := bne_eq_false_iff_eq.mpr c19
      have c19b2 : (t591.length == l0.length) = true := by first | simpa using c19 | (simp at c19 ⊢; omega)
      clear c19
      have H' := Aside0.mk H
      clear H
      obtain ⟨Ao20, co20, eo20⟩ := Kd.R_slice HO590.out
      subst eo20
      obtain ⟨Ao21, co21, eo21⟩ := Kd.R_slice HO593.out
      subst eo21
      obtain ⟨Ao22, co22, eo22⟩ := Kd.R_slice HO596.out
      subst eo22
      go_wp2
      repeat (go_quiet (fail); try go_wp2)
      go_meet
      case rel => exact ⟨_, (((t594.length : Int) != (l0.length : Int))), (by first | rfl | (simp; done) | (simp [*]; done)), H', ⟨by first | omega | exact Nat.le_refl _⟩, ⟨by (with_reducible repeat (first | apply Kd.R_alloc | apply Kd.R_drewN | apply Kd.R_drew)); exact Kd.R_mono HO587.out (fun _ hk => ⟨hk.1.2, hk.2⟩)⟩, ⟨by (with_reducible repeat (first | apply Kd.R_alloc | apply Kd.R_drewN | apply Kd.R_drew)); exact Kd.R_mono HO590.out (fun _ hk => ⟨hk.1.2, hk.2⟩)⟩, ⟨by (with_reducible repeat (first | apply Kd.R_alloc | apply Kd.R_drewN | apply Kd.R_drew)); exact HO593.out⟩, ⟨by (with_reducible repeat (first | apply Kd.R_alloc | apply Kd.R_drewN | apply Kd.R_drew)); exact Kd.R_mono HO596.out (fun _ hk => ⟨hk.1.2, hk.2⟩)⟩, ⟨by repeat (first | (with_reducible first | exact HB.out | apply below_alloc | apply pw_below_drewN | apply below_drew1) | exact HB.out)⟩⟩
     ·
      rw [if_neg c19] at H
      have c19b0 : ((t591.length : Int) == (l0.length : Int)) = false := beq_eq_false_iff_ne.mpr c19
      have c19b1 : ((t591.length : Int) != (l0.length : Int)) = true := bne_iff_ne.mpr c19
      have c19b2 : (t591.length == l0.length) = false := by first | simpa using c19 | (simp at c19 ⊢; omega)
      have H' := Aside0.mk H
      clear H
      obtain ⟨Ao23, co23, eo23⟩ := Kd.R_slice HO590.out
      subst eo23
      obtain ⟨Ao24, co24, eo24⟩ := Kd.R_slice HO593.out
      subst eo24
      go_wp2
      repeat (go_quiet (fail); try go_wp2)
      go_meet
      case rel => exact ⟨_, (true), (by first | rfl | (simp; done) | (simp [*]; done)), H', ⟨by first | omega | exact Nat.le_refl _⟩, ⟨by (with_reducible repeat (first | apply Kd.R_alloc | apply Kd.R_drewN | apply Kd.R_drew)); exact Kd.R_mono HO587.out (fun _ hk => ⟨hk.1.2, hk.2⟩)⟩, ⟨by (with_reducible repeat (first | apply Kd.R_alloc | apply Kd.R_drewN | apply Kd.R_drew)); exact Kd.R_mono HO590.out (fun _ hk => ⟨hk.1.2, hk.2⟩)⟩, ⟨by (with_reducible repeat (first | apply Kd.R_alloc | apply Kd.R_drewN | apply Kd.R_drew)); exact HO593.out⟩, ⟨by (with_reducible repeat (first | apply Kd.R_alloc | apply Kd.R_drewN | apply Kd.R_drew)); exact Kd.R_mono HO596.out (fun _ hk => ⟨hk.1.2, hk.2⟩)⟩, ⟨by repeat (first | (with_reducible first | exact HB.out | apply below_alloc | apply pw_below_drewN | apply below_drew1) | exact HB.out)⟩⟩
    ·
     rw [if_neg c18] at H
     have c18b0 : ((t588.length : Int) == (l0.length : Int)) = false := beq_eq_false_iff_ne.mpr c18
     have c18b1 : ((t588.length : Int) != (l0.length : Int)) = true := bne_iff_ne.mpr c18
     have c18b2 : (t588.length == l0.length) = false := by first | simpa using c18 | (simp at c18 ⊢; omega)
     have H' := Aside0.mk H
     clear H
     obtain ⟨Ao25, co25, eo25⟩ := Kd.R_slice HO590.out
     subst eo25
     go_wp2
     repeat (go_quiet (fail); try go_wp2)
     go_meet
     case rel => exact ⟨_, (true), (by first | rfl | (simp; done) | (simp [*]; done)), H', ⟨by first | omega | exact Nat.le_refl _⟩, ⟨by (with_reducible repeat (first | apply Kd.R_alloc | apply Kd.R_drewN | apply Kd.R_drew)); exact Kd.R_mono HO587.out (fun _ hk => ⟨hk.1.2, hk.2⟩)⟩, ⟨by (with_reducible repeat (first | apply Kd.R_alloc | apply Kd.R_drewN | apply Kd.R_drew)); exact Kd.R_mono HO590.out (fun _ hk => ⟨hk.1.2, hk.2⟩)⟩, ⟨by (with_reducible repeat (first | apply Kd.R_alloc | apply Kd.R_drewN | apply Kd.R_drew)); exact HO593.out⟩, ⟨by (with_reducible repeat (first | apply Kd.R_alloc | apply Kd.R_drewN | apply Kd.R_drew)); exact Kd.R_mono HO596.out (fun _ hk => ⟨hk.1.2, hk.2⟩)⟩, ⟨by repeat (first | (with_reducible first | exact HB.out | apply below_alloc | apply pw_below_drewN | apply below_drew1) | exact HB.out)⟩⟩
   ·
    rw [if_neg c17] at H
    have c17b0 : ((t585.length : Int) == (l0.length : Int)) = false := beq_eq_false_iff_ne.mpr c17
    have c17b1 : ((t585.length : Int) != (l0.length : Int)) = true := bne_iff_ne.mpr c17
    have c17b2 : (t585.length == l0.length) = false := by first | simpa using c17 | (simp at c17 ⊢; omega)
    (first | rw [c17b0] | (simp only [i64_w, i32_w]; rw [c17b0]) | skip)
    have H' := Aside0.mk H
    clear H
    go_wp2
    repeat (go_quiet (fail); try go_wp2)
    go_meet
    case rel => exact ⟨_, (true), (by first | rfl | (simp; done) | (simp [*]; done)), H', ⟨by first | omega | exact Nat.le_refl _⟩, ⟨by (with_reducible repeat (first | apply Kd.R_alloc | apply Kd.R_drewN | apply Kd.R_drew)); exact Kd.R_mono HO587.out (fun _ hk => ⟨hk.1.2, hk.2⟩)⟩, ⟨by (with_reducible repeat (first | apply Kd.R_alloc | apply Kd.R_drewN | apply Kd.R_drew)); exact Kd.R_mono HO590.out (fun _ hk => ⟨hk.1.2, hk.2⟩)⟩, ⟨by (with_reducible repeat (first | apply Kd.R_alloc | apply Kd.R_drewN | apply Kd.R_drew)); exact HO593.out⟩, ⟨by (with_reducible repeat (first | apply Kd.R_alloc | apply Kd.R_drewN | apply Kd.R_drew)); exact Kd.R_mono HO596.out (fun _ hk => ⟨hk.1.2, hk.2⟩)⟩, ⟨by repeat (first | (with_reducible first | exact HB.out | apply below_alloc | apply pw_below_drewN | apply below_drew1) | exact HB.out)⟩⟩
  case rest =>
   clear HC10
   try clear c1
   try clear p2
   try clear c5
   try clear c9
   try clear c17
   try clear c17b0
   try clear c17b1
   try clear c17b2
   try clear c18
   try clear c18b0
   try clear c18b1
   try clear c18b2
   try clear c19
   try clear c19b0
   try clear c19b1
   try clear c19b2
   obtain ⟨kq, x55_9, rfl, HA, HJ9, HO_6, HO_7, HO_8, HO_9, HB⟩ := hcut
   cases kq with
   | zero => exact absurd HA.out (by simp [bywashlaw12_RankSchedule.j0])
   | succ kj9 =>
    have H := HA.out
    clear HA
    simp only [bywashlaw12_RankSchedule.j0] at H
    by_cases c26 : x55_9 = true
    ·
     subst c26
     have H1 : (some false) = some r := by rw [if_pos rfl] at H; exact H
     clear H
     have H := H1
     exact absurd (Option.some.inj H) (by rw [HRT.out]; decide)
    ·
     replace c26 := Bool.eq_false_iff.mpr c26
     subst c26
     have H1 : (bywashlaw12_RankSchedule.l0 kj9 t583 t585 t588 t591 t594 0) = some r := by rw [if_neg (show ¬ (false = true) by decide)] at H; exact H
     clear H
     have H := H1
     clear H1
     have H' := Aside0.mk H
     clear H
     go_wp2
     repeat (go_quiet (fail); try go_wp2)
     go_loopg [10] kj9 (fun kq v10 w' => ∃ (x10_2 : Int), v10 = .int .i64 x10_2 ∧ Aside0 (bywashlaw12_RankSchedule.l0 kq t583 t585 t588 t591 t594 x10_2 = some r) ∧ Aside0 (kq ≤ kj9) ∧ Aside0 (Kd.R (Kd.int .i64) 3 w' w.heap.size (fun k_ => some k_ ≠ (v589 : Value).ownBlock ∧ some k_ ≠ (v595 : Value).ownBlock) (.slice Ao15 t585.length co15) t585) ∧ Aside0 (Kd.R (Kd.int .i64) 3 w' w.heap.size (fun k_ => some k_ ≠ ((.slice Ao15 t585.length co15) : Value).ownBlock ∧ some k_ ≠ (v595 : Value).ownBlock) v589 t588) ∧ Aside0 (Kd.R Kd.bool 4 w' w.heap.size (fun _ => True) v592 t591) ∧ Aside0 (Kd.R (Kd.int .i64) 3 w' w.heap.size (fun k_ => some k_ ≠ ((.slice Ao15 t585.length co15) : Value).ownBlock ∧ some k_ ≠ (v589 : Value).ownBlock) v595 t594) ∧ Aside0 (Below w.heap.size w w'))
     case atStart => exact ⟨(0), (by first | rfl | (simp; done) | (simp [*]; done)), H', ⟨Nat.le_refl _⟩, ⟨by (with_reducible repeat (first | apply Kd.R_alloc | apply Kd.R_drewN | apply Kd.R_drew)); exact HO_6.out⟩, ⟨by (with_reducible repeat (first | apply Kd.R_alloc | apply Kd.R_drewN | apply Kd.R_drew)); exact HO_7.out⟩, ⟨by (with_reducible repeat (first | apply Kd.R_alloc | apply Kd.R_drewN | apply Kd.R_drew)); exact HO_8.out⟩, ⟨by (with_reducible repeat (first | apply Kd.R_alloc | apply Kd.R_drewN | apply Kd.R_drew)); exact HO_9.out⟩, ⟨by repeat (first | (with_reducible first | exact HB.out | apply below_alloc | apply pw_below_drewN | apply below_drew1) | exact HB.out)⟩⟩
     case round =>
      clear H'
      try clear c1
      try clear c2
      try clear p2
      try clear c5
      try clear c9
      try clear c17
      try clear c17b0
      try clear c17b1
      try clear c17b2
      try clear c18
      try clear c18b0
      try clear c18b1
      try clear c18b2
      try clear c19
      try clear c19b0
      try clear c19b1
      try clear c19b2
      try clear c26
      try clear p2
      obtain ⟨x10_2, rfl, HA, HK2, HO_6, HO_7, HO_8, HO_9, HB⟩ := hrel
      cases gk with
      | zero => exact absurd HA.out (by simp [bywashlaw12_RankSchedule.l0])
      | succ k2 =>
       have H := HA.out
       clear HA
       simp only [bywashlaw12_RankSchedule.l0] at H
       by_cases c27 : x10_2 < (t585.length : Int)
       ·
        rw [if_pos c27] at H
        have c27b0 : decide (x10_2 < (t585.length : Int)) = true := decide_eq_true c27
        clear c27
        have HC28 := Aside0.mk H
        clear H
        go_upto_region 13 with (fail)
        repeat (go_quiet (fail); go_upto_region 13 with (fail))
        go_cut [77] (fun v77 wc => ∃ (kq : Nat) (x77_27 : Bool), v77 = .bool x77_27 ∧ Aside0 (bywashlaw12_RankSchedule.j2 kq t583 t585 t588 t591 t594 x10_2 x77_27 = some r) ∧ Aside0 (kq ≤ k2) ∧ Aside0 (Kd.R (Kd.int .i64) 3 wc w.heap.size (fun k_ => some k_ ≠ (v589 : Value).ownBlock ∧ some k_ ≠ (v595 : Value).ownBlock) (.slice Ao15 t585.length co15) t585) ∧ Aside0 (Kd.R (Kd.int .i64) 3 wc w.heap.size (fun k_ => some k_ ≠ ((.slice Ao15 t585.length co15) : Value).ownBlock ∧ some k_ ≠ (v595 : Value).ownBlock) v589 t588) ∧ Aside0 (Kd.R Kd.bool 4 wc w.heap.size (fun _ => True) v592 t591) ∧ Aside0 (Kd.R (Kd.int .i64) 3 wc w.heap.size (fun k_ => some k_ ≠ ((.slice Ao15 t585.length co15) : Value).ownBlock ∧ some k_ ≠ (v589 : Value).ownBlock) v595 t594) ∧ Aside0 (Below w.heap.size w wc))
        case first =>
         have H := HC28.out
         clear HC28
         by_cases c29 : 0 ≤ x10_2
         ·
          rw [if_pos c29] at H
          have c29b0 : decide (0 ≤ x10_2) = true := decide_eq_true c29
          clear c29
          (first | rw [c29b0] | (simp only [i64_w, i32_w]; rw [c29b0]) | skip)
          by_cases c30 : x10_2 < (t594.length : Int)
          ·
           rw [if_pos c30] at H
           have c30b0 : decide (x10_2 < (t594.length : Int)) = true := decide_eq_true c30
           clear c30
           by_cases c31 : (rd t594 x10_2) < 0
           ·
            rw [if_pos c31] at H
            have c31b0 : decide ((rd t594 x10_2) < 0) = true := decide_eq_true c31
            clear c31
            have H' := Aside0.mk H
            clear H
            obtain ⟨Ao32, co32, eo32⟩ := Kd.R_slice HO_9.out
            subst eo32
            have p597 : 0 ≤ (x10_2 : Int) := of_decide_eq_true (by first | (with_reducible assumption) | assumption)
            have q597 : x10_2 < (t594.length : Int) := of_decide_eq_true (by first | (with_reducible assumption) | assumption)
            obtain ⟨ad597, e597, hx597_0⟩ := Kd.at_int (Kd.R_reads' HO_9.out).2.2 x10_2 p597 q597
            cases e597
            replace p597 := eq_true p597
            replace q597 := eq_true q597
            go_wp2
            repeat (go_quiet (fail); try go_wp2)
            go_meet
            case rel => exact ⟨_, (true), (by first | rfl | (simp; done) | (simp [*]; done)), H', ⟨by have := HJ9.out; have := HK2.out; first | omega | exact Nat.le_refl _⟩, ⟨by (with_reducible repeat (first | apply Kd.R_alloc | apply Kd.R_drewN | apply Kd.R_drew)); exact HO_6.out⟩, ⟨by (with_reducible repeat (first | apply Kd.R_alloc | apply Kd.R_drewN | apply Kd.R_drew)); exact HO_7.out⟩, ⟨by (with_reducible repeat (first | apply Kd.R_alloc | apply Kd.R_drewN | apply Kd.R_drew)); exact HO_8.out⟩, ⟨by (with_reducible repeat (first | apply Kd.R_alloc | apply Kd.R_drewN | apply Kd.R_drew)); exact HO_9.out⟩, ⟨by repeat (first | (with_reducible first | exact HB.out | apply below_alloc | apply pw_below_drewN | apply below_drew1) | exact HB.out)⟩⟩
           ·
            rw [if_neg c31] at H
            have c31b0 : decide ((rd t594 x10_2) < 0) = false := decide_eq_false c31
            clear c31
            by_cases c33 : 0 ≤ (rd t594 x10_2)
            ·
             rw [if_pos c33] at H
             have c33b0 : decide (0 ≤ (rd t594 x10_2)) = true := decide_eq_true c33
             clear c33
             by_cases c34 : (rd t594 x10_2) < (t585.length : Int)
             ·
              rw [if_pos c34] at H
              have c34b0 : decide ((rd t594 x10_2) < (t585.length : Int)) = true := decide_eq_true c34
              clear c34
              have H' := Aside0.mk H
              clear H
              obtain ⟨Ao35, co35, eo35⟩ := Kd.R_slice HO_9.out
              subst eo35
              have p597 : 0 ≤ (x10_2 : Int) := of_decide_eq_true (by first | (with_reducible assumption) | assumption)
              have q597 : x10_2 < (t594.length : Int) := of_decide_eq_true (by first | (with_reducible assumption) | assumption)
              obtain ⟨ad597, e597, hx597_0⟩ := Kd.at_int (Kd.R_reads' HO_9.out).2.2 x10_2 p597 q597
              cases e597
              replace p597 := eq_true p597
              replace q597 := eq_true q597
              have p598 : 0 ≤ (x10_2 : Int) := of_decide_eq_true (by first | (with_reducible assumption) | assumption)
              have q598 : x10_2 < (t594.length : Int) := of_decide_eq_true (by first | (with_reducible assumption) | assumption)
              obtain ⟨ad598, e598, hx598_0⟩ := Kd.at_int (Kd.R_reads' HO_9.out).2.2 x10_2 p598 q598
              obtain rfl : ad597 = ad598 := (by injection e598)
              replace p598 := eq_true p598
              replace q598 := eq_true q598
              have p599 : 0 ≤ ((rd t594 x10_2) : Int) := of_decide_eq_true (by first | (with_reducible assumption) | assumption)
              have q599 : (rd t594 x10_2) < (t585.length : Int) := of_decide_eq_true (by first | (with_reducible assumption) | assumption)
              obtain ⟨ad599, e599, hx599_0⟩ := Kd.at_int (Kd.R_reads' HO_6.out).2.2 (rd t594 x10_2) p599 q599
              cases e599
              replace p599 := eq_true p599
              replace q599 := eq_true q599
              go_wp2
              repeat (go_quiet (fail); try go_wp2)
              go_meet
              case rel => exact ⟨_, (((rd t585 (rd t594 x10_2)) != x10_2)), (by first | rfl | (simp; done) | (simp [*]; done)), H', ⟨by have := HJ9.out; have := HK2.out; first | omega | exact Nat.le_refl _⟩, ⟨by (with_reducible repeat (first | apply Kd.R_alloc | apply Kd.R_drewN | apply Kd.R_drew)); exact HO_6.out⟩, ⟨by (with_reducible repeat (first | apply Kd.R_alloc | apply Kd.R_drewN | apply Kd.R_drew)); exact HO_7.out⟩, ⟨by (with_reducible repeat (first | apply Kd.R_alloc | apply Kd.R_drewN | apply Kd.R_drew)); exact HO_8.out⟩, ⟨by (with_reducible repeat (first | apply Kd.R_alloc | apply Kd.R_drewN | apply Kd.R_drew)); exact HO_9.out⟩, ⟨by repeat (first | (with_reducible first | exact HB.out | apply below_alloc | apply pw_below_drewN | apply below_drew1) | exact HB.out)⟩⟩
             ·
              rw [if_neg c34] at H
              exact absurd H (by simp)
            ·
             rw [if_neg c33] at H
             exact absurd H (by simp)
          ·
           rw [if_neg c30] at H
           exact absurd H (by simp)
         ·
          rw [if_neg c29] at H
          exact absurd H (by simp)
        case rest =>
         clear HC28
         try clear c1
         try clear c2
         try clear p2
         try clear c3
         try clear c5
         try clear p5
         try clear q5
         try clear hx5
         try clear c9
         try clear c17
         try clear c17b0
         try clear c17b1
         try clear c17b2
         try clear c18
         try clear c18b0
         try clear c18b1
         try clear c18b2
         try clear c19
         try clear c19b0
         try clear c19b1
         try clear c19b2
         try clear c26
         try clear c27
         try clear c27b0
         try clear c29
         try clear c29b0
         try clear c30
         try clear c30b0
         try clear c31
         try clear c31b0
         try clear c33
         try clear c33b0
         try clear c34
         try clear c34b0
         try clear hx597_0
         try clear hx598_0
         try clear hx599_0
         try clear p2
         try clear p597
         try clear p598
         try clear p599
         try clear q597
         try clear q598
         try clear q599
         obtain ⟨kq, x77_27, rfl, HA, HJ27, HO_6, HO_7, HO_8, HO_9, HB⟩ := hcut
         cases kq with
         | zero => exact absurd HA.out (by simp [bywashlaw12_RankSchedule.j2])
         | succ kj27 =>
          have H := HA.out
          clear HA
          simp only [bywashlaw12_RankSchedule.j2] at H
          by_cases c36 : x77_27 = true
          ·
           subst c36
           have H1 : (some false) = some r := by rw [if_pos rfl] at H; exact H
           clear H
           have H := H1
           exact absurd (Option.some.inj H) (by rw [HRT.out]; decide)
          ·
           replace c36 := Bool.eq_false_iff.mpr c36
           subst c36
           have H1 : (if x10_2 = 0 then (bywashlaw12_RankSchedule.l0 kj27 t583 t585 t588 t591 t594 (wrap64 (x10_2 + 1))) else (if 0 ≤ (wrap64 (x10_2 - 1)) then (if (wrap64 (x10_2 - 1)) < (t585.length : Int) then (if 0 ≤ x10_2 then (if x10_2 < (t585.length : Int) then (if 0 ≤ (rd t585 (wrap64 (x10_2 - 1))) then (if (rd t585 (wrap64 (x10_2 - 1))) < (t588.length : Int) then (if 0 ≤ (rd t585 x10_2) then (if (rd t585 x10_2) < (t588.length : Int) then (if (rd t588 (rd t585 (wrap64 (x10_2 - 1)))) > (rd t588 (rd t585 x10_2)) then (some false) else (if (rd t588 (rd t585 (wrap64 (x10_2 - 1)))) = (rd t588 (rd t585 x10_2)) then (if (rd t585 (wrap64 (x10_2 - 1))) < (t591.length : Int) then (if (rdOf false t591 (rd t585 (wrap64 (x10_2 - 1))) = true) then (bywashlaw12_RankSchedule.l0 kj27 t583 t585 t588 t591 t594 (wrap64 (x10_2 + 1))) else (if (rd t585 x10_2) < (t591.length : Int) then (if rdOf false t591 (rd t585 x10_2) = true then (some false) else (if (rdOf false t591 (rd t585 x10_2) = true) then (bywashlaw12_RankSchedule.l0 kj27 t583 t585 t588 t591 t594 (wrap64 (x10_2 + 1))) else (if (rd t585 (wrap64 (x10_2 - 1))) ≥ (rd t585 x10_2) then (some false) else (bywashlaw12_RankSchedule.l0 kj27 t583 t585 t588 t591 t594 (wrap64 (x10_2 + 1)))))) else (none))) else (none)) else (bywashlaw12_RankSchedule.l0 kj27 t583 t585 t588 t591 t594 (wrap64 (x10_2 + 1))))) else (none)) else (none)) else (none)) else (none)) else (none)) else (none)) else (none)) else (none))) = some r := by rw [if_neg (show ¬ (false = true) by decide)] at H; exact H
           clear H
           have H := H1
           clear H1
           by_cases c37 : x10_2 = 0
           ·
            rw [if_pos c37] at H
            have c37b0 : (x10_2 == 0) = true := beq_iff_eq.mpr c37
            have c37b1 : (x10_2 != 0) = false := bne_eq_false_iff_eq.mpr c37
            clear c37
            have H' := Aside0.mk H
            clear H
            go_wp2
            repeat (go_quiet (fail); try go_wp2)
            go_roundg kj27
            case measure => have := HJ9.out; have := HK2.out; have := HJ27.out; omega
            case rel => exact ⟨(wrap64 (x10_2 + 1)), (by first | rfl | (simp; done) | (simp [*]; done)), H', ⟨by have := HJ9.out; have := HK2.out; have := HJ27.out; omega⟩, ⟨by (with_reducible repeat (first | apply Kd.R_alloc | apply Kd.R_drewN | apply Kd.R_drew)); exact HO_6.out⟩, ⟨by (with_reducible repeat (first | apply Kd.R_alloc | apply Kd.R_drewN | apply Kd.R_drew)); exact HO_7.out⟩, ⟨by (with_reducible repeat (first | apply Kd.R_alloc | apply Kd.R_drewN | apply Kd.R_drew)); exact HO_8.out⟩, ⟨by (with_reducible repeat (first | apply Kd.R_alloc | apply Kd.R_drewN | apply Kd.R_drew)); exact HO_9.out⟩, ⟨by repeat (first | (with_reducible first | exact HB.out | apply below_alloc | apply pw_below_drewN | apply below_drew1) | exact HB.out)⟩⟩
           ·
            rw [if_neg c37] at H
            have c37b0 : (x10_2 == 0) = false := beq_eq_false_iff_ne.mpr c37
            have c37b1 : (x10_2 != 0) = true := bne_iff_ne.mpr c37
            obtain ⟨ji38, hji38⟩ : ∃ j_ : Int, (wrap64 (x10_2 - 1)) = j_ := ⟨_, rfl⟩
            replace H : (if 0 ≤ (ji38) then (if (ji38) < (t585.length : Int) then (if 0 ≤ x10_2 then (if x10_2 < (t585.length : Int) then (if 0 ≤ (rd t585 (ji38)) then (if (rd t585 (ji38)) < (t588.length : Int) then (if 0 ≤ (rd t585 x10_2) then (if (rd t585 x10_2) < (t588.length : Int) then (if (rd t588 (rd t585 (ji38))) > (rd t588 (rd t585 x10_2)) then (some false) else (if (rd t588 (rd t585 (ji38))) = (rd t588 (rd t585 x10_2)) then (if (rd t585 (ji38)) < (t591.length : Int) then (if (rdOf false t591 (rd t585 (ji38)) = true) then (bywashlaw12_RankSchedule.l0 kj27 t583 t585 t588 t591 t594 (wrap64 (x10_2 + 1))) else (if (rd t585 x10_2) < (t591.length : Int) then (if rdOf false t591 (rd t585 x10_2) = true then (some false) else (if (rdOf false t591 (rd t585 x10_2) = true) then (bywashlaw12_RankSchedule.l0 kj27 t583 t585 t588 t591 t594 (wrap64 (x10_2 + 1))) else (if (rd t585 (ji38)) ≥ (rd t585 x10_2) then (some false) else (bywashlaw12_RankSchedule.l0 kj27 t583 t585 t588 t591 t594 (wrap64 (x10_2 + 1)))))) else (none))) else (none)) else (bywashlaw12_RankSchedule.l0 kj27 t583 t585 t588 t591 t594 (wrap64 (x10_2 + 1))))) else (none)) else (none)) else (none)) else (none)) else (none)) else (none)) else (none)) else (none)) = some r := by first | (rw [hji38] at H; exact H) | (simp only [hji38] at H ⊢; exact H)
            have hji38w : (IntKind.i64.wrap (x10_2 - 1)) = ji38 := (i64_w _).trans hji38
            by_cases c39 : 0 ≤ (ji38)
            ·
             rw [if_pos c39] at H
             have c39b0 : decide (0 ≤ (ji38)) = true := decide_eq_true c39
             clear c39
             by_cases c40 : (ji38) < (t585.length : Int)
             ·
              rw [if_pos c40] at H
              have c40b0 : decide ((ji38) < (t585.length : Int)) = true := decide_eq_true c40
              clear c40
              by_cases c41 : 0 ≤ x10_2
              ·
               rw [if_pos c41] at H
               have c41b0 : decide (0 ≤ x10_2) = true := decide_eq_true c41
               clear c41
               by_cases c42 : x10_2 < (t585.length : Int)
               ·
                rw [if_pos c42] at H
                have c42b0 : decide (x10_2 < (t585.length : Int)) = true := decide_eq_true c42
                clear c42
                by_cases c43 : 0 ≤ (rd t585 (ji38))
                ·
                 rw [if_pos c43] at H
                 have c43b0 : decide (0 ≤ (rd t585 (ji38))) = true := decide_eq_true c43
                 clear c43
                 by_cases c44 : (rd t585 (ji38)) < (t588.length : Int)
                 ·
                  rw [if_pos c44] at H
                  have c44b0 : decide ((rd t585 (ji38)) < (t588.length : Int)) = true := decide_eq_true c44
                  clear c44
                  by_cases c45 : 0 ≤ (rd t585 x10_2)
                  ·
                   rw [if_pos c45] at H
                   have c45b0 : decide (0 ≤ (rd t585 x10_2)) = true := decide_eq_true c45
                   clear c45
                   by_cases c46 : (rd t585 x10_2) < (t588.length : Int)
                   ·
                    rw [if_pos c46] at H
                    have c46b0 : decide ((rd t585 x10_2) < (t588.length : Int)) = true := decide_eq_true c46
                    clear c46
                    by_cases c47 : (rd t588 (rd t585 (ji38))) > (rd t588 (rd t585 x10_2))
                    ·
                     rw [if_pos c47] at H
                     exact absurd (Option.some.inj H) (by rw [HRT.out]; decide)
                    ·
                     rw [if_neg c47] at H
                     have c47b0 : decide ((rd t588 (rd t585 x10_2)) < (rd t588 (rd t585 (ji38)))) = false := decide_eq_false c47
                     clear c47
                     by_cases c49 : (rd t588 (rd t585 (ji38))) = (rd t588 (rd t585 x10_2))
                     ·
                      rw [if_pos c49] at H
                      have c49b0 : ((rd t588 (rd t585 (ji38))) == (rd t588 (rd t585 x10_2))) = true := beq_iff_eq.mpr c49
                      have c49b1 : ((rd t588 (rd t585 (ji38))) != (rd t588 (rd t585 x10_2))) = false := bne_eq_false_iff_eq.mpr c49
                      clear c49
                      by_cases c50 : (rd t585 (ji38)) < (t591.length : Int)
                      ·
                       rw [if_pos c50] at H
                       have c50b0 : decide ((rd t585 (ji38)) < (t591.length : Int)) = true := decide_eq_true c50
                       clear c50
                       obtain ⟨bq51, hbq51⟩ : ∃ b_ : Bool, b_ = (rdOf false t591 (rd t585 (ji38))) := ⟨_, rfl⟩
                       replace H : (if (bq51 = true) then (bywashlaw12_RankSchedule.l0 kj27 t583 t585 t588 t591 t594 (wrap64 (x10_2 + 1))) else (if (rd t585 x10_2) < (t591.length : Int) then (if rdOf false t591 (rd t585 x10_2) = true then (some false) else (if (rdOf false t591 (rd t585 x10_2) = true) then (bywashlaw12_RankSchedule.l0 kj27 t583 t585 t588 t591 t594 (wrap64 (x10_2 + 1))) else (if (rd t585 (ji38)) ≥ (rd t585 x10_2) then (some false) else (bywashlaw12_RankSchedule.l0 kj27 t583 t585 t588 t591 t594 (wrap64 (x10_2 + 1)))))) else (none))) = some r := by rw [← hbq51] at H; exact H
                       have Nbq51 := Aside0.mk hbq51
                       clear hbq51
                       by_cases c52 : (bq51 = true)
                       ·
                        subst c52
                        have H1 : (bywashlaw12_RankSchedule.l0 kj27 t583 t585 t588 t591 t594 (wrap64 (x10_2 + 1))) = some r := by rw [if_pos rfl] at H; exact H
                        clear H
                        have H := H1
                        clear H1
                        have H' := Aside0.mk H
                        clear H
                        have p600 : 0 ≤ ((ji38) : Int) := of_decide_eq_true (by first | (with_reducible assumption) | assumption)
                        have q600 : (ji38) < (t585.length : Int) := of_decide_eq_true (by first | (with_reducible assumption) | assumption)
                        obtain ⟨ad600, e600, hx600_0⟩ := Kd.at_int (Kd.R_reads' HO_6.out).2.2 (ji38) p600 q600
                        cases e600
                        replace p600 := eq_true p600
                        replace q600 := eq_true q600
                        have p601 : 0 ≤ (x10_2 : Int) := of_decide_eq_true (by first | (with_reducible assumption) | assumption)
                        have q601 : x10_2 < (t585.length : Int) := of_decide_eq_true (by first | (with_reducible assumption) | assumption)
                        obtain ⟨ad601, e601, hx601_0⟩ := Kd.at_int (Kd.R_reads' HO_6.out).2.2 x10_2 p601 q601
                        obtain rfl : ad600 = ad601 := (by injection e601)
                        replace p601 := eq_true p601
                        replace q601 := eq_true q601
                        obtain ⟨Ao53, co53, eo53⟩ := Kd.R_slice HO_7.out
                        subst eo53
                        have p602 : 0 ≤ ((rd t585 (ji38)) : Int) := of_decide_eq_true (by first | (with_reducible assumption) | assumption)
                        have q602 : (rd t585 (ji38)) < (t588.length : Int) := of_decide_eq_true (by first | (with_reducible assumption) | assumption)
                        obtain ⟨ad602, e602, hx602_0⟩ := Kd.at_int (Kd.R_reads' HO_7.out).2.2 (rd t585 (ji38)) p602 q602
                        cases e602
                        replace p602 := eq_true p602
                        replace q602 := eq_true q602
                        have p603 : 0 ≤ ((rd t585 x10_2) : Int) := of_decide_eq_true (by first | (with_reducible assumption) | assumption)
                        have q603 : (rd t585 x10_2) < (t588.length : Int) := of_decide_eq_true (by first | (with_reducible assumption) | assumption)
                        obtain ⟨ad603, e603, hx603_0⟩ := Kd.at_int (Kd.R_reads' HO_7.out).2.2 (rd t585 x10_2) p603 q603
                        obtain rfl : ad602 = ad603 := (by injection e603)
                        replace p603 := eq_true p603
                        replace q603 := eq_true q603
                        have p604 : 0 ≤ ((rd t585 (ji38)) : Int) := of_decide_eq_true (by first | (with_reducible assumption) | assumption)
                        have q604 : (rd t585 (ji38)) < (t588.length : Int) := of_decide_eq_true (by first | (with_reducible assumption) | assumption)
                        obtain ⟨ad604, e604, hx604_0⟩ := Kd.at_int (Kd.R_reads' HO_7.out).2.2 (rd t585 (ji38)) p604 q604
                        obtain rfl : ad602 = ad604 := (by injection e604)
                        replace p604 := eq_true p604
                        replace q604 := eq_true q604
                        have p605 : 0 ≤ ((rd t585 x10_2) : Int) := of_decide_eq_true (by first | (with_reducible assumption) | assumption)
                        have q605 : (rd t585 x10_2) < (t588.length : Int) := of_decide_eq_true (by first | (with_reducible assumption) | assumption)
                        obtain ⟨ad605, e605, hx605_0⟩ := Kd.at_int (Kd.R_reads' HO_7.out).2.2 (rd t585 x10_2) p605 q605
                        obtain rfl : ad602 = ad605 := (by injection e605)
                        replace p605 := eq_true p605
                        replace q605 := eq_true q605
                        obtain ⟨Ao54, co54, eo54⟩ := Kd.R_slice HO_8.out
                        subst eo54
                        have p606 : 0 ≤ ((rd t585 (ji38)) : Int) := of_decide_eq_true (by first | (with_reducible assumption) | assumption)
                        have q606 : (rd t585 (ji38)) < (t591.length : Int) := of_decide_eq_true (by first | (with_reducible assumption) | assumption)
                        obtain ⟨ad606, e606, hx606_0⟩ := Kd.at_bool (Kd.R_reads' HO_8.out).2.2 (rd t585 (ji38)) p606 q606
                        (try rw [← Nbq51.out] at hx606_0)
                        cases e606
                        replace p606 := eq_true p606
                        replace q606 := eq_true q606
                        have p607 : 0 ≤ ((rd t585 (ji38)) : Int) := of_decide_eq_true (by first | (with_reducible assumption) | assumption)
                        have q607 : (rd t585 (ji38)) < (t588.length : Int) := of_decide_eq_true (by first | (with_reducible assumption) | assumption)
                        obtain ⟨ad607, e607, hx607_0⟩ := Kd.at_int (Kd.R_reads' HO_7.out).2.2 (rd t585 (ji38)) p607 q607
                        obtain rfl : ad602 = ad607 := (by injection e607)
                        replace p607 := eq_true p607
                        replace q607 := eq_true q607
                        have p608 : 0 ≤ ((rd t585 x10_2) : Int) := of_decide_eq_true (by first | (with_reducible assumption) | assumption)
                        have q608 : (rd t585 x10_2) < (t588.length : Int) := of_decide_eq_true (by first | (with_reducible assumption) | assumption)
                        obtain ⟨ad608, e608, hx608_0⟩ := Kd.at_int (Kd.R_reads' HO_7.out).2.2 (rd t585 x10_2) p608 q608
                        obtain rfl : ad602 = ad608 := (by injection e608)
                        replace p608 := eq_true p608
                        replace q608 := eq_true q608
                        have p609 : 0 ≤ ((rd t585 (ji38)) : Int) := of_decide_eq_true (by first | (with_reducible assumption) | assumption)
                        have q609 : (rd t585 (ji38)) < (t591.length : Int) := of_decide_eq_true (by first | (with_reducible assumption) | assumption)
                        obtain ⟨ad609, e609, hx609_0⟩ := Kd.at_bool (Kd.R_reads' HO_8.out).2.2 (rd t585 (ji38)) p609 q609
                        (try rw [← Nbq51.out] at hx609_0)
                        obtain rfl : ad606 = ad609 := (by injection e609)
                        replace p609 := eq_true p609
                        replace q609 := eq_true q609
                        go_wp2
                        repeat (go_quiet (fail); try go_wp2)
                        go_roundg kj27
                        case measure => have := HJ9.out; have := HK2.out; have := HJ27.out; omega
                        case rel => exact ⟨(wrap64 (x10_2 + 1)), (by first | rfl | (simp; done) | (simp [*]; done)), H', ⟨by have := HJ9.out; have := HK2.out; have := HJ27.out; omega⟩, ⟨by (with_reducible repeat (first | apply Kd.R_alloc | apply Kd.R_drewN | apply Kd.R_drew)); exact HO_6.out⟩, ⟨by (with_reducible repeat (first | apply Kd.R_alloc | apply Kd.R_drewN | apply Kd.R_drew)); exact HO_7.out⟩, ⟨by (with_reducible repeat (first | apply Kd.R_alloc | apply Kd.R_drewN | apply Kd.R_drew)); exact HO_8.out⟩, ⟨by (with_reducible repeat (first | apply Kd.R_alloc | apply Kd.R_drewN | apply Kd.R_drew)); exact HO_9.out⟩, ⟨by repeat (first | (with_reducible first | exact HB.out | apply below_alloc | apply pw_below_drewN | apply below_drew1) | exact HB.out)⟩⟩
                       ·
                        replace c52 := Bool.eq_false_iff.mpr c52
                        subst c52
                        have H1 : (if (rd t585 x10_2) < (t591.length : Int) then (if rdOf false t591 (rd t585 x10_2) = true then (some false) else (if (rdOf false t591 (rd t585 x10_2) = true) then (bywashlaw12_RankSchedule.l0 kj27 t583 t585 t588 t591 t594 (wrap64 (x10_2 + 1))) else (if (rd t585 (ji38)) ≥ (rd t585 x10_2) then (some false) else (bywashlaw12_RankSchedule.l0 kj27 t583 t585 t588 t591 t594 (wrap64 (x10_2 + 1)))))) else (none)) = some r := by rw [if_neg (show ¬ (false = true) by decide)] at H; exact H
                        clear H
                        have H := H1
                        clear H1
                        by_cases c55 : (rd t585 x10_2) < (t591.length : Int)
                        ·
                         rw [if_pos c55] at H
                         have c55b0 : decide ((rd t585 x10_2) < (t591.length : Int)) = true := decide_eq_true c55
                         clear c55
                         obtain ⟨bq56, hbq56⟩ : ∃ b_ : Bool, b_ = (rdOf false t591 (rd t585 x10_2)) := ⟨_, rfl⟩
                         replace H : (if bq56 = true then (some false) else (if (bq56 = true) then (bywashlaw12_RankSchedule.l0 kj27 t583 t585 t588 t591 t594 (wrap64 (x10_2 + 1))) else (if (rd t585 (ji38)) ≥ (rd t585 x10_2) then (some false) else (bywashlaw12_RankSchedule.l0 kj27 t583 t585 t588 t591 t594 (wrap64 (x10_2 + 1)))))) = some r := by rw [← hbq56] at H; exact H
                         have Nbq56 := Aside0.mk hbq56
                         clear hbq56
                         by_cases c57 : bq56 = true
                         ·
                          subst c57
                          have H1 : (some false) = some r := by rw [if_pos rfl] at H; exact H
                          clear H
                          have H := H1
                          exact absurd (Option.some.inj H) (by rw [HRT.out]; decide)
                         ·
                          replace c57 := Bool.eq_false_iff.mpr c57
                          subst c57
                          have H1 : (if (false = true) then (bywashlaw12_RankSchedule.l0 kj27 t583 t585 t588 t591 t594 (wrap64 (x10_2 + 1))) else (if (rd t585 (ji38)) ≥ (rd t585 x10_2) then (some false) else (bywashlaw12_RankSchedule.l0 kj27 t583 t585 t588 t591 t594 (wrap64 (x10_2 + 1))))) = some r := by rw [if_neg (show ¬ (false = true) by decide)] at H; exact H
                          clear H
                          have H := H1
                          clear H1
                          by_cases c60 : (false = true)
                          · exact absurd c60 (by decide)
                          ·
                           have H1 : (if (rd t585 (ji38)) ≥ (rd t585 x10_2) then (some false) else (bywashlaw12_RankSchedule.l0 kj27 t583 t585 t588 t591 t594 (wrap64 (x10_2 + 1)))) = some r := by rw [if_neg (show ¬ (false = true) by decide)] at H; exact H
                           clear H
                           have H := H1
                           clear H1
                           by_cases c63 : (rd t585 (ji38)) ≥ (rd t585 x10_2)
                           ·
                            rw [if_pos c63] at H
                            exact absurd (Option.some.inj H) (by rw [HRT.out]; decide)
                           ·
                            rw [if_neg c63] at H
                            have c63b0 : decide ((rd t585 x10_2) ≤ (rd t585 (ji38))) = false := decide_eq_false c63
                            clear c63
                            have H' := Aside0.mk H
                            clear H
                            have p600 : 0 ≤ ((ji38) : Int) := of_decide_eq_true (by first | (with_reducible assumption) | assumption)
                            have q600 : (ji38) < (t585.length : Int) := of_decide_eq_true (by first | (with_reducible assumption) | assumption)
                            obtain ⟨ad600, e600, hx600_0⟩ := Kd.at_int (Kd.R_reads' HO_6.out).2.2 (ji38) p600 q600
                            cases e600
                            replace p600 := eq_true p600
                            replace q600 := eq_true q600
                            have p601 : 0 ≤ (x10_2 : Int) := of_decide_eq_true (by first | (with_reducible assumption) | assumption)
                            have q601 : x10_2 < (t585.length : Int) := of_decide_eq_true (by first | (with_reducible assumption) | assumption)
                            obtain ⟨ad601, e601, hx601_0⟩ := Kd.at_int (Kd.R_reads' HO_6.out).2.2 x10_2 p601 q601
                            obtain rfl : ad600 = ad601 := (by injection e601)
                            replace p601 := eq_true p601
                            replace q601 := eq_true q601
                            obtain ⟨Ao66, co66, eo66⟩ := Kd.R_slice HO_7.out
                            subst eo66
                            have p602 : 0 ≤ ((rd t585 (ji38)) : Int) := of_decide_eq_true (by first | (with_reducible assumption) | assumption)
                            have q602 : (rd t585 (ji38)) < (t588.length : Int) := of_decide_eq_true (by first | (with_reducible assumption) | assumption)
                            obtain ⟨ad602, e602, hx602_0⟩ := Kd.at_int (Kd.R_reads' HO_7.out).2.2 (rd t585 (ji38)) p602 q602
                            cases e602
                            replace p602 := eq_true p602
                            replace q602 := eq_true q602
                            have p603 : 0 ≤ ((rd t585 x10_2) : Int) := of_decide_eq_true (by first | (with_reducible assumption) | assumption)
                            have q603 : (rd t585 x10_2) < (t588.length : Int) := of_decide_eq_true (by first | (with_reducible assumption) | assumption)
                            obtain ⟨ad603, e603, hx603_0⟩ := Kd.at_int (Kd.R_reads' HO_7.out).2.2 (rd t585 x10_2) p603 q603
                            obtain rfl : ad602 = ad603 := (by injection e603)
                            replace p603 := eq_true p603
                            replace q603 := eq_true q603
                            have p604 : 0 ≤ ((rd t585 (ji38)) : Int) := of_decide_eq_true (by first | (with_reducible assumption) | assumption)
                            have q604 : (rd t585 (ji38)) < (t588.length : Int) := of_decide_eq_true (by first | (with_reducible assumption) | assumption)
                            obtain ⟨ad604, e604, hx604_0⟩ := Kd.at_int (Kd.R_reads' HO_7.out).2.2 (rd t585 (ji38)) p604 q604
                            obtain rfl : ad602 = ad604 := (by injection e604)
                            replace p604 := eq_true p604
                            replace q604 := eq_true q604
                            have p605 : 0 ≤ ((rd t585 x10_2) : Int) := of_decide_eq_true (by first | (with_reducible assumption) | assumption)
                            have q605 : (rd t585 x10_2) < (t588.length : Int) := of_decide_eq_true (by first | (with_reducible assumption) | assumption)
                            obtain ⟨ad605, e605, hx605_0⟩ := Kd.at_int (Kd.R_reads' HO_7.out).2.2 (rd t585 x10_2) p605 q605
                            obtain rfl : ad602 = ad605 := (by injection e605)
                            replace p605 := eq_true p605
                            replace q605 := eq_true q605
                            obtain ⟨Ao67, co67, eo67⟩ := Kd.R_slice HO_8.out
                            subst eo67
                            have p606 : 0 ≤ ((rd t585 (ji38)) : Int) := of_decide_eq_true (by first | (with_reducible assumption) | assumption)
                            have q606 : (rd t585 (ji38)) < (t591.length : Int) := of_decide_eq_true (by first | (with_reducible assumption) | assumption)
                            obtain ⟨ad606, e606, hx606_0⟩ := Kd.at_bool (Kd.R_reads' HO_8.out).2.2 (rd t585 (ji38)) p606 q606
                            (try rw [← Nbq51.out] at hx606_0)
                            (try rw [← Nbq56.out] at hx606_0)
                            cases e606
                            replace p606 := eq_true p606
                            replace q606 := eq_true q606
                            have p610 : 0 ≤ ((rd t585 x10_2) : Int) := of_decide_eq_true (by first | (with_reducible assumption) | assumption)
                            have q610 : (rd t585 x10_2) < (t591.length : Int) := of_decide_eq_true (by first | (with_reducible assumption) | assumption)
                            obtain ⟨ad610, e610, hx610_0⟩ := Kd.at_bool (Kd.R_reads' HO_8.out).2.2 (rd t585 x10_2) p610 q610
                            (try rw [← Nbq51.out] at hx610_0)
                            (try rw [← Nbq56.out] at hx610_0)
                            obtain rfl : ad606 = ad610 := (by injection e610)
                            replace p610 := eq_true p610
                            replace q610 := eq_true q610
                            have p611 : 0 ≤ ((rd t585 (ji38)) : Int) := of_decide_eq_true (by first | (with_reducible assumption) | assumption)
                            have q611 : (rd t585 (ji38)) < (t588.length : Int) := of_decide_eq_true (by first | (with_reducible assumption) | assumption)
                            obtain ⟨ad611, e611, hx611_0⟩ := Kd.at_int (Kd.R_reads' HO_7.out).2.2 (rd t585 (ji38)) p611 q611
                            obtain rfl : ad602 = ad611 := (by injection e611)
                            replace p611 := eq_true p611
                            replace q611 := eq_true q611
                            have p612 : 0 ≤ ((rd t585 x10_2) : Int) := of_decide_eq_true (by first | (with_reducible assumption) | assumption)
                            have q612 : (rd t585 x10_2) < (t588.length : Int) := of_decide_eq_true (by first | (with_reducible assumption) | assumption)
                            obtain ⟨ad612, e612, hx612_0⟩ := Kd.at_int (Kd.R_reads' HO_7.out).2.2 (rd t585 x10_2) p612 q612
                            obtain rfl : ad602 = ad612 := (by injection e612)
                            replace p612 := eq_true p612
                            replace q612 := eq_true q612
                            have p613 : 0 ≤ ((rd t585 (ji38)) : Int) := of_decide_eq_true (by first | (with_reducible assumption) | assumption)
                            have q613 : (rd t585 (ji38)) < (t591.length : Int) := of_decide_eq_true (by first | (with_reducible assumption) | assumption)
                            obtain ⟨ad613, e613, hx613_0⟩ := Kd.at_bool (Kd.R_reads' HO_8.out).2.2 (rd t585 (ji38)) p613 q613
                            (try rw [← Nbq51.out] at hx613_0)
                            (try rw [← Nbq56.out] at hx613_0)
                            obtain rfl : ad606 = ad613 := (by injection e613)
                            replace p613 := eq_true p613
                            replace q613 := eq_true q613
                            have p614 : 0 ≤ ((rd t585 x10_2) : Int) := of_decide_eq_true (by first | (with_reducible assumption) | assumption)
                            have q614 : (rd t585 x10_2) < (t591.length : Int) := of_decide_eq_true (by first | (with_reducible assumption) | assumption)
                            obtain ⟨ad614, e614, hx614_0⟩ := Kd.at_bool (Kd.R_reads' HO_8.out).2.2 (rd t585 x10_2) p614 q614
                            (try rw [← Nbq51.out] at hx614_0)
                            (try rw [← Nbq56.out] at hx614_0)
                            obtain rfl : ad606 = ad614 := (by injection e614)
                            replace p614 := eq_true p614
                            replace q614 := eq_true q614
                            go_wp2
                            repeat (go_quiet (fail); try go_wp2)
                            go_roundg kj27
                            case measure => have := HJ9.out; have := HK2.out; have := HJ27.out; omega
                            case rel => exact ⟨(wrap64 (x10_2 + 1)), (by first | rfl | (simp; done) | (simp [*]; done)), H', ⟨by have := HJ9.out; have := HK2.out; have := HJ27.out; omega⟩, ⟨by (with_reducible repeat (first | apply Kd.R_alloc | apply Kd.R_drewN | apply Kd.R_drew)); exact HO_6.out⟩, ⟨by (with_reducible repeat (first | apply Kd.R_alloc | apply Kd.R_drewN | apply Kd.R_drew)); exact HO_7.out⟩, ⟨by (with_reducible repeat (first | apply Kd.R_alloc | apply Kd.R_drewN | apply Kd.R_drew)); exact HO_8.out⟩, ⟨by (with_reducible repeat (first | apply Kd.R_alloc | apply Kd.R_drewN | apply Kd.R_drew)); exact HO_9.out⟩, ⟨by repeat (first | (with_reducible first | exact HB.out | apply below_alloc | apply pw_below_drewN | apply below_drew1) | exact HB.out)⟩⟩
                        ·
                         rw [if_neg c55] at H
                         exact absurd H (by simp)
                      ·
                       rw [if_neg c50] at H
                       exact absurd H (by simp)
                     ·
                      rw [if_neg c49] at H
                      have c49b0 : ((rd t588 (rd t585 (ji38))) == (rd t588 (rd t585 x10_2))) = false := beq_eq_false_iff_ne.mpr c49
                      have c49b1 : ((rd t588 (rd t585 (ji38))) != (rd t588 (rd t585 x10_2))) = true := bne_iff_ne.mpr c49
                      have H' := Aside0.mk H
                      clear H
                      have p600 : 0 ≤ ((ji38) : Int) := of_decide_eq_true (by first | (with_reducible assumption) | assumption)
                      have q600 : (ji38) < (t585.length : Int) := of_decide_eq_true (by first | (with_reducible assumption) | assumption)
                      obtain ⟨ad600, e600, hx600_0⟩ := Kd.at_int (Kd.R_reads' HO_6.out).2.2 (ji38) p600 q600
                      cases e600
                      replace p600 := eq_true p600
                      replace q600 := eq_true q600
                      have p601 : 0 ≤ (x10_2 : Int) := of_decide_eq_true (by first | (with_reducible assumption) | assumption)
                      have q601 : x10_2 < (t585.length : Int) := of_decide_eq_true (by first | (with_reducible assumption) | assumption)
                      obtain ⟨ad601, e601, hx601_0⟩ := Kd.at_int (Kd.R_reads' HO_6.out).2.2 x10_2 p601 q601
                      obtain rfl : ad600 = ad601 := (by injection e601)
                      replace p601 := eq_true p601
                      replace q601 := eq_true q601
                      obtain ⟨Ao68, co68, eo68⟩ := Kd.R_slice HO_7.out
                      subst eo68
                      have p602 : 0 ≤ ((rd t585 (ji38)) : Int) := of_decide_eq_true (by first | (with_reducible assumption) | assumption)
                      have q602 : (rd t585 (ji38)) < (t588.length : Int) := of_decide_eq_true (by first | (with_reducible assumption) | assumption)
                      obtain ⟨ad602, e602, hx602_0⟩ := Kd.at_int (Kd.R_reads' HO_7.out).2.2 (rd t585 (ji38)) p602 q602
                      cases e602
                      replace p602 := eq_true p602
                      replace q602 := eq_true q602
                      have p603 : 0 ≤ ((rd t585 x10_2) : Int) := of_decide_eq_true (by first | (with_reducible assumption) | assumption)
                      have q603 : (rd t585 x10_2) < (t588.length : Int) := of_decide_eq_true (by first | (with_reducible assumption) | assumption)
                      obtain ⟨ad603, e603, hx603_0⟩ := Kd.at_int (Kd.R_reads' HO_7.out).2.2 (rd t585 x10_2) p603 q603
                      obtain rfl : ad602 = ad603 := (by injection e603)
                      replace p603 := eq_true p603
                      replace q603 := eq_true q603
                      have p604 : 0 ≤ ((rd t585 (ji38)) : Int) := of_decide_eq_true (by first | (with_reducible assumption) | assumption)
                      have q604 : (rd t585 (ji38)) < (t588.length : Int) := of_decide_eq_true (by first | (with_reducible assumption) | assumption)
                      obtain ⟨ad604, e604, hx604_0⟩ := Kd.at_int (Kd.R_reads' HO_7.out).2.2 (rd t585 (ji38)) p604 q604
                      obtain rfl : ad602 = ad604 := (by injection e604)
                      replace p604 := eq_true p604
                      replace q604 := eq_true q604
                      have p605 : 0 ≤ ((rd t585 x10_2) : Int) := of_decide_eq_true (by first | (with_reducible assumption) | assumption)
                      have q605 : (rd t585 x10_2) < (t588.length : Int) := of_decide_eq_true (by first | (with_reducible assumption) | assumption)
                      obtain ⟨ad605, e605, hx605_0⟩ := Kd.at_int (Kd.R_reads' HO_7.out).2.2 (rd t585 x10_2) p605 q605
                      obtain rfl : ad602 = ad605 := (by injection e605)
                      replace p605 := eq_true p605
                      replace q605 := eq_true q605
                      have p615 : 0 ≤ ((rd t585 (ji38)) : Int) := of_decide_eq_true (by first | (with_reducible assumption) | assumption)
                      have q615 : (rd t585 (ji38)) < (t588.length : Int) := of_decide_eq_true (by first | (with_reducible assumption) | assumption)
                      obtain ⟨ad615, e615, hx615_0⟩ := Kd.at_int (Kd.R_reads' HO_7.out).2.2 (rd t585 (ji38)) p615 q615
                      obtain rfl : ad602 = ad615 := (by injection e615)
                      replace p615 := eq_true p615
                      replace q615 := eq_true q615
                      have p616 : 0 ≤ ((rd t585 x10_2) : Int) := of_decide_eq_true (by first | (with_reducible assumption) | assumption)
                      have q616 : (rd t585 x10_2) < (t588.length : Int) := of_decide_eq_true (by first | (with_reducible assumption) | assumption)
                      obtain ⟨ad616, e616, hx616_0⟩ := Kd.at_int (Kd.R_reads' HO_7.out).2.2 (rd t585 x10_2) p616 q616
                      obtain rfl : ad602 = ad616 := (by injection e616)
                      replace p616 := eq_true p616
                      replace q616 := eq_true q616
                      go_wp2
                      repeat (go_quiet (fail); try go_wp2)
                      go_roundg kj27
                      case measure => have := HJ9.out; have := HK2.out; have := HJ27.out; omega
                      case rel => exact ⟨(wrap64 (x10_2 + 1)), (by first | rfl | (simp; done) | (simp [*]; done)), H', ⟨by have := HJ9.out; have := HK2.out; have := HJ27.out; omega⟩, ⟨by (with_reducible repeat (first | apply Kd.R_alloc | apply Kd.R_drewN | apply Kd.R_drew)); exact HO_6.out⟩, ⟨by (with_reducible repeat (first | apply Kd.R_alloc | apply Kd.R_drewN | apply Kd.R_drew)); exact HO_7.out⟩, ⟨by (with_reducible repeat (first | apply Kd.R_alloc | apply Kd.R_drewN | apply Kd.R_drew)); exact HO_8.out⟩, ⟨by (with_reducible repeat (first | apply Kd.R_alloc | apply Kd.R_drewN | apply Kd.R_drew)); exact HO_9.out⟩, ⟨by repeat (first | (with_reducible first | exact HB.out | apply below_alloc | apply pw_below_drewN | apply below_drew1) | exact HB.out)⟩⟩
                   ·
                    rw [if_neg c46] at H
                    exact absurd H (by simp)
                  ·
                   rw [if_neg c45] at H
                   exact absurd H (by simp)
                 ·
                  rw [if_neg c44] at H
                  exact absurd H (by simp)
                ·
                 rw [if_neg c43] at H
                 exact absurd H (by simp)
               ·
                rw [if_neg c42] at H
                exact absurd H (by simp)
              ·
               rw [if_neg c41] at H
               exact absurd H (by simp)
             ·
              rw [if_neg c40] at H
              exact absurd H (by simp)
            ·
             rw [if_neg c39] at H
             exact absurd H (by simp)
       ·
        rw [if_neg c27] at H
        have c27b0 : decide (x10_2 < (t585.length : Int)) = false := decide_eq_false c27
        clear c27
        obtain rfl := Option.some.inj H
        go_wp2
        repeat (go_quiet (fail); try go_wp2)
        go_ret
        exact ⟨by first | rfl | (simp [errW_none, errW_some] <;> rfl) | (simp [*, errW_none, errW_some] <;> rfl) | (exfalso; (try simp_all); (try omega); done), by repeat (first | (with_reducible first | exact HB.out | apply below_alloc | apply pw_below_drewN | apply below_drew1) | exact HB.out)⟩
 ·
  replace c5 := Bool.eq_false_iff.mpr c5
  subst c5
  have H1 : (some t583) = some r := by rw [if_neg (show ¬ (false = true) by decide)] at H; exact H
  clear H
  have H := H1
  clear H1
  obtain rfl := Option.some.inj H
  go_enter Try.func9, Try.ntmps9
  go_wp2_with (first | (go_at_call 44; (with_reducible refine (bywashlaw12_awake.calls k  t583 _ A3.out).mono ?_); rintro e w69 ⟨rfl, hb⟩; have n0_ := Aside0.mk (below_step (by repeat (first | (with_reducible first | exact HB.out | apply below_alloc | apply pw_below_drewN | apply below_drew1) | exact HB.out)) hb); clear HB; have HB := n0_; clear n0_; (try clear hb); (try clear hb2); (try clear hk); (try clear hi)) | (go_at_call 14; (with_reducible refine (bywashref10_Few.calls k _ _ l0 false _ ?side1 ?side2 A4.out).mono ?_); (case side1 => repeat (first | exact (Kd.C_below HR0.out HB.out) | (with_reducible refine Kd.C_alloc ?_ _) | (with_reducible refine Kd.C_drewN ?_ _) | (with_reducible refine Kd.C_drew ?_))); (case side2 => exact HC0.out); rintro e w' ⟨rfl, ⟨nd, rfl⟩⟩; (try first | exact ⟨rfl, _, World.drewN_drewN _ _ _⟩ | exact ⟨rfl, _, Eq.trans (World.drewN_drewN _ _ _) (congrArg (World.drewN _) (Nat.add_assoc _ _ _))⟩)))
  repeat (go_quiet (first | (go_at_call 44; (with_reducible refine (bywashlaw12_awake.calls k  t583 _ A3.out).mono ?_); rintro e w69 ⟨rfl, hb⟩; have n0_ := Aside0.mk (below_step (by repeat (first | (with_reducible first | exact HB.out | apply below_alloc | apply pw_below_drewN | apply below_drew1) | exact HB.out)) hb); clear HB; have HB := n0_; clear n0_; (try clear hb); (try clear hb2); (try clear hk); (try clear hi)) | (go_at_call 14; (with_reducible refine (bywashref10_Few.calls k _ _ l0 false _ ?side1 ?side2 A4.out).mono ?_); (case side1 => repeat (first | exact (Kd.C_below HR0.out HB.out) | (with_reducible refine Kd.C_alloc ?_ _) | (with_reducible refine Kd.C_drewN ?_ _) | (with_reducible refine Kd.C_drew ?_))); (case side2 => exact HC0.out); rintro e w' ⟨rfl, ⟨nd, rfl⟩⟩; (try first | exact ⟨rfl, _, World.drewN_drewN _ _ _⟩ | exact ⟨rfl, _, Eq.trans (World.drewN_drewN _ _ _) (congrArg (World.drewN _) (Nat.add_assoc _ _ _))⟩))); try go_wp2_with (first | (go_at_call 44; (with_reducible refine (bywashlaw12_awake.calls k  t583 _ A3.out).mono ?_); rintro e w69 ⟨rfl, hb⟩; have n0_ := Aside0.mk (below_step (by repeat (first | (with_reducible first | exact HB.out | apply below_alloc | apply pw_below_drewN | apply below_drew1) | exact HB.out)) hb); clear HB; have HB := n0_; clear n0_; (try clear hb); (try clear hb2); (try clear hk); (try clear hi)) | (go_at_call 14; (with_reducible refine (bywashref10_Few.calls k _ _ l0 false _ ?side1 ?side2 A4.out).mono ?_); (case side1 => repeat (first | exact (Kd.C_below HR0.out HB.out) | (with_reducible refine Kd.C_alloc ?_ _) | (with_reducible refine Kd.C_drewN ?_ _) | (with_reducible refine Kd.C_drew ?_))); (case side2 => exact HC0.out); rintro e w' ⟨rfl, ⟨nd, rfl⟩⟩; (try first | exact ⟨rfl, _, World.drewN_drewN _ _ _⟩ | exact ⟨rfl, _, Eq.trans (World.drewN_drewN _ _ _) (congrArg (World.drewN _) (Nat.add_assoc _ _ _))⟩))))
  go_ret
  exact ⟨by first | rfl | (simp [errW_none, errW_some] <;> rfl) | (simp [*, errW_none, errW_some] <;> rfl) | (exfalso; (try simp_all); (try omega); done), by repeat (first | (with_reducible first | exact HB.out | apply below_alloc | apply pw_below_drewN | apply below_drew1) | exact HB.out)⟩
end Go.Proofs.Ytdknhgbjgdmfkaa.P
namespace Go.Proofs.Ytdknhgbjgdmfkaa.P
open Go.RowKit Go.Lib Go.Proofs.YtdknhgbjgdmfkaaW.PrintWords Go.Proofs.YtdknhgbjgdmfkaaW.PrintMore
theorem wrap_predS {n : Nat} (h0 : 0 < n) (h : n ≤ 9223372036854775807) : wrap64 ((n : Int) - 1) = ((n - 1 : Nat) : Int) := by
  unfold wrap64
  omega
section
variable {o rk : List Int} {n : Nat}
theorem key_place {a : Int} (h0 : 0 ≤ a) (h1 : a < (n : Int)) (hon : o.length ≤ n) : (¬ a ∈ o ∧ (keyAt n rk (placesB o n) a).2 = (n : Int) + a) ∨ (a ∈ o ∧ ∃ k, k < n ∧ o.getD k 0 = a ∧ (keyAt n rk (placesB o n) a).2 = (k : Int)) := by
  rcases places_get (l := o) h0 h1 with ⟨e, hn⟩ | ⟨k, hk, e, _, e2⟩
  · refine .inl ⟨hn, ?_⟩
    unfold keyAt
    rw [e]
    rfl
  · refine .inr ⟨?_, k, by omega, e, ?_⟩
    · rw [← e, List.getD_eq_getElem?_getD, List.getElem?_eq_getElem hk]
      exact List.getElem_mem hk
    · unfold keyAt
      rw [e2]
      show (if (k : Int) = -1 then (n : Int) + a else (k : Int)) = (k : Int)
      rw [if_neg (by omega)]
theorem keys_nodup (hon : o.length ≤ n) : ((nodes n).map (keyAt n rk (placesB o n))).Nodup := by
  refine List.pairwise_map.2 ((nodes_nodup' n).imp_of_mem fun {a b} ha hb hne e => hne ?_)
  have ha' := mem_nodes.1 ha
  have hb' := mem_nodes.1 hb
  have e2 : (keyAt n rk (placesB o n) a).2 = (keyAt n rk (placesB o n) b).2 := by rw [e]
  rcases key_place (rk := rk) ha'.1 ha'.2 hon with ⟨_, e3⟩ | ⟨_, k, hk, e3, e4⟩ <;> rcases key_place (rk := rk) hb'.1 hb'.2 hon with ⟨_, f3⟩ | ⟨_, j, hj, f3, f4⟩
  · omega
  · omega
  · omega
  · have : k = j := by omega
    rw [← e3, ← f3, this]
theorem sched_perm (pl : List Int) : (schedB n rk pl).Perm (nodes n) := List.mergeSort_perm _ _
theorem sched_sorted (pl : List Int) : (schedB n rk pl).Pairwise fun a b => lex2 (keyAt n rk pl a) (keyAt n rk pl b) ≤ 0 := by
  have := List.pairwise_mergeSort (le := schedLe n rk pl) (fun a b c h1 h2 => by
      unfold schedLe at *
      simp only [decide_eq_true_eq, lex2_le] at *
      omega) (fun a b => by
      unfold schedLe
      simp only [Bool.or_eq_true, decide_eq_true_eq, lex2_le]
      omega) (nodes n)
  exact this.imp (fun h => by unfold schedLe at h; exact of_decide_eq_true h)
theorem ranksched_l0 {s p : List Int} {f : List Bool} (hn : n ≤ 900) (hr : rk.length = n) (hf : f.length = n) (hp : p.length = n) (hs : s.length = n) (hon : o.length ≤ n)
    (hsn : ∀ x ∈ s, 0 ≤ x ∧ x < (n : Int)) (hnd : s.Nodup) (hpl : ∀ i : Nat, i < n → ∃ k : Nat, k < n ∧ rd p (i : Int) = (k : Int) ∧ rd s (k : Int) = (i : Int))
    (hso : s.Pairwise fun a b => lex2 (keyAt n rk (placesB o n) a) (keyAt n rk (placesB o n) b) ≤ 0) (hfo : ∀ a, 0 ≤ a → a < (n : Int) → (rdOf false f a = true ↔ a ∈ o)) :
    ∀ d i : Nat, i + d = n → Ev (fun k => bywashlaw12_RankSchedule.l0 k true s rk f p (i : Int)) true
  | 0, i, hd => Ev.step (f := fun _ => some true) (fun k => by rw [bywashlaw12_RankSchedule.l0, if_neg (by omega)]) (Ev.now _)
  | d + 1, i, hd => by
    have ih := ranksched_l0 hn hr hf hp hs hon hsn hnd hpl hso hfo d (i + 1) (by omega)
    obtain ⟨k, hk, e1, e2⟩ := hpl i (by omega)
    refine Ev.step (f := fun q => bywashlaw12_RankSchedule.j2 q true s rk f p (i : Int) false) (fun q => ?_) ?_
    · rw [bywashlaw12_RankSchedule.l0, if_pos (by omega), if_pos (by omega), if_pos (by omega), e1, if_neg (by omega), if_pos (by omega), if_pos (by omega), e2]
      simp
    · by_cases h0 : i = 0
      · subst h0
        refine Ev.step (fun q => ?_) ih
        rw [bywashlaw12_RankSchedule.j2, if_neg (by simp), if_pos (by omega), wrap_succ (by omega)]
      · have hi : i < s.length := by omega
        have hi1 : i - 1 < s.length := by omega
        obtain ⟨a, ea⟩ : ∃ a, a = s[i - 1] := ⟨_, rfl⟩
        obtain ⟨b, eb⟩ : ∃ b, b = s[i] := ⟨_, rfl⟩
        have ha := hsn a (ea ▸ List.getElem_mem hi1)
        have hb := hsn b (eb ▸ List.getElem_mem hi)
        have hle := List.pairwise_iff_getElem.1 hso (i - 1) i hi1 hi (by omega)
        have hne : a ≠ b := by
          rw [ea, eb]
          exact List.pairwise_iff_getElem.1 hnd (i - 1) i hi1 hi (by omega)
        rw [← ea, ← eb, lex2_le] at hle
        have k1 : (keyAt n rk (placesB o n) a).1 = rd rk a := rfl
        have k2 : (keyAt n rk (placesB o n) b).1 = rd rk b := rfl
        rw [k1, k2] at hle
        have ra : rd s ((i - 1 : Nat) : Int) = a := by rw [rd_nat' hi1, ea]
        have rb : rd s (i : Int) = b := by rw [rd_nat' hi, eb]
        have ha0 := ha.1
        have ha1 := ha.2
        have hb0 := hb.1
        have hb1 := hb.2
        refine Ev.step (fun q => ?_) ih
        rw [bywashlaw12_RankSchedule.j2, if_neg (by simp), if_neg (by omega), wrap_predS (by omega) (by omega), if_pos (by omega), if_pos (by omega), if_pos (by omega), if_pos (by omega), ra, rb, if_pos ha0, if_pos (by omega), if_pos hb0, if_pos (by omega), if_neg (by omega), wrap_succ (by omega)]
        by_cases hq : rd rk a = rd rk b
        · rw [if_pos hq, if_pos (by omega)]
          by_cases fa : rdOf false f a = true
          · rw [if_pos fa]
          · rw [if_neg fa, if_pos (by omega)]
            have na : ¬ a ∈ o := fun h => fa ((hfo a ha0 ha1).2 h)
            have hA : (keyAt n rk (placesB o n) a).2 = (n : Int) + a := by
              rcases key_place (o := o) (rk := rk) ha0 ha1 hon with ⟨_, e⟩ | ⟨h, _⟩
              · exact e
              · exact absurd h na
            have nb : ¬ b ∈ o := fun h => by
              rcases key_place (o := o) (rk := rk) hb0 hb1 hon with ⟨h2, _⟩ | ⟨_, j, hj, _, e⟩
              · exact h2 h
              · omega
            have fb : ¬ rdOf false f b = true := fun h => nb ((hfo b hb0 hb1).1 h)
            have hB : (keyAt n rk (placesB o n) b).2 = (n : Int) + b := by
              rcases key_place (o := o) (rk := rk) hb0 hb1 hon with ⟨_, e⟩ | ⟨h, _⟩
              · exact e
              · exact absurd h nb
            rw [if_neg fb, if_neg fb, if_neg (by omega)]
        · rw [if_neg hq]
end
theorem RankSchedule_pure (l0 : List (List Int)) (a1 : Int) (hb : l0.length ≤ 9223372036854775807) (_hw : ∀ r ∈ l0, r.length ≤ 9223372036854775807 ∧ ∀ y ∈ r, (Lit.int .i64 y).wf = true) (_h1 : (Lit.int .i64 a1).wf = true) :
    ∃ k, bywashlaw12_RankSchedule.f k l0 a1 = some true := by
  refine Ev.rounds (g := fun k => bywashlaw12_RankSchedule.f k l0 a1) ?_
  unfold bywashlaw12_RankSchedule.f
  refine Ev.bind awake12_ev ?_
  refine Ev.bind (few_ev l0 hb) ?_
  by_cases hf : few l0 = true
  · simp only [hf, if_true]
    obtain ⟨rk, h1, h2, h3⟩ := ranks_ev hf
    have hn := (few_iff.1 hf).2
    have hs := few_small hf
    obtain ⟨o, ho, hom, hod, hor⟩ := order_any hs a1
    have hol : o.length ≤ l0.length := few_nodes hod hor
    obtain ⟨f, hf1, hf2, hf3⟩ := reach_now hs a1
    obtain ⟨s, es⟩ : ∃ s, s = schedB l0.length rk (placesB o l0.length) := ⟨_, rfl⟩
    have hsch := sched_ev (g := l0) (a := a1) (by omega) h1 h3 ho (by omega) (keys_nodup (rk := rk) hol)
    rw [← es] at hsch
    have hperm : s.Perm (nodes l0.length) := by rw [es]; exact sched_perm _
    have hsl : s.length = l0.length := by rw [hperm.length_eq, nodes_len]
    have hsnd : s.Nodup := hperm.nodup_iff.2 (nodes_nodup' _)
    have hsm : ∀ x, x ∈ s ↔ 0 ≤ x ∧ x < (l0.length : Int) := fun x => by rw [hperm.mem_iff, mem_nodes]
    have hso : s.Pairwise fun a b => lex2 (keyAt l0.length rk (placesB o l0.length) a) (keyAt l0.length rk (placesB o l0.length) b) ≤ 0 := by rw [es]; exact sched_sorted _
    have hP : rank_Places.f s (l0.length : Int) = some (placesB s l0.length) := by
      unfold rank_Places.f
      have : mx 0 (mn (l0.length : Int) 4096) = (l0.length : Int) := by
        have e1 : mn (l0.length : Int) 4096 = (l0.length : Int) := if_neg (by omega)
        rw [e1]
        unfold mx
        split <;> omega
      rw [this, places_now (by omega) (by omega)]
      rfl
    refine Ev.bind hsch ?_
    refine Ev.bind h1 ?_
    rw [hf1]
    simp only [Option.bind_some]
    rw [hP]
    simp only [Option.bind_some]
    have c1 : (s.length : Int) = (l0.length : Int) := by omega
    have c2 : (rk.length : Int) = (l0.length : Int) := by omega
    have c3 : (f.length : Int) = (l0.length : Int) := by omega
    simp only [c1, c2, c3, placesB_len, if_true, bne_self_eq_false]
    refine Ev.step (f := fun k => bywashlaw12_RankSchedule.l0 k true s rk f (placesB s l0.length) ((0 : Nat) : Int)) (fun k => by rw [bywashlaw12_RankSchedule.j0, if_neg (by simp)]; rfl) (ranksched_l0 (o := o) (n := l0.length) (s := s) (p := placesB s l0.length) (f := f) (by omega) h3 hf2 (placesB_len _ _) hsl hol (fun x hx => (hsm x).1 hx) hsnd (fun i hi => ?_) hso (fun a h0 h4 => ?_) l0.length 0 (by omega))
    · rcases places_get (l := s) (n := l0.length) (a := (i : Int)) (by omega) (by omega) with ⟨_, h⟩ | ⟨k, hk, e, _, e2⟩
      · exact absurd ((hsm _).2 ⟨by omega, by omega⟩) h
      · refine ⟨k, by omega, e2, ?_⟩
        unfold rd
        rw [Int.toNat_natCast]
        exact e
    · rw [hf3 a h0 h4, hom]
  · simp only [hf]
    exact Ev.now _
theorem RankSchedule_c (A0 : Option Addr) (c0 : Nat) (l0 : List (List Int)) (a1 : Int) (w : World) (hr0 : (Kd.slice 3 (Kd.int .i64)).C w A0 l0.length l0) (hc0 : l0.length ≤ c0)
    (hm0 : l0.length ≤ 9223372036854775807) (hw : ∀ r ∈ l0, r.length ≤ 9223372036854775807 ∧ ∀ y ∈ r, (Lit.int .i64 y).wf = true) (h1 : (Lit.int .i64 a1).wf = true) :
    Calls Try.prog 9 #[.slice A0 l0.length c0, .int .i64 a1] w fun e w' => e = .returned (.bool true) ∧ Below w.heap.size w w' := by
  obtain ⟨k, h⟩ := RankSchedule_pure l0 a1 hm0 hw h1
  exact RankSchedule_t k A0 c0 l0 a1 true w hr0 hc0 rfl h
end Go.Proofs.Ytdknhgbjgdmfkaa.P
