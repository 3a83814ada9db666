/- What the claim uses of: PlawDomupBackDomupBackC -/
import Derived.Test.YtemcmcnhpdkdfaaQDomupBack4
namespace Go.Proofs.Ytemcmcnhpdkdfaa.P
open Go.RowKit Go.Proofs.YtemcmcnhpdkdfaaW.PrintWords Go.Proofs.YtemcmcnhpdkdfaaW.PrintLast Go.Proofs.YtemcmcnhpdkdfaaW.PrintMore
attribute [local go_sem] max2_int min2_int max_two min_two max_three min_three max_four min_four
set_option linter.unusedVariables false
set_option linter.unusedSimpArgs false
set_option maxHeartbeats 8000000 in
set_option maxRecDepth 100000 in
theorem bywashlaw15_DomupBack.calls (k : Nat) (A0 : Option Addr) (c0 : Nat) (l0 : List (List Int)) (a1 : Int) (a2 : Int) (a3 : Int) (r : Bool) (w : World) (hr0 : Kd.C (Kd.slice 3 (Kd.int .i64)) w A0 l0.length l0) (hc0 : l0.length ≤ c0) (h : bywashlaw15_DomupBack.f k l0 a1 a2 a3 = some r) :
  Calls Try.prog 10 #[.slice A0 l0.length c0, .int .i64 a1, .int .i64 a2, .int .i64 a3] w fun e w' => e = .returned (.bool r) ∧ Below w.heap.size w w' := by
 have hu40 := Try.underlying40
 have HR0 := Aside0.mk hr0
 have HC0 := Aside0.mk hc0
 clear hr0 hc0
 have HB := Aside0.mk (Below.refl w.heap.size w)
 have H : ((bywashlaw15_awake.f k).bind fun t562 => ((bywashref10_Few.f k l0).bind fun t563 => (if t563 = true then ((domup_New.f k l0).bind fun bt564 => ((domup_Add.f k bt564.1 bt564.2.1 bt564.2.2 a1 a2).bind fun bt572 => ((domup_Del.f k bt572.1 bt572.2.1 bt572.2.2.1 a1 a2).bind fun bt583 => (if (bt564.2.1.length : Int) = (l0.length : Int) then (bywashlaw15_DomupBack.j0 k l0 a1 a2 a3 t562 bt572.2.2.2 bt583.2.2.2 ((bt572.2.1.length : Int) != (l0.length : Int)) bt564.1 bt564.2.1 bt564.2.2 bt572.1 bt572.2.1 bt572.2.2.1 bt583.1 bt583.2.1 bt583.2.2.1) else (bywashlaw15_DomupBack.j0 k l0 a1 a2 a3 t562 bt572.2.2.2 bt583.2.2.2 true bt564.1 bt564.2.1 bt564.2.2 bt572.1 bt572.2.1 bt572.2.2.1 bt583.1 bt583.2.1 bt583.2.2.1))))) else (some t562)))) = some r := h
 clear h
 replace H := Option.bind_eq_some_iff.mp H
 obtain ⟨t562, A50, H⟩ := H
 replace H : ((bywashref10_Few.f k l0).bind fun t563 => (if t563 = true then ((domup_New.f k l0).bind fun bt564 => ((domup_Add.f k bt564.1 bt564.2.1 bt564.2.2 a1 a2).bind fun bt572 => ((domup_Del.f k bt572.1 bt572.2.1 bt572.2.2.1 a1 a2).bind fun bt583 => (if (bt564.2.1.length : Int) = (l0.length : Int) then (bywashlaw15_DomupBack.j0 k l0 a1 a2 a3 t562 bt572.2.2.2 bt583.2.2.2 ((bt572.2.1.length : Int) != (l0.length : Int)) bt564.1 bt564.2.1 bt564.2.2 bt572.1 bt572.2.1 bt572.2.2.1 bt583.1 bt583.2.1 bt583.2.2.1) else (bywashlaw15_DomupBack.j0 k l0 a1 a2 a3 t562 bt572.2.2.2 bt583.2.2.2 true bt564.1 bt564.2.1 bt564.2.2 bt572.1 bt572.2.1 bt572.2.2.1 bt583.1 bt583.2.1 bt583.2.2.1))))) else (some t562))) = some r := H
 have A5 := Aside0.mk A50
 clear A50
 replace H := Option.bind_eq_some_iff.mp H
 obtain ⟨t563, A60, H⟩ := H
 replace H : (if t563 = true then ((domup_New.f k l0).bind fun bt564 => ((domup_Add.f k bt564.1 bt564.2.1 bt564.2.2 a1 a2).bind fun bt572 => ((domup_Del.f k bt572.1 bt572.2.1 bt572.2.2.1 a1 a2).bind fun bt583 => (if (bt564.2.1.length : Int) = (l0.length : Int) then (bywashlaw15_DomupBack.j0 k l0 a1 a2 a3 t562 bt572.2.2.2 bt583.2.2.2 ((bt572.2.1.length : Int) != (l0.length : Int)) bt564.1 bt564.2.1 bt564.2.2 bt572.1 bt572.2.1 bt572.2.2.1 bt583.1 bt583.2.1 bt583.2.2.1) else (bywashlaw15_DomupBack.j0 k l0 a1 a2 a3 t562 bt572.2.2.2 bt583.2.2.2 true bt564.1 bt564.2.1 bt564.2.2 bt572.1 bt572.2.1 bt572.2.2.1 bt583.1 bt583.2.1 bt583.2.2.1))))) else (some t562)) = some r := H
 have A6 := Aside0.mk A60
 clear A60
 by_cases c7 : t563 = true
 ·subst c7
  have H1 : ((domup_New.f k l0).bind fun bt564 => ((domup_Add.f k bt564.1 bt564.2.1 bt564.2.2 a1 a2).bind fun bt572 => ((domup_Del.f k bt572.1 bt572.2.1 bt572.2.2.1 a1 a2).bind fun bt583 => (if (bt564.2.1.length : Int) = (l0.length : Int) then (bywashlaw15_DomupBack.j0 k l0 a1 a2 a3 t562 bt572.2.2.2 bt583.2.2.2 ((bt572.2.1.length : Int) != (l0.length : Int)) bt564.1 bt564.2.1 bt564.2.2 bt572.1 bt572.2.1 bt572.2.2.1 bt583.1 bt583.2.1 bt583.2.2.1) else (bywashlaw15_DomupBack.j0 k l0 a1 a2 a3 t562 bt572.2.2.2 bt583.2.2.2 true bt564.1 bt564.2.1 bt564.2.2 bt572.1 bt572.2.1 bt572.2.2.1 bt583.1 bt583.2.1 bt583.2.2.1))))) = some r := by rw [if_pos rfl] at H; exact H
  clear H
  have H := H1
  clear H1
  replace H := Option.bind_eq_some_iff.mp H
  obtain ⟨⟨t564, t567, t570⟩, A80, H⟩ := H
  replace H : ((domup_Add.f k t564 t567 t570 a1 a2).bind fun bt572 => ((domup_Del.f k bt572.1 bt572.2.1 bt572.2.2.1 a1 a2).bind fun bt583 => (if (t567.length : Int) = (l0.length : Int) then (bywashlaw15_DomupBack.j0 k l0 a1 a2 a3 t562 bt572.2.2.2 bt583.2.2.2 ((bt572.2.1.length : Int) != (l0.length : Int)) t564 t567 t570 bt572.1 bt572.2.1 bt572.2.2.1 bt583.1 bt583.2.1 bt583.2.2.1) else (bywashlaw15_DomupBack.j0 k l0 a1 a2 a3 t562 bt572.2.2.2 bt583.2.2.2 true t564 t567 t570 bt572.1 bt572.2.1 bt572.2.2.1 bt583.1 bt583.2.1 bt583.2.2.1)))) = some r := H
  have A8 := Aside0.mk A80
  clear A80
  replace H := Option.bind_eq_some_iff.mp H
  obtain ⟨⟨t572, t575, t578, t579⟩, A90, H⟩ := H
  replace H : ((domup_Del.f k t572 t575 t578 a1 a2).bind fun bt583 => (if (t567.length : Int) = (l0.length : Int) then (bywashlaw15_DomupBack.j0 k l0 a1 a2 a3 t562 t579 bt583.2.2.2 ((t575.length : Int) != (l0.length : Int)) t564 t567 t570 t572 t575 t578 bt583.1 bt583.2.1 bt583.2.2.1) else (bywashlaw15_DomupBack.j0 k l0 a1 a2 a3 t562 t579 bt583.2.2.2 true t564 t567 t570 t572 t575 t578 bt583.1 bt583.2.1 bt583.2.2.1))) = some r := H
  have A9 := Aside0.mk A90
  clear A90
  replace H := Option.bind_eq_some_iff.mp H
  obtain ⟨⟨t583, t586, t589, t590⟩, A100, H⟩ := H
  replace H : (if (t567.length : Int) = (l0.length : Int) then (bywashlaw15_DomupBack.j0 k l0 a1 a2 a3 t562 t579 t590 ((t575.length : Int) != (l0.length : Int)) t564 t567 t570 t572 t575 t578 t583 t586 t589) else (bywashlaw15_DomupBack.j0 k l0 a1 a2 a3 t562 t579 t590 true t564 t567 t570 t572 t575 t578 t583 t586 t589)) = some r := H
  have A10 := Aside0.mk A100
  clear A100
  have HC11 := Aside0.mk H
  clear H
  go_enter Try.func10, Try.ntmps10
  go_upto_region 7 with (first | ((with_reducible refine gate_callee (f := 31) rfl ?_); refine goesL_ (some 15) rfl rfl Try.func31 (by kernel_rfl) rfl #[] rfl (by (try simp only [List.map_toArray, List.map_cons, List.map_nil]); first | done | rfl | (simp only [List.length_drop, List.length_take]; rfl)) ?_; (with_reducible refine (bywashlaw15_awake.calls k  t562 _ A5.out).mono ?_); rintro e w12 ⟨rfl, hb⟩; refine ⟨_, rfl, ?_⟩; have n0_ := Aside0.mk (below_step (by repeat (first | (with_reducible first | exact HB.out | apply below_alloc | apply pw_below_drewN | apply below_drew1) | exact HB.out)) hb); clear HB; have HB := n0_; clear n0_; (try clear hb); (try clear hb2); (try clear hk); (try clear hi)) | ((with_reducible refine gate_callee (f := 14) rfl ?_); refine goesL_ (some 17) rfl rfl Try.func14 (by kernel_rfl) rfl #[.slice A0 l0.length c0] rfl (by (try simp only [List.map_toArray, List.map_cons, List.map_nil]); first | done | rfl | (simp only [List.length_drop, List.length_take]; rfl)) ?_; (with_reducible refine (bywashref10_Few.calls k _ _ l0 true _ ?side1 ?side2 A6.out).mono ?_); (case side1 => repeat (first | exact (Kd.C_below HR0.out HB.out) | (with_reducible refine Kd.C_alloc ?_ _) | (with_reducible refine Kd.C_drewN ?_ _) | (with_reducible refine Kd.C_drew ?_))); (case side2 => exact HC0.out); rintro e w' ⟨rfl, ⟨nd, rfl⟩⟩; refine ⟨_, rfl, ?_⟩; (try (rw [drewN_self w12]; generalize hq_ : World.drewN w12 _ = w12; have n0_ : Aside0 (Below w.heap.size w w12) := ⟨by rw [← hq_]; exact (by repeat (first | (with_reducible first | exact HB.out | apply below_alloc | apply pw_below_drewN | apply below_drew1) | exact HB.out))⟩; clear HB hq_; have HB := n0_; clear n0_))) | ((with_reducible refine gate_callee (f := 32) rfl ?_); refine goesL_ (some 21) rfl rfl Try.func32 (by kernel_rfl) rfl #[.slice A0 l0.length c0] rfl (by (try simp only [List.map_toArray, List.map_cons, List.map_nil]); first | done | rfl | (simp only [List.length_drop, List.length_take]; rfl)) ?_; (with_reducible refine (domup_New.calls k _ _ l0 t564 t567 t570 _ ?side1 ?side2 A8.out).mono ?_); (case side1 => repeat (first | exact (Kd.C_below HR0.out HB.out) | (with_reducible refine Kd.C_alloc ?_ _) | (with_reducible refine Kd.C_drewN ?_ _) | (with_reducible refine Kd.C_drew ?_))); (case side2 => exact HC0.out); rintro e w13 ⟨v565, v568, rfl, ho0, ho1, hb⟩; refine ⟨_, rfl, ?_⟩; have n0_ := Aside0.mk (Kd.S_lower ho0 (below_size (by repeat (first | (with_reducible first | exact HB.out | apply below_alloc | apply pw_below_drewN | apply below_drew1) | exact HB.out)))); have n1_ := Aside0.mk (Kd.R_lower ho1 (below_size (by repeat (first | (with_reducible first | exact HB.out | apply below_alloc | apply pw_below_drewN | apply below_drew1) | exact HB.out)))); have n2_ := Aside0.mk (below_step (by repeat (first | (with_reducible first | exact HB.out | apply below_alloc | apply pw_below_drewN | apply below_drew1) | exact HB.out)) hb); clear HB; have HO566 := n0_; have HO569 := n1_; have HB := n2_; clear n0_ n1_ n2_; (try clear hb); (try clear hb2); (try clear hk); (try clear hi); (try clear ho0); (try clear ho1)) | ((with_reducible refine gate_dst (N := 10) rfl ?_); (try (refine gate_guard (by rfl) ?_; dsimp only)); refine box_event ?hg (N := 10) ?hd (cs := #[.slice none 0 0, .slice none 0 0, .bool false]) (t := 40) ?hr ?_; (case hd => rfl); (case hg => rfl); (case hr => first | (go_simp; done) | (go_simp; rfl)); intro gb571 hg w14 hbox hb; have n0_ := Aside0.mk (Kd.S_below (by (with_reducible repeat (first | apply Kd.S_alloc | apply Kd.S_drewN | apply Kd.S_drew)); exact HO566.out) hb); have n1_ := Aside0.mk (Kd.R_below (by (with_reducible repeat (first | apply Kd.R_alloc | apply Kd.R_drewN | apply Kd.R_drew)); exact HO569.out) hb); have n2_ := Aside0.mk (below_step (by repeat (first | (with_reducible first | exact HB.out | apply below_alloc | apply pw_below_drewN | apply below_drew1) | exact HB.out)) hb); have n3_ := Aside0.mk (hbox); have n4_ := Aside0.mk ((by rw [hg]; exact (below_size (by repeat (first | (with_reducible first | exact HB.out | apply below_alloc | apply pw_below_drewN | apply below_drew1) | exact HB.out))) : w.heap.size ≤ gb571)); have n5_ := Aside0.mk ((by rw [hg]; exact (below_size (by repeat (first | (with_reducible first | exact HB.out | apply below_alloc | apply pw_below_drewN | apply below_drew1) | exact HB.out))) : w.heap.size ≤ gb571)); clear HO566; clear HO569; clear HB; have HO566 := n0_; have HO569 := n1_; have HB := n2_; have BK571 := n3_; have GW571 := n4_; have GE571 := n5_; clear n0_ n1_ n2_ n3_ n4_ n5_; clear hb hbox hg; obtain ⟨Ao15, co15, eo15⟩ := Kd.S_slice HO566.out; subst eo15; have hcz16_0 : w14.cell? ⟨gb571, 0, none⟩ = some (.slice none 0 0) := (blk_cell BK571.out 0).trans rfl; have hcz16_1 : w14.cell? ⟨gb571, 1, none⟩ = some (.slice none 0 0) := (blk_cell BK571.out 1).trans rfl; have hcz16_2 : w14.cell? ⟨gb571, 2, none⟩ = some (.bool false) := (blk_cell BK571.out 2).trans rfl; have hfz16_0 := blk_frozen BK571.out 0; have hfz16_1 := blk_frozen BK571.out 1; have hfz16_2 := blk_frozen BK571.out 2; obtain ⟨Ao17, co17, eo17⟩ := Kd.R_slice HO569.out; subst eo17) | ((with_reducible refine gate_callee (f := 33) rfl ?_); refine goesL_ (some 26) rfl rfl Try.func33 (by kernel_rfl) rfl #[.agg #[.slice Ao15 t564.length co15, .slice Ao17 t567.length co17, .bool t570], .int .i64 a1, .int .i64 a2] rfl (by (try simp only [List.map_toArray, List.map_cons, List.map_nil]); first | done | rfl | (simp only [List.length_drop, List.length_take]; rfl)) ?_; (with_reducible refine (domup_Add.calls k _ _ t564 _ _ t567 t570 a1 a2 t572 t575 t578 t579 _ ?side1 ?side2 ?side3 ?side4 A9.out).mono ?_); (case side1 => refine (Kd.S_reads' (e := 25) (base := w.heap.size) (ok := fun k_ => some k_ ≠ (.slice Ao17 t567.length co17 : Value).ownBlock) (n := t564.length) (c := co15) ?_).2.2; exact (by (with_reducible repeat (first | apply Kd.S_alloc | apply Kd.S_drewN | apply Kd.S_drew)); exact (Kd.S_mono (Kd.S_far (p := ⟨gb571, 2, none⟩) (Kd.S_far (p := ⟨gb571, 1, none⟩) (Kd.S_far (p := ⟨gb571, 0, none⟩) (Kd.S_types HO566.out BK571.out (by decide)) (fun _ hk => hk.2) (.slice Ao15 t564.length co15)) (fun _ hk => hk.2) (.slice Ao17 t567.length co17)) (fun _ hk => hk.2) (.bool t570)) (fun _ h_ => h_.1)))); (case side2 => exact (Kd.S_reads' HO566.out).2.1); (case side3 => refine (Kd.R_reads' (e := 3) (base := w.heap.size) (ok := fun k_ => True) (n := t567.length) (c := co17) ?_).2.2; exact (by (with_reducible repeat (first | apply Kd.R_alloc | apply Kd.R_drewN | apply Kd.R_drew)); exact (Kd.R_mono (Kd.R_far (p := ⟨gb571, 2, none⟩) (Kd.R_far (p := ⟨gb571, 1, none⟩) (Kd.R_far (p := ⟨gb571, 0, none⟩) (Kd.R_types HO569.out BK571.out (by decide)) (fun _ hk => hk.2) (.slice Ao15 t564.length co15)) (fun _ hk => hk.2) (.slice Ao17 t567.length co17)) (fun _ hk => hk.2) (.bool t570)) (fun _ h_ => h_.1)))); (case side4 => exact (Kd.R_reads' HO569.out).2.1); rintro e w18 ⟨v573, v576, v580, rfl, ho0, ho1, ho2, hb⟩; refine ⟨_, rfl, ?_⟩; have n0_ := Aside0.mk (Kd.S_mono (Kd.S_told (Kd.S_told (Kd.S_told (Kd.S_old (by (with_reducible repeat (first | apply Kd.S_alloc | apply Kd.S_drewN | apply Kd.S_drew)); exact (Kd.S_mono (Kd.S_far (p := ⟨gb571, 2, none⟩) (Kd.S_far (p := ⟨gb571, 1, none⟩) (Kd.S_far (p := ⟨gb571, 0, none⟩) (Kd.S_types HO566.out BK571.out (by decide)) (fun _ hk => hk.2) (.slice Ao15 t564.length co15)) (fun _ hk => hk.2) (.slice Ao17 t567.length co17)) (fun _ hk => hk.2) (.bool t570)) (fun _ h_ => h_.1))) hb) (Kd.S_base ho0)) (Kd.R_base ho1)) (Kd.R_base ho2)) (fun _ h_ => h_.1)); have n1_ := Aside0.mk (Kd.R_mono (Kd.R_told (Kd.R_told (Kd.R_old (by (with_reducible repeat (first | apply Kd.R_alloc | apply Kd.R_drewN | apply Kd.R_drew)); exact (Kd.R_mono (Kd.R_far (p := ⟨gb571, 2, none⟩) (Kd.R_far (p := ⟨gb571, 1, none⟩) (Kd.R_far (p := ⟨gb571, 0, none⟩) (Kd.R_types HO569.out BK571.out (by decide)) (fun _ hk => hk.2) (.slice Ao15 t564.length co15)) (fun _ hk => hk.2) (.slice Ao17 t567.length co17)) (fun _ hk => hk.2) (.bool t570)) (fun _ h_ => h_.1))) hb) (Kd.R_base ho1)) (Kd.R_base ho2)) (fun _ h_ => h_.1)); have n2_ := Aside0.mk (Kd.S_lower (Kd.S_new' (Kd.S_new' ho0 (Kd.S_lt (by (with_reducible repeat (first | apply Kd.S_alloc | apply Kd.S_drewN | apply Kd.S_drew)); exact (Kd.S_mono (Kd.S_far (p := ⟨gb571, 2, none⟩) (Kd.S_far (p := ⟨gb571, 1, none⟩) (Kd.S_far (p := ⟨gb571, 0, none⟩) (Kd.S_types HO566.out BK571.out (by decide)) (fun _ hk => hk.2) (.slice Ao15 t564.length co15)) (fun _ hk => hk.2) (.slice Ao17 t567.length co17)) (fun _ hk => hk.2) (.bool t570)) (fun _ h_ => h_.1))))) (Kd.R_lt (by (with_reducible repeat (first | apply Kd.R_alloc | apply Kd.R_drewN | apply Kd.R_drew)); exact (Kd.R_mono (Kd.R_far (p := ⟨gb571, 2, none⟩) (Kd.R_far (p := ⟨gb571, 1, none⟩) (Kd.R_far (p := ⟨gb571, 0, none⟩) (Kd.R_types HO569.out BK571.out (by decide)) (fun _ hk => hk.2) (.slice Ao15 t564.length co15)) (fun _ hk => hk.2) (.slice Ao17 t567.length co17)) (fun _ hk => hk.2) (.bool t570)) (fun _ h_ => h_.1))))) (below_size (by repeat (first | (with_reducible first | exact HB.out | apply below_alloc | apply pw_below_drewN | apply below_drew1 | refine below_set ?_ GE571.out) | exact HB.out)))); have n3_ := Aside0.mk (Kd.R_lower (Kd.R_new' ho1 (Kd.R_lt (by (with_reducible repeat (first | apply Kd.R_alloc | apply Kd.R_drewN | apply Kd.R_drew)); exact (Kd.R_mono (Kd.R_far (p := ⟨gb571, 2, none⟩) (Kd.R_far (p := ⟨gb571, 1, none⟩) (Kd.R_far (p := ⟨gb571, 0, none⟩) (Kd.R_types HO569.out BK571.out (by decide)) (fun _ hk => hk.2) (.slice Ao15 t564.length co15)) (fun _ hk => hk.2) (.slice Ao17 t567.length co17)) (fun _ hk => hk.2) (.bool t570)) (fun _ h_ => h_.1))))) (below_size (by repeat (first | (with_reducible first | exact HB.out | apply below_alloc | apply pw_below_drewN | apply below_drew1 | refine below_set ?_ GE571.out) | exact HB.out)))); have n4_ := Aside0.mk (Kd.R_lower (Kd.R_new' ho2 (Kd.R_lt (by (with_reducible repeat (first | apply Kd.R_alloc | apply Kd.R_drewN | apply Kd.R_drew)); exact (Kd.R_mono (Kd.R_far (p := ⟨gb571, 2, none⟩) (Kd.R_far (p := ⟨gb571, 1, none⟩) (Kd.R_far (p := ⟨gb571, 0, none⟩) (Kd.R_types HO569.out BK571.out (by decide)) (fun _ hk => hk.2) (.slice Ao15 t564.length co15)) (fun _ hk => hk.2) (.slice Ao17 t567.length co17)) (fun _ hk => hk.2) (.bool t570)) (fun _ h_ => h_.1))))) (below_size (by repeat (first | (with_reducible first | exact HB.out | apply below_alloc | apply pw_below_drewN | apply below_drew1 | refine below_set ?_ GE571.out) | exact HB.out)))); have n5_ := Aside0.mk (blk_below (g := gb571) (o := .cells #[.slice Ao15 t564.length co15, .slice Ao17 t567.length co17, .bool t570] 40 (0, 0)) (by (with_reducible repeat (first | refine blk_drewN ?_ _ | refine blk_drew ?_ | refine blk_alloc ?_ _)); refine blk_put (cs := #[.slice Ao15 t564.length co15, .slice Ao17 t567.length co17, .bool false]) ?_ 2 _ rfl; (with_reducible repeat (first | refine blk_drewN ?_ _ | refine blk_drew ?_ | refine blk_alloc ?_ _)); refine blk_put (cs := #[.slice Ao15 t564.length co15, .slice none 0 0, .bool false]) ?_ 1 _ rfl; (with_reducible repeat (first | refine blk_drewN ?_ _ | refine blk_drew ?_ | refine blk_alloc ?_ _)); refine blk_put (cs := #[.slice none 0 0, .slice none 0 0, .bool false]) ?_ 0 _ rfl; (with_reducible repeat (first | refine blk_drewN ?_ _ | refine blk_drew ?_ | refine blk_alloc ?_ _)); exact BK571.out) hb); have n6_ := Aside0.mk (below_step (by repeat (first | (with_reducible first | exact HB.out | apply below_alloc | apply pw_below_drewN | apply below_drew1 | refine below_set ?_ GE571.out) | exact HB.out)) hb); clear HO566; clear HO569; clear BK571; clear HB; have HO566 := n0_; have HO569 := n1_; have HO574 := n2_; have HO577 := n3_; have HO581 := n4_; have BK571 := n5_; have HB := n6_; clear n0_ n1_ n2_ n3_ n4_ n5_ n6_; (try clear hb); (try clear hb2); (try clear hk); (try clear hi); (try clear ho0); (try clear ho1); (try clear ho2)) | ((with_reducible refine gate_dst (N := 11) rfl ?_); (try (refine gate_guard (by rfl) ?_; dsimp only)); refine box_event ?hg (N := 11) ?hd (cs := #[.slice none 0 0, .slice none 0 0, .bool false]) (t := 40) ?hr ?_; (case hd => rfl); (case hg => rfl); (case hr => first | (go_simp; done) | (go_simp; rfl)); intro gb582 hg w19 hbox hb; have n0_ := Aside0.mk (Kd.S_below (by (with_reducible repeat (first | apply Kd.S_alloc | apply Kd.S_drewN | apply Kd.S_drew)); exact HO566.out) hb); have n1_ := Aside0.mk (Kd.R_below (by (with_reducible repeat (first | apply Kd.R_alloc | apply Kd.R_drewN | apply Kd.R_drew)); exact HO569.out) hb); have n2_ := Aside0.mk (Kd.S_below (by (with_reducible repeat (first | apply Kd.S_alloc | apply Kd.S_drewN | apply Kd.S_drew)); exact HO574.out) hb); have n3_ := Aside0.mk (Kd.R_below (by (with_reducible repeat (first | apply Kd.R_alloc | apply Kd.R_drewN | apply Kd.R_drew)); exact HO577.out) hb); have n4_ := Aside0.mk (Kd.R_below (by (with_reducible repeat (first | apply Kd.R_alloc | apply Kd.R_drewN | apply Kd.R_drew)); exact HO581.out) hb); have n5_ := Aside0.mk (blk_below (g := gb571) (o := .cells #[.slice Ao15 t564.length co15, .slice Ao17 t567.length co17, .bool t570] 40 (0, 0)) (by (with_reducible repeat (first | refine blk_drewN ?_ _ | refine blk_drew ?_ | refine blk_alloc ?_ _)); exact BK571.out) hb); have n6_ := Aside0.mk (below_step (by repeat (first | (with_reducible first | exact HB.out | apply below_alloc | apply pw_below_drewN | apply below_drew1 | refine below_set ?_ GE571.out) | exact HB.out)) hb); have n7_ := Aside0.mk (hbox); have n8_ := Aside0.mk ((by rw [hg]; exact (below_size (by repeat (first | (with_reducible first | exact HB.out | apply below_alloc | apply pw_below_drewN | apply below_drew1 | refine below_set ?_ GE571.out) | exact HB.out))) : w.heap.size ≤ gb582)); have n9_ := Aside0.mk ((by rw [hg]; exact (below_size (by repeat (first | (with_reducible first | exact HB.out | apply below_alloc | apply pw_below_drewN | apply below_drew1 | refine below_set ?_ GE571.out) | exact HB.out))) : w.heap.size ≤ gb582)); have n10_ := Aside0.mk ((by rw [hg]; exact Nat.ne_of_lt (blk_lt (g := gb571) (o := .cells #[.slice Ao15 t564.length co15, .slice Ao17 t567.length co17, .bool t570] 40 (0, 0)) (by (with_reducible repeat (first | refine blk_drewN ?_ _ | refine blk_drew ?_ | refine blk_alloc ?_ _)); exact BK571.out)) : gb571 ≠ gb582)); have n11_ := Aside0.mk ((by rw [hg]; exact Nat.ne_of_gt (blk_lt (g := gb571) (o := .cells #[.slice Ao15 t564.length co15, .slice Ao17 t567.length co17, .bool t570] 40 (0, 0)) (by (with_reducible repeat (first | refine blk_drewN ?_ _ | refine blk_drew ?_ | refine blk_alloc ?_ _)); exact BK571.out)) : gb582 ≠ gb571)); clear HO566; clear HO569; clear HO574; clear HO577; clear HO581; clear BK571; clear HB; have HO566 := n0_; have HO569 := n1_; have HO574 := n2_; have HO577 := n3_; have HO581 := n4_; have BK571 := n5_; have HB := n6_; have BK582 := n7_; have GW582 := n8_; have GE582 := n9_; have NB571_582 := n10_; have NB582_571 := n11_; clear n0_ n1_ n2_ n3_ n4_ n5_ n6_ n7_ n8_ n9_ n10_ n11_; clear hb hbox hg; obtain ⟨Ao20, co20, eo20⟩ := Kd.S_slice HO574.out; subst eo20; have hnb21 := NB582_571.out; have hnc21 := NB571_582.out; have hcz22_0 : w19.cell? ⟨gb582, 0, none⟩ = some (.slice none 0 0) := (blk_cell BK582.out 0).trans rfl; have hcz22_1 : w19.cell? ⟨gb582, 1, none⟩ = some (.slice none 0 0) := (blk_cell BK582.out 1).trans rfl; have hcz22_2 : w19.cell? ⟨gb582, 2, none⟩ = some (.bool false) := (blk_cell BK582.out 2).trans rfl; have hfz22_0 := blk_frozen BK582.out 0; have hfz22_1 := blk_frozen BK582.out 1; have hfz22_2 := blk_frozen BK582.out 2; obtain ⟨Ao23, co23, eo23⟩ := Kd.R_slice HO577.out; subst eo23) | ((with_reducible refine gate_callee (f := 35) rfl ?_); refine goesL_ (some 33) rfl rfl Try.func35 (by kernel_rfl) rfl #[.agg #[.slice Ao20 t572.length co20, .slice Ao23 t575.length co23, .bool t578], .int .i64 a1, .int .i64 a2] rfl (by (try simp only [List.map_toArray, List.map_cons, List.map_nil]); first | done | rfl | (simp only [List.length_drop, List.length_take]; rfl)) ?_; (with_reducible refine (domup_Del.calls k _ _ t572 _ _ t575 t578 a1 a2 t583 t586 t589 t590 _ ?side1 ?side2 ?side3 ?side4 A10.out).mono ?_); (case side1 => refine (Kd.S_reads' (e := 25) (base := w.heap.size) (ok := fun k_ => (((some k_ ≠ (.slice Ao23 t575.length co23 : Value).ownBlock ∧ some k_ ≠ (v580 : Value).ownBlock) ∧ some k_ ≠ (.slice Ao15 t564.length co15 : Value).ownBlock) ∧ some k_ ≠ (.slice Ao17 t567.length co17 : Value).ownBlock)) (n := t572.length) (c := co20) ?_).2.2; exact (by (with_reducible repeat (first | apply Kd.S_alloc | apply Kd.S_drewN | apply Kd.S_drew)); exact (Kd.S_mono (Kd.S_far (p := ⟨gb582, 2, none⟩) (Kd.S_far (p := ⟨gb582, 1, none⟩) (Kd.S_far (p := ⟨gb582, 0, none⟩) (Kd.S_types HO574.out BK582.out (by decide)) (fun _ hk => hk.2) (.slice Ao20 t572.length co20)) (fun _ hk => hk.2) (.slice Ao23 t575.length co23)) (fun _ hk => hk.2) (.bool t578)) (fun _ h_ => h_.1)))); (case side2 => exact (Kd.S_reads' HO574.out).2.1); (case side3 => refine (Kd.R_reads' (e := 3) (base := w.heap.size) (ok := fun k_ => (some k_ ≠ (v580 : Value).ownBlock ∧ some k_ ≠ (.slice Ao17 t567.length co17 : Value).ownBlock)) (n := t575.length) (c := co23) ?_).2.2; exact (by (with_reducible repeat (first | apply Kd.R_alloc | apply Kd.R_drewN | apply Kd.R_drew)); exact (Kd.R_mono (Kd.R_far (p := ⟨gb582, 2, none⟩) (Kd.R_far (p := ⟨gb582, 1, none⟩) (Kd.R_far (p := ⟨gb582, 0, none⟩) (Kd.R_types HO577.out BK582.out (by decide)) (fun _ hk => hk.2) (.slice Ao20 t572.length co20)) (fun _ hk => hk.2) (.slice Ao23 t575.length co23)) (fun _ hk => hk.2) (.bool t578)) (fun _ h_ => h_.1)))); (case side4 => exact (Kd.R_reads' HO577.out).2.1); rintro e w24 ⟨v584, v587, v591, rfl, ho0, ho1, ho2, hb⟩; refine ⟨_, rfl, ?_⟩; have n0_ := Aside0.mk (Kd.S_mono (Kd.S_told (Kd.S_told (Kd.S_told (Kd.S_old (by (with_reducible repeat (first | apply Kd.S_alloc | apply Kd.S_drewN | apply Kd.S_drew)); exact (Kd.S_mono (Kd.S_far (p := ⟨gb582, 2, none⟩) (Kd.S_far (p := ⟨gb582, 1, none⟩) (Kd.S_far (p := ⟨gb582, 0, none⟩) (Kd.S_types HO566.out BK582.out (by decide)) (fun _ hk => hk.2) (.slice Ao20 t572.length co20)) (fun _ hk => hk.2) (.slice Ao23 t575.length co23)) (fun _ hk => hk.2) (.bool t578)) (fun _ h_ => h_.1))) hb) (Kd.S_base ho0)) (Kd.R_base ho1)) (Kd.R_base ho2)) (fun _ h_ => h_.1)); have n1_ := Aside0.mk (Kd.R_mono (Kd.R_told (Kd.R_told (Kd.R_old (by (with_reducible repeat (first | apply Kd.R_alloc | apply Kd.R_drewN | apply Kd.R_drew)); exact (Kd.R_mono (Kd.R_far (p := ⟨gb582, 2, none⟩) (Kd.R_far (p := ⟨gb582, 1, none⟩) (Kd.R_far (p := ⟨gb582, 0, none⟩) (Kd.R_types HO569.out BK582.out (by decide)) (fun _ hk => hk.2) (.slice Ao20 t572.length co20)) (fun _ hk => hk.2) (.slice Ao23 t575.length co23)) (fun _ hk => hk.2) (.bool t578)) (fun _ h_ => h_.1))) hb) (Kd.R_base ho1)) (Kd.R_base ho2)) (fun _ h_ => h_.1)); have n2_ := Aside0.mk (Kd.S_mono (Kd.S_told (Kd.S_told (Kd.S_told (Kd.S_old (by (with_reducible repeat (first | apply Kd.S_alloc | apply Kd.S_drewN | apply Kd.S_drew)); exact (Kd.S_mono (Kd.S_far (p := ⟨gb582, 2, none⟩) (Kd.S_far (p := ⟨gb582, 1, none⟩) (Kd.S_far (p := ⟨gb582, 0, none⟩) (Kd.S_types HO574.out BK582.out (by decide)) (fun _ hk => hk.2) (.slice Ao20 t572.length co20)) (fun _ hk => hk.2) (.slice Ao23 t575.length co23)) (fun _ hk => hk.2) (.bool t578)) (fun _ h_ => h_.1))) hb) (Kd.S_base ho0)) (Kd.R_base ho1)) (Kd.R_base ho2)) (fun _ h_ => h_.1)); have n3_ := Aside0.mk (Kd.R_mono (Kd.R_told (Kd.R_told (Kd.R_old (by (with_reducible repeat (first | apply Kd.R_alloc | apply Kd.R_drewN | apply Kd.R_drew)); exact (Kd.R_mono (Kd.R_far (p := ⟨gb582, 2, none⟩) (Kd.R_far (p := ⟨gb582, 1, none⟩) (Kd.R_far (p := ⟨gb582, 0, none⟩) (Kd.R_types HO577.out BK582.out (by decide)) (fun _ hk => hk.2) (.slice Ao20 t572.length co20)) (fun _ hk => hk.2) (.slice Ao23 t575.length co23)) (fun _ hk => hk.2) (.bool t578)) (fun _ h_ => h_.1))) hb) (Kd.R_base ho1)) (Kd.R_base ho2)) (fun _ h_ => h_.1)); have n4_ := Aside0.mk (Kd.R_mono (Kd.R_told (Kd.R_told (Kd.R_old (by (with_reducible repeat (first | apply Kd.R_alloc | apply Kd.R_drewN | apply Kd.R_drew)); exact (Kd.R_mono (Kd.R_far (p := ⟨gb582, 2, none⟩) (Kd.R_far (p := ⟨gb582, 1, none⟩) (Kd.R_far (p := ⟨gb582, 0, none⟩) (Kd.R_types HO581.out BK582.out (by decide)) (fun _ hk => hk.2) (.slice Ao20 t572.length co20)) (fun _ hk => hk.2) (.slice Ao23 t575.length co23)) (fun _ hk => hk.2) (.bool t578)) (fun _ h_ => h_.1))) hb) (Kd.R_base ho1)) (Kd.R_base ho2)) (fun _ h_ => h_.1)); have n5_ := Aside0.mk (Kd.S_lower (Kd.S_new' (Kd.S_new' (Kd.S_new' (Kd.S_new' (Kd.S_new' ho0 (Kd.S_lt (by (with_reducible repeat (first | apply Kd.S_alloc | apply Kd.S_drewN | apply Kd.S_drew)); exact (Kd.S_mono (Kd.S_far (p := ⟨gb582, 2, none⟩) (Kd.S_far (p := ⟨gb582, 1, none⟩) (Kd.S_far (p := ⟨gb582, 0, none⟩) (Kd.S_types HO566.out BK582.out (by decide)) (fun _ hk => hk.2) (.slice Ao20 t572.length co20)) (fun _ hk => hk.2) (.slice Ao23 t575.length co23)) (fun _ hk => hk.2) (.bool t578)) (fun _ h_ => h_.1))))) (Kd.R_lt (by (with_reducible repeat (first | apply Kd.R_alloc | apply Kd.R_drewN | apply Kd.R_drew)); exact (Kd.R_mono (Kd.R_far (p := ⟨gb582, 2, none⟩) (Kd.R_far (p := ⟨gb582, 1, none⟩) (Kd.R_far (p := ⟨gb582, 0, none⟩) (Kd.R_types HO569.out BK582.out (by decide)) (fun _ hk => hk.2) (.slice Ao20 t572.length co20)) (fun _ hk => hk.2) (.slice Ao23 t575.length co23)) (fun _ hk => hk.2) (.bool t578)) (fun _ h_ => h_.1))))) (Kd.S_lt (by (with_reducible repeat (first | apply Kd.S_alloc | apply Kd.S_drewN | apply Kd.S_drew)); exact (Kd.S_mono (Kd.S_far (p := ⟨gb582, 2, none⟩) (Kd.S_far (p := ⟨gb582, 1, none⟩) (Kd.S_far (p := ⟨gb582, 0, none⟩) (Kd.S_types HO574.out BK582.out (by decide)) (fun _ hk => hk.2) (.slice Ao20 t572.length co20)) (fun _ hk => hk.2) (.slice Ao23 t575.length co23)) (fun _ hk => hk.2) (.bool t578)) (fun _ h_ => h_.1))))) (Kd.R_lt (by (with_reducible repeat (first | apply Kd.R_alloc | apply Kd.R_drewN | apply Kd.R_drew)); exact (Kd.R_mono (Kd.R_far (p := ⟨gb582, 2, none⟩) (Kd.R_far (p := ⟨gb582, 1, none⟩) (Kd.R_far (p := ⟨gb582, 0, none⟩) (Kd.R_types HO577.out BK582.out (by decide)) (fun _ hk => hk.2) (.slice Ao20 t572.length co20)) (fun _ hk => hk.2) (.slice Ao23 t575.length co23)) (fun _ hk => hk.2) (.bool t578)) (fun _ h_ => h_.1))))) (Kd.R_lt (by (with_reducible repeat (first | apply Kd.R_alloc | apply Kd.R_drewN | apply Kd.R_drew)); exact (Kd.R_mono (Kd.R_far (p := ⟨gb582, 2, none⟩) (Kd.R_far (p := ⟨gb582, 1, none⟩) (Kd.R_far (p := ⟨gb582, 0, none⟩) (Kd.R_types HO581.out BK582.out (by decide)) (fun _ hk => hk.2) (.slice Ao20 t572.length co20)) (fun _ hk => hk.2) (.slice Ao23 t575.length co23)) (fun _ hk => hk.2) (.bool t578)) (fun _ h_ => h_.1))))) (below_size (by repeat (first | (with_reducible first | exact HB.out | apply below_alloc | apply pw_below_drewN | apply below_drew1 | refine below_set ?_ GE571.out | refine below_set ?_ GE582.out) | exact HB.out)))); have n6_ := Aside0.mk (Kd.R_lower (Kd.R_new' (Kd.R_new' (Kd.R_new' ho1 (Kd.R_lt (by (with_reducible repeat (first | apply Kd.R_alloc | apply Kd.R_drewN | apply Kd.R_drew)); exact (Kd.R_mono (Kd.R_far (p := ⟨gb582, 2, none⟩) (Kd.R_far (p := ⟨gb582, 1, none⟩) (Kd.R_far (p := ⟨gb582, 0, none⟩) (Kd.R_types HO569.out BK582.out (by decide)) (fun _ hk => hk.2) (.slice Ao20 t572.length co20)) (fun _ hk => hk.2) (.slice Ao23 t575.length co23)) (fun _ hk => hk.2) (.bool t578)) (fun _ h_ => h_.1))))) (Kd.R_lt (by (with_reducible repeat (first | apply Kd.R_alloc | apply Kd.R_drewN | apply Kd.R_drew)); exact (Kd.R_mono (Kd.R_far (p := ⟨gb582, 2, none⟩) (Kd.R_far (p := ⟨gb582, 1, none⟩) (Kd.R_far (p := ⟨gb582, 0, none⟩) (Kd.R_types HO577.out BK582.out (by decide)) (fun _ hk => hk.2) (.slice Ao20 t572.length co20)) (fun _ hk => hk.2) (.slice Ao23 t575.length co23)) (fun _ hk => hk.2) (.bool t578)) (fun _ h_ => h_.1))))) (Kd.R_lt (by (with_reducible repeat (first | apply Kd.R_alloc | apply Kd.R_drewN | apply Kd.R_drew)); exact (Kd.R_mono (Kd.R_far (p := ⟨gb582, 2, none⟩) (Kd.R_far (p := ⟨gb582, 1, none⟩) (Kd.R_far (p := ⟨gb582, 0, none⟩) (Kd.R_types HO581.out BK582.out (by decide)) (fun _ hk => hk.2) (.slice Ao20 t572.length co20)) (fun _ hk => hk.2) (.slice Ao23 t575.length co23)) (fun _ hk => hk.2) (.bool t578)) (fun _ h_ => h_.1))))) (below_size (by repeat (first | (with_reducible first | exact HB.out | apply below_alloc | apply pw_below_drewN | apply below_drew1 | refine below_set ?_ GE571.out | refine below_set ?_ GE582.out) | exact HB.out)))); have n7_ := Aside0.mk (Kd.R_lower (Kd.R_new' (Kd.R_new' (Kd.R_new' ho2 (Kd.R_lt (by (with_reducible repeat (first | apply Kd.R_alloc | apply Kd.R_drewN | apply Kd.R_drew)); exact (Kd.R_mono (Kd.R_far (p := ⟨gb582, 2, none⟩) (Kd.R_far (p := ⟨gb582, 1, none⟩) (Kd.R_far (p := ⟨gb582, 0, none⟩) (Kd.R_types HO569.out BK582.out (by decide)) (fun _ hk => hk.2) (.slice Ao20 t572.length co20)) (fun _ hk => hk.2) (.slice Ao23 t575.length co23)) (fun _ hk => hk.2) (.bool t578)) (fun _ h_ => h_.1))))) (Kd.R_lt (by (with_reducible repeat (first | apply Kd.R_alloc | apply Kd.R_drewN | apply Kd.R_drew)); exact (Kd.R_mono (Kd.R_far (p := ⟨gb582, 2, none⟩) (Kd.R_far (p := ⟨gb582, 1, none⟩) (Kd.R_far (p := ⟨gb582, 0, none⟩) (Kd.R_types HO577.out BK582.out (by decide)) (fun _ hk => hk.2) (.slice Ao20 t572.length co20)) (fun _ hk => hk.2) (.slice Ao23 t575.length co23)) (fun _ hk => hk.2) (.bool t578)) (fun _ h_ => h_.1))))) (Kd.R_lt (by (with_reducible repeat (first | apply Kd.R_alloc | apply Kd.R_drewN | apply Kd.R_drew)); exact (Kd.R_mono (Kd.R_far (p := ⟨gb582, 2, none⟩) (Kd.R_far (p := ⟨gb582, 1, none⟩) (Kd.R_far (p := ⟨gb582, 0, none⟩) (Kd.R_types HO581.out BK582.out (by decide)) (fun _ hk => hk.2) (.slice Ao20 t572.length co20)) (fun _ hk => hk.2) (.slice Ao23 t575.length co23)) (fun _ hk => hk.2) (.bool t578)) (fun _ h_ => h_.1))))) (below_size (by repeat (first | (with_reducible first | exact HB.out | apply below_alloc | apply pw_below_drewN | apply below_drew1 | refine below_set ?_ GE571.out | refine below_set ?_ GE582.out) | exact HB.out)))); have n8_ := Aside0.mk (blk_below (g := gb571) (o := .cells #[.slice Ao15 t564.length co15, .slice Ao17 t567.length co17, .bool t570] 40 (0, 0)) (by (with_reducible repeat (first | refine blk_drewN ?_ _ | refine blk_drew ?_ | refine blk_alloc ?_ _)); refine blk_far ?_ NB571_582.out _; (with_reducible repeat (first | refine blk_drewN ?_ _ | refine blk_drew ?_ | refine blk_alloc ?_ _)); refine blk_far ?_ NB571_582.out _; (with_reducible repeat (first | refine blk_drewN ?_ _ | refine blk_drew ?_ | refine blk_alloc ?_ _)); refine blk_far ?_ NB571_582.out _; (with_reducible repeat (first | refine blk_drewN ?_ _ | refine blk_drew ?_ | refine blk_alloc ?_ _)); exact BK571.out) hb); have n9_ := Aside0.mk (blk_below (g := gb582) (o := .cells #[.slice Ao20 t572.length co20, .slice Ao23 t575.length co23, .bool t578] 40 (0, 0)) (by (with_reducible repeat (first | refine blk_drewN ?_ _ | refine blk_drew ?_ | refine blk_alloc ?_ _)); refine blk_put (cs := #[.slice Ao20 t572.length co20, .slice Ao23 t575.length co23, .bool false]) ?_ 2 _ rfl; (with_reducible repeat (first | refine blk_drewN ?_ _ | refine blk_drew ?_ | refine blk_alloc ?_ _)); refine blk_put (cs := #[.slice Ao20 t572.length co20, .slice none 0 0, .bool false]) ?_ 1 _ rfl; (with_reducible repeat (first | refine blk_drewN ?_ _ | refine blk_drew ?_ | refine blk_alloc ?_ _)); refine blk_put (cs := #[.slice none 0 0, .slice none 0 0, .bool false]) ?_ 0 _ rfl; (with_reducible repeat (first | refine blk_drewN ?_ _ | refine blk_drew ?_ | refine blk_alloc ?_ _)); exact BK582.out) hb); have n10_ := Aside0.mk (below_step (by repeat (first | (with_reducible first | exact HB.out | apply below_alloc | apply pw_below_drewN | apply below_drew1 | refine below_set ?_ GE571.out | refine below_set ?_ GE582.out) | exact HB.out)) hb); clear HO566; clear HO569; clear HO574; clear HO577; clear HO581; clear BK571; clear BK582; clear HB; have HO566 := n0_; have HO569 := n1_; have HO574 := n2_; have HO577 := n3_; have HO581 := n4_; have HO585 := n5_; have HO588 := n6_; have HO592 := n7_; have BK571 := n8_; have BK582 := n9_; have HB := n10_; clear n0_ n1_ n2_ n3_ n4_ n5_ n6_ n7_ n8_ n9_ n10_; (try clear hb); (try clear hb2); (try clear hk); (try clear hi); (try clear ho0); (try clear ho1); (try clear ho2)) | ((with_reducible refine gate_dst (N := 13) rfl ?_); (try (refine gate_guard (by rfl) ?_; dsimp only)); refine box_event ?hg (N := 13) ?hd (cs := #[.slice none 0 0, .slice none 0 0, .bool false]) (t := 40) ?hr ?_; (case hd => rfl); (case hg => rfl); (case hr => first | (go_simp; done) | (go_simp; rfl)); intro gb593 hg w25 hbox hb; have n0_ := Aside0.mk (Kd.S_below (by (with_reducible repeat (first | apply Kd.S_alloc | apply Kd.S_drewN | apply Kd.S_drew)); exact HO566.out) hb); have n1_ := Aside0.mk (Kd.R_below (by (with_reducible repeat (first | apply Kd.R_alloc | apply Kd.R_drewN | apply Kd.R_drew)); exact HO569.out) hb); have n2_ := Aside0.mk (Kd.S_below (by (with_reducible repeat (first | apply Kd.S_alloc | apply Kd.S_drewN | apply Kd.S_drew)); exact HO574.out) hb); have n3_ := Aside0.mk (Kd.R_below (by (with_reducible repeat (first | apply Kd.R_alloc | apply Kd.R_drewN | apply Kd.R_drew)); exact HO577.out) hb); have n4_ := Aside0.mk (Kd.R_below (by (with_reducible repeat (first | apply Kd.R_alloc | apply Kd.R_drewN | apply Kd.R_drew)); exact HO581.out) hb); have n5_ := Aside0.mk (Kd.S_below (by (with_reducible repeat (first | apply Kd.S_alloc | apply Kd.S_drewN | apply Kd.S_drew)); exact HO585.out) hb); have n6_ := Aside0.mk (Kd.R_below (by (with_reducible repeat (first | apply Kd.R_alloc | apply Kd.R_drewN | apply Kd.R_drew)); exact HO588.out) hb); have n7_ := Aside0.mk (Kd.R_below (by (with_reducible repeat (first | apply Kd.R_alloc | apply Kd.R_drewN | apply Kd.R_drew)); exact HO592.out) hb); have n8_ := Aside0.mk (blk_below (g := gb571) (o := .cells #[.slice Ao15 t564.length co15, .slice Ao17 t567.length co17, .bool t570] 40 (0, 0)) (by (with_reducible repeat (first | refine blk_drewN ?_ _ | refine blk_drew ?_ | refine blk_alloc ?_ _)); exact BK571.out) hb); have n9_ := Aside0.mk (blk_below (g := gb582) (o := .cells #[.slice Ao20 t572.length co20, .slice Ao23 t575.length co23, .bool t578] 40 (0, 0)) (by (with_reducible repeat (first | refine blk_drewN ?_ _ | refine blk_drew ?_ | refine blk_alloc ?_ _)); exact BK582.out) hb); have n10_ := Aside0.mk (below_step (by repeat (first | (with_reducible first | exact HB.out | apply below_alloc | apply pw_below_drewN | apply below_drew1 | refine below_set ?_ GE571.out | refine below_set ?_ GE582.out) | exact HB.out)) hb); have n11_ := Aside0.mk (hbox); have n12_ := Aside0.mk ((by rw [hg]; exact (below_size (by repeat (first | (with_reducible first | exact HB.out | apply below_alloc | apply pw_below_drewN | apply below_drew1 | refine below_set ?_ GE571.out | refine below_set ?_ GE582.out) | exact HB.out))) : w.heap.size ≤ gb593)); have n13_ := Aside0.mk ((by rw [hg]; exact (below_size (by repeat (first | (with_reducible first | exact HB.out | apply below_alloc | apply pw_below_drewN | apply below_drew1 | refine below_set ?_ GE571.out | refine below_set ?_ GE582.out) | exact HB.out))) : w.heap.size ≤ gb593)); have n14_ := Aside0.mk ((by rw [hg]; exact Nat.ne_of_lt (blk_lt (g := gb571) (o := .cells #[.slice Ao15 t564.length co15, .slice Ao17 t567.length co17, .bool t570] 40 (0, 0)) (by (with_reducible repeat (first | refine blk_drewN ?_ _ | refine blk_drew ?_ | refine blk_alloc ?_ _)); exact BK571.out)) : gb571 ≠ gb593)); have n15_ := Aside0.mk ((by rw [hg]; exact Nat.ne_of_gt (blk_lt (g := gb571) (o := .cells #[.slice Ao15 t564.length co15, .slice Ao17 t567.length co17, .bool t570] 40 (0, 0)) (by (with_reducible repeat (first | refine blk_drewN ?_ _ | refine blk_drew ?_ | refine blk_alloc ?_ _)); exact BK571.out)) : gb593 ≠ gb571)); have n16_ := Aside0.mk ((by rw [hg]; exact Nat.ne_of_lt (blk_lt (g := gb582) (o := .cells #[.slice Ao20 t572.length co20, .slice Ao23 t575.length co23, .bool t578] 40 (0, 0)) (by (with_reducible repeat (first | refine blk_drewN ?_ _ | refine blk_drew ?_ | refine blk_alloc ?_ _)); exact BK582.out)) : gb582 ≠ gb593)); have n17_ := Aside0.mk ((by rw [hg]; exact Nat.ne_of_gt (blk_lt (g := gb582) (o := .cells #[.slice Ao20 t572.length co20, .slice Ao23 t575.length co23, .bool t578] 40 (0, 0)) (by (with_reducible repeat (first | refine blk_drewN ?_ _ | refine blk_drew ?_ | refine blk_alloc ?_ _)); exact BK582.out)) : gb593 ≠ gb582)); clear HO566; clear HO569; clear HO574; clear HO577; clear HO581; clear HO585; clear HO588; clear HO592; clear BK571; clear BK582; clear HB; have HO566 := n0_; have HO569 := n1_; have HO574 := n2_; have HO577 := n3_; have HO581 := n4_; have HO585 := n5_; have HO588 := n6_; have HO592 := n7_; have BK571 := n8_; have BK582 := n9_; have HB := n10_; have BK593 := n11_; have GW593 := n12_; have GE593 := n13_; have NB571_593 := n14_; have NB593_571 := n15_; have NB582_593 := n16_; have NB593_582 := n17_; clear n0_ n1_ n2_ n3_ n4_ n5_ n6_ n7_ n8_ n9_ n10_ n11_ n12_ n13_ n14_ n15_ n16_ n17_; clear hb hbox hg; obtain ⟨Ao26, co26, eo26⟩ := Kd.S_slice HO585.out; subst eo26; have hnb27 := NB593_571.out; have hnc27 := NB571_593.out; have hnb28 := NB593_582.out; have hnc28 := NB582_593.out; have hcz29_0 : w25.cell? ⟨gb593, 0, none⟩ = some (.slice none 0 0) := (blk_cell BK593.out 0).trans rfl; have hcz29_1 : w25.cell? ⟨gb593, 1, none⟩ = some (.slice none 0 0) := (blk_cell BK593.out 1).trans rfl; have hcz29_2 : w25.cell? ⟨gb593, 2, none⟩ = some (.bool false) := (blk_cell BK593.out 2).trans rfl; have hfz29_0 := blk_frozen BK593.out 0; have hfz29_1 := blk_frozen BK593.out 1; have hfz29_2 := blk_frozen BK593.out 2; obtain ⟨Ao30, co30, eo30⟩ := Kd.R_slice HO588.out; subst eo30))
  (try simp only [Act.put, List.setIfInBounds_toArray, List.set_cons_zero, List.set_cons_succ])
  go_cut [49] (fun v49 wc => ∃ (kq : Nat) (x49_10 : Bool), v49 = .bool x49_10 ∧ Aside0 (bywashlaw15_DomupBack.j0 kq l0 a1 a2 a3 t562 t579 t590 x49_10 t564 t567 t570 t572 t575 t578 t583 t586 t589 = some r) ∧ Aside0 (kq ≤ k) ∧ Aside0 (Kd.R (Kd.int .i64) 3 wc w.heap.size (fun k_ => some k_ ≠ (v591 : Value).ownBlock ∧ some k_ ≠ ((.slice Ao17 t567.length co17) : Value).ownBlock ∧ some k_ ≠ ((.slice Ao23 t575.length co23) : Value).ownBlock ∧ some k_ ≠ ((.slice Ao30 t586.length co30) : Value).ownBlock) v580 t579) ∧ Aside0 (Kd.R (Kd.int .i64) 3 wc w.heap.size (fun k_ => some k_ ≠ (v580 : Value).ownBlock ∧ some k_ ≠ ((.slice Ao17 t567.length co17) : Value).ownBlock ∧ some k_ ≠ ((.slice Ao23 t575.length co23) : Value).ownBlock ∧ some k_ ≠ ((.slice Ao30 t586.length co30) : Value).ownBlock) v591 t590) ∧ Aside0 (Kd.S (Kd.slice 3 (Kd.int .i64)) 25 wc w.heap.size (fun k_ => some k_ ≠ (v580 : Value).ownBlock ∧ some k_ ≠ (v591 : Value).ownBlock ∧ some k_ ≠ ((.slice Ao17 t567.length co17) : Value).ownBlock ∧ some k_ ≠ ((.slice Ao20 t572.length co20) : Value).ownBlock ∧ some k_ ≠ ((.slice Ao23 t575.length co23) : Value).ownBlock ∧ some k_ ≠ ((.slice Ao26 t583.length co26) : Value).ownBlock ∧ some k_ ≠ ((.slice Ao30 t586.length co30) : Value).ownBlock) (.slice Ao15 t564.length co15) t564) ∧ Aside0 (Kd.R (Kd.int .i64) 3 wc w.heap.size (fun k_ => some k_ ≠ (v580 : Value).ownBlock ∧ some k_ ≠ (v591 : Value).ownBlock ∧ some k_ ≠ ((.slice Ao23 t575.length co23) : Value).ownBlock ∧ some k_ ≠ ((.slice Ao30 t586.length co30) : Value).ownBlock) (.slice Ao17 t567.length co17) t567) ∧ Aside0 (Kd.S (Kd.slice 3 (Kd.int .i64)) 25 wc w.heap.size (fun k_ => some k_ ≠ (v580 : Value).ownBlock ∧ some k_ ≠ (v591 : Value).ownBlock ∧ some k_ ≠ ((.slice Ao15 t564.length co15) : Value).ownBlock ∧ some k_ ≠ ((.slice Ao17 t567.length co17) : Value).ownBlock ∧ some k_ ≠ ((.slice Ao23 t575.length co23) : Value).ownBlock ∧ some k_ ≠ ((.slice Ao26 t583.length co26) : Value).ownBlock ∧ some k_ ≠ ((.slice Ao30 t586.length co30) : Value).ownBlock) (.slice Ao20 t572.length co20) t572) ∧ Aside0 (Kd.R (Kd.int .i64) 3 wc w.heap.size (fun k_ => some k_ ≠ (v580 : Value).ownBlock ∧ some k_ ≠ (v591 : Value).ownBlock ∧ some k_ ≠ ((.slice Ao17 t567.length co17) : Value).ownBlock ∧ some k_ ≠ ((.slice Ao30 t586.length co30) : Value).ownBlock) (.slice Ao23 t575.length co23) t575) ∧ Aside0 (Kd.S (Kd.slice 3 (Kd.int .i64)) 25 wc w.heap.size (fun k_ => some k_ ≠ (v580 : Value).ownBlock ∧ some k_ ≠ (v591 : Value).ownBlock ∧ some k_ ≠ ((.slice Ao15 t564.length co15) : Value).ownBlock ∧ some k_ ≠ ((.slice Ao17 t567.length co17) : Value).ownBlock ∧ some k_ ≠ ((.slice Ao20 t572.length co20) : Value).ownBlock ∧ some k_ ≠ ((.slice Ao23 t575.length co23) : Value).ownBlock ∧ some k_ ≠ ((.slice Ao30 t586.length co30) : Value).ownBlock) (.slice Ao26 t583.length co26) t583) ∧ Aside0 (Kd.R (Kd.int .i64) 3 wc w.heap.size (fun k_ => some k_ ≠ (v580 : Value).ownBlock ∧ some k_ ≠ (v591 : Value).ownBlock ∧ some k_ ≠ ((.slice Ao17 t567.length co17) : Value).ownBlock ∧ some k_ ≠ ((.slice Ao23 t575.length co23) : Value).ownBlock) (.slice Ao30 t586.length co30) t586) ∧ Aside0 (wc.heap[gb571]? = some (.cells #[(.slice Ao15 t564.length co15), (.slice Ao17 t567.length co17), .bool t570] 40 (0, 0))) ∧ Aside0 (wc.heap[gb582]? = some (.cells #[(.slice Ao20 t572.length co20), (.slice Ao23 t575.length co23), .bool t578] 40 (0, 0))) ∧ Aside0 (wc.heap[gb593]? = some (.cells #[(.slice Ao26 t583.length co26), (.slice Ao30 t586.length co30), .bool t589] 40 (0, 0))) ∧ Aside0 (Below w.heap.size w wc))
  case first =>
   have H := HC11.out
   clear HC11
   by_cases c31 : (t567.length : Int) = (l0.length : Int)
   ·rw [if_pos c31] at H
    have c31b0 : ((t567.length : Int) == (l0.length : Int)) = true := beq_iff_eq.mpr c31
    have c31b1 : ((t567.length : Int) != (l0.length : Int)) = false := bne_eq_false_iff_eq.mpr c31
    have c31b2 : (t567.length == l0.length) = true := by first | simpa using c31 | (simp at c31 ⊢; omega)
    clear c31
    (first | rw [c31b0] | (simp only [i64_w, i32_w]; rw [c31b0]) | skip)
    have H' := Aside0.mk H
    clear H
    have hnb32 := NB571_582.out
    have hnc32 := NB582_571.out
    have hnb33 := NB571_593.out
    have hnc33 := NB593_571.out
    have hcz34_0 : w25.cell? ⟨gb571, 0, none⟩ = some (.slice Ao15 t564.length co15) := (blk_cell BK571.out 0).trans rfl
    have hcz34_1 : w25.cell? ⟨gb571, 1, none⟩ = some (.slice Ao17 t567.length co17) := (blk_cell BK571.out 1).trans rfl
    have hcz34_2 : w25.cell? ⟨gb571, 2, none⟩ = some (.bool t570) := (blk_cell BK571.out 2).trans rfl
    have hfz34_0 := blk_frozen BK571.out 0
    have hfz34_1 := blk_frozen BK571.out 1
    have hfz34_2 := blk_frozen BK571.out 2
    have hnb35 := NB582_593.out
    have hnc35 := NB593_582.out
    have hcz36_0 : w25.cell? ⟨gb582, 0, none⟩ = some (.slice Ao20 t572.length co20) := (blk_cell BK582.out 0).trans rfl
    have hcz36_1 : w25.cell? ⟨gb582, 1, none⟩ = some (.slice Ao23 t575.length co23) := (blk_cell BK582.out 1).trans rfl
    have hcz36_2 : w25.cell? ⟨gb582, 2, none⟩ = some (.bool t578) := (blk_cell BK582.out 2).trans rfl
    have hfz36_0 := blk_frozen BK582.out 0
    have hfz36_1 := blk_frozen BK582.out 1
    have hfz36_2 := blk_frozen BK582.out 2
    go_wp2
    go_meet
    case rel => exact ⟨_, (((t575.length : Int) != (l0.length : Int))), (by first | rfl | (simp; done) | (simp [*]; done)), H', ⟨by first | omega | exact Nat.le_refl _⟩, ⟨by (with_reducible repeat (first | apply Kd.R_alloc | apply Kd.R_drewN | apply Kd.R_drew)); exact Kd.R_mono (Kd.R_far (p := ⟨gb593, 2, none⟩) (Kd.R_far (p := ⟨gb593, 1, none⟩) (Kd.R_far (p := ⟨gb593, 0, none⟩) (Kd.R_types HO581.out BK593.out (by decide)) (fun _ hk => hk.2) (.slice Ao26 t583.length co26)) (fun _ hk => hk.2) (.slice Ao30 t586.length co30)) (fun _ hk => hk.2) (.bool t589)) (fun _ hk => ⟨hk.1.2, ⟨hk.1.1.1.2, ⟨hk.1.1.1.1, hk.1.1.2⟩⟩⟩)⟩, ⟨by (with_reducible repeat (first | apply Kd.R_alloc | apply Kd.R_drewN | apply Kd.R_drew)); exact Kd.R_mono (Kd.R_far (p := ⟨gb593, 2, none⟩) (Kd.R_far (p := ⟨gb593, 1, none⟩) (Kd.R_far (p := ⟨gb593, 0, none⟩) (Kd.R_types HO592.out BK593.out (by decide)) (fun _ hk => hk.2) (.slice Ao26 t583.length co26)) (fun _ hk => hk.2) (.slice Ao30 t586.length co30)) (fun _ hk => hk.2) (.bool t589)) (fun _ hk => ⟨hk.1.2, ⟨hk.1.1.1.2, ⟨hk.1.1.2, hk.1.1.1.1⟩⟩⟩)⟩, ⟨by (with_reducible repeat (first | apply Kd.S_alloc | apply Kd.S_drewN | apply Kd.S_drew)); exact Kd.S_mono (Kd.S_far (p := ⟨gb593, 2, none⟩) (Kd.S_far (p := ⟨gb593, 1, none⟩) (Kd.S_far (p := ⟨gb593, 0, none⟩) (Kd.S_types HO566.out BK593.out (by decide)) (fun _ hk => hk.2) (.slice Ao26 t583.length co26)) (fun _ hk => hk.2) (.slice Ao30 t586.length co30)) (fun _ hk => hk.2) (.bool t589)) (fun _ hk => ⟨hk.1.1.1.1.2, ⟨hk.1.2, ⟨hk.1.1.1.1.1.1.1, ⟨hk.1.1.1.1.1.1.2, ⟨hk.1.1.1.1.1.2, ⟨hk.1.1.1.2, hk.1.1.2⟩⟩⟩⟩⟩⟩)⟩, ⟨by (with_reducible repeat (first | apply Kd.R_alloc | apply Kd.R_drewN | apply Kd.R_drew)); exact Kd.R_mono (Kd.R_far (p := ⟨gb593, 2, none⟩) (Kd.R_far (p := ⟨gb593, 1, none⟩) (Kd.R_far (p := ⟨gb593, 0, none⟩) (Kd.R_types HO569.out BK593.out (by decide)) (fun _ hk => hk.2) (.slice Ao26 t583.length co26)) (fun _ hk => hk.2) (.slice Ao30 t586.length co30)) (fun _ hk => hk.2) (.bool t589)) (fun _ hk => ⟨hk.1.1.1.2, ⟨hk.1.2, ⟨hk.1.1.1.1.2, hk.1.1.2⟩⟩⟩)⟩, ⟨by (with_reducible repeat (first | apply Kd.S_alloc | apply Kd.S_drewN | apply Kd.S_drew)); exact Kd.S_mono (Kd.S_far (p := ⟨gb593, 2, none⟩) (Kd.S_far (p := ⟨gb593, 1, none⟩) (Kd.S_far (p := ⟨gb593, 0, none⟩) (Kd.S_types HO574.out BK593.out (by decide)) (fun _ hk => hk.2) (.slice Ao26 t583.length co26)) (fun _ hk => hk.2) (.slice Ao30 t586.length co30)) (fun _ hk => hk.2) (.bool t589)) (fun _ hk => ⟨hk.1.1.1.1.1.1.2, ⟨hk.1.2, ⟨hk.1.1.1.1.1.2, ⟨hk.1.1.1.1.2, ⟨hk.1.1.1.1.1.1.1, ⟨hk.1.1.1.2, hk.1.1.2⟩⟩⟩⟩⟩⟩)⟩, ⟨by (with_reducible repeat (first | apply Kd.R_alloc | apply Kd.R_drewN | apply Kd.R_drew)); exact Kd.R_mono (Kd.R_far (p := ⟨gb593, 2, none⟩) (Kd.R_far (p := ⟨gb593, 1, none⟩) (Kd.R_far (p := ⟨gb593, 0, none⟩) (Kd.R_types HO577.out BK593.out (by decide)) (fun _ hk => hk.2) (.slice Ao26 t583.length co26)) (fun _ hk => hk.2) (.slice Ao30 t586.length co30)) (fun _ hk => hk.2) (.bool t589)) (fun _ hk => ⟨hk.1.1.1.1, ⟨hk.1.2, ⟨hk.1.1.1.2, hk.1.1.2⟩⟩⟩)⟩, ⟨by (with_reducible repeat (first | apply Kd.S_alloc | apply Kd.S_drewN | apply Kd.S_drew)); exact Kd.S_mono (Kd.S_far (p := ⟨gb593, 2, none⟩) (Kd.S_far (p := ⟨gb593, 1, none⟩) (Kd.S_far (p := ⟨gb593, 0, none⟩) (Kd.S_types HO585.out BK593.out (by decide)) (fun _ hk => hk.2) (.slice Ao26 t583.length co26)) (fun _ hk => hk.2) (.slice Ao30 t586.length co30)) (fun _ hk => hk.2) (.bool t589)) (fun _ hk => ⟨hk.1.2, ⟨hk.1.1.1.1.1.1.2, ⟨hk.1.1.1.1.1.2, ⟨hk.1.1.1.1.2, ⟨hk.1.1.1.2, ⟨hk.1.1.2, hk.1.1.1.1.1.1.1⟩⟩⟩⟩⟩⟩)⟩, ⟨by (with_reducible repeat (first | apply Kd.R_alloc | apply Kd.R_drewN | apply Kd.R_drew)); exact Kd.R_mono (Kd.R_far (p := ⟨gb593, 2, none⟩) (Kd.R_far (p := ⟨gb593, 1, none⟩) (Kd.R_far (p := ⟨gb593, 0, none⟩) (Kd.R_types HO588.out BK593.out (by decide)) (fun _ hk => hk.2) (.slice Ao26 t583.length co26)) (fun _ hk => hk.2) (.slice Ao30 t586.length co30)) (fun _ hk => hk.2) (.bool t589)) (fun _ hk => ⟨hk.1.2, ⟨hk.1.1.1.1, ⟨hk.1.1.1.2, hk.1.1.2⟩⟩⟩)⟩, ⟨by (with_reducible repeat (first | refine blk_drewN ?_ _ | refine blk_drew ?_ | refine blk_alloc ?_ _)); refine blk_far ?_ NB571_593.out _; (with_reducible repeat (first | refine blk_drewN ?_ _ | refine blk_drew ?_ | refine blk_alloc ?_ _)); refine blk_far ?_ NB571_593.out _; (with_reducible repeat (first | refine blk_drewN ?_ _ | refine blk_drew ?_ | refine blk_alloc ?_ _)); refine blk_far ?_ NB571_593.out _; (with_reducible repeat (first | refine blk_drewN ?_ _ | refine blk_drew ?_ | refine blk_alloc ?_ _)); exact BK571.out⟩, ⟨by (with_reducible repeat (first | refine blk_drewN ?_ _ | refine blk_drew ?_ | refine blk_alloc ?_ _)); refine blk_far ?_ NB582_593.out _; (with_reducible repeat (first | refine blk_drewN ?_ _ | refine blk_drew ?_ | refine blk_alloc ?_ _)); refine blk_far ?_ NB582_593.out _; (with_reducible repeat (first | refine blk_drewN ?_ _ | refine blk_drew ?_ | refine blk_alloc ?_ _)); refine blk_far ?_ NB582_593.out _; (with_reducible repeat (first | refine blk_drewN ?_ _ | refine blk_drew ?_ | refine blk_alloc ?_ _)); exact BK582.out⟩, ⟨by (with_reducible repeat (first | refine blk_drewN ?_ _ | refine blk_drew ?_ | refine blk_alloc ?_ _)); refine blk_put (cs := #[.slice Ao26 t583.length co26, .slice Ao30 t586.length co30, .bool false]) ?_ 2 _ rfl; (with_reducible repeat (first | refine blk_drewN ?_ _ | refine blk_drew ?_ | refine blk_alloc ?_ _)); refine blk_put (cs := #[.slice Ao26 t583.length co26, .slice none 0 0, .bool false]) ?_ 1 _ rfl; (with_reducible repeat (first | refine blk_drewN ?_ _ | refine blk_drew ?_ | refine blk_alloc ?_ _)); refine blk_put (cs := #[.slice none 0 0, .slice none 0 0, .bool false]) ?_ 0 _ rfl; (with_reducible repeat (first | refine blk_drewN ?_ _ | refine blk_drew ?_ | refine blk_alloc ?_ _)); exact BK593.out⟩, ⟨by repeat (first | (with_reducible first | exact HB.out | apply below_alloc | apply pw_below_drewN | apply below_drew1 | refine below_set ?_ GE571.out | refine below_set ?_ GE582.out | refine below_set ?_ GE593.out) | exact HB.out)⟩⟩
   ·rw [if_neg c31] at H
    have c31b0 : ((t567.length : Int) == (l0.length : Int)) = false := beq_eq_false_iff_ne.mpr c31
    have c31b1 : ((t567.length : Int) != (l0.length : Int)) = true := bne_iff_ne.mpr c31
    have c31b2 : (t567.length == l0.length) = false := by first | simpa using c31 | (simp at c31 ⊢; omega)
    (first | rw [c31b0] | (simp only [i64_w, i32_w]; rw [c31b0]) | skip)
    have H' := Aside0.mk H
    clear H
    have hnb37 := NB571_582.out
    have hnc37 := NB582_571.out
    have hnb38 := NB571_593.out
    have hnc38 := NB593_571.out
    have hcz39_0 : w25.cell? ⟨gb571, 0, none⟩ = some (.slice Ao15 t564.length co15) := (blk_cell BK571.out 0).trans rfl
    have hcz39_1 : w25.cell? ⟨gb571, 1, none⟩ = some (.slice Ao17 t567.length co17) := (blk_cell BK571.out 1).trans rfl
    have hcz39_2 : w25.cell? ⟨gb571, 2, none⟩ = some (.bool t570) := (blk_cell BK571.out 2).trans rfl
    have hfz39_0 := blk_frozen BK571.out 0
    have hfz39_1 := blk_frozen BK571.out 1
    have hfz39_2 := blk_frozen BK571.out 2
    go_wp2
    go_meet
    case rel => exact ⟨_, (true), (by first | rfl | (simp; done) | (simp [*]; done)), H', ⟨by first | omega | exact Nat.le_refl _⟩, ⟨by (with_reducible repeat (first | apply Kd.R_alloc | apply Kd.R_drewN | apply Kd.R_drew)); exact Kd.R_mono (Kd.R_far (p := ⟨gb593, 2, none⟩) (Kd.R_far (p := ⟨gb593, 1, none⟩) (Kd.R_far (p := ⟨gb593, 0, none⟩) (Kd.R_types HO581.out BK593.out (by decide)) (fun _ hk => hk.2) (.slice Ao26 t583.length co26)) (fun _ hk => hk.2) (.slice Ao30 t586.length co30)) (fun _ hk => hk.2) (.bool t589)) (fun _ hk => ⟨hk.1.2, ⟨hk.1.1.1.2, ⟨hk.1.1.1.1, hk.1.1.2⟩⟩⟩)⟩, ⟨by (with_reducible repeat (first | apply Kd.R_alloc | apply Kd.R_drewN | apply Kd.R_drew)); exact Kd.R_mono (Kd.R_far (p := ⟨gb593, 2, none⟩) (Kd.R_far (p := ⟨gb593, 1, none⟩) (Kd.R_far (p := ⟨gb593, 0, none⟩) (Kd.R_types HO592.out BK593.out (by decide)) (fun _ hk => hk.2) (.slice Ao26 t583.length co26)) (fun _ hk => hk.2) (.slice Ao30 t586.length co30)) (fun _ hk => hk.2) (.bool t589)) (fun _ hk => ⟨hk.1.2, ⟨hk.1.1.1.2, ⟨hk.1.1.2, hk.1.1.1.1⟩⟩⟩)⟩, ⟨by (with_reducible repeat (first | apply Kd.S_alloc | apply Kd.S_drewN | apply Kd.S_drew)); exact Kd.S_mono (Kd.S_far (p := ⟨gb593, 2, none⟩) (Kd.S_far (p := ⟨gb593, 1, none⟩) (Kd.S_far (p := ⟨gb593, 0, none⟩) (Kd.S_types HO566.out BK593.out (by decide)) (fun _ hk => hk.2) (.slice Ao26 t583.length co26)) (fun _ hk => hk.2) (.slice Ao30 t586.length co30)) (fun _ hk => hk.2) (.bool t589)) (fun _ hk => ⟨hk.1.1.1.1.2, ⟨hk.1.2, ⟨hk.1.1.1.1.1.1.1, ⟨hk.1.1.1.1.1.1.2, ⟨hk.1.1.1.1.1.2, ⟨hk.1.1.1.2, hk.1.1.2⟩⟩⟩⟩⟩⟩)⟩, ⟨by (with_reducible repeat (first | apply Kd.R_alloc | apply Kd.R_drewN | apply Kd.R_drew)); exact Kd.R_mono (Kd.R_far (p := ⟨gb593, 2, none⟩) (Kd.R_far (p := ⟨gb593, 1, none⟩) (Kd.R_far (p := ⟨gb593, 0, none⟩) (Kd.R_types HO569.out BK593.out (by decide)) (fun _ hk => hk.2) (.slice Ao26 t583.length co26)) (fun _ hk => hk.2) (.slice Ao30 t586.length co30)) (fun _ hk => hk.2) (.bool t589)) (fun _ hk => ⟨hk.1.1.1.2, ⟨hk.1.2, ⟨hk.1.1.1.1.2, hk.1.1.2⟩⟩⟩)⟩, ⟨by (with_reducible repeat (first | apply Kd.S_alloc | apply Kd.S_drewN | apply Kd.S_drew)); exact Kd.S_mono (Kd.S_far (p := ⟨gb593, 2, none⟩) (Kd.S_far (p := ⟨gb593, 1, none⟩) (Kd.S_far (p := ⟨gb593, 0, none⟩) (Kd.S_types HO574.out BK593.out (by decide)) (fun _ hk => hk.2) (.slice Ao26 t583.length co26)) (fun _ hk => hk.2) (.slice Ao30 t586.length co30)) (fun _ hk => hk.2) (.bool t589)) (fun _ hk => ⟨hk.1.1.1.1.1.1.2, ⟨hk.1.2, ⟨hk.1.1.1.1.1.2, ⟨hk.1.1.1.1.2, ⟨hk.1.1.1.1.1.1.1, ⟨hk.1.1.1.2, hk.1.1.2⟩⟩⟩⟩⟩⟩)⟩, ⟨by (with_reducible repeat (first | apply Kd.R_alloc | apply Kd.R_drewN | apply Kd.R_drew)); exact Kd.R_mono (Kd.R_far (p := ⟨gb593, 2, none⟩) (Kd.R_far (p := ⟨gb593, 1, none⟩) (Kd.R_far (p := ⟨gb593, 0, none⟩) (Kd.R_types HO577.out BK593.out (by decide)) (fun _ hk => hk.2) (.slice Ao26 t583.length co26)) (fun _ hk => hk.2) (.slice Ao30 t586.length co30)) (fun _ hk => hk.2) (.bool t589)) (fun _ hk => ⟨hk.1.1.1.1, ⟨hk.1.2, ⟨hk.1.1.1.2, hk.1.1.2⟩⟩⟩)⟩, ⟨by (with_reducible repeat (first | apply Kd.S_alloc | apply Kd.S_drewN | apply Kd.S_drew)); exact Kd.S_mono (Kd.S_far (p := ⟨gb593, 2, none⟩) (Kd.S_far (p := ⟨gb593, 1, none⟩) (Kd.S_far (p := ⟨gb593, 0, none⟩) (Kd.S_types HO585.out BK593.out (by decide)) (fun _ hk => hk.2) (.slice Ao26 t583.length co26)) (fun _ hk => hk.2) (.slice Ao30 t586.length co30)) (fun _ hk => hk.2) (.bool t589)) (fun _ hk => ⟨hk.1.2, ⟨hk.1.1.1.1.1.1.2, ⟨hk.1.1.1.1.1.2, ⟨hk.1.1.1.1.2, ⟨hk.1.1.1.2, ⟨hk.1.1.2, hk.1.1.1.1.1.1.1⟩⟩⟩⟩⟩⟩)⟩, ⟨by (with_reducible repeat (first | apply Kd.R_alloc | apply Kd.R_drewN | apply Kd.R_drew)); exact Kd.R_mono (Kd.R_far (p := ⟨gb593, 2, none⟩) (Kd.R_far (p := ⟨gb593, 1, none⟩) (Kd.R_far (p := ⟨gb593, 0, none⟩) (Kd.R_types HO588.out BK593.out (by decide)) (fun _ hk => hk.2) (.slice Ao26 t583.length co26)) (fun _ hk => hk.2) (.slice Ao30 t586.length co30)) (fun _ hk => hk.2) (.bool t589)) (fun _ hk => ⟨hk.1.2, ⟨hk.1.1.1.1, ⟨hk.1.1.1.2, hk.1.1.2⟩⟩⟩)⟩, ⟨by (with_reducible repeat (first | refine blk_drewN ?_ _ | refine blk_drew ?_ | refine blk_alloc ?_ _)); refine blk_far ?_ NB571_593.out _; (with_reducible repeat (first | refine blk_drewN ?_ _ | refine blk_drew ?_ | refine blk_alloc ?_ _)); refine blk_far ?_ NB571_593.out _; (with_reducible repeat (first | refine blk_drewN ?_ _ | refine blk_drew ?_ | refine blk_alloc ?_ _)); refine blk_far ?_ NB571_593.out _; (with_reducible repeat (first | refine blk_drewN ?_ _ | refine blk_drew ?_ | refine blk_alloc ?_ _)); exact BK571.out⟩, ⟨by (with_reducible repeat (first | refine blk_drewN ?_ _ | refine blk_drew ?_ | refine blk_alloc ?_ _)); refine blk_far ?_ NB582_593.out _; (with_reducible repeat (first | refine blk_drewN ?_ _ | refine blk_drew ?_ | refine blk_alloc ?_ _)); refine blk_far ?_ NB582_593.out _; (with_reducible repeat (first | refine blk_drewN ?_ _ | refine blk_drew ?_ | refine blk_alloc ?_ _)); refine blk_far ?_ NB582_593.out _; (with_reducible repeat (first | refine blk_drewN ?_ _ | refine blk_drew ?_ | refine blk_alloc ?_ _)); exact BK582.out⟩, ⟨by (with_reducible repeat (first | refine blk_drewN ?_ _ | refine blk_drew ?_ | refine blk_alloc ?_ _)); refine blk_put (cs := #[.slice Ao26 t583.length co26, .slice Ao30 t586.length co30, .bool false]) ?_ 2 _ rfl; (with_reducible repeat (first | refine blk_drewN ?_ _ | refine blk_drew ?_ | refine blk_alloc ?_ _)); refine blk_put (cs := #[.slice Ao26 t583.length co26, .slice none 0 0, .bool false]) ?_ 1 _ rfl; (with_reducible repeat (first | refine blk_drewN ?_ _ | refine blk_drew ?_ | refine blk_alloc ?_ _)); refine blk_put (cs := #[.slice none 0 0, .slice none 0 0, .bool false]) ?_ 0 _ rfl; (with_reducible repeat (first | refine blk_drewN ?_ _ | refine blk_drew ?_ | refine blk_alloc ?_ _)); exact BK593.out⟩, ⟨by repeat (first | (with_reducible first | exact HB.out | apply below_alloc | apply pw_below_drewN | apply below_drew1 | refine below_set ?_ GE571.out | refine below_set ?_ GE582.out | refine below_set ?_ GE593.out) | exact HB.out)⟩⟩
  case rest =>
   clear HC11
   try clear c1
   try clear c2
   try clear p2
   try clear c3
   try clear c7
   try clear c10
   try clear c14
   try clear c21
   try clear c27
   try clear c28
   try clear c31
   try clear c31b0
   try clear c31b1
   try clear c31b2
   try clear c32
   try clear c33
   try clear c35
   try clear c37
   try clear c38
   try clear hcz16_0
   try clear hcz16_1
   try clear hcz16_2
   try clear hcz22_0
   try clear hcz22_1
   try clear hcz22_2
   try clear hcz29_0
   try clear hcz29_1
   try clear hcz29_2
   try clear hcz34_0
   try clear hcz34_1
   try clear hcz34_2
   try clear hcz36_0
   try clear hcz36_1
   try clear hcz36_2
   try clear hcz39_0
   try clear hcz39_1
   try clear hcz39_2
   try clear hfz16_0
   try clear hfz16_1
   try clear hfz16_2
   try clear hfz22_0
   try clear hfz22_1
   try clear hfz22_2
   try clear hfz29_0
   try clear hfz29_1
   try clear hfz29_2
   try clear hfz34_0
   try clear hfz34_1
   try clear hfz34_2
   try clear hfz36_0
   try clear hfz36_1
   try clear hfz36_2
   try clear hfz39_0
   try clear hfz39_1
   try clear hfz39_2
   obtain ⟨kq, x49_10, rfl, HA, HJ10, HO_12, HO_14, HO_572000, HO_572001, HO_583000, HO_583001, HO_594000, HO_594001, BK571, BK582, BK593, HB⟩ := hcut
   cases kq with
   | zero => exact absurd HA.out (by simp [bywashlaw15_DomupBack.j0])
   | succ kj10 =>
    have H := HA.out
    clear HA
    simp only [bywashlaw15_DomupBack.j0] at H
    by_cases c40 : x49_10 = true
    ·subst c40
     have H1 : (some false) = some r := by rw [if_pos rfl] at H; exact H
     clear H
     have H := H1
     clear H1
     obtain rfl := Option.some.inj H
     go_wp2
     go_ret
     exact ⟨by first | rfl | (simp [errW_none, errW_some] <;> rfl) | (simp [*, errW_none, errW_some] <;> rfl) | (exfalso; (try simp_all); (try omega); done), by repeat (first | (with_reducible first | exact HB.out | apply below_alloc | apply pw_below_drewN | apply below_drew1 | refine below_set ?_ GE571.out | refine below_set ?_ GE582.out | refine below_set ?_ GE593.out) | exact HB.out)⟩
    ·replace c40 := Bool.eq_false_iff.mpr c40
     subst c40
     have H1 : (if a3 ≥ 0 then (if a3 < (l0.length : Int) then (if 0 ≤ a3 then (if a3 < (t567.length : Int) then (if (rd t567 a3) ≥ 0 then (if a3 < (t575.length : Int) then ((dom_Dominates.f kj10 t567 (rd t575 a3) a3).bind fun t596 => (bywashlaw15_DomupBack.j1 kj10 a1 a2 t562 t579 t590 (!t596) t564 t567 t570 t583 t586 t589)) else (none)) else (bywashlaw15_DomupBack.j1 kj10 a1 a2 t562 t579 t590 false t564 t567 t570 t583 t586 t589)) else (none)) else (none)) else (bywashlaw15_DomupBack.j1 kj10 a1 a2 t562 t579 t590 false t564 t567 t570 t583 t586 t589)) else (bywashlaw15_DomupBack.j1 kj10 a1 a2 t562 t579 t590 false t564 t567 t570 t583 t586 t589)) = some r := by rw [if_neg (show ¬ (false = true) by decide)] at H; exact H
     clear H
     have H := H1
     clear H1
     have HC41 := Aside0.mk H
     clear H
     go_upto_region 9 with (fail)
     go_cut [77] (fun v77 wc => ∃ (kq : Nat) (x77_40 : Bool), v77 = .bool x77_40 ∧ Aside0 (bywashlaw15_DomupBack.j1 kq a1 a2 t562 t579 t590 x77_40 t564 t567 t570 t583 t586 t589 = some r) ∧ Aside0 (kq ≤ kj10) ∧ Aside0 (Kd.R (Kd.int .i64) 3 wc w.heap.size (fun k_ => some k_ ≠ (v591 : Value).ownBlock ∧ some k_ ≠ ((.slice Ao17 t567.length co17) : Value).ownBlock ∧ some k_ ≠ ((.slice Ao23 t575.length co23) : Value).ownBlock ∧ some k_ ≠ ((.slice Ao30 t586.length co30) : Value).ownBlock) v580 t579) ∧ Aside0 (Kd.R (Kd.int .i64) 3 wc w.heap.size (fun k_ => some k_ ≠ (v580 : Value).ownBlock ∧ some k_ ≠ ((.slice Ao17 t567.length co17) : Value).ownBlock ∧ some k_ ≠ ((.slice Ao23 t575.length co23) : Value).ownBlock ∧ some k_ ≠ ((.slice Ao30 t586.length co30) : Value).ownBlock) v591 t590) ∧ Aside0 (Kd.S (Kd.slice 3 (Kd.int .i64)) 25 wc w.heap.size (fun k_ => some k_ ≠ (v580 : Value).ownBlock ∧ some k_ ≠ (v591 : Value).ownBlock ∧ some k_ ≠ ((.slice Ao17 t567.length co17) : Value).ownBlock ∧ some k_ ≠ ((.slice Ao20 t572.length co20) : Value).ownBlock ∧ some k_ ≠ ((.slice Ao23 t575.length co23) : Value).ownBlock ∧ some k_ ≠ ((.slice Ao26 t583.length co26) : Value).ownBlock ∧ some k_ ≠ ((.slice Ao30 t586.length co30) : Value).ownBlock) (.slice Ao15 t564.length co15) t564) ∧ Aside0 (Kd.R (Kd.int .i64) 3 wc w.heap.size (fun k_ => some k_ ≠ (v580 : Value).ownBlock ∧ some k_ ≠ (v591 : Value).ownBlock ∧ some k_ ≠ ((.slice Ao23 t575.length co23) : Value).ownBlock ∧ some k_ ≠ ((.slice Ao30 t586.length co30) : Value).ownBlock) (.slice Ao17 t567.length co17) t567) ∧ Aside0 (Kd.S (Kd.slice 3 (Kd.int .i64)) 25 wc w.heap.size (fun k_ => some k_ ≠ (v580 : Value).ownBlock ∧ some k_ ≠ (v591 : Value).ownBlock ∧ some k_ ≠ ((.slice Ao15 t564.length co15) : Value).ownBlock ∧ some k_ ≠ ((.slice Ao17 t567.length co17) : Value).ownBlock ∧ some k_ ≠ ((.slice Ao23 t575.length co23) : Value).ownBlock ∧ some k_ ≠ ((.slice Ao26 t583.length co26) : Value).ownBlock ∧ some k_ ≠ ((.slice Ao30 t586.length co30) : Value).ownBlock) (.slice Ao20 t572.length co20) t572) ∧ Aside0 (Kd.R (Kd.int .i64) 3 wc w.heap.size (fun k_ => some k_ ≠ (v580 : Value).ownBlock ∧ some k_ ≠ (v591 : Value).ownBlock ∧ some k_ ≠ ((.slice Ao17 t567.length co17) : Value).ownBlock ∧ some k_ ≠ ((.slice Ao30 t586.length co30) : Value).ownBlock) (.slice Ao23 t575.length co23) t575) ∧ Aside0 (Kd.S (Kd.slice 3 (Kd.int .i64)) 25 wc w.heap.size (fun k_ => some k_ ≠ (v580 : Value).ownBlock ∧ some k_ ≠ (v591 : Value).ownBlock ∧ some k_ ≠ ((.slice Ao15 t564.length co15) : Value).ownBlock ∧ some k_ ≠ ((.slice Ao17 t567.length co17) : Value).ownBlock ∧ some k_ ≠ ((.slice Ao20 t572.length co20) : Value).ownBlock ∧ some k_ ≠ ((.slice Ao23 t575.length co23) : Value).ownBlock ∧ some k_ ≠ ((.slice Ao30 t586.length co30) : Value).ownBlock) (.slice Ao26 t583.length co26) t583) ∧ Aside0 (Kd.R (Kd.int .i64) 3 wc w.heap.size (fun k_ => some k_ ≠ (v580 : Value).ownBlock ∧ some k_ ≠ (v591 : Value).ownBlock ∧ some k_ ≠ ((.slice Ao17 t567.length co17) : Value).ownBlock ∧ some k_ ≠ ((.slice Ao23 t575.length co23) : Value).ownBlock) (.slice Ao30 t586.length co30) t586) ∧ Aside0 (wc.heap[gb571]? = some (.cells #[(.slice Ao15 t564.length co15), (.slice Ao17 t567.length co17), .bool t570] 40 (0, 0))) ∧ Aside0 (wc.heap[gb582]? = some (.cells #[(.slice Ao20 t572.length co20), (.slice Ao23 t575.length co23), .bool t578] 40 (0, 0))) ∧ Aside0 (wc.heap[gb593]? = some (.cells #[(.slice Ao26 t583.length co26), (.slice Ao30 t586.length co30), .bool t589] 40 (0, 0))) ∧ Aside0 (Below w.heap.size w wc))
     case first =>
      have H := HC41.out
      clear HC41
      by_cases c42 : a3 ≥ 0
      ·rw [if_pos c42] at H
       have c42b0 : decide (0 ≤ a3) = true := decide_eq_true c42
       clear c42
       (first | rw [c42b0] | (simp only [i64_w, i32_w]; rw [c42b0]) | skip)
       by_cases c43 : a3 < (l0.length : Int)
       ·rw [if_pos c43] at H
        have c43b0 : decide (a3 < (l0.length : Int)) = true := decide_eq_true c43
        clear c43
        by_cases c44 : 0 ≤ a3
        ·rw [if_pos c44] at H
         have c44b0 : decide (0 ≤ a3) = true := decide_eq_true c44
         clear c44
         by_cases c45 : a3 < (t567.length : Int)
         ·rw [if_pos c45] at H
          have c45b0 : decide (a3 < (t567.length : Int)) = true := decide_eq_true c45
          clear c45
          by_cases c46 : (rd t567 a3) ≥ 0
          ·rw [if_pos c46] at H
           have c46b0 : decide (0 ≤ (rd t567 a3)) = true := decide_eq_true c46
           clear c46
           by_cases c47 : a3 < (t575.length : Int)
           ·rw [if_pos c47] at H
            have c47b0 : decide (a3 < (t575.length : Int)) = true := decide_eq_true c47
            clear c47
            replace H := Option.bind_eq_some_iff.mp H
            obtain ⟨t596, A480, H⟩ := H
            replace H : (bywashlaw15_DomupBack.j1 kj10 a1 a2 t562 t579 t590 (!t596) t564 t567 t570 t583 t586 t589) = some r := H
            have A48 := Aside0.mk A480
            clear A480
            have H' := Aside0.mk H
            clear H
            try go_wp2
            have n0_ := Aside0.mk (Kd.R_drew HO_12.out)
            have n1_ := Aside0.mk (Kd.R_drew HO_14.out)
            have n2_ := Aside0.mk (Kd.S_drew HO_572000.out)
            have n3_ := Aside0.mk (Kd.R_drew HO_572001.out)
            have n4_ := Aside0.mk (Kd.S_drew HO_583000.out)
            have n5_ := Aside0.mk (Kd.R_drew HO_583001.out)
            have n6_ := Aside0.mk (Kd.S_drew HO_594000.out)
            have n7_ := Aside0.mk (Kd.R_drew HO_594001.out)
            have n8_ := Aside0.mk (blk_drew BK571.out)
            have n9_ := Aside0.mk (blk_drew BK582.out)
            have n10_ := Aside0.mk (blk_drew BK593.out)
            have n11_ := Aside0.mk (below_drew1 HB.out)
            clear HO_12
            clear HO_14
            clear HO_572000
            clear HO_572001
            clear HO_583000
            clear HO_583001
            clear HO_594000
            clear HO_594001
            clear BK571
            clear BK582
            clear BK593
            clear HB
            have HO_12 := n0_
            have HO_14 := n1_
            have HO_572000 := n2_
            have HO_572001 := n3_
            have HO_583000 := n4_
            have HO_583001 := n5_
            have HO_594000 := n6_
            have HO_594001 := n7_
            have BK571 := n8_
            have BK582 := n9_
            have BK593 := n10_
            have HB := n11_
            clear n0_ n1_ n2_ n3_ n4_ n5_ n6_ n7_ n8_ n9_ n10_ n11_
            have p594 : 0 ≤ (a3 : Int) := of_decide_eq_true (by first | (with_reducible assumption) | assumption)
            have q594 : a3 < (t567.length : Int) := of_decide_eq_true (by first | (with_reducible assumption) | assumption)
            (try (obtain ⟨Ar_, cr_, er_⟩ := Kd.R_slice HO_572001.out; subst er_))
            obtain ⟨ad594, e594, hx594_0⟩ := Kd.at_int (Kd.R_reads' HO_572001.out).2.2 a3 p594 q594
            cases e594
            replace p594 := eq_true p594
            replace q594 := eq_true q594
            have p595 : 0 ≤ (a3 : Int) := of_decide_eq_true (by first | (with_reducible assumption) | assumption)
            have q595 : a3 < (t575.length : Int) := of_decide_eq_true (by first | (with_reducible assumption) | assumption)
            (try (obtain ⟨Ar_, cr_, er_⟩ := Kd.R_slice HO_583001.out; subst er_))
            obtain ⟨ad595, e595, hx595_0⟩ := Kd.at_int (Kd.R_reads' HO_583001.out).2.2 a3 p595 q595
            cases e595
            replace p595 := eq_true p595
            replace q595 := eq_true q595
            refine start_ (n := 28) (S := fun w' => w'.cell? ⟨gb571, 0, none⟩ = some (.slice Ao15 t564.length co15) ∧ w'.cell? ⟨gb571, 1, none⟩ = some (.slice (some ad594) t567.length co17) ∧ w'.cell? ⟨gb571, 2, none⟩ = some (.bool t570) ∧ w'.cell? ⟨gb582, 0, none⟩ = some (.slice Ao20 t572.length co20) ∧ w'.cell? ⟨gb582, 1, none⟩ = some (.slice (some ad595) t575.length co23) ∧ w'.cell? ⟨gb582, 2, none⟩ = some (.bool t578) ∧ w'.cell? (ad594.add (a3).toNat) = some (.int .i64 (rd t567 a3)) ∧ w'.cell? (ad595.add (a3).toNat) = some (.int .i64 (rd t575 a3))) (ds := []) #[false,false,false,false,false,false,false,false,false,false,false,false,false,false,false,false,false,false,false,false,false,false,false,false,false,false,false,false] (by kernel_rfl) rfl rfl ⟨(blk_cell BK571.out 0).trans rfl, (blk_cell BK571.out 1).trans rfl, (blk_cell BK571.out 2).trans rfl, (blk_cell BK582.out 0).trans rfl, (blk_cell BK582.out 1).trans rfl, (blk_cell BK582.out 2).trans rfl, hx594_0, hx595_0⟩ (fun hHeld => ?_); refine with_tabW bywashlaw15_DomupBack.tab9 bywashlaw15_DomupBack.bits9 (fun HT_ HW_ => ?_)
            generalize wc.drew = w49 at HO_12 HO_14 HO_572000 HO_572001 HO_583000 HO_583001 HO_594000 HO_594001 BK571 BK582 BK593 HB hx594_0 hx595_0 hHeld ⊢
            refine pure_ (i := 0) (N := some 50) (v := ?_) (a' := ?_) #[true,false,false,false,false,false,false,false,false,false,false,false,false,false,false,false,false,false,false,false,false,false,false,false,false,false,false,false] rfl rfl (any_of HT_.out (by kernel_rfl)) (fun _ _ _ h => h) (Or.inl ⟨by rfl, ?_⟩) ?_ ?_
            rotate_left
            ·intro w'
             go_simp
             with_reducible rfl
            rotate_left
            ·simp only [Act.put, List.setIfInBounds_toArray, List.set_cons_zero, List.set_cons_succ, i64_w, i32_w]
             rfl
            refine pure_ (i := 1) (N := some 51) (v := ?_) (a' := ?_) #[true,true,false,false,false,false,false,false,false,false,false,false,false,false,false,false,false,false,false,false,false,false,false,false,false,false,false,false] rfl rfl (any_of HT_.out (by kernel_rfl)) (fun _ _ _ h => h) (Or.inl ⟨by rfl, ?_⟩) ?_ ?_
            rotate_left
            ·intro w'
             go_simp
             with_reducible rfl
            rotate_left
            ·simp only [Act.put, List.setIfInBounds_toArray, List.set_cons_zero, List.set_cons_succ, i64_w, i32_w]
             rfl
            refine pure_ (i := 2) (N := some 52) (v := ?_) (a' := ?_) #[true,true,true,false,false,false,false,false,false,false,false,false,false,false,false,false,false,false,false,false,false,false,false,false,false,false,false,false] rfl rfl (any_of HT_.out (by kernel_rfl)) (fun _ _ _ h => h) (Or.inl ⟨by rfl, ?_⟩) ?_ ?_
            rotate_left
            ·intro w'
             go_simp
             with_reducible rfl
            rotate_left
            ·simp only [Act.put, List.setIfInBounds_toArray, List.set_cons_zero, List.set_cons_succ, i64_w, i32_w]
             rfl
            refine pure_ (i := 3) (N := some 53) (v := ?_) (a' := ?_) #[true,true,true,true,false,false,false,false,false,false,false,false,false,false,false,false,false,false,false,false,false,false,false,false,false,false,false,false] rfl rfl (any_of HT_.out (by kernel_rfl)) (fun _ _ _ h => h) (Or.inl ⟨by rfl, ?_⟩) ?_ ?_
            rotate_left
            ·intro w'
             go_simp
             with_reducible rfl
            rotate_left
            ·simp only [Act.put, List.setIfInBounds_toArray, List.set_cons_zero, List.set_cons_succ, i64_w, i32_w]
             rfl
            refine pure_ (i := 4) (N := some 54) (v := ?_) (a' := ?_) #[true,true,true,true,true,false,false,false,false,false,false,false,false,false,false,false,false,false,false,false,false,false,false,false,false,false,false,false] rfl rfl (any_of HT_.out (by kernel_rfl)) (fun _ _ _ h => h) (Or.inl ⟨by rfl, ?_⟩) ?_ ?_
            rotate_left
            ·intro w'
             go_simp
             with_reducible rfl
            rotate_left
            ·simp only [Act.put, List.setIfInBounds_toArray, List.set_cons_zero, List.set_cons_succ, i64_w, i32_w]
             rfl
            refine pure_ (i := 5) (N := some 55) (v := ?_) (a' := ?_) #[true,true,true,true,true,true,false,false,false,false,false,false,false,false,false,false,false,false,false,false,false,false,false,false,false,false,false,false] rfl rfl (any_of HT_.out (by kernel_rfl)) (fun _ _ _ h => h) (Or.inl ⟨by rfl, ?_⟩) ?_ ?_
            rotate_left
            ·intro w'
             go_simp
             with_reducible rfl
            rotate_left
            ·simp only [Act.put, List.setIfInBounds_toArray, List.set_cons_zero, List.set_cons_succ, i64_w, i32_w]
             rfl
            refine pure_ (i := 6) (N := some 56) (v := ?_) (a' := ?_) #[true,true,true,true,true,true,true,false,false,false,false,false,false,false,false,false,false,false,false,false,false,false,false,false,false,false,false,false] rfl rfl (any_of HT_.out (by kernel_rfl)) (fun _ _ _ h => h) (Or.inl ⟨by rfl, ?_⟩) ?_ ?_
            rotate_left
            ·intro w'
             go_simp
             with_reducible rfl
            rotate_left
            ·simp only [Act.put, List.setIfInBounds_toArray, List.set_cons_zero, List.set_cons_succ, i64_w, i32_w]
             rfl
            refine pure_ (i := 7) (N := some 57) (v := ?_) (a' := ?_) #[true,true,true,true,true,true,true,true,false,false,false,false,false,false,false,false,false,false,false,false,false,false,false,false,false,false,false,false] rfl rfl (any_of HT_.out (by kernel_rfl)) (fun _ _ _ h => h) (Or.inl ⟨by rfl, ?_⟩) ?_ ?_
            rotate_left
            ·intro w'
             go_simp
             with_reducible rfl
            rotate_left
            ·simp only [Act.put, List.setIfInBounds_toArray, List.set_cons_zero, List.set_cons_succ, i64_w, i32_w]
             rfl
            refine pure_ (i := 8) (N := some 58) (v := ?_) (a' := ?_) #[true,true,true,true,true,true,true,true,true,false,false,false,false,false,false,false,false,false,false,false,false,false,false,false,false,false,false,false] rfl rfl (any_of HT_.out (by kernel_rfl)) (fun _ _ _ h => h) (Or.inl ⟨by rfl, ?_⟩) ?_ ?_
            rotate_left
            ·intro w'
             go_simp
             with_reducible rfl
            rotate_left
            ·simp only [Act.put, List.setIfInBounds_toArray, List.set_cons_zero, List.set_cons_succ, i64_w, i32_w]
             rfl
            refine pure_ (i := 9) (N := some 59) (v := ?_) (a' := ?_) #[true,true,true,true,true,true,true,true,true,true,false,false,false,false,false,false,false,false,false,false,false,false,false,false,false,false,false,false] rfl rfl (any_of HT_.out (by kernel_rfl)) (fun _ _ _ h => h) (Or.inl ⟨by rfl, ?_⟩) ?_ ?_
            rotate_left
            ·intro w'
             go_simp
             with_reducible rfl
            rotate_left
            ·simp only [Act.put, List.setIfInBounds_toArray, List.set_cons_zero, List.set_cons_succ, i64_w, i32_w]
             rfl
            refine pure_ (i := 11) (N := some 61) (v := ?_) (a' := ?_) #[true,true,true,true,true,true,true,true,true,true,false,true,false,false,false,false,false,false,false,false,false,false,false,false,false,false,false,false] rfl rfl (any_of HT_.out (by kernel_rfl)) (fun _ _ _ h => h) (Or.inl ⟨by rfl, ?_⟩) ?_ ?_
            rotate_left
            ·intro w'
             go_simp
             with_reducible rfl
            rotate_left
            ·simp only [Act.put, List.setIfInBounds_toArray, List.set_cons_zero, List.set_cons_succ, i64_w, i32_w]
             rfl
            refine take_ (i := 10) (N := some 60) (v := ?_) (a' := ?_) #[true,true,true,true,true,true,true,true,true,true,true,true,false,false,false,false,false,false,false,false,false,false,false,false,false,false,false,false] rfl rfl (take_ofW HT_.out HW_.out (by kernel_rfl)) (fun _ _ _ h => h) (Or.inl ⟨by rfl, ?_⟩) hHeld ?_ ?_
            rotate_left
            ·rintro w' ⟨s0, s1, s2, s3, s4, s5, s6, s7⟩
             go_simp
             with_reducible rfl
            rotate_left
            ·simp only [Act.put, List.setIfInBounds_toArray, List.set_cons_zero, List.set_cons_succ, i64_w, i32_w]
             rfl
            refine pure_ (i := 12) (N := some 62) (v := ?_) (a' := ?_) #[true,true,true,true,true,true,true,true,true,true,true,true,true,false,false,false,false,false,false,false,false,false,false,false,false,false,false,false] rfl rfl (any_of HT_.out (by kernel_rfl)) (fun _ _ _ h => h) (Or.inl ⟨by rfl, ?_⟩) ?_ ?_
            rotate_left
            ·intro w'
             go_simp
             with_reducible rfl
            rotate_left
            ·simp only [Act.put, List.setIfInBounds_toArray, List.set_cons_zero, List.set_cons_succ, i64_w, i32_w]
             rfl
            refine take_ (i := 13) (N := some 63) (v := ?_) (a' := ?_) #[true,true,true,true,true,true,true,true,true,true,true,true,true,true,false,false,false,false,false,false,false,false,false,false,false,false,false,false] rfl rfl (take_ofW HT_.out HW_.out (by kernel_rfl)) (fun _ _ _ h => h) (Or.inl ⟨by rfl, ?_⟩) hHeld ?_ ?_
            rotate_left
            ·rintro w' ⟨s0, s1, s2, s3, s4, s5, s6, s7⟩
             go_simp
             with_reducible rfl
            rotate_left
            ·simp only [Act.put, List.setIfInBounds_toArray, List.set_cons_zero, List.set_cons_succ, i64_w, i32_w]
             rfl
            refine pure_ (i := 14) (N := some 64) (v := ?_) (a' := ?_) #[true,true,true,true,true,true,true,true,true,true,true,true,true,true,true,false,false,false,false,false,false,false,false,false,false,false,false,false] rfl rfl (any_of HT_.out (by kernel_rfl)) (fun _ _ _ h => h) (Or.inl ⟨by rfl, ?_⟩) ?_ ?_
            rotate_left
            ·intro w'
             go_simp
             with_reducible rfl
            rotate_left
            ·simp only [Act.put, List.setIfInBounds_toArray, List.set_cons_zero, List.set_cons_succ, i64_w, i32_w]
             rfl
            refine pure_ (i := 15) (N := some 65) (v := ?_) (a' := ?_) #[true,true,true,true,true,true,true,true,true,true,true,true,true,true,true,true,false,false,false,false,false,false,false,false,false,false,false,false] rfl rfl (any_of HT_.out (by kernel_rfl)) (fun _ _ _ h => h) (Or.inl ⟨by rfl, ?_⟩) ?_ ?_
            rotate_left
            ·intro w'
             go_simp
             with_reducible rfl
            rotate_left
            ·simp only [Act.put, List.setIfInBounds_toArray, List.set_cons_zero, List.set_cons_succ, i64_w, i32_w]
             rfl
            refine pure_ (i := 16) (N := some 66) (v := ?_) (a' := ?_) #[true,true,true,true,true,true,true,true,true,true,true,true,true,true,true,true,true,false,false,false,false,false,false,false,false,false,false,false] rfl rfl (any_of HT_.out (by kernel_rfl)) (fun _ _ _ h => h) (Or.inl ⟨by rfl, ?_⟩) ?_ ?_
            rotate_left
            ·intro w'
             go_simp
             with_reducible rfl
            rotate_left
            ·simp only [Act.put, List.setIfInBounds_toArray, List.set_cons_zero, List.set_cons_succ, i64_w, i32_w]
             rfl
            refine pure_ (i := 17) (N := some 67) (v := ?_) (a' := ?_) #[true,true,true,true,true,true,true,true,true,true,true,true,true,true,true,true,true,true,false,false,false,false,false,false,false,false,false,false] rfl rfl (any_of HT_.out (by kernel_rfl)) (fun _ _ _ h => h) (Or.inl ⟨by rfl, ?_⟩) ?_ ?_
            rotate_left
            ·intro w'
             go_simp
             with_reducible rfl
            rotate_left
            ·simp only [Act.put, List.setIfInBounds_toArray, List.set_cons_zero, List.set_cons_succ, i64_w, i32_w]
             rfl
            refine pure_ (i := 19) (N := some 69) (v := ?_) (a' := ?_) #[true,true,true,true,true,true,true,true,true,true,true,true,true,true,true,true,true,true,false,true,false,false,false,false,false,false,false,false] rfl rfl (any_of HT_.out (by kernel_rfl)) (fun _ _ _ h => h) (Or.inl ⟨by rfl, ?_⟩) ?_ ?_
            rotate_left
            ·intro w'
             go_simp
             with_reducible rfl
            rotate_left
            ·simp only [Act.put, List.setIfInBounds_toArray, List.set_cons_zero, List.set_cons_succ, i64_w, i32_w]
             rfl
            refine pure_ (i := 21) (N := some 71) (v := ?_) (a' := ?_) #[true,true,true,true,true,true,true,true,true,true,true,true,true,true,true,true,true,true,false,true,false,true,false,false,false,false,false,false] rfl rfl (any_of HT_.out (by kernel_rfl)) (fun _ _ _ h => h) (Or.inl ⟨by rfl, ?_⟩) ?_ ?_
            rotate_left
            ·intro w'
             go_simp
             with_reducible rfl
            rotate_left
            ·simp only [Act.put, List.setIfInBounds_toArray, List.set_cons_zero, List.set_cons_succ, i64_w, i32_w]
             rfl
            refine pure_ (i := 24) (N := some 74) (v := ?_) (a' := ?_) #[true,true,true,true,true,true,true,true,true,true,true,true,true,true,true,true,true,true,false,true,false,true,false,false,true,false,false,false] rfl rfl (any_of HT_.out (by kernel_rfl)) (fun _ _ _ h => h) (Or.inl ⟨by rfl, ?_⟩) ?_ ?_
            rotate_left
            ·intro w'
             go_simp
             with_reducible rfl
            rotate_left
            ·simp only [Act.put, List.setIfInBounds_toArray, List.set_cons_zero, List.set_cons_succ, i64_w, i32_w]
             rfl
            refine take_ (i := 18) (N := some 68) (v := ?_) (a' := ?_) #[true,true,true,true,true,true,true,true,true,true,true,true,true,true,true,true,true,true,true,true,false,true,false,false,true,false,false,false] rfl rfl (take_ofW HT_.out HW_.out (by kernel_rfl)) (fun _ _ _ h => h) (Or.inl ⟨by rfl, ?_⟩) hHeld ?_ ?_
            rotate_left
            ·rintro w' ⟨s0, s1, s2, s3, s4, s5, s6, s7⟩
             go_simp
             with_reducible rfl
            rotate_left
            ·simp only [Act.put, List.setIfInBounds_toArray, List.set_cons_zero, List.set_cons_succ, i64_w, i32_w]
             rfl
            refine take_ (i := 20) (N := some 70) (v := ?_) (a' := ?_) #[true,true,true,true,true,true,true,true,true,true,true,true,true,true,true,true,true,true,true,true,true,true,false,false,true,false,false,false] rfl rfl (take_ofW HT_.out HW_.out (by kernel_rfl)) (fun _ _ _ h => h) (Or.inl ⟨by rfl, ?_⟩) hHeld ?_ ?_
            rotate_left
            ·rintro w' ⟨s0, s1, s2, s3, s4, s5, s6, s7⟩
             go_simp
             with_reducible rfl
            rotate_left
            ·simp only [Act.put, List.setIfInBounds_toArray, List.set_cons_zero, List.set_cons_succ, i64_w, i32_w]
             rfl
            refine pure_ (i := 22) (N := some 72) (v := ?_) (a' := ?_) #[true,true,true,true,true,true,true,true,true,true,true,true,true,true,true,true,true,true,true,true,true,true,true,false,true,false,false,false] rfl rfl (any_of HT_.out (by kernel_rfl)) (fun _ _ _ h => h) (Or.inl ⟨by rfl, ?_⟩) ?_ ?_
            rotate_left
            ·intro w'
             go_simp
             with_reducible rfl
            rotate_left
            ·simp only [Act.put, List.setIfInBounds_toArray, List.set_cons_zero, List.set_cons_succ, i64_w, i32_w]
             rfl
            refine take_ (i := 23) (N := some 73) (v := ?_) (a' := ?_) #[true,true,true,true,true,true,true,true,true,true,true,true,true,true,true,true,true,true,true,true,true,true,true,true,true,false,false,false] rfl rfl (take_ofW HT_.out HW_.out (by kernel_rfl)) (fun _ _ _ h => h) (Or.inl ⟨by rfl, ?_⟩) hHeld ?_ ?_
            rotate_left
            ·rintro w' ⟨s0, s1, s2, s3, s4, s5, s6, s7⟩
             go_simp
             with_reducible rfl
            rotate_left
            ·simp only [Act.put, List.setIfInBounds_toArray, List.set_cons_zero, List.set_cons_succ, i64_w, i32_w]
             rfl
            refine one_ (i := 25) (N := some 75) #[true,true,true,true,true,true,true,true,true,true,true,true,true,true,true,true,true,true,true,true,true,true,true,true,true,true,false,false] rfl rfl (one_of HT_.out (by kernel_rfl)) (by decide) (fun K hK => ?_)
            refine goes_ Try.func17 (by kernel_rfl) rfl #[.slice (some ad594) t567.length co17, .int .i64 (rd t575 a3), .int .i64 a3] (by rfl) rfl rfl (by (try simp only [List.map_toArray, List.map_cons, List.map_nil]); first | done | rfl | (simp only [List.length_drop, List.length_take]; rfl)) ?_
            with_reducible refine (dom_Dominates.calls kj10 _ _ t567 (rd t575 a3) a3 t596 _ ?side1 ?side2 A48.out).mono ?_
            (case side1 => repeat (first | exact (Kd.R_reads' HO_572001.out).2.2 | (with_reducible refine Kd.C_alloc ?_ _) | (with_reducible refine Kd.C_drewN ?_ _) | (with_reducible refine Kd.C_drew ?_)))
            (case side2 => exact (Kd.R_reads' HO_572001.out).2.1)
            rintro e w50 ⟨rfl, hb⟩
            have HS6_ := (hb.cell (World.block_lt_of_cell? _ _ (hHeld.2.2.2.2.2.2.1))).trans (hHeld.2.2.2.2.2.2.1)
            have HS7_ := (hb.cell (World.block_lt_of_cell? _ _ (hHeld.2.2.2.2.2.2.2))).trans (hHeld.2.2.2.2.2.2.2)
            refine ⟨_, rfl, ?_⟩
            have n0_ := Aside0.mk (Kd.R_below (by (with_reducible repeat (first | apply Kd.R_alloc | apply Kd.R_drewN | apply Kd.R_drew)); exact HO_12.out) hb)
            have n1_ := Aside0.mk (Kd.R_below (by (with_reducible repeat (first | apply Kd.R_alloc | apply Kd.R_drewN | apply Kd.R_drew)); exact HO_14.out) hb)
            have n2_ := Aside0.mk (Kd.S_below (by (with_reducible repeat (first | apply Kd.S_alloc | apply Kd.S_drewN | apply Kd.S_drew)); exact HO_572000.out) hb)
            have n3_ := Aside0.mk (Kd.R_below (by (with_reducible repeat (first | apply Kd.R_alloc | apply Kd.R_drewN | apply Kd.R_drew)); exact HO_572001.out) hb)
            have n4_ := Aside0.mk (Kd.S_below (by (with_reducible repeat (first | apply Kd.S_alloc | apply Kd.S_drewN | apply Kd.S_drew)); exact HO_583000.out) hb)
            have n5_ := Aside0.mk (Kd.R_below (by (with_reducible repeat (first | apply Kd.R_alloc | apply Kd.R_drewN | apply Kd.R_drew)); exact HO_583001.out) hb)
            have n6_ := Aside0.mk (Kd.S_below (by (with_reducible repeat (first | apply Kd.S_alloc | apply Kd.S_drewN | apply Kd.S_drew)); exact HO_594000.out) hb)
            have n7_ := Aside0.mk (Kd.R_below (by (with_reducible repeat (first | apply Kd.R_alloc | apply Kd.R_drewN | apply Kd.R_drew)); exact HO_594001.out) hb)
            have n8_ := Aside0.mk (blk_below (g := gb571) (o := .cells #[.slice Ao15 t564.length co15, .slice (some ad594) t567.length co17, .bool t570] 40 (0, 0)) (by (with_reducible repeat (first | refine blk_drewN ?_ _ | refine blk_drew ?_ | refine blk_alloc ?_ _)); exact BK571.out) hb)
            have n9_ := Aside0.mk (blk_below (g := gb582) (o := .cells #[.slice Ao20 t572.length co20, .slice (some ad595) t575.length co23, .bool t578] 40 (0, 0)) (by (with_reducible repeat (first | refine blk_drewN ?_ _ | refine blk_drew ?_ | refine blk_alloc ?_ _)); exact BK582.out) hb)
            have n10_ := Aside0.mk (blk_below (g := gb593) (o := .cells #[.slice Ao26 t583.length co26, .slice Ao30 t586.length co30, .bool t589] 40 (0, 0)) (by (with_reducible repeat (first | refine blk_drewN ?_ _ | refine blk_drew ?_ | refine blk_alloc ?_ _)); exact BK593.out) hb)
            have n11_ := Aside0.mk (below_step (by repeat (first | (with_reducible first | exact HB.out | apply below_alloc | apply pw_below_drewN | apply below_drew1 | refine below_set ?_ GE571.out | refine below_set ?_ GE582.out | refine below_set ?_ GE593.out) | exact HB.out)) hb)
            clear HO_12
            clear HO_14
            clear HO_572000
            clear HO_572001
            clear HO_583000
            clear HO_583001
            clear HO_594000
            clear HO_594001
            clear BK571
            clear BK582
            clear BK593
            clear HB
            have HO_12 := n0_
            have HO_14 := n1_
            have HO_572000 := n2_
            have HO_572001 := n3_
            have HO_583000 := n4_
            have HO_583001 := n5_
            have HO_594000 := n6_
            have HO_594001 := n7_
            have BK571 := n8_
            have BK582 := n9_
            have BK593 := n10_
            have HB := n11_
            clear n0_ n1_ n2_ n3_ n4_ n5_ n6_ n7_ n8_ n9_ n10_ n11_
            (try clear hb)
            (try clear hb2)
            (try clear hk)
            (try clear hi)
            refine hK.out _ _ ⟨(blk_cell BK571.out 0).trans rfl, (blk_cell BK571.out 1).trans rfl, (blk_cell BK571.out 2).trans rfl, (blk_cell BK582.out 0).trans rfl, (blk_cell BK582.out 1).trans rfl, (blk_cell BK582.out 2).trans rfl, HS6_, HS7_⟩ (fun hHeld => ?_)
            clear hK K
            refine norm_ (a' := ?_) ?_ ?_
            rotate_left
            ·show Act.put _ (some 75) _ = _
             simp only [Act.put, List.setIfInBounds_toArray, List.set_cons_zero, List.set_cons_succ, i64_w, i32_w]
             rfl
            refine pure_ (i := 26) (N := some 76) (v := ?_) (a' := ?_) #[true,true,true,true,true,true,true,true,true,true,true,true,true,true,true,true,true,true,true,true,true,true,true,true,true,true,true,false] rfl rfl (any_of HT_.out (by kernel_rfl)) (fun _ _ _ h => h) (Or.inl ⟨by rfl, ?_⟩) ?_ ?_
            rotate_left
            ·intro w'
             go_simp
             with_reducible rfl
            rotate_left
            ·simp only [Act.put, List.setIfInBounds_toArray, List.set_cons_zero, List.set_cons_succ, i64_w, i32_w]
             rfl
            refine pure_ (i := 27) (N := some 77) (v := ?_) (a' := ?_) #[true,true,true,true,true,true,true,true,true,true,true,true,true,true,true,true,true,true,true,true,true,true,true,true,true,true,true,true] rfl rfl (any_of HT_.out (by kernel_rfl)) (fun _ _ _ h => h) (Or.inl ⟨by rfl, ?_⟩) ?_ ?_
            rotate_left
            ·intro w'
             go_simp
             with_reducible rfl
            rotate_left
            ·simp only [Act.put, List.setIfInBounds_toArray, List.set_cons_zero, List.set_cons_succ, i64_w, i32_w]
             rfl
            refine done_ (done_of HT_.out (by kernel_rfl)) ?_
            try go_wp2
            go_meet
            case rel => exact ⟨_, (!t596), (by first | rfl | (simp; done) | (simp [*]; done)), H', ⟨by have := HJ10.out; first | omega | exact Nat.le_refl _⟩, ⟨by (with_reducible repeat (first | apply Kd.R_alloc | apply Kd.R_drewN | apply Kd.R_drew)); exact HO_12.out⟩, ⟨by (with_reducible repeat (first | apply Kd.R_alloc | apply Kd.R_drewN | apply Kd.R_drew)); exact HO_14.out⟩, ⟨by (with_reducible repeat (first | apply Kd.S_alloc | apply Kd.S_drewN | apply Kd.S_drew)); exact HO_572000.out⟩, ⟨by (with_reducible repeat (first | apply Kd.R_alloc | apply Kd.R_drewN | apply Kd.R_drew)); exact HO_572001.out⟩, ⟨by (with_reducible repeat (first | apply Kd.S_alloc | apply Kd.S_drewN | apply Kd.S_drew)); exact HO_583000.out⟩, ⟨by (with_reducible repeat (first | apply Kd.R_alloc | apply Kd.R_drewN | apply Kd.R_drew)); exact HO_583001.out⟩, ⟨by (with_reducible repeat (first | apply Kd.S_alloc | apply Kd.S_drewN | apply Kd.S_drew)); exact HO_594000.out⟩, ⟨by (with_reducible repeat (first | apply Kd.R_alloc | apply Kd.R_drewN | apply Kd.R_drew)); exact HO_594001.out⟩, ⟨by (with_reducible repeat (first | refine blk_drewN ?_ _ | refine blk_drew ?_ | refine blk_alloc ?_ _)); exact BK571.out⟩, ⟨by (with_reducible repeat (first | refine blk_drewN ?_ _ | refine blk_drew ?_ | refine blk_alloc ?_ _)); exact BK582.out⟩, ⟨by (with_reducible repeat (first | refine blk_drewN ?_ _ | refine blk_drew ?_ | refine blk_alloc ?_ _)); exact BK593.out⟩, ⟨by repeat (first | (with_reducible first | exact HB.out | apply below_alloc | apply pw_below_drewN | apply below_drew1 | refine below_set ?_ GE571.out | refine below_set ?_ GE582.out | refine below_set ?_ GE593.out) | exact HB.out)⟩⟩
           ·rw [if_neg c47] at H
            exact absurd H (by simp)
          ·rw [if_neg c46] at H
           have c46b0 : decide (0 ≤ (rd t567 a3)) = false := decide_eq_false c46
           clear c46
           have H' := Aside0.mk H
           clear H
           try go_wp2
           have n0_ := Aside0.mk (Kd.R_drew HO_12.out)
           have n1_ := Aside0.mk (Kd.R_drew HO_14.out)
           have n2_ := Aside0.mk (Kd.S_drew HO_572000.out)
           have n3_ := Aside0.mk (Kd.R_drew HO_572001.out)
           have n4_ := Aside0.mk (Kd.S_drew HO_583000.out)
           have n5_ := Aside0.mk (Kd.R_drew HO_583001.out)
           have n6_ := Aside0.mk (Kd.S_drew HO_594000.out)
           have n7_ := Aside0.mk (Kd.R_drew HO_594001.out)
           have n8_ := Aside0.mk (blk_drew BK571.out)
           have n9_ := Aside0.mk (blk_drew BK582.out)
           have n10_ := Aside0.mk (blk_drew BK593.out)
           have n11_ := Aside0.mk (below_drew1 HB.out)
           clear HO_12
           clear HO_14
           clear HO_572000
           clear HO_572001
           clear HO_583000
           clear HO_583001
           clear HO_594000
           clear HO_594001
           clear BK571
           clear BK582
           clear BK593
           clear HB
           have HO_12 := n0_
           have HO_14 := n1_
           have HO_572000 := n2_
           have HO_572001 := n3_
           have HO_583000 := n4_
           have HO_583001 := n5_
           have HO_594000 := n6_
           have HO_594001 := n7_
           have BK571 := n8_
           have BK582 := n9_
           have BK593 := n10_
           have HB := n11_
           clear n0_ n1_ n2_ n3_ n4_ n5_ n6_ n7_ n8_ n9_ n10_ n11_
           have p594 : 0 ≤ (a3 : Int) := of_decide_eq_true (by first | (with_reducible assumption) | assumption)
           have q594 : a3 < (t567.length : Int) := of_decide_eq_true (by first | (with_reducible assumption) | assumption)
           (try (obtain ⟨Ar_, cr_, er_⟩ := Kd.R_slice HO_572001.out; subst er_))
           obtain ⟨ad594, e594, hx594_0⟩ := Kd.at_int (Kd.R_reads' HO_572001.out).2.2 a3 p594 q594
           cases e594
           replace p594 := eq_true p594
           replace q594 := eq_true q594
           refine start_ (n := 28) (S := fun w' => w'.cell? ⟨gb571, 0, none⟩ = some (.slice Ao15 t564.length co15) ∧ w'.cell? ⟨gb571, 1, none⟩ = some (.slice (some ad594) t567.length co17) ∧ w'.cell? ⟨gb571, 2, none⟩ = some (.bool t570) ∧ w'.cell? (ad594.add (a3).toNat) = some (.int .i64 (rd t567 a3))) (ds := []) #[false,false,false,false,false,false,false,false,false,false,false,false,false,false,false,false,false,false,false,false,false,false,false,false,false,false,false,false] (by kernel_rfl) rfl rfl ⟨(blk_cell BK571.out 0).trans rfl, (blk_cell BK571.out 1).trans rfl, (blk_cell BK571.out 2).trans rfl, hx594_0⟩ (fun hHeld => ?_); refine with_tabW bywashlaw15_DomupBack.tab9 bywashlaw15_DomupBack.bits9 (fun HT_ HW_ => ?_)
           generalize wc.drew = w51 at HO_12 HO_14 HO_572000 HO_572001 HO_583000 HO_583001 HO_594000 HO_594001 BK571 BK582 BK593 HB hx594_0 hHeld ⊢
           refine pure_ (i := 0) (N := some 50) (v := ?_) (a' := ?_) #[true,false,false,false,false,false,false,false,false,false,false,false,false,false,false,false,false,false,false,false,false,false,false,false,false,false,false,false] rfl rfl (any_of HT_.out (by kernel_rfl)) (fun _ _ _ h => h) (Or.inl ⟨by rfl, ?_⟩) ?_ ?_
           rotate_left
           ·intro w'
            go_simp
            with_reducible rfl
           rotate_left
           ·simp only [Act.put, List.setIfInBounds_toArray, List.set_cons_zero, List.set_cons_succ, i64_w, i32_w]
            rfl
           refine pure_ (i := 1) (N := some 51) (v := ?_) (a' := ?_) #[true,true,false,false,false,false,false,false,false,false,false,false,false,false,false,false,false,false,false,false,false,false,false,false,false,false,false,false] rfl rfl (any_of HT_.out (by kernel_rfl)) (fun _ _ _ h => h) (Or.inl ⟨by rfl, ?_⟩) ?_ ?_
           rotate_left
           ·intro w'
            go_simp
            with_reducible rfl
           rotate_left
           ·simp only [Act.put, List.setIfInBounds_toArray, List.set_cons_zero, List.set_cons_succ, i64_w, i32_w]
            rfl
           refine pure_ (i := 2) (N := some 52) (v := ?_) (a' := ?_) #[true,true,true,false,false,false,false,false,false,false,false,false,false,false,false,false,false,false,false,false,false,false,false,false,false,false,false,false] rfl rfl (any_of HT_.out (by kernel_rfl)) (fun _ _ _ h => h) (Or.inl ⟨by rfl, ?_⟩) ?_ ?_
           rotate_left
           ·intro w'
            go_simp
            with_reducible rfl
           rotate_left
           ·simp only [Act.put, List.setIfInBounds_toArray, List.set_cons_zero, List.set_cons_succ, i64_w, i32_w]
            rfl
           refine pure_ (i := 3) (N := some 53) (v := ?_) (a' := ?_) #[true,true,true,true,false,false,false,false,false,false,false,false,false,false,false,false,false,false,false,false,false,false,false,false,false,false,false,false] rfl rfl (any_of HT_.out (by kernel_rfl)) (fun _ _ _ h => h) (Or.inl ⟨by rfl, ?_⟩) ?_ ?_
           rotate_left
           ·intro w'
            go_simp
            with_reducible rfl
           rotate_left
           ·simp only [Act.put, List.setIfInBounds_toArray, List.set_cons_zero, List.set_cons_succ, i64_w, i32_w]
            rfl
           refine pure_ (i := 4) (N := some 54) (v := ?_) (a' := ?_) #[true,true,true,true,true,false,false,false,false,false,false,false,false,false,false,false,false,false,false,false,false,false,false,false,false,false,false,false] rfl rfl (any_of HT_.out (by kernel_rfl)) (fun _ _ _ h => h) (Or.inl ⟨by rfl, ?_⟩) ?_ ?_
           rotate_left
           ·intro w'
            go_simp
            with_reducible rfl
           rotate_left
           ·simp only [Act.put, List.setIfInBounds_toArray, List.set_cons_zero, List.set_cons_succ, i64_w, i32_w]
            rfl
           refine pure_ (i := 5) (N := some 55) (v := ?_) (a' := ?_) #[true,true,true,true,true,true,false,false,false,false,false,false,false,false,false,false,false,false,false,false,false,false,false,false,false,false,false,false] rfl rfl (any_of HT_.out (by kernel_rfl)) (fun _ _ _ h => h) (Or.inl ⟨by rfl, ?_⟩) ?_ ?_
           rotate_left
           ·intro w'
            go_simp
            with_reducible rfl
           rotate_left
           ·simp only [Act.put, List.setIfInBounds_toArray, List.set_cons_zero, List.set_cons_succ, i64_w, i32_w]
            rfl
           refine pure_ (i := 6) (N := some 56) (v := ?_) (a' := ?_) #[true,true,true,true,true,true,true,false,false,false,false,false,false,false,false,false,false,false,false,false,false,false,false,false,false,false,false,false] rfl rfl (any_of HT_.out (by kernel_rfl)) (fun _ _ _ h => h) (Or.inl ⟨by rfl, ?_⟩) ?_ ?_
           rotate_left
           ·intro w'
            go_simp
            with_reducible rfl
           rotate_left
           ·simp only [Act.put, List.setIfInBounds_toArray, List.set_cons_zero, List.set_cons_succ, i64_w, i32_w]
            rfl
           refine pure_ (i := 7) (N := some 57) (v := ?_) (a' := ?_) #[true,true,true,true,true,true,true,true,false,false,false,false,false,false,false,false,false,false,false,false,false,false,false,false,false,false,false,false] rfl rfl (any_of HT_.out (by kernel_rfl)) (fun _ _ _ h => h) (Or.inl ⟨by rfl, ?_⟩) ?_ ?_
           rotate_left
           ·intro w'
            go_simp
            with_reducible rfl
           rotate_left
           ·simp only [Act.put, List.setIfInBounds_toArray, List.set_cons_zero, List.set_cons_succ, i64_w, i32_w]
            rfl
           refine pure_ (i := 8) (N := some 58) (v := ?_) (a' := ?_) #[true,true,true,true,true,true,true,true,true,false,false,false,false,false,false,false,false,false,false,false,false,false,false,false,false,false,false,false] rfl rfl (any_of HT_.out (by kernel_rfl)) (fun _ _ _ h => h) (Or.inl ⟨by rfl, ?_⟩) ?_ ?_
           rotate_left
           ·intro w'
            go_simp
            with_reducible rfl
           rotate_left
           ·simp only [Act.put, List.setIfInBounds_toArray, List.set_cons_zero, List.set_cons_succ, i64_w, i32_w]
            rfl
           refine pure_ (i := 9) (N := some 59) (v := ?_) (a' := ?_) #[true,true,true,true,true,true,true,true,true,true,false,false,false,false,false,false,false,false,false,false,false,false,false,false,false,false,false,false] rfl rfl (any_of HT_.out (by kernel_rfl)) (fun _ _ _ h => h) (Or.inl ⟨by rfl, ?_⟩) ?_ ?_
           rotate_left
           ·intro w'
            go_simp
            with_reducible rfl
           rotate_left
           ·simp only [Act.put, List.setIfInBounds_toArray, List.set_cons_zero, List.set_cons_succ, i64_w, i32_w]
            rfl
           refine pure_ (i := 11) (N := some 61) (v := ?_) (a' := ?_) #[true,true,true,true,true,true,true,true,true,true,false,true,false,false,false,false,false,false,false,false,false,false,false,false,false,false,false,false] rfl rfl (any_of HT_.out (by kernel_rfl)) (fun _ _ _ h => h) (Or.inl ⟨by rfl, ?_⟩) ?_ ?_
           rotate_left
           ·intro w'
            go_simp
            with_reducible rfl
           rotate_left
           ·simp only [Act.put, List.setIfInBounds_toArray, List.set_cons_zero, List.set_cons_succ, i64_w, i32_w]
            rfl
           refine take_ (i := 10) (N := some 60) (v := ?_) (a' := ?_) #[true,true,true,true,true,true,true,true,true,true,true,true,false,false,false,false,false,false,false,false,false,false,false,false,false,false,false,false] rfl rfl (take_ofW HT_.out HW_.out (by kernel_rfl)) (fun _ _ _ h => h) (Or.inl ⟨by rfl, ?_⟩) hHeld ?_ ?_
           rotate_left
           ·rintro w' ⟨s0, s1, s2, s3⟩
            go_simp
            with_reducible rfl
           rotate_left
           ·simp only [Act.put, List.setIfInBounds_toArray, List.set_cons_zero, List.set_cons_succ, i64_w, i32_w]
            rfl
           refine pure_ (i := 12) (N := some 62) (v := ?_) (a' := ?_) #[true,true,true,true,true,true,true,true,true,true,true,true,true,false,false,false,false,false,false,false,false,false,false,false,false,false,false,false] rfl rfl (any_of HT_.out (by kernel_rfl)) (fun _ _ _ h => h) (Or.inl ⟨by rfl, ?_⟩) ?_ ?_
           rotate_left
           ·intro w'
            go_simp
            with_reducible rfl
           rotate_left
           ·simp only [Act.put, List.setIfInBounds_toArray, List.set_cons_zero, List.set_cons_succ, i64_w, i32_w]
            rfl
           refine take_ (i := 13) (N := some 63) (v := ?_) (a' := ?_) #[true,true,true,true,true,true,true,true,true,true,true,true,true,true,false,false,false,false,false,false,false,false,false,false,false,false,false,false] rfl rfl (take_ofW HT_.out HW_.out (by kernel_rfl)) (fun _ _ _ h => h) (Or.inl ⟨by rfl, ?_⟩) hHeld ?_ ?_
           rotate_left
           ·rintro w' ⟨s0, s1, s2, s3⟩
            go_simp
            with_reducible rfl
           rotate_left
           ·simp only [Act.put, List.setIfInBounds_toArray, List.set_cons_zero, List.set_cons_succ, i64_w, i32_w]
            rfl
           refine pure_ (i := 14) (N := some 64) (v := ?_) (a' := ?_) #[true,true,true,true,true,true,true,true,true,true,true,true,true,true,true,false,false,false,false,false,false,false,false,false,false,false,false,false] rfl rfl (any_of HT_.out (by kernel_rfl)) (fun _ _ _ h => h) (Or.inl ⟨by rfl, ?_⟩) ?_ ?_
           rotate_left
           ·intro w'
            go_simp
            with_reducible rfl
           rotate_left
           ·simp only [Act.put, List.setIfInBounds_toArray, List.set_cons_zero, List.set_cons_succ, i64_w, i32_w]
            rfl
           refine pure_ (i := 15) (N := some 65) (v := ?_) (a' := ?_) #[true,true,true,true,true,true,true,true,true,true,true,true,true,true,true,true,false,false,false,false,false,false,false,false,false,false,false,false] rfl rfl (any_of HT_.out (by kernel_rfl)) (fun _ _ _ h => h) (Or.inl ⟨by rfl, ?_⟩) ?_ ?_
           rotate_left
           ·intro w'
            go_simp
            with_reducible rfl
           rotate_left
           ·simp only [Act.put, List.setIfInBounds_toArray, List.set_cons_zero, List.set_cons_succ, i64_w, i32_w]
            rfl
           refine pure_ (i := 16) (N := some 66) (v := ?_) (a' := ?_) #[true,true,true,true,true,true,true,true,true,true,true,true,true,true,true,true,true,false,false,false,false,false,false,false,false,false,false,false] rfl rfl (any_of HT_.out (by kernel_rfl)) (fun _ _ _ h => h) (Or.inl ⟨by rfl, ?_⟩) ?_ ?_
           rotate_left
           ·intro w'
            go_simp
            with_reducible rfl
           rotate_left
           ·simp only [Act.put, List.setIfInBounds_toArray, List.set_cons_zero, List.set_cons_succ, i64_w, i32_w]
            rfl
           refine pure_ (i := 17) (N := some 67) (v := undef) (a' := ?_) #[true,true,true,true,true,true,true,true,true,true,true,true,true,true,true,true,true,true,false,false,false,false,false,false,false,false,false,false] rfl rfl (any_of HT_.out (by kernel_rfl)) (fun _ _ _ h => h) (Or.inr ⟨by rfl, rfl⟩) ?_ ?_
           rotate_left
           ·simp only [Act.put, List.setIfInBounds_toArray, List.set_cons_zero, List.set_cons_succ, i64_w, i32_w]
            rfl
           refine pure_ (i := 18) (N := some 68) (v := undef) (a' := ?_) #[true,true,true,true,true,true,true,true,true,true,true,true,true,true,true,true,true,true,true,false,false,false,false,false,false,false,false,false] rfl rfl (any_of HT_.out (by kernel_rfl)) (fun _ _ _ h => h) (Or.inr ⟨by rfl, rfl⟩) ?_ ?_
           rotate_left
           ·simp only [Act.put, List.setIfInBounds_toArray, List.set_cons_zero, List.set_cons_succ, i64_w, i32_w]
            rfl
           refine pure_ (i := 19) (N := some 69) (v := undef) (a' := ?_) #[true,true,true,true,true,true,true,true,true,true,true,true,true,true,true,true,true,true,true,true,false,false,false,false,false,false,false,false] rfl rfl (any_of HT_.out (by kernel_rfl)) (fun _ _ _ h => h) (Or.inr ⟨by rfl, rfl⟩) ?_ ?_
           rotate_left
           ·simp only [Act.put, List.setIfInBounds_toArray, List.set_cons_zero, List.set_cons_succ, i64_w, i32_w]
            rfl
           refine pure_ (i := 20) (N := some 70) (v := undef) (a' := ?_) #[true,true,true,true,true,true,true,true,true,true,true,true,true,true,true,true,true,true,true,true,true,false,false,false,false,false,false,false] rfl rfl (any_of HT_.out (by kernel_rfl)) (fun _ _ _ h => h) (Or.inr ⟨by rfl, rfl⟩) ?_ ?_
           rotate_left
           ·simp only [Act.put, List.setIfInBounds_toArray, List.set_cons_zero, List.set_cons_succ, i64_w, i32_w]
            rfl
           refine pure_ (i := 21) (N := some 71) (v := undef) (a' := ?_) #[true,true,true,true,true,true,true,true,true,true,true,true,true,true,true,true,true,true,true,true,true,true,false,false,false,false,false,false] rfl rfl (any_of HT_.out (by kernel_rfl)) (fun _ _ _ h => h) (Or.inr ⟨by rfl, rfl⟩) ?_ ?_
           rotate_left
           ·simp only [Act.put, List.setIfInBounds_toArray, List.set_cons_zero, List.set_cons_succ, i64_w, i32_w]
            rfl
           refine pure_ (i := 22) (N := some 72) (v := undef) (a' := ?_) #[true,true,true,true,true,true,true,true,true,true,true,true,true,true,true,true,true,true,true,true,true,true,true,false,false,false,false,false] rfl rfl (any_of HT_.out (by kernel_rfl)) (fun _ _ _ h => h) (Or.inr ⟨by rfl, rfl⟩) ?_ ?_
           rotate_left
           ·simp only [Act.put, List.setIfInBounds_toArray, List.set_cons_zero, List.set_cons_succ, i64_w, i32_w]
            rfl
           refine pure_ (i := 23) (N := some 73) (v := undef) (a' := ?_) #[true,true,true,true,true,true,true,true,true,true,true,true,true,true,true,true,true,true,true,true,true,true,true,true,false,false,false,false] rfl rfl (any_of HT_.out (by kernel_rfl)) (fun _ _ _ h => h) (Or.inr ⟨by rfl, rfl⟩) ?_ ?_
           rotate_left
           ·simp only [Act.put, List.setIfInBounds_toArray, List.set_cons_zero, List.set_cons_succ, i64_w, i32_w]
            rfl
           refine pure_ (i := 24) (N := some 74) (v := undef) (a' := ?_) #[true,true,true,true,true,true,true,true,true,true,true,true,true,true,true,true,true,true,true,true,true,true,true,true,true,false,false,false] rfl rfl (any_of HT_.out (by kernel_rfl)) (fun _ _ _ h => h) (Or.inr ⟨by rfl, rfl⟩) ?_ ?_
           rotate_left
           ·simp only [Act.put, List.setIfInBounds_toArray, List.set_cons_zero, List.set_cons_succ, i64_w, i32_w]
            rfl
           refine pure_ (i := 25) (N := some 75) (v := undef) (a' := ?_) #[true,true,true,true,true,true,true,true,true,true,true,true,true,true,true,true,true,true,true,true,true,true,true,true,true,true,false,false] rfl rfl (any_of HT_.out (by kernel_rfl)) (fun _ _ _ h => h) (Or.inr ⟨by rfl, rfl⟩) ?_ ?_
           rotate_left
           ·simp only [Act.put, List.setIfInBounds_toArray, List.set_cons_zero, List.set_cons_succ, i64_w, i32_w]
            rfl
           refine pure_ (i := 26) (N := some 76) (v := undef) (a' := ?_) #[true,true,true,true,true,true,true,true,true,true,true,true,true,true,true,true,true,true,true,true,true,true,true,true,true,true,true,false] rfl rfl (any_of HT_.out (by kernel_rfl)) (fun _ _ _ h => h) (Or.inr ⟨by rfl, rfl⟩) ?_ ?_
           rotate_left
           ·simp only [Act.put, List.setIfInBounds_toArray, List.set_cons_zero, List.set_cons_succ, i64_w, i32_w]
            rfl
           refine pure_ (i := 27) (N := some 77) (v := ?_) (a' := ?_) #[true,true,true,true,true,true,true,true,true,true,true,true,true,true,true,true,true,true,true,true,true,true,true,true,true,true,true,true] rfl rfl (any_of HT_.out (by kernel_rfl)) (fun _ _ _ h => h) (Or.inl ⟨by rfl, ?_⟩) ?_ ?_
           rotate_left
           ·intro w'
            go_simp
            with_reducible rfl
           rotate_left
           ·simp only [Act.put, List.setIfInBounds_toArray, List.set_cons_zero, List.set_cons_succ, i64_w, i32_w]
            rfl
           refine done_ (done_of HT_.out (by kernel_rfl)) ?_
           try go_wp2
           go_meet
           case rel => exact ⟨_, (false), (by first | rfl | (simp; done) | (simp [*]; done)), H', ⟨by have := HJ10.out; first | omega | exact Nat.le_refl _⟩, ⟨by (with_reducible repeat (first | apply Kd.R_alloc | apply Kd.R_drewN | apply Kd.R_drew)); exact HO_12.out⟩, ⟨by (with_reducible repeat (first | apply Kd.R_alloc | apply Kd.R_drewN | apply Kd.R_drew)); exact HO_14.out⟩, ⟨by (with_reducible repeat (first | apply Kd.S_alloc | apply Kd.S_drewN | apply Kd.S_drew)); exact HO_572000.out⟩, ⟨by (with_reducible repeat (first | apply Kd.R_alloc | apply Kd.R_drewN | apply Kd.R_drew)); exact HO_572001.out⟩, ⟨by (with_reducible repeat (first | apply Kd.S_alloc | apply Kd.S_drewN | apply Kd.S_drew)); exact HO_583000.out⟩, ⟨by (with_reducible repeat (first | apply Kd.R_alloc | apply Kd.R_drewN | apply Kd.R_drew)); exact HO_583001.out⟩, ⟨by (with_reducible repeat (first | apply Kd.S_alloc | apply Kd.S_drewN | apply Kd.S_drew)); exact HO_594000.out⟩, ⟨by (with_reducible repeat (first | apply Kd.R_alloc | apply Kd.R_drewN | apply Kd.R_drew)); exact HO_594001.out⟩, ⟨by (with_reducible repeat (first | refine blk_drewN ?_ _ | refine blk_drew ?_ | refine blk_alloc ?_ _)); exact BK571.out⟩, ⟨by (with_reducible repeat (first | refine blk_drewN ?_ _ | refine blk_drew ?_ | refine blk_alloc ?_ _)); exact BK582.out⟩, ⟨by (with_reducible repeat (first | refine blk_drewN ?_ _ | refine blk_drew ?_ | refine blk_alloc ?_ _)); exact BK593.out⟩, ⟨by repeat (first | (with_reducible first | exact HB.out | apply below_alloc | apply pw_below_drewN | apply below_drew1 | refine below_set ?_ GE571.out | refine below_set ?_ GE582.out | refine below_set ?_ GE593.out) | exact HB.out)⟩⟩
         ·rw [if_neg c45] at H
          exact absurd H (by simp)
        ·rw [if_neg c44] at H
         exact absurd H (by simp)
       ·rw [if_neg c43] at H
        have c43b0 : decide (a3 < (l0.length : Int)) = false := decide_eq_false c43
        clear c43
        have H' := Aside0.mk H
        clear H
        try go_wp2
        have n0_ := Aside0.mk (Kd.R_drew HO_12.out)
        have n1_ := Aside0.mk (Kd.R_drew HO_14.out)
        have n2_ := Aside0.mk (Kd.S_drew HO_572000.out)
        have n3_ := Aside0.mk (Kd.R_drew HO_572001.out)
        have n4_ := Aside0.mk (Kd.S_drew HO_583000.out)
        have n5_ := Aside0.mk (Kd.R_drew HO_583001.out)
        have n6_ := Aside0.mk (Kd.S_drew HO_594000.out)
        have n7_ := Aside0.mk (Kd.R_drew HO_594001.out)
        have n8_ := Aside0.mk (blk_drew BK571.out)
        have n9_ := Aside0.mk (blk_drew BK582.out)
        have n10_ := Aside0.mk (blk_drew BK593.out)
        have n11_ := Aside0.mk (below_drew1 HB.out)
        clear HO_12
        clear HO_14
        clear HO_572000
        clear HO_572001
        clear HO_583000
        clear HO_583001
        clear HO_594000
        clear HO_594001
        clear BK571
        clear BK582
        clear BK593
        clear HB
        have HO_12 := n0_
        have HO_14 := n1_
        have HO_572000 := n2_
        have HO_572001 := n3_
        have HO_583000 := n4_
        have HO_583001 := n5_
        have HO_594000 := n6_
        have HO_594001 := n7_
        have BK571 := n8_
        have BK582 := n9_
        have BK593 := n10_
        have HB := n11_
        clear n0_ n1_ n2_ n3_ n4_ n5_ n6_ n7_ n8_ n9_ n10_ n11_
        refine start_ (n := 28) (S := fun w' => True) (ds := []) #[false,false,false,false,false,false,false,false,false,false,false,false,false,false,false,false,false,false,false,false,false,false,false,false,false,false,false,false] (by kernel_rfl) rfl rfl trivial (fun hHeld => ?_); refine with_tabW bywashlaw15_DomupBack.tab9 bywashlaw15_DomupBack.bits9 (fun HT_ HW_ => ?_)
        generalize wc.drew = w52 at HO_12 HO_14 HO_572000 HO_572001 HO_583000 HO_583001 HO_594000 HO_594001 BK571 BK582 BK593 HB hHeld ⊢
        refine pure_ (i := 0) (N := some 50) (v := ?_) (a' := ?_) #[true,false,false,false,false,false,false,false,false,false,false,false,false,false,false,false,false,false,false,false,false,false,false,false,false,false,false,false] rfl rfl (any_of HT_.out (by kernel_rfl)) (fun _ _ _ h => h) (Or.inl ⟨by rfl, ?_⟩) ?_ ?_
        rotate_left
        ·intro w'
         go_simp
         with_reducible rfl
        rotate_left
        ·simp only [Act.put, List.setIfInBounds_toArray, List.set_cons_zero, List.set_cons_succ, i64_w, i32_w]
         rfl
        refine pure_ (i := 1) (N := some 51) (v := ?_) (a' := ?_) #[true,true,false,false,false,false,false,false,false,false,false,false,false,false,false,false,false,false,false,false,false,false,false,false,false,false,false,false] rfl rfl (any_of HT_.out (by kernel_rfl)) (fun _ _ _ h => h) (Or.inl ⟨by rfl, ?_⟩) ?_ ?_
        rotate_left
        ·intro w'
         go_simp
         with_reducible rfl
        rotate_left
        ·simp only [Act.put, List.setIfInBounds_toArray, List.set_cons_zero, List.set_cons_succ, i64_w, i32_w]
         rfl
        refine pure_ (i := 2) (N := some 52) (v := ?_) (a' := ?_) #[true,true,true,false,false,false,false,false,false,false,false,false,false,false,false,false,false,false,false,false,false,false,false,false,false,false,false,false] rfl rfl (any_of HT_.out (by kernel_rfl)) (fun _ _ _ h => h) (Or.inl ⟨by rfl, ?_⟩) ?_ ?_
        rotate_left
        ·intro w'
         go_simp
         with_reducible rfl
        rotate_left
        ·simp only [Act.put, List.setIfInBounds_toArray, List.set_cons_zero, List.set_cons_succ, i64_w, i32_w]
         rfl
        refine pure_ (i := 3) (N := some 53) (v := ?_) (a' := ?_) #[true,true,true,true,false,false,false,false,false,false,false,false,false,false,false,false,false,false,false,false,false,false,false,false,false,false,false,false] rfl rfl (any_of HT_.out (by kernel_rfl)) (fun _ _ _ h => h) (Or.inl ⟨by rfl, ?_⟩) ?_ ?_
        rotate_left
        ·intro w'
         go_simp
         with_reducible rfl
        rotate_left
        ·simp only [Act.put, List.setIfInBounds_toArray, List.set_cons_zero, List.set_cons_succ, i64_w, i32_w]
         rfl
        refine pure_ (i := 4) (N := some 54) (v := ?_) (a' := ?_) #[true,true,true,true,true,false,false,false,false,false,false,false,false,false,false,false,false,false,false,false,false,false,false,false,false,false,false,false] rfl rfl (any_of HT_.out (by kernel_rfl)) (fun _ _ _ h => h) (Or.inl ⟨by rfl, ?_⟩) ?_ ?_
        rotate_left
        ·intro w'
         go_simp
         with_reducible rfl
        rotate_left
        ·simp only [Act.put, List.setIfInBounds_toArray, List.set_cons_zero, List.set_cons_succ, i64_w, i32_w]
         rfl
        refine pure_ (i := 5) (N := some 55) (v := ?_) (a' := ?_) #[true,true,true,true,true,true,false,false,false,false,false,false,false,false,false,false,false,false,false,false,false,false,false,false,false,false,false,false] rfl rfl (any_of HT_.out (by kernel_rfl)) (fun _ _ _ h => h) (Or.inl ⟨by rfl, ?_⟩) ?_ ?_
        rotate_left
        ·intro w'
         go_simp
         with_reducible rfl
        rotate_left
        ·simp only [Act.put, List.setIfInBounds_toArray, List.set_cons_zero, List.set_cons_succ, i64_w, i32_w]
         rfl
        refine pure_ (i := 6) (N := some 56) (v := ?_) (a' := ?_) #[true,true,true,true,true,true,true,false,false,false,false,false,false,false,false,false,false,false,false,false,false,false,false,false,false,false,false,false] rfl rfl (any_of HT_.out (by kernel_rfl)) (fun _ _ _ h => h) (Or.inl ⟨by rfl, ?_⟩) ?_ ?_
        rotate_left
        ·intro w'
         go_simp
         with_reducible rfl
        rotate_left
        ·simp only [Act.put, List.setIfInBounds_toArray, List.set_cons_zero, List.set_cons_succ, i64_w, i32_w]
         rfl
        refine pure_ (i := 7) (N := some 57) (v := ?_) (a' := ?_) #[true,true,true,true,true,true,true,true,false,false,false,false,false,false,false,false,false,false,false,false,false,false,false,false,false,false,false,false] rfl rfl (any_of HT_.out (by kernel_rfl)) (fun _ _ _ h => h) (Or.inl ⟨by rfl, ?_⟩) ?_ ?_
        rotate_left
        ·intro w'
         go_simp
         with_reducible rfl
        rotate_left
        ·simp only [Act.put, List.setIfInBounds_toArray, List.set_cons_zero, List.set_cons_succ, i64_w, i32_w]
         rfl
        refine pure_ (i := 8) (N := some 58) (v := ?_) (a' := ?_) #[true,true,true,true,true,true,true,true,true,false,false,false,false,false,false,false,false,false,false,false,false,false,false,false,false,false,false,false] rfl rfl (any_of HT_.out (by kernel_rfl)) (fun _ _ _ h => h) (Or.inl ⟨by rfl, ?_⟩) ?_ ?_
        rotate_left
        ·intro w'
         go_simp
         with_reducible rfl
        rotate_left
        ·simp only [Act.put, List.setIfInBounds_toArray, List.set_cons_zero, List.set_cons_succ, i64_w, i32_w]
         rfl
        refine pure_ (i := 9) (N := some 59) (v := undef) (a' := ?_) #[true,true,true,true,true,true,true,true,true,true,false,false,false,false,false,false,false,false,false,false,false,false,false,false,false,false,false,false] rfl rfl (any_of HT_.out (by kernel_rfl)) (fun _ _ _ h => h) (Or.inr ⟨by rfl, rfl⟩) ?_ ?_
        rotate_left
        ·simp only [Act.put, List.setIfInBounds_toArray, List.set_cons_zero, List.set_cons_succ, i64_w, i32_w]
         rfl
        refine pure_ (i := 10) (N := some 60) (v := undef) (a' := ?_) #[true,true,true,true,true,true,true,true,true,true,true,false,false,false,false,false,false,false,false,false,false,false,false,false,false,false,false,false] rfl rfl (any_of HT_.out (by kernel_rfl)) (fun _ _ _ h => h) (Or.inr ⟨by rfl, rfl⟩) ?_ ?_
        rotate_left
        ·simp only [Act.put, List.setIfInBounds_toArray, List.set_cons_zero, List.set_cons_succ, i64_w, i32_w]
         rfl
        refine pure_ (i := 11) (N := some 61) (v := undef) (a' := ?_) #[true,true,true,true,true,true,true,true,true,true,true,true,false,false,false,false,false,false,false,false,false,false,false,false,false,false,false,false] rfl rfl (any_of HT_.out (by kernel_rfl)) (fun _ _ _ h => h) (Or.inr ⟨by rfl, rfl⟩) ?_ ?_
        rotate_left
        ·simp only [Act.put, List.setIfInBounds_toArray, List.set_cons_zero, List.set_cons_succ, i64_w, i32_w]
         rfl
        refine pure_ (i := 12) (N := some 62) (v := undef) (a' := ?_) #[true,true,true,true,true,true,true,true,true,true,true,true,true,false,false,false,false,false,false,false,false,false,false,false,false,false,false,false] rfl rfl (any_of HT_.out (by kernel_rfl)) (fun _ _ _ h => h) (Or.inr ⟨by rfl, rfl⟩) ?_ ?_
        rotate_left
        ·simp only [Act.put, List.setIfInBounds_toArray, List.set_cons_zero, List.set_cons_succ, i64_w, i32_w]
         rfl
        refine pure_ (i := 13) (N := some 63) (v := undef) (a' := ?_) #[true,true,true,true,true,true,true,true,true,true,true,true,true,true,false,false,false,false,false,false,false,false,false,false,false,false,false,false] rfl rfl (any_of HT_.out (by kernel_rfl)) (fun _ _ _ h => h) (Or.inr ⟨by rfl, rfl⟩) ?_ ?_
        rotate_left
        ·simp only [Act.put, List.setIfInBounds_toArray, List.set_cons_zero, List.set_cons_succ, i64_w, i32_w]
         rfl
        refine pure_ (i := 14) (N := some 64) (v := undef) (a' := ?_) #[true,true,true,true,true,true,true,true,true,true,true,true,true,true,true,false,false,false,false,false,false,false,false,false,false,false,false,false] rfl rfl (any_of HT_.out (by kernel_rfl)) (fun _ _ _ h => h) (Or.inr ⟨by rfl, rfl⟩) ?_ ?_
        rotate_left
        ·simp only [Act.put, List.setIfInBounds_toArray, List.set_cons_zero, List.set_cons_succ, i64_w, i32_w]
         rfl
        refine pure_ (i := 15) (N := some 65) (v := ?_) (a' := ?_) #[true,true,true,true,true,true,true,true,true,true,true,true,true,true,true,true,false,false,false,false,false,false,false,false,false,false,false,false] rfl rfl (any_of HT_.out (by kernel_rfl)) (fun _ _ _ h => h) (Or.inl ⟨by rfl, ?_⟩) ?_ ?_
        rotate_left
        ·intro w'
         go_simp
         with_reducible rfl
        rotate_left
        ·simp only [Act.put, List.setIfInBounds_toArray, List.set_cons_zero, List.set_cons_succ, i64_w, i32_w]
         rfl
        refine pure_ (i := 16) (N := some 66) (v := ?_) (a' := ?_) #[true,true,true,true,true,true,true,true,true,true,true,true,true,true,true,true,true,false,false,false,false,false,false,false,false,false,false,false] rfl rfl (any_of HT_.out (by kernel_rfl)) (fun _ _ _ h => h) (Or.inl ⟨by rfl, ?_⟩) ?_ ?_
        rotate_left
        ·intro w'
         go_simp
         with_reducible rfl
        rotate_left
        ·simp only [Act.put, List.setIfInBounds_toArray, List.set_cons_zero, List.set_cons_succ, i64_w, i32_w]
         rfl
        refine pure_ (i := 17) (N := some 67) (v := undef) (a' := ?_) #[true,true,true,true,true,true,true,true,true,true,true,true,true,true,true,true,true,true,false,false,false,false,false,false,false,false,false,false] rfl rfl (any_of HT_.out (by kernel_rfl)) (fun _ _ _ h => h) (Or.inr ⟨by rfl, rfl⟩) ?_ ?_
        rotate_left
        ·simp only [Act.put, List.setIfInBounds_toArray, List.set_cons_zero, List.set_cons_succ, i64_w, i32_w]
         rfl
        refine pure_ (i := 18) (N := some 68) (v := undef) (a' := ?_) #[true,true,true,true,true,true,true,true,true,true,true,true,true,true,true,true,true,true,true,false,false,false,false,false,false,false,false,false] rfl rfl (any_of HT_.out (by kernel_rfl)) (fun _ _ _ h => h) (Or.inr ⟨by rfl, rfl⟩) ?_ ?_
        rotate_left
        ·simp only [Act.put, List.setIfInBounds_toArray, List.set_cons_zero, List.set_cons_succ, i64_w, i32_w]
         rfl
        refine pure_ (i := 19) (N := some 69) (v := undef) (a' := ?_) #[true,true,true,true,true,true,true,true,true,true,true,true,true,true,true,true,true,true,true,true,false,false,false,false,false,false,false,false] rfl rfl (any_of HT_.out (by kernel_rfl)) (fun _ _ _ h => h) (Or.inr ⟨by rfl, rfl⟩) ?_ ?_
        rotate_left
        ·simp only [Act.put, List.setIfInBounds_toArray, List.set_cons_zero, List.set_cons_succ, i64_w, i32_w]
         rfl
        refine pure_ (i := 20) (N := some 70) (v := undef) (a' := ?_) #[true,true,true,true,true,true,true,true,true,true,true,true,true,true,true,true,true,true,true,true,true,false,false,false,false,false,false,false] rfl rfl (any_of HT_.out (by kernel_rfl)) (fun _ _ _ h => h) (Or.inr ⟨by rfl, rfl⟩) ?_ ?_
        rotate_left
        ·simp only [Act.put, List.setIfInBounds_toArray, List.set_cons_zero, List.set_cons_succ, i64_w, i32_w]
         rfl
        refine pure_ (i := 21) (N := some 71) (v := undef) (a' := ?_) #[true,true,true,true,true,true,true,true,true,true,true,true,true,true,true,true,true,true,true,true,true,true,false,false,false,false,false,false] rfl rfl (any_of HT_.out (by kernel_rfl)) (fun _ _ _ h => h) (Or.inr ⟨by rfl, rfl⟩) ?_ ?_
        rotate_left
        ·simp only [Act.put, List.setIfInBounds_toArray, List.set_cons_zero, List.set_cons_succ, i64_w, i32_w]
         rfl
        refine pure_ (i := 22) (N := some 72) (v := undef) (a' := ?_) #[true,true,true,true,true,true,true,true,true,true,true,true,true,true,true,true,true,true,true,true,true,true,true,false,false,false,false,false] rfl rfl (any_of HT_.out (by kernel_rfl)) (fun _ _ _ h => h) (Or.inr ⟨by rfl, rfl⟩) ?_ ?_
        rotate_left
        ·simp only [Act.put, List.setIfInBounds_toArray, List.set_cons_zero, List.set_cons_succ, i64_w, i32_w]
         rfl
        refine pure_ (i := 23) (N := some 73) (v := undef) (a' := ?_) #[true,true,true,true,true,true,true,true,true,true,true,true,true,true,true,true,true,true,true,true,true,true,true,true,false,false,false,false] rfl rfl (any_of HT_.out (by kernel_rfl)) (fun _ _ _ h => h) (Or.inr ⟨by rfl, rfl⟩) ?_ ?_
        rotate_left
        ·simp only [Act.put, List.setIfInBounds_toArray, List.set_cons_zero, List.set_cons_succ, i64_w, i32_w]
         rfl
        refine pure_ (i := 24) (N := some 74) (v := undef) (a' := ?_) #[true,true,true,true,true,true,true,true,true,true,true,true,true,true,true,true,true,true,true,true,true,true,true,true,true,false,false,false] rfl rfl (any_of HT_.out (by kernel_rfl)) (fun _ _ _ h => h) (Or.inr ⟨by rfl, rfl⟩) ?_ ?_
        rotate_left
        ·simp only [Act.put, List.setIfInBounds_toArray, List.set_cons_zero, List.set_cons_succ, i64_w, i32_w]
         rfl
        refine pure_ (i := 25) (N := some 75) (v := undef) (a' := ?_) #[true,true,true,true,true,true,true,true,true,true,true,true,true,true,true,true,true,true,true,true,true,true,true,true,true,true,false,false] rfl rfl (any_of HT_.out (by kernel_rfl)) (fun _ _ _ h => h) (Or.inr ⟨by rfl, rfl⟩) ?_ ?_
        rotate_left
        ·simp only [Act.put, List.setIfInBounds_toArray, List.set_cons_zero, List.set_cons_succ, i64_w, i32_w]
         rfl
        refine pure_ (i := 26) (N := some 76) (v := undef) (a' := ?_) #[true,true,true,true,true,true,true,true,true,true,true,true,true,true,true,true,true,true,true,true,true,true,true,true,true,true,true,false] rfl rfl (any_of HT_.out (by kernel_rfl)) (fun _ _ _ h => h) (Or.inr ⟨by rfl, rfl⟩) ?_ ?_
        rotate_left
        ·simp only [Act.put, List.setIfInBounds_toArray, List.set_cons_zero, List.set_cons_succ, i64_w, i32_w]
         rfl
        refine pure_ (i := 27) (N := some 77) (v := ?_) (a' := ?_) #[true,true,true,true,true,true,true,true,true,true,true,true,true,true,true,true,true,true,true,true,true,true,true,true,true,true,true,true] rfl rfl (any_of HT_.out (by kernel_rfl)) (fun _ _ _ h => h) (Or.inl ⟨by rfl, ?_⟩) ?_ ?_
        rotate_left
        ·intro w'
         go_simp
         with_reducible rfl
        rotate_left
        ·simp only [Act.put, List.setIfInBounds_toArray, List.set_cons_zero, List.set_cons_succ, i64_w, i32_w]
         rfl
        refine done_ (done_of HT_.out (by kernel_rfl)) ?_
        try go_wp2
        go_meet
        case rel => exact ⟨_, (false), (by first | rfl | (simp; done) | (simp [*]; done)), H', ⟨by have := HJ10.out; first | omega | exact Nat.le_refl _⟩, ⟨by (with_reducible repeat (first | apply Kd.R_alloc | apply Kd.R_drewN | apply Kd.R_drew)); exact HO_12.out⟩, ⟨by (with_reducible repeat (first | apply Kd.R_alloc | apply Kd.R_drewN | apply Kd.R_drew)); exact HO_14.out⟩, ⟨by (with_reducible repeat (first | apply Kd.S_alloc | apply Kd.S_drewN | apply Kd.S_drew)); exact HO_572000.out⟩, ⟨by (with_reducible repeat (first | apply Kd.R_alloc | apply Kd.R_drewN | apply Kd.R_drew)); exact HO_572001.out⟩, ⟨by (with_reducible repeat (first | apply Kd.S_alloc | apply Kd.S_drewN | apply Kd.S_drew)); exact HO_583000.out⟩, ⟨by (with_reducible repeat (first | apply Kd.R_alloc | apply Kd.R_drewN | apply Kd.R_drew)); exact HO_583001.out⟩, ⟨by (with_reducible repeat (first | apply Kd.S_alloc | apply Kd.S_drewN | apply Kd.S_drew)); exact HO_594000.out⟩, ⟨by (with_reducible repeat (first | apply Kd.R_alloc | apply Kd.R_drewN | apply Kd.R_drew)); exact HO_594001.out⟩, ⟨by (with_reducible repeat (first | refine blk_drewN ?_ _ | refine blk_drew ?_ | refine blk_alloc ?_ _)); exact BK571.out⟩, ⟨by (with_reducible repeat (first | refine blk_drewN ?_ _ | refine blk_drew ?_ | refine blk_alloc ?_ _)); exact BK582.out⟩, ⟨by (with_reducible repeat (first | refine blk_drewN ?_ _ | refine blk_drew ?_ | refine blk_alloc ?_ _)); exact BK593.out⟩, ⟨by repeat (first | (with_reducible first | exact HB.out | apply below_alloc | apply pw_below_drewN | apply below_drew1 | refine below_set ?_ GE571.out | refine below_set ?_ GE582.out | refine below_set ?_ GE593.out) | exact HB.out)⟩⟩
      ·rw [if_neg c42] at H
       have c42b0 : decide (0 ≤ a3) = false := decide_eq_false c42
       clear c42
       (first | rw [c42b0] | (simp only [i64_w, i32_w]; rw [c42b0]) | skip)
       have H' := Aside0.mk H
       clear H
       try go_wp2
       have n0_ := Aside0.mk (Kd.R_drew HO_12.out)
       have n1_ := Aside0.mk (Kd.R_drew HO_14.out)
       have n2_ := Aside0.mk (Kd.S_drew HO_572000.out)
       have n3_ := Aside0.mk (Kd.R_drew HO_572001.out)
       have n4_ := Aside0.mk (Kd.S_drew HO_583000.out)
       have n5_ := Aside0.mk (Kd.R_drew HO_583001.out)
       have n6_ := Aside0.mk (Kd.S_drew HO_594000.out)
       have n7_ := Aside0.mk (Kd.R_drew HO_594001.out)
       have n8_ := Aside0.mk (blk_drew BK571.out)
       have n9_ := Aside0.mk (blk_drew BK582.out)
       have n10_ := Aside0.mk (blk_drew BK593.out)
       have n11_ := Aside0.mk (below_drew1 HB.out)
       clear HO_12
       clear HO_14
       clear HO_572000
       clear HO_572001
       clear HO_583000
       clear HO_583001
       clear HO_594000
       clear HO_594001
       clear BK571
       clear BK582
       clear BK593
       clear HB
       have HO_12 := n0_
       have HO_14 := n1_
       have HO_572000 := n2_
       have HO_572001 := n3_
       have HO_583000 := n4_
       have HO_583001 := n5_
       have HO_594000 := n6_
       have HO_594001 := n7_
       have BK571 := n8_
       have BK582 := n9_
       have BK593 := n10_
       have HB := n11_
       clear n0_ n1_ n2_ n3_ n4_ n5_ n6_ n7_ n8_ n9_ n10_ n11_
       refine start_ (n := 28) (S := fun w' => True) (ds := []) #[false,false,false,false,false,false,false,false,false,false,false,false,false,false,false,false,false,false,false,false,false,false,false,false,false,false,false,false] (by kernel_rfl) rfl rfl trivial (fun hHeld => ?_); refine with_tabW bywashlaw15_DomupBack.tab9 bywashlaw15_DomupBack.bits9 (fun HT_ HW_ => ?_)
       generalize wc.drew = w53 at HO_12 HO_14 HO_572000 HO_572001 HO_583000 HO_583001 HO_594000 HO_594001 BK571 BK582 BK593 HB hHeld ⊢
       refine pure_ (i := 0) (N := some 50) (v := ?_) (a' := ?_) #[true,false,false,false,false,false,false,false,false,false,false,false,false,false,false,false,false,false,false,false,false,false,false,false,false,false,false,false] rfl rfl (any_of HT_.out (by kernel_rfl)) (fun _ _ _ h => h) (Or.inl ⟨by rfl, ?_⟩) ?_ ?_
       rotate_left
       ·intro w'
        go_simp
        with_reducible rfl
       rotate_left
       ·simp only [Act.put, List.setIfInBounds_toArray, List.set_cons_zero, List.set_cons_succ, i64_w, i32_w]
        rfl
       refine pure_ (i := 1) (N := some 51) (v := ?_) (a' := ?_) #[true,true,false,false,false,false,false,false,false,false,false,false,false,false,false,false,false,false,false,false,false,false,false,false,false,false,false,false] rfl rfl (any_of HT_.out (by kernel_rfl)) (fun _ _ _ h => h) (Or.inl ⟨by rfl, ?_⟩) ?_ ?_
       rotate_left
       ·intro w'
        go_simp
        with_reducible rfl
       rotate_left
       ·simp only [Act.put, List.setIfInBounds_toArray, List.set_cons_zero, List.set_cons_succ, i64_w, i32_w]
        rfl
       refine pure_ (i := 2) (N := some 52) (v := ?_) (a' := ?_) #[true,true,true,false,false,false,false,false,false,false,false,false,false,false,false,false,false,false,false,false,false,false,false,false,false,false,false,false] rfl rfl (any_of HT_.out (by kernel_rfl)) (fun _ _ _ h => h) (Or.inl ⟨by rfl, ?_⟩) ?_ ?_
       rotate_left
       ·intro w'
        go_simp
        with_reducible rfl
       rotate_left
       ·simp only [Act.put, List.setIfInBounds_toArray, List.set_cons_zero, List.set_cons_succ, i64_w, i32_w]
        rfl
       refine pure_ (i := 3) (N := some 53) (v := undef) (a' := ?_) #[true,true,true,true,false,false,false,false,false,false,false,false,false,false,false,false,false,false,false,false,false,false,false,false,false,false,false,false] rfl rfl (any_of HT_.out (by kernel_rfl)) (fun _ _ _ h => h) (Or.inr ⟨by rfl, rfl⟩) ?_ ?_
       rotate_left
       ·simp only [Act.put, List.setIfInBounds_toArray, List.set_cons_zero, List.set_cons_succ, i64_w, i32_w]
        rfl
       refine pure_ (i := 4) (N := some 54) (v := undef) (a' := ?_) #[true,true,true,true,true,false,false,false,false,false,false,false,false,false,false,false,false,false,false,false,false,false,false,false,false,false,false,false] rfl rfl (any_of HT_.out (by kernel_rfl)) (fun _ _ _ h => h) (Or.inr ⟨by rfl, rfl⟩) ?_ ?_
       rotate_left
       ·simp only [Act.put, List.setIfInBounds_toArray, List.set_cons_zero, List.set_cons_succ, i64_w, i32_w]
        rfl
       refine pure_ (i := 5) (N := some 55) (v := undef) (a' := ?_) #[true,true,true,true,true,true,false,false,false,false,false,false,false,false,false,false,false,false,false,false,false,false,false,false,false,false,false,false] rfl rfl (any_of HT_.out (by kernel_rfl)) (fun _ _ _ h => h) (Or.inr ⟨by rfl, rfl⟩) ?_ ?_
       rotate_left
       ·simp only [Act.put, List.setIfInBounds_toArray, List.set_cons_zero, List.set_cons_succ, i64_w, i32_w]
        rfl
       refine pure_ (i := 6) (N := some 56) (v := undef) (a' := ?_) #[true,true,true,true,true,true,true,false,false,false,false,false,false,false,false,false,false,false,false,false,false,false,false,false,false,false,false,false] rfl rfl (any_of HT_.out (by kernel_rfl)) (fun _ _ _ h => h) (Or.inr ⟨by rfl, rfl⟩) ?_ ?_
       rotate_left
       ·simp only [Act.put, List.setIfInBounds_toArray, List.set_cons_zero, List.set_cons_succ, i64_w, i32_w]
        rfl
       refine pure_ (i := 7) (N := some 57) (v := ?_) (a' := ?_) #[true,true,true,true,true,true,true,true,false,false,false,false,false,false,false,false,false,false,false,false,false,false,false,false,false,false,false,false] rfl rfl (any_of HT_.out (by kernel_rfl)) (fun _ _ _ h => h) (Or.inl ⟨by rfl, ?_⟩) ?_ ?_
       rotate_left
       ·intro w'
        go_simp
        with_reducible rfl
       rotate_left
       ·simp only [Act.put, List.setIfInBounds_toArray, List.set_cons_zero, List.set_cons_succ, i64_w, i32_w]
        rfl
       refine pure_ (i := 8) (N := some 58) (v := ?_) (a' := ?_) #[true,true,true,true,true,true,true,true,true,false,false,false,false,false,false,false,false,false,false,false,false,false,false,false,false,false,false,false] rfl rfl (any_of HT_.out (by kernel_rfl)) (fun _ _ _ h => h) (Or.inl ⟨by rfl, ?_⟩) ?_ ?_
       rotate_left
       ·intro w'
        go_simp
        with_reducible rfl
       rotate_left
       ·simp only [Act.put, List.setIfInBounds_toArray, List.set_cons_zero, List.set_cons_succ, i64_w, i32_w]
        rfl
       refine pure_ (i := 9) (N := some 59) (v := undef) (a' := ?_) #[true,true,true,true,true,true,true,true,true,true,false,false,false,false,false,false,false,false,false,false,false,false,false,false,false,false,false,false] rfl rfl (any_of HT_.out (by kernel_rfl)) (fun _ _ _ h => h) (Or.inr ⟨by rfl, rfl⟩) ?_ ?_
       rotate_left
       ·simp only [Act.put, List.setIfInBounds_toArray, List.set_cons_zero, List.set_cons_succ, i64_w, i32_w]
        rfl
       refine pure_ (i := 10) (N := some 60) (v := undef) (a' := ?_) #[true,true,true,true,true,true,true,true,true,true,true,false,false,false,false,false,false,false,false,false,false,false,false,false,false,false,false,false] rfl rfl (any_of HT_.out (by kernel_rfl)) (fun _ _ _ h => h) (Or.inr ⟨by rfl, rfl⟩) ?_ ?_
       rotate_left
       ·simp only [Act.put, List.setIfInBounds_toArray, List.set_cons_zero, List.set_cons_succ, i64_w, i32_w]
        rfl
       refine pure_ (i := 11) (N := some 61) (v := undef) (a' := ?_) #[true,true,true,true,true,true,true,true,true,true,true,true,false,false,false,false,false,false,false,false,false,false,false,false,false,false,false,false] rfl rfl (any_of HT_.out (by kernel_rfl)) (fun _ _ _ h => h) (Or.inr ⟨by rfl, rfl⟩) ?_ ?_
       rotate_left
       ·simp only [Act.put, List.setIfInBounds_toArray, List.set_cons_zero, List.set_cons_succ, i64_w, i32_w]
        rfl
       refine pure_ (i := 12) (N := some 62) (v := undef) (a' := ?_) #[true,true,true,true,true,true,true,true,true,true,true,true,true,false,false,false,false,false,false,false,false,false,false,false,false,false,false,false] rfl rfl (any_of HT_.out (by kernel_rfl)) (fun _ _ _ h => h) (Or.inr ⟨by rfl, rfl⟩) ?_ ?_
       rotate_left
       ·simp only [Act.put, List.setIfInBounds_toArray, List.set_cons_zero, List.set_cons_succ, i64_w, i32_w]
        rfl
       refine pure_ (i := 13) (N := some 63) (v := undef) (a' := ?_) #[true,true,true,true,true,true,true,true,true,true,true,true,true,true,false,false,false,false,false,false,false,false,false,false,false,false,false,false] rfl rfl (any_of HT_.out (by kernel_rfl)) (fun _ _ _ h => h) (Or.inr ⟨by rfl, rfl⟩) ?_ ?_
       rotate_left
       ·simp only [Act.put, List.setIfInBounds_toArray, List.set_cons_zero, List.set_cons_succ, i64_w, i32_w]
        rfl
       refine pure_ (i := 14) (N := some 64) (v := undef) (a' := ?_) #[true,true,true,true,true,true,true,true,true,true,true,true,true,true,true,false,false,false,false,false,false,false,false,false,false,false,false,false] rfl rfl (any_of HT_.out (by kernel_rfl)) (fun _ _ _ h => h) (Or.inr ⟨by rfl, rfl⟩) ?_ ?_
       rotate_left
       ·simp only [Act.put, List.setIfInBounds_toArray, List.set_cons_zero, List.set_cons_succ, i64_w, i32_w]
        rfl
       refine pure_ (i := 15) (N := some 65) (v := ?_) (a' := ?_) #[true,true,true,true,true,true,true,true,true,true,true,true,true,true,true,true,false,false,false,false,false,false,false,false,false,false,false,false] rfl rfl (any_of HT_.out (by kernel_rfl)) (fun _ _ _ h => h) (Or.inl ⟨by rfl, ?_⟩) ?_ ?_
       rotate_left
       ·intro w'
        go_simp
        with_reducible rfl
       rotate_left
       ·simp only [Act.put, List.setIfInBounds_toArray, List.set_cons_zero, List.set_cons_succ, i64_w, i32_w]
        rfl
       refine pure_ (i := 16) (N := some 66) (v := ?_) (a' := ?_) #[true,true,true,true,true,true,true,true,true,true,true,true,true,true,true,true,true,false,false,false,false,false,false,false,false,false,false,false] rfl rfl (any_of HT_.out (by kernel_rfl)) (fun _ _ _ h => h) (Or.inl ⟨by rfl, ?_⟩) ?_ ?_
       rotate_left
       ·intro w'
        go_simp
        with_reducible rfl
       rotate_left
       ·simp only [Act.put, List.setIfInBounds_toArray, List.set_cons_zero, List.set_cons_succ, i64_w, i32_w]
        rfl
       refine pure_ (i := 17) (N := some 67) (v := undef) (a' := ?_) #[true,true,true,true,true,true,true,true,true,true,true,true,true,true,true,true,true,true,false,false,false,false,false,false,false,false,false,false] rfl rfl (any_of HT_.out (by kernel_rfl)) (fun _ _ _ h => h) (Or.inr ⟨by rfl, rfl⟩) ?_ ?_
       rotate_left
       ·simp only [Act.put, List.setIfInBounds_toArray, List.set_cons_zero, List.set_cons_succ, i64_w, i32_w]
        rfl
       refine pure_ (i := 18) (N := some 68) (v := undef) (a' := ?_) #[true,true,true,true,true,true,true,true,true,true,true,true,true,true,true,true,true,true,true,false,false,false,false,false,false,false,false,false] rfl rfl (any_of HT_.out (by kernel_rfl)) (fun _ _ _ h => h) (Or.inr ⟨by rfl, rfl⟩) ?_ ?_
       rotate_left
       ·simp only [Act.put, List.setIfInBounds_toArray, List.set_cons_zero, List.set_cons_succ, i64_w, i32_w]
        rfl
       refine pure_ (i := 19) (N := some 69) (v := undef) (a' := ?_) #[true,true,true,true,true,true,true,true,true,true,true,true,true,true,true,true,true,true,true,true,false,false,false,false,false,false,false,false] rfl rfl (any_of HT_.out (by kernel_rfl)) (fun _ _ _ h => h) (Or.inr ⟨by rfl, rfl⟩) ?_ ?_
       rotate_left
       ·simp only [Act.put, List.setIfInBounds_toArray, List.set_cons_zero, List.set_cons_succ, i64_w, i32_w]
        rfl
       refine pure_ (i := 20) (N := some 70) (v := undef) (a' := ?_) #[true,true,true,true,true,true,true,true,true,true,true,true,true,true,true,true,true,true,true,true,true,false,false,false,false,false,false,false] rfl rfl (any_of HT_.out (by kernel_rfl)) (fun _ _ _ h => h) (Or.inr ⟨by rfl, rfl⟩) ?_ ?_
       rotate_left
       ·simp only [Act.put, List.setIfInBounds_toArray, List.set_cons_zero, List.set_cons_succ, i64_w, i32_w]
        rfl
       refine pure_ (i := 21) (N := some 71) (v := undef) (a' := ?_) #[true,true,true,true,true,true,true,true,true,true,true,true,true,true,true,true,true,true,true,true,true,true,false,false,false,false,false,false] rfl rfl (any_of HT_.out (by kernel_rfl)) (fun _ _ _ h => h) (Or.inr ⟨by rfl, rfl⟩) ?_ ?_
       rotate_left
       ·simp only [Act.put, List.setIfInBounds_toArray, List.set_cons_zero, List.set_cons_succ, i64_w, i32_w]
        rfl
       refine pure_ (i := 22) (N := some 72) (v := undef) (a' := ?_) #[true,true,true,true,true,true,true,true,true,true,true,true,true,true,true,true,true,true,true,true,true,true,true,false,false,false,false,false] rfl rfl (any_of HT_.out (by kernel_rfl)) (fun _ _ _ h => h) (Or.inr ⟨by rfl, rfl⟩) ?_ ?_
       rotate_left
       ·simp only [Act.put, List.setIfInBounds_toArray, List.set_cons_zero, List.set_cons_succ, i64_w, i32_w]
        rfl
       refine pure_ (i := 23) (N := some 73) (v := undef) (a' := ?_) #[true,true,true,true,true,true,true,true,true,true,true,true,true,true,true,true,true,true,true,true,true,true,true,true,false,false,false,false] rfl rfl (any_of HT_.out (by kernel_rfl)) (fun _ _ _ h => h) (Or.inr ⟨by rfl, rfl⟩) ?_ ?_
       rotate_left
       ·simp only [Act.put, List.setIfInBounds_toArray, List.set_cons_zero, List.set_cons_succ, i64_w, i32_w]
        rfl
       refine pure_ (i := 24) (N := some 74) (v := undef) (a' := ?_) #[true,true,true,true,true,true,true,true,true,true,true,true,true,true,true,true,true,true,true,true,true,true,true,true,true,false,false,false] rfl rfl (any_of HT_.out (by kernel_rfl)) (fun _ _ _ h => h) (Or.inr ⟨by rfl, rfl⟩) ?_ ?_
       rotate_left
       ·simp only [Act.put, List.setIfInBounds_toArray, List.set_cons_zero, List.set_cons_succ, i64_w, i32_w]
        rfl
       refine pure_ (i := 25) (N := some 75) (v := undef) (a' := ?_) #[true,true,true,true,true,true,true,true,true,true,true,true,true,true,true,true,true,true,true,true,true,true,true,true,true,true,false,false] rfl rfl (any_of HT_.out (by kernel_rfl)) (fun _ _ _ h => h) (Or.inr ⟨by rfl, rfl⟩) ?_ ?_
       rotate_left
       ·simp only [Act.put, List.setIfInBounds_toArray, List.set_cons_zero, List.set_cons_succ, i64_w, i32_w]
        rfl
       refine pure_ (i := 26) (N := some 76) (v := undef) (a' := ?_) #[true,true,true,true,true,true,true,true,true,true,true,true,true,true,true,true,true,true,true,true,true,true,true,true,true,true,true,false] rfl rfl (any_of HT_.out (by kernel_rfl)) (fun _ _ _ h => h) (Or.inr ⟨by rfl, rfl⟩) ?_ ?_
       rotate_left
       ·simp only [Act.put, List.setIfInBounds_toArray, List.set_cons_zero, List.set_cons_succ, i64_w, i32_w]
        rfl
       refine pure_ (i := 27) (N := some 77) (v := ?_) (a' := ?_) #[true,true,true,true,true,true,true,true,true,true,true,true,true,true,true,true,true,true,true,true,true,true,true,true,true,true,true,true] rfl rfl (any_of HT_.out (by kernel_rfl)) (fun _ _ _ h => h) (Or.inl ⟨by rfl, ?_⟩) ?_ ?_
       rotate_left
       ·intro w'
        go_simp
        with_reducible rfl
       rotate_left
       ·simp only [Act.put, List.setIfInBounds_toArray, List.set_cons_zero, List.set_cons_succ, i64_w, i32_w]
        rfl
       refine done_ (done_of HT_.out (by kernel_rfl)) ?_
       try go_wp2
       go_meet
       case rel => exact ⟨_, (false), (by first | rfl | (simp; done) | (simp [*]; done)), H', ⟨by have := HJ10.out; first | omega | exact Nat.le_refl _⟩, ⟨by (with_reducible repeat (first | apply Kd.R_alloc | apply Kd.R_drewN | apply Kd.R_drew)); exact HO_12.out⟩, ⟨by (with_reducible repeat (first | apply Kd.R_alloc | apply Kd.R_drewN | apply Kd.R_drew)); exact HO_14.out⟩, ⟨by (with_reducible repeat (first | apply Kd.S_alloc | apply Kd.S_drewN | apply Kd.S_drew)); exact HO_572000.out⟩, ⟨by (with_reducible repeat (first | apply Kd.R_alloc | apply Kd.R_drewN | apply Kd.R_drew)); exact HO_572001.out⟩, ⟨by (with_reducible repeat (first | apply Kd.S_alloc | apply Kd.S_drewN | apply Kd.S_drew)); exact HO_583000.out⟩, ⟨by (with_reducible repeat (first | apply Kd.R_alloc | apply Kd.R_drewN | apply Kd.R_drew)); exact HO_583001.out⟩, ⟨by (with_reducible repeat (first | apply Kd.S_alloc | apply Kd.S_drewN | apply Kd.S_drew)); exact HO_594000.out⟩, ⟨by (with_reducible repeat (first | apply Kd.R_alloc | apply Kd.R_drewN | apply Kd.R_drew)); exact HO_594001.out⟩, ⟨by (with_reducible repeat (first | refine blk_drewN ?_ _ | refine blk_drew ?_ | refine blk_alloc ?_ _)); exact BK571.out⟩, ⟨by (with_reducible repeat (first | refine blk_drewN ?_ _ | refine blk_drew ?_ | refine blk_alloc ?_ _)); exact BK582.out⟩, ⟨by (with_reducible repeat (first | refine blk_drewN ?_ _ | refine blk_drew ?_ | refine blk_alloc ?_ _)); exact BK593.out⟩, ⟨by repeat (first | (with_reducible first | exact HB.out | apply below_alloc | apply pw_below_drewN | apply below_drew1 | refine below_set ?_ GE571.out | refine below_set ?_ GE582.out | refine below_set ?_ GE593.out) | exact HB.out)⟩⟩
     case rest =>
      clear HC41
      try clear p2
      try clear c4
      try clear q5
      try clear hx5
      try clear c42
      try clear c42b0
      try clear c43
      try clear c43b0
      try clear c44
      try clear c45
      try clear hx594_0
      try clear q594
      obtain ⟨kq, x77_40, rfl, HA, HJ40, HO_12, HO_14, HO_572000, HO_572001, HO_583000, HO_583001, HO_594000, HO_594001, BK571, BK582, BK593, HB⟩ := hcut
      cases kq with
      | zero => exact absurd HA.out (by simp [bywashlaw15_DomupBack.j1])
      | succ kj40 =>
       have H := HA.out
       clear HA
       simp only [bywashlaw15_DomupBack.j1] at H
       by_cases c54 : x77_40 = true
       ·subst c54
        have H1 : (some false) = some r := by rw [if_pos rfl] at H; exact H
        clear H
        have H := H1
        clear H1
        obtain rfl := Option.some.inj H
        go_wp2
        go_ret
        exact ⟨by first | rfl | (simp [errW_none, errW_some] <;> rfl) | (simp [*, errW_none, errW_some] <;> rfl) | (exfalso; (try simp_all); (try omega); done), by repeat (first | (with_reducible first | exact HB.out | apply below_alloc | apply pw_below_drewN | apply below_drew1 | refine below_set ?_ GE571.out | refine below_set ?_ GE582.out | refine below_set ?_ GE593.out) | exact HB.out)⟩
       ·replace c54 := Bool.eq_false_iff.mpr c54
        subst c54
        have H1 : (if a1 ≥ 0 then (if a1 < (t564.length : Int) then (if 0 ≤ a1 then ((bywashref10_Has.f kj40 (rd_L1 t564 a1) a2).bind fun t598 => (bywashlaw15_DomupBack.j2 kj40 t562 t579 t590 t598 t564 t567 t570 t583 t586 t589)) else (none)) else (bywashlaw15_DomupBack.j2 kj40 t562 t579 t590 false t564 t567 t570 t583 t586 t589)) else (bywashlaw15_DomupBack.j2 kj40 t562 t579 t590 false t564 t567 t570 t583 t586 t589)) = some r := by rw [if_neg (show ¬ (false = true) by decide)] at H; exact H
        clear H
        have H := H1
        clear H1
        have HC55 := Aside0.mk H
        clear H
        go_upto_region 11 with (fail)
        go_cut [95] (fun v95 wc => ∃ (kq : Nat) (x95_54 : Bool), v95 = .bool x95_54 ∧ Aside0 (bywashlaw15_DomupBack.j2 kq t562 t579 t590 x95_54 t564 t567 t570 t583 t586 t589 = some r) ∧ Aside0 (kq ≤ kj40) ∧ Aside0 (Kd.R (Kd.int .i64) 3 wc w.heap.size (fun k_ => some k_ ≠ (v591 : Value).ownBlock ∧ some k_ ≠ ((.slice Ao17 t567.length co17) : Value).ownBlock ∧ some k_ ≠ ((.slice Ao23 t575.length co23) : Value).ownBlock ∧ some k_ ≠ ((.slice Ao30 t586.length co30) : Value).ownBlock) v580 t579) ∧ Aside0 (Kd.R (Kd.int .i64) 3 wc w.heap.size (fun k_ => some k_ ≠ (v580 : Value).ownBlock ∧ some k_ ≠ ((.slice Ao17 t567.length co17) : Value).ownBlock ∧ some k_ ≠ ((.slice Ao23 t575.length co23) : Value).ownBlock ∧ some k_ ≠ ((.slice Ao30 t586.length co30) : Value).ownBlock) v591 t590) ∧ Aside0 (Kd.S (Kd.slice 3 (Kd.int .i64)) 25 wc w.heap.size (fun k_ => some k_ ≠ (v580 : Value).ownBlock ∧ some k_ ≠ (v591 : Value).ownBlock ∧ some k_ ≠ ((.slice Ao17 t567.length co17) : Value).ownBlock ∧ some k_ ≠ ((.slice Ao20 t572.length co20) : Value).ownBlock ∧ some k_ ≠ ((.slice Ao23 t575.length co23) : Value).ownBlock ∧ some k_ ≠ ((.slice Ao26 t583.length co26) : Value).ownBlock ∧ some k_ ≠ ((.slice Ao30 t586.length co30) : Value).ownBlock) (.slice Ao15 t564.length co15) t564) ∧ Aside0 (Kd.R (Kd.int .i64) 3 wc w.heap.size (fun k_ => some k_ ≠ (v580 : Value).ownBlock ∧ some k_ ≠ (v591 : Value).ownBlock ∧ some k_ ≠ ((.slice Ao23 t575.length co23) : Value).ownBlock ∧ some k_ ≠ ((.slice Ao30 t586.length co30) : Value).ownBlock) (.slice Ao17 t567.length co17) t567) ∧ Aside0 (Kd.S (Kd.slice 3 (Kd.int .i64)) 25 wc w.heap.size (fun k_ => some k_ ≠ (v580 : Value).ownBlock ∧ some k_ ≠ (v591 : Value).ownBlock ∧ some k_ ≠ ((.slice Ao15 t564.length co15) : Value).ownBlock ∧ some k_ ≠ ((.slice Ao17 t567.length co17) : Value).ownBlock ∧ some k_ ≠ ((.slice Ao23 t575.length co23) : Value).ownBlock ∧ some k_ ≠ ((.slice Ao26 t583.length co26) : Value).ownBlock ∧ some k_ ≠ ((.slice Ao30 t586.length co30) : Value).ownBlock) (.slice Ao20 t572.length co20) t572) ∧ Aside0 (Kd.R (Kd.int .i64) 3 wc w.heap.size (fun k_ => some k_ ≠ (v580 : Value).ownBlock ∧ some k_ ≠ (v591 : Value).ownBlock ∧ some k_ ≠ ((.slice Ao17 t567.length co17) : Value).ownBlock ∧ some k_ ≠ ((.slice Ao30 t586.length co30) : Value).ownBlock) (.slice Ao23 t575.length co23) t575) ∧ Aside0 (Kd.S (Kd.slice 3 (Kd.int .i64)) 25 wc w.heap.size (fun k_ => some k_ ≠ (v580 : Value).ownBlock ∧ some k_ ≠ (v591 : Value).ownBlock ∧ some k_ ≠ ((.slice Ao15 t564.length co15) : Value).ownBlock ∧ some k_ ≠ ((.slice Ao17 t567.length co17) : Value).ownBlock ∧ some k_ ≠ ((.slice Ao20 t572.length co20) : Value).ownBlock ∧ some k_ ≠ ((.slice Ao23 t575.length co23) : Value).ownBlock ∧ some k_ ≠ ((.slice Ao30 t586.length co30) : Value).ownBlock) (.slice Ao26 t583.length co26) t583) ∧ Aside0 (Kd.R (Kd.int .i64) 3 wc w.heap.size (fun k_ => some k_ ≠ (v580 : Value).ownBlock ∧ some k_ ≠ (v591 : Value).ownBlock ∧ some k_ ≠ ((.slice Ao17 t567.length co17) : Value).ownBlock ∧ some k_ ≠ ((.slice Ao23 t575.length co23) : Value).ownBlock) (.slice Ao30 t586.length co30) t586) ∧ Aside0 (wc.heap[gb571]? = some (.cells #[(.slice Ao15 t564.length co15), (.slice Ao17 t567.length co17), .bool t570] 40 (0, 0))) ∧ Aside0 (wc.heap[gb582]? = some (.cells #[(.slice Ao20 t572.length co20), (.slice Ao23 t575.length co23), .bool t578] 40 (0, 0))) ∧ Aside0 (wc.heap[gb593]? = some (.cells #[(.slice Ao26 t583.length co26), (.slice Ao30 t586.length co30), .bool t589] 40 (0, 0))) ∧ Aside0 (Below w.heap.size w wc))
        case first =>
         have H := HC55.out
         clear HC55
         by_cases c56 : a1 ≥ 0
         ·rw [if_pos c56] at H
          have c56b0 : decide (0 ≤ a1) = true := decide_eq_true c56
          clear c56
          (first | rw [c56b0] | (simp only [i64_w, i32_w]; rw [c56b0]) | skip)
          by_cases c57 : a1 < (t564.length : Int)
          ·rw [if_pos c57] at H
           have c57b0 : decide (a1 < (t564.length : Int)) = true := decide_eq_true c57
           clear c57
           by_cases c58 : 0 ≤ a1
           ·rw [if_pos c58] at H
            have c58b0 : decide (0 ≤ a1) = true := decide_eq_true c58
            clear c58
            replace H := Option.bind_eq_some_iff.mp H
            obtain ⟨t598, A590, H⟩ := H
            replace H : (bywashlaw15_DomupBack.j2 kj40 t562 t579 t590 t598 t564 t567 t570 t583 t586 t589) = some r := H
            have A59 := Aside0.mk A590
            clear A590
            have H' := Aside0.mk H
            clear H
            have hnb60 := NB571_582.out
            have hnc60 := NB582_571.out
            have hnb61 := NB571_593.out
            have hnc61 := NB593_571.out
            have hcz62_0 : wc.cell? ⟨gb571, 0, none⟩ = some (.slice Ao15 t564.length co15) := (blk_cell BK571.out 0).trans rfl
            have hcz62_1 : wc.cell? ⟨gb571, 1, none⟩ = some (.slice Ao17 t567.length co17) := (blk_cell BK571.out 1).trans rfl
            have hcz62_2 : wc.cell? ⟨gb571, 2, none⟩ = some (.bool t570) := (blk_cell BK571.out 2).trans rfl
            have hfz62_0 := blk_frozen BK571.out 0
            have hfz62_1 := blk_frozen BK571.out 1
            have hfz62_2 := blk_frozen BK571.out 2
            have p597 : 0 ≤ (a1 : Int) := of_decide_eq_true (by first | (with_reducible assumption) | assumption)
            have q597 : a1 < (t564.length : Int) := of_decide_eq_true (by first | (with_reducible assumption) | assumption)
            obtain ⟨ad597, A597_0, c597_0, e597, hx597_0, hl597_0, hi597_0⟩ := at_L1 (Kd.S_reads' HO_572000.out).2.2 a1 p597 q597
            cases e597
            obtain ⟨ce597, hce597, hMe597, hcc597⟩ := Kd.S_get HO_572000.out [] a1 p597 (by first | exact q597 | exact of_decide_eq_true (by first | (with_reducible assumption) | assumption) | (have e_ := (Kd.S_reads' HO_572000.out).1; omega))
            obtain ⟨ve597_0, rfl, ge597_0⟩ := hMe597
            have hv597_0 := hcc597 0 _ rfl
            rw [Nat.add_zero, show ((Kd.slice 3 (Kd.int .i64))).sz = 1 from rfl, Nat.mul_one] at hv597_0
            replace hv597_0 := Option.some.inj (hv597_0.symm.trans hx597_0)
            rw [hv597_0] at ge597_0
            have HL597_0 := Aside0.mk (show Kd.R (Kd.int .i64) 3 _ _ _ _ (rd_L1 t564 a1) from ge597_0)
            clear hv597_0 ge597_0
            clear hcc597 hce597
            have HR597_0 := Aside0.mk hi597_0
            have HC597_0 := Aside0.mk hl597_0
            clear hi597_0 hl597_0
            replace p597 := eq_true p597
            replace q597 := eq_true q597
            go_wp2_with (first | (go_at_call 36; (with_reducible refine (bywashref10_Has.calls kj40 _ _ (rd_L1 t564 a1) a2 t598 _ ?side1 ?side2 A59.out).mono ?_); (case side1 => repeat (first | exact (by repeat (first | (with_reducible exact HR597_0.out) | (with_reducible refine Kd.C_alloc ?_ _) | (with_reducible refine Kd.C_drewN ?_ _) | (with_reducible refine Kd.C_drew ?_) | exact HR597_0.out)) | (with_reducible refine Kd.C_alloc ?_ _) | (with_reducible refine Kd.C_drewN ?_ _) | (with_reducible refine Kd.C_drew ?_))); (case side2 => exact HC597_0.out); rintro e w' ⟨rfl, ⟨nd, rfl⟩⟩))
            go_meet
            case rel => exact ⟨_, (t598), (by first | rfl | (simp; done) | (simp [*]; done)), H', ⟨by have := HJ10.out; have := HJ40.out; first | omega | exact Nat.le_refl _⟩, ⟨by (with_reducible repeat (first | apply Kd.R_alloc | apply Kd.R_drewN | apply Kd.R_drew)); exact HO_12.out⟩, ⟨by (with_reducible repeat (first | apply Kd.R_alloc | apply Kd.R_drewN | apply Kd.R_drew)); exact HO_14.out⟩, ⟨by (with_reducible repeat (first | apply Kd.S_alloc | apply Kd.S_drewN | apply Kd.S_drew)); exact HO_572000.out⟩, ⟨by (with_reducible repeat (first | apply Kd.R_alloc | apply Kd.R_drewN | apply Kd.R_drew)); exact HO_572001.out⟩, ⟨by (with_reducible repeat (first | apply Kd.S_alloc | apply Kd.S_drewN | apply Kd.S_drew)); exact HO_583000.out⟩, ⟨by (with_reducible repeat (first | apply Kd.R_alloc | apply Kd.R_drewN | apply Kd.R_drew)); exact HO_583001.out⟩, ⟨by (with_reducible repeat (first | apply Kd.S_alloc | apply Kd.S_drewN | apply Kd.S_drew)); exact HO_594000.out⟩, ⟨by (with_reducible repeat (first | apply Kd.R_alloc | apply Kd.R_drewN | apply Kd.R_drew)); exact HO_594001.out⟩, ⟨by (with_reducible repeat (first | refine blk_drewN ?_ _ | refine blk_drew ?_ | refine blk_alloc ?_ _)); exact BK571.out⟩, ⟨by (with_reducible repeat (first | refine blk_drewN ?_ _ | refine blk_drew ?_ | refine blk_alloc ?_ _)); exact BK582.out⟩, ⟨by (with_reducible repeat (first | refine blk_drewN ?_ _ | refine blk_drew ?_ | refine blk_alloc ?_ _)); exact BK593.out⟩, ⟨by repeat (first | (with_reducible first | exact HB.out | apply below_alloc | apply pw_below_drewN | apply below_drew1 | refine below_set ?_ GE571.out | refine below_set ?_ GE582.out | refine below_set ?_ GE593.out) | exact HB.out)⟩⟩
           ·rw [if_neg c58] at H
            exact absurd H (by simp)
          ·rw [if_neg c57] at H
           have c57b0 : decide (a1 < (t564.length : Int)) = false := decide_eq_false c57
           clear c57
           have H' := Aside0.mk H
           clear H
           have hnb63 := NB571_582.out
           have hnc63 := NB582_571.out
           have hnb64 := NB571_593.out
           have hnc64 := NB593_571.out
           have hcz65_0 : wc.cell? ⟨gb571, 0, none⟩ = some (.slice Ao15 t564.length co15) := (blk_cell BK571.out 0).trans rfl
           have hcz65_1 : wc.cell? ⟨gb571, 1, none⟩ = some (.slice Ao17 t567.length co17) := (blk_cell BK571.out 1).trans rfl
           have hcz65_2 : wc.cell? ⟨gb571, 2, none⟩ = some (.bool t570) := (blk_cell BK571.out 2).trans rfl
           have hfz65_0 := blk_frozen BK571.out 0
           have hfz65_1 := blk_frozen BK571.out 1
           have hfz65_2 := blk_frozen BK571.out 2
           go_wp2
           go_meet
           case rel => exact ⟨_, (false), (by first | rfl | (simp; done) | (simp [*]; done)), H', ⟨by have := HJ10.out; have := HJ40.out; first | omega | exact Nat.le_refl _⟩, ⟨by (with_reducible repeat (first | apply Kd.R_alloc | apply Kd.R_drewN | apply Kd.R_drew)); exact HO_12.out⟩, ⟨by (with_reducible repeat (first | apply Kd.R_alloc | apply Kd.R_drewN | apply Kd.R_drew)); exact HO_14.out⟩, ⟨by (with_reducible repeat (first | apply Kd.S_alloc | apply Kd.S_drewN | apply Kd.S_drew)); exact HO_572000.out⟩, ⟨by (with_reducible repeat (first | apply Kd.R_alloc | apply Kd.R_drewN | apply Kd.R_drew)); exact HO_572001.out⟩, ⟨by (with_reducible repeat (first | apply Kd.S_alloc | apply Kd.S_drewN | apply Kd.S_drew)); exact HO_583000.out⟩, ⟨by (with_reducible repeat (first | apply Kd.R_alloc | apply Kd.R_drewN | apply Kd.R_drew)); exact HO_583001.out⟩, ⟨by (with_reducible repeat (first | apply Kd.S_alloc | apply Kd.S_drewN | apply Kd.S_drew)); exact HO_594000.out⟩, ⟨by (with_reducible repeat (first | apply Kd.R_alloc | apply Kd.R_drewN | apply Kd.R_drew)); exact HO_594001.out⟩, ⟨by (with_reducible repeat (first | refine blk_drewN ?_ _ | refine blk_drew ?_ | refine blk_alloc ?_ _)); exact BK571.out⟩, ⟨by (with_reducible repeat (first | refine blk_drewN ?_ _ | refine blk_drew ?_ | refine blk_alloc ?_ _)); exact BK582.out⟩, ⟨by (with_reducible repeat (first | refine blk_drewN ?_ _ | refine blk_drew ?_ | refine blk_alloc ?_ _)); exact BK593.out⟩, ⟨by repeat (first | (with_reducible first | exact HB.out | apply below_alloc | apply pw_below_drewN | apply below_drew1 | refine below_set ?_ GE571.out | refine below_set ?_ GE582.out | refine below_set ?_ GE593.out) | exact HB.out)⟩⟩
         ·rw [if_neg c56] at H
          have c56b0 : decide (0 ≤ a1) = false := decide_eq_false c56
          clear c56
          (first | rw [c56b0] | (simp only [i64_w, i32_w]; rw [c56b0]) | skip)
          have H' := Aside0.mk H
          clear H
          go_wp2
          go_meet
          case rel => exact ⟨_, (false), (by first | rfl | (simp; done) | (simp [*]; done)), H', ⟨by have := HJ10.out; have := HJ40.out; first | omega | exact Nat.le_refl _⟩, ⟨by (with_reducible repeat (first | apply Kd.R_alloc | apply Kd.R_drewN | apply Kd.R_drew)); exact HO_12.out⟩, ⟨by (with_reducible repeat (first | apply Kd.R_alloc | apply Kd.R_drewN | apply Kd.R_drew)); exact HO_14.out⟩, ⟨by (with_reducible repeat (first | apply Kd.S_alloc | apply Kd.S_drewN | apply Kd.S_drew)); exact HO_572000.out⟩, ⟨by (with_reducible repeat (first | apply Kd.R_alloc | apply Kd.R_drewN | apply Kd.R_drew)); exact HO_572001.out⟩, ⟨by (with_reducible repeat (first | apply Kd.S_alloc | apply Kd.S_drewN | apply Kd.S_drew)); exact HO_583000.out⟩, ⟨by (with_reducible repeat (first | apply Kd.R_alloc | apply Kd.R_drewN | apply Kd.R_drew)); exact HO_583001.out⟩, ⟨by (with_reducible repeat (first | apply Kd.S_alloc | apply Kd.S_drewN | apply Kd.S_drew)); exact HO_594000.out⟩, ⟨by (with_reducible repeat (first | apply Kd.R_alloc | apply Kd.R_drewN | apply Kd.R_drew)); exact HO_594001.out⟩, ⟨by (with_reducible repeat (first | refine blk_drewN ?_ _ | refine blk_drew ?_ | refine blk_alloc ?_ _)); exact BK571.out⟩, ⟨by (with_reducible repeat (first | refine blk_drewN ?_ _ | refine blk_drew ?_ | refine blk_alloc ?_ _)); exact BK582.out⟩, ⟨by (with_reducible repeat (first | refine blk_drewN ?_ _ | refine blk_drew ?_ | refine blk_alloc ?_ _)); exact BK593.out⟩, ⟨by repeat (first | (with_reducible first | exact HB.out | apply below_alloc | apply pw_below_drewN | apply below_drew1 | refine below_set ?_ GE571.out | refine below_set ?_ GE582.out | refine below_set ?_ GE593.out) | exact HB.out)⟩⟩
        case rest =>
         clear HC55
         try clear p2
         try clear c4
         try clear c5
         try clear p5
         try clear q5
         try clear hx5
         try clear c6
         try clear c42
         try clear c42b0
         try clear c43
         try clear c43b0
         try clear c44
         try clear c45
         try clear c54
         try clear c56
         try clear c56b0
         try clear c57
         try clear c57b0
         try clear c58
         try clear c58b0
         try clear c59
         try clear p59
         try clear q59
         try clear hx59
         try clear c60
         try clear c61
         try clear c63
         try clear c64
         try clear hcz62_0
         try clear hcz62_1
         try clear hcz62_2
         try clear hcz65_0
         try clear hcz65_1
         try clear hcz65_2
         try clear hfz62_0
         try clear hfz62_1
         try clear hfz62_2
         try clear hfz65_0
         try clear hfz65_1
         try clear hfz65_2
         try clear hx594_0
         try clear hx597_0
         try clear p2
         try clear p597
         try clear q5
         try clear q594
         try clear q597
         obtain ⟨kq, x95_54, rfl, HA, HJ54, HO_12, HO_14, HO_572000, HO_572001, HO_583000, HO_583001, HO_594000, HO_594001, BK571, BK582, BK593, HB⟩ := hcut
         cases kq with
         | zero => exact absurd HA.out (by simp [bywashlaw15_DomupBack.j2])
         | succ kj54 =>
          have H := HA.out
          clear HA
          simp only [bywashlaw15_DomupBack.j2] at H
          by_cases c66 : x95_54 = true
          ·subst c66
           have H1 : (if t562 = true then (some ((t579.length : Int) == 0)) else (some false)) = some r := by rw [if_pos rfl] at H; exact H
           clear H
           have H := H1
           clear H1
           by_cases c67 : t562 = true
           ·subst c67
            have H1 : (some ((t579.length : Int) == 0)) = some r := by rw [if_pos rfl] at H; exact H
            clear H
            have H := H1
            clear H1
            obtain rfl := Option.some.inj H
            obtain ⟨Ao68, co68, eo68⟩ := Kd.R_slice HO_12.out
            subst eo68
            go_wp2
            go_ret
            exact ⟨by first | rfl | (simp [errW_none, errW_some] <;> rfl) | (simp [*, errW_none, errW_some] <;> rfl) | (exfalso; (try simp_all); (try omega); done), by repeat (first | (with_reducible first | exact HB.out | apply below_alloc | apply pw_below_drewN | apply below_drew1 | refine below_set ?_ GE571.out | refine below_set ?_ GE582.out | refine below_set ?_ GE593.out) | exact HB.out)⟩
           ·replace c67 := Bool.eq_false_iff.mpr c67
            subst c67
            have H1 : (some false) = some r := by rw [if_neg (show ¬ (false = true) by decide)] at H; exact H
            clear H
            have H := H1
            clear H1
            obtain rfl := Option.some.inj H
            go_wp2
            go_ret
            exact ⟨by first | rfl | (simp [errW_none, errW_some] <;> rfl) | (simp [*, errW_none, errW_some] <;> rfl) | (exfalso; (try simp_all); (try omega); done), by repeat (first | (with_reducible first | exact HB.out | apply below_alloc | apply pw_below_drewN | apply below_drew1 | refine below_set ?_ GE571.out | refine below_set ?_ GE582.out | refine below_set ?_ GE593.out) | exact HB.out)⟩
          ·replace c66 := Bool.eq_false_iff.mpr c66
           subst c66
           have H1 : (if t562 = true then ((bywashlaw15_theirs.f t564 t567 t570).bind fun bt599 => ((bywashlaw15_theirs.f t583 t586 t589).bind fun bt605 => ((bywashref15_Same.f kj54 bt599.1 bt599.2 bt605.1 bt605.2).bind fun t611 => (if t611 = true then ((bywashref01_Ints.f kj54 t579 t590).bind fun t612 => (some t612)) else (some false))))) else (some false)) = some r := by rw [if_neg (show ¬ (false = true) by decide)] at H; exact H
           clear H
           have H := H1
           clear H1
           by_cases c69 : t562 = true
           ·subst c69
            have H1 : ((bywashlaw15_theirs.f t564 t567 t570).bind fun bt599 => ((bywashlaw15_theirs.f t583 t586 t589).bind fun bt605 => ((bywashref15_Same.f kj54 bt599.1 bt599.2 bt605.1 bt605.2).bind fun t611 => (if t611 = true then ((bywashref01_Ints.f kj54 t579 t590).bind fun t612 => (some t612)) else (some false))))) = some r := by rw [if_pos rfl] at H; exact H
            clear H
            have H := H1
            clear H1
            replace H := Option.bind_eq_some_iff.mp H
            obtain ⟨⟨t599, t602⟩, A700, H⟩ := H
            replace H : ((bywashlaw15_theirs.f t583 t586 t589).bind fun bt605 => ((bywashref15_Same.f kj54 t599 t602 bt605.1 bt605.2).bind fun t611 => (if t611 = true then ((bywashref01_Ints.f kj54 t579 t590).bind fun t612 => (some t612)) else (some false)))) = some r := H
            have A70 := Aside0.mk A700
            clear A700
            replace H := Option.bind_eq_some_iff.mp H
            obtain ⟨⟨t605, t608⟩, A710, H⟩ := H
            replace H : ((bywashref15_Same.f kj54 t599 t602 t605 t608).bind fun t611 => (if t611 = true then ((bywashref01_Ints.f kj54 t579 t590).bind fun t612 => (some t612)) else (some false))) = some r := H
            have A71 := Aside0.mk A710
            clear A710
            replace H := Option.bind_eq_some_iff.mp H
            obtain ⟨t611, A720, H⟩ := H
            replace H : (if t611 = true then ((bywashref01_Ints.f kj54 t579 t590).bind fun t612 => (some t612)) else (some false)) = some r := H
            have A72 := Aside0.mk A720
            clear A720
            by_cases c73 : t611 = true
            ·subst c73
             have H1 : ((bywashref01_Ints.f kj54 t579 t590).bind fun t612 => (some t612)) = some r := by rw [if_pos rfl] at H; exact H
             clear H
             have H := H1
             clear H1
             replace H := Option.bind_eq_some_iff.mp H
             obtain ⟨t612, A740, H⟩ := H
             replace H : (some t612) = some r := H
             have A74 := Aside0.mk A740
             clear A740
             obtain rfl := Option.some.inj H
             try go_wp2
             have n0_ := Aside0.mk (Kd.R_drew HO_12.out)
             have n1_ := Aside0.mk (Kd.R_drew HO_14.out)
             have n2_ := Aside0.mk (Kd.S_drew HO_572000.out)
             have n3_ := Aside0.mk (Kd.R_drew HO_572001.out)
             have n4_ := Aside0.mk (Kd.S_drew HO_583000.out)
             have n5_ := Aside0.mk (Kd.R_drew HO_583001.out)
             have n6_ := Aside0.mk (Kd.S_drew HO_594000.out)
             have n7_ := Aside0.mk (Kd.R_drew HO_594001.out)
             have n8_ := Aside0.mk (blk_drew BK571.out)
             have n9_ := Aside0.mk (blk_drew BK582.out)
             have n10_ := Aside0.mk (blk_drew BK593.out)
             have n11_ := Aside0.mk (below_drew1 HB.out)
             clear HO_12
             clear HO_14
             clear HO_572000
             clear HO_572001
             clear HO_583000
             clear HO_583001
             clear HO_594000
             clear HO_594001
             clear BK571
             clear BK582
             clear BK593
             clear HB
             have HO_12 := n0_
             have HO_14 := n1_
             have HO_572000 := n2_
             have HO_572001 := n3_
             have HO_583000 := n4_
             have HO_583001 := n5_
             have HO_594000 := n6_
             have HO_594001 := n7_
             have BK571 := n8_
             have BK582 := n9_
             have BK593 := n10_
             have HB := n11_
             clear n0_ n1_ n2_ n3_ n4_ n5_ n6_ n7_ n8_ n9_ n10_ n11_
             refine start_ (n := 14) (S := fun w' => w'.cell? ⟨gb571, 0, none⟩ = some (.slice Ao15 t564.length co15) ∧ w'.cell? ⟨gb571, 1, none⟩ = some (.slice Ao17 t567.length co17) ∧ w'.cell? ⟨gb571, 2, none⟩ = some (.bool t570) ∧ w'.cell? ⟨gb593, 0, none⟩ = some (.slice Ao26 t583.length co26) ∧ w'.cell? ⟨gb593, 1, none⟩ = some (.slice Ao30 t586.length co30) ∧ w'.cell? ⟨gb593, 2, none⟩ = some (.bool t589)) (ds := []) #[false,false,false,false,false,false,false,false,false,false,false,false,false,false] (by kernel_rfl) rfl rfl ⟨(blk_cell BK571.out 0).trans rfl, (blk_cell BK571.out 1).trans rfl, (blk_cell BK571.out 2).trans rfl, (blk_cell BK593.out 0).trans rfl, (blk_cell BK593.out 1).trans rfl, (blk_cell BK593.out 2).trans rfl⟩ (fun hHeld => ?_); refine with_tabW bywashlaw15_DomupBack.tab13 bywashlaw15_DomupBack.bits13 (fun HT_ HW_ => ?_)
             generalize wc.drew = w75 at HO_12 HO_14 HO_572000 HO_572001 HO_583000 HO_583001 HO_594000 HO_594001 BK571 BK582 BK593 HB hHeld ⊢
             refine pure_ (i := 0) (N := some 102) (v := ?_) (a' := ?_) #[true,false,false,false,false,false,false,false,false,false,false,false,false,false] rfl rfl (any_of HT_.out (by kernel_rfl)) (fun _ _ _ h => h) (Or.inl ⟨by rfl, ?_⟩) ?_ ?_
             rotate_left
             ·intro w'
              go_simp
              with_reducible rfl
             rotate_left
             ·simp only [Act.put, List.setIfInBounds_toArray, List.set_cons_zero, List.set_cons_succ, i64_w, i32_w]
              rfl
             refine pure_ (i := 1) (N := some 103) (v := ?_) (a' := ?_) #[true,true,false,false,false,false,false,false,false,false,false,false,false,false] rfl rfl (any_of HT_.out (by kernel_rfl)) (fun _ _ _ h => h) (Or.inl ⟨by rfl, ?_⟩) ?_ ?_
             rotate_left
             ·intro w'
              go_simp
              with_reducible rfl
             rotate_left
             ·simp only [Act.put, List.setIfInBounds_toArray, List.set_cons_zero, List.set_cons_succ, i64_w, i32_w]
              rfl
             refine take_ (i := 2) (N := some 104) (v := ?_) (a' := ?_) #[true,true,true,false,false,false,false,false,false,false,false,false,false,false] rfl rfl (take_ofW HT_.out HW_.out (by kernel_rfl)) (fun _ _ _ h => h) (Or.inl ⟨by rfl, ?_⟩) hHeld ?_ ?_
             rotate_left
             ·rintro w' ⟨s0, s1, s2, s3, s4, s5⟩
              go_simp
              with_reducible rfl
             rotate_left
             ·simp only [Act.put, List.setIfInBounds_toArray, List.set_cons_zero, List.set_cons_succ, i64_w, i32_w]
              rfl
             refine take_ (i := 4) (N := some 106) (v := ?_) (a' := ?_) #[true,true,true,false,true,false,false,false,false,false,false,false,false,false] rfl rfl (take_ofW HT_.out HW_.out (by kernel_rfl)) (fun _ _ _ h => h) (Or.inl ⟨by rfl, ?_⟩) hHeld ?_ ?_
             rotate_left
             ·rintro w' ⟨s0, s1, s2, s3, s4, s5⟩
              go_simp
              with_reducible rfl
             rotate_left
             ·simp only [Act.put, List.setIfInBounds_toArray, List.set_cons_zero, List.set_cons_succ, i64_w, i32_w]
              rfl
             refine one_ (i := 3) (N := some 105) #[true,true,true,true,true,false,false,false,false,false,false,false,false,false] rfl rfl (one_of HT_.out (by kernel_rfl)) (by decide) (fun K hK => ?_)
             refine goes_ Try.func38 (by kernel_rfl) rfl #[.agg #[.slice Ao15 t564.length co15, .slice Ao17 t567.length co17, .bool t570]] (by rfl) rfl rfl (by (try simp only [List.map_toArray, List.map_cons, List.map_nil]); first | done | rfl | (simp only [List.length_drop, List.length_take]; rfl)) ?_
             with_reducible refine (bywashlaw15_theirs.calls (fun k_ => ((((some k_ ≠ (v580 : Value).ownBlock ∧ (some k_ ≠ (v591 : Value).ownBlock ∧ (some k_ ≠ (.slice Ao17 t567.length co17 : Value).ownBlock ∧ (some k_ ≠ (.slice Ao20 t572.length co20 : Value).ownBlock ∧ (some k_ ≠ (.slice Ao23 t575.length co23 : Value).ownBlock ∧ (some k_ ≠ (.slice Ao26 t583.length co26 : Value).ownBlock ∧ some k_ ≠ (.slice Ao30 t586.length co30 : Value).ownBlock)))))) ∧ k_ ≠ gb571) ∧ k_ ≠ gb582) ∧ k_ ≠ gb593)) _ _ t564 (fun k_ => some k_ = (.slice Ao17 t567.length co17 : Value).ownBlock) (.slice Ao17 t567.length co17) t567 t570 t599 t602 w _ ?side1 ?side2 ?side3 A70.out).mono ?_
             (case side1 => repeat (first | (with_reducible first | exact HB.out | apply below_alloc | apply pw_below_drewN | apply below_drew1 | refine below_set ?_ GE571.out | refine below_set ?_ GE582.out | refine below_set ?_ GE593.out) | exact HB.out))
             (case side2 => exact Kd.V_mono (Kd.S_V (Kd.S_types (Kd.S_types (Kd.S_types (HO_572000.out) BK571.out (by decide)) BK582.out (by decide)) BK593.out (by decide))) (fun k_ hk_ => ⟨hk_, hk_.1.1.1.2.2.1⟩))
             (case side3 => exact Kd.R_tight rfl HO_572001.out)
             rintro e w76 ⟨v600, v603, rfl, ho0, ho1, hb, hkp⟩
             refine ⟨_, rfl, ?_⟩
             have n0_ := Aside0.mk (Kd.R_mono (ok' := fun k_ => some k_ ≠ (v591 : Value).ownBlock ∧ some k_ ≠ (.slice Ao23 t575.length co23 : Value).ownBlock ∧ some k_ ≠ (.slice Ao30 t586.length co30 : Value).ownBlock ∧ some k_ ≠ (v603 : Value).ownBlock) (Kd.R_keptB (HO_12.out) hkp (fun k_ hk_ hs_ => (hk_.2.1) hs_)) (fun k_ hk_ => ⟨hk_.1.1, hk_.1.2.2.1, hk_.1.2.2.2, fun e_ => Or.elim (ho1.1 k_ e_.symm) (fun hs_ => hk_.2.1 hs_) (fun hn_ => Nat.not_le.2 hk_.2.2 hn_)⟩))
             have n1_ := Aside0.mk (Kd.R_mono (ok' := fun k_ => some k_ ≠ (v580 : Value).ownBlock ∧ some k_ ≠ (.slice Ao23 t575.length co23 : Value).ownBlock ∧ some k_ ≠ (.slice Ao30 t586.length co30 : Value).ownBlock ∧ some k_ ≠ (v603 : Value).ownBlock) (Kd.R_keptB (HO_14.out) hkp (fun k_ hk_ hs_ => (hk_.2.1) hs_)) (fun k_ hk_ => ⟨hk_.1.1, hk_.1.2.2.1, hk_.1.2.2.2, fun e_ => Or.elim (ho1.1 k_ e_.symm) (fun hs_ => hk_.2.1 hs_) (fun hn_ => Nat.not_le.2 hk_.2.2 hn_)⟩))
             have n2_ := Aside0.mk (Kd.S_mono (ok' := fun k_ => some k_ ≠ (v580 : Value).ownBlock ∧ some k_ ≠ (v591 : Value).ownBlock ∧ some k_ ≠ (.slice Ao20 t572.length co20 : Value).ownBlock ∧ some k_ ≠ (.slice Ao23 t575.length co23 : Value).ownBlock ∧ some k_ ≠ (.slice Ao26 t583.length co26 : Value).ownBlock ∧ some k_ ≠ (.slice Ao30 t586.length co30 : Value).ownBlock ∧ some k_ ≠ (v603 : Value).ownBlock) (Kd.S_keptB (HO_572000.out) hkp (fun k_ hk_ hs_ => (hk_.2.2.1) hs_)) (fun k_ hk_ => ⟨hk_.1.1, hk_.1.2.1, hk_.1.2.2.2.1, hk_.1.2.2.2.2.1, hk_.1.2.2.2.2.2.1, hk_.1.2.2.2.2.2.2, fun e_ => Or.elim (ho1.1 k_ e_.symm) (fun hs_ => hk_.2.1 hs_) (fun hn_ => Nat.not_le.2 hk_.2.2 hn_)⟩))
             have n3_ := Aside0.mk (Kd.S_mono (ok' := fun k_ => some k_ ≠ (v580 : Value).ownBlock ∧ some k_ ≠ (v591 : Value).ownBlock ∧ some k_ ≠ (.slice Ao15 t564.length co15 : Value).ownBlock ∧ some k_ ≠ (.slice Ao23 t575.length co23 : Value).ownBlock ∧ some k_ ≠ (.slice Ao26 t583.length co26 : Value).ownBlock ∧ some k_ ≠ (.slice Ao30 t586.length co30 : Value).ownBlock ∧ some k_ ≠ (v603 : Value).ownBlock) (Kd.S_keptB (HO_583000.out) hkp (fun k_ hk_ hs_ => (hk_.2.2.2.1) hs_)) (fun k_ hk_ => ⟨hk_.1.1, hk_.1.2.1, hk_.1.2.2.1, hk_.1.2.2.2.2.1, hk_.1.2.2.2.2.2.1, hk_.1.2.2.2.2.2.2, fun e_ => Or.elim (ho1.1 k_ e_.symm) (fun hs_ => hk_.2.1 hs_) (fun hn_ => Nat.not_le.2 hk_.2.2 hn_)⟩))
             have n4_ := Aside0.mk (Kd.R_mono (ok' := fun k_ => some k_ ≠ (v580 : Value).ownBlock ∧ some k_ ≠ (v591 : Value).ownBlock ∧ some k_ ≠ (.slice Ao30 t586.length co30 : Value).ownBlock ∧ some k_ ≠ (v603 : Value).ownBlock) (Kd.R_keptB (HO_583001.out) hkp (fun k_ hk_ hs_ => (hk_.2.2.1) hs_)) (fun k_ hk_ => ⟨hk_.1.1, hk_.1.2.1, hk_.1.2.2.2, fun e_ => Or.elim (ho1.1 k_ e_.symm) (fun hs_ => hk_.2.1 hs_) (fun hn_ => Nat.not_le.2 hk_.2.2 hn_)⟩))
             have n5_ := Aside0.mk (Kd.S_mono (ok' := fun k_ => some k_ ≠ (v580 : Value).ownBlock ∧ some k_ ≠ (v591 : Value).ownBlock ∧ some k_ ≠ (.slice Ao15 t564.length co15 : Value).ownBlock ∧ some k_ ≠ (.slice Ao20 t572.length co20 : Value).ownBlock ∧ some k_ ≠ (.slice Ao23 t575.length co23 : Value).ownBlock ∧ some k_ ≠ (.slice Ao30 t586.length co30 : Value).ownBlock ∧ some k_ ≠ (v603 : Value).ownBlock) (Kd.S_keptB (HO_594000.out) hkp (fun k_ hk_ hs_ => (hk_.2.2.2.1) hs_)) (fun k_ hk_ => ⟨hk_.1.1, hk_.1.2.1, hk_.1.2.2.1, hk_.1.2.2.2.2.1, hk_.1.2.2.2.2.2.1, hk_.1.2.2.2.2.2.2, fun e_ => Or.elim (ho1.1 k_ e_.symm) (fun hs_ => hk_.2.1 hs_) (fun hn_ => Nat.not_le.2 hk_.2.2 hn_)⟩))
             have n6_ := Aside0.mk (Kd.R_mono (ok' := fun k_ => some k_ ≠ (v580 : Value).ownBlock ∧ some k_ ≠ (v591 : Value).ownBlock ∧ some k_ ≠ (.slice Ao23 t575.length co23 : Value).ownBlock ∧ some k_ ≠ (v603 : Value).ownBlock) (Kd.R_keptB (HO_594001.out) hkp (fun k_ hk_ hs_ => (hk_.2.2.1) hs_)) (fun k_ hk_ => ⟨hk_.1.1, hk_.1.2.1, hk_.1.2.2.2, fun e_ => Or.elim (ho1.1 k_ e_.symm) (fun hs_ => hk_.2.1 hs_) (fun hn_ => Nat.not_le.2 hk_.2.2 hn_)⟩))
             have n7_ := Aside0.mk (blk_kept (by (with_reducible repeat (first | refine blk_drewN ?_ _ | refine blk_drew ?_ | refine blk_alloc ?_ _)); exact BK571.out) hkp (fun hs_ => (fun e_ => (Kd.R_ne HO_572001.out BK571.out (by decide)) e_) hs_))
             have n8_ := Aside0.mk (blk_kept (by (with_reducible repeat (first | refine blk_drewN ?_ _ | refine blk_drew ?_ | refine blk_alloc ?_ _)); exact BK582.out) hkp (fun hs_ => (fun e_ => (Kd.R_ne HO_572001.out BK582.out (by decide)) e_) hs_))
             have n9_ := Aside0.mk (blk_kept (by (with_reducible repeat (first | refine blk_drewN ?_ _ | refine blk_drew ?_ | refine blk_alloc ?_ _)); exact BK593.out) hkp (fun hs_ => (fun e_ => (Kd.R_ne HO_572001.out BK593.out (by decide)) e_) hs_))
             have n10_ := Aside0.mk (Kd.V_mono (ok' := fun k_ => some k_ ≠ (v603 : Value).ownBlock ∧ some k_ ≠ (v580 : Value).ownBlock ∧ some k_ ≠ (v591 : Value).ownBlock ∧ some k_ ≠ (.slice Ao20 t572.length co20 : Value).ownBlock ∧ some k_ ≠ (.slice Ao23 t575.length co23 : Value).ownBlock ∧ some k_ ≠ (.slice Ao26 t583.length co26 : Value).ownBlock ∧ some k_ ≠ (.slice Ao30 t586.length co30 : Value).ownBlock ∧ k_ ≠ gb571 ∧ k_ ≠ gb582 ∧ k_ ≠ gb593) ho0 (fun k_ hk_ => ⟨hk_.2, Or.elim hk_.1 (fun hs_ => Or.elim hs_ (fun hs_ => fun e_ => (((HO_12.out).1 k_ e_.symm).2.1) hs_) (fun hs_ => hs_.1.1.1.1)) (fun hn_ => (Kd.fresh' (Kd.R_lt (by (with_reducible repeat (first | apply Kd.R_alloc | apply Kd.R_drewN | apply Kd.R_drew)); exact HO_12.out)) k_ hn_)), Or.elim hk_.1 (fun hs_ => Or.elim hs_ (fun hs_ => fun e_ => (((HO_14.out).1 k_ e_.symm).2.1) hs_) (fun hs_ => hs_.1.1.1.2.1)) (fun hn_ => (Kd.fresh' (Kd.R_lt (by (with_reducible repeat (first | apply Kd.R_alloc | apply Kd.R_drewN | apply Kd.R_drew)); exact HO_14.out)) k_ hn_)), Or.elim hk_.1 (fun hs_ => Or.elim hs_ (fun hs_ => fun e_ => (((Kd.S_R HO_583000.out).1 k_ e_.symm).2.2.2.1) hs_) (fun hs_ => hs_.1.1.1.2.2.2.1)) (fun hn_ => (Kd.fresh' (Kd.S_lt (by (with_reducible repeat (first | apply Kd.S_alloc | apply Kd.S_drewN | apply Kd.S_drew)); exact HO_583000.out)) k_ hn_)), Or.elim hk_.1 (fun hs_ => Or.elim hs_ (fun hs_ => fun e_ => (((HO_583001.out).1 k_ e_.symm).2.2.1) hs_) (fun hs_ => hs_.1.1.1.2.2.2.2.1)) (fun hn_ => (Kd.fresh' (Kd.R_lt (by (with_reducible repeat (first | apply Kd.R_alloc | apply Kd.R_drewN | apply Kd.R_drew)); exact HO_583001.out)) k_ hn_)), Or.elim hk_.1 (fun hs_ => Or.elim hs_ (fun hs_ => fun e_ => (((Kd.S_R HO_594000.out).1 k_ e_.symm).2.2.2.1) hs_) (fun hs_ => hs_.1.1.1.2.2.2.2.2.1)) (fun hn_ => (Kd.fresh' (Kd.S_lt (by (with_reducible repeat (first | apply Kd.S_alloc | apply Kd.S_drewN | apply Kd.S_drew)); exact HO_594000.out)) k_ hn_)), Or.elim hk_.1 (fun hs_ => Or.elim hs_ (fun hs_ => fun e_ => (((HO_594001.out).1 k_ e_.symm).2.2.1) hs_) (fun hs_ => hs_.1.1.1.2.2.2.2.2.2)) (fun hn_ => (Kd.fresh' (Kd.R_lt (by (with_reducible repeat (first | apply Kd.R_alloc | apply Kd.R_drewN | apply Kd.R_drew)); exact HO_594001.out)) k_ hn_)), Or.elim hk_.1 (fun hs_ => Or.elim hs_ (fun hs_ => fun e_ => (Kd.R_ne HO_572001.out BK571.out (by decide)) (by rw [← e_]; exact hs_)) (fun hs_ => hs_.1.1.2)) (fun hn_ => (Kd.freshB (g := gb571) (o := .cells #[.slice Ao15 t564.length co15, .slice Ao17 t567.length co17, .bool t570] 40 (0, 0)) (by (with_reducible repeat (first | refine blk_drewN ?_ _ | refine blk_drew ?_ | refine blk_alloc ?_ _)); exact BK571.out) k_ hn_)), Or.elim hk_.1 (fun hs_ => Or.elim hs_ (fun hs_ => fun e_ => (Kd.R_ne HO_572001.out BK582.out (by decide)) (by rw [← e_]; exact hs_)) (fun hs_ => hs_.1.2)) (fun hn_ => (Kd.freshB (g := gb582) (o := .cells #[.slice Ao20 t572.length co20, .slice Ao23 t575.length co23, .bool t578] 40 (0, 0)) (by (with_reducible repeat (first | refine blk_drewN ?_ _ | refine blk_drew ?_ | refine blk_alloc ?_ _)); exact BK582.out) k_ hn_)), Or.elim hk_.1 (fun hs_ => Or.elim hs_ (fun hs_ => fun e_ => (Kd.R_ne HO_572001.out BK593.out (by decide)) (by rw [← e_]; exact hs_)) (fun hs_ => hs_.2)) (fun hn_ => (Kd.freshB (g := gb593) (o := .cells #[.slice Ao26 t583.length co26, .slice Ao30 t586.length co30, .bool t589] 40 (0, 0)) (by (with_reducible repeat (first | refine blk_drewN ?_ _ | refine blk_drew ?_ | refine blk_alloc ?_ _)); exact BK593.out) k_ hn_))⟩))
             have n11_ := Aside0.mk (Kd.R_mono (ok' := fun k_ => some k_ ≠ (v580 : Value).ownBlock ∧ some k_ ≠ (v591 : Value).ownBlock ∧ some k_ ≠ (.slice Ao23 t575.length co23 : Value).ownBlock ∧ some k_ ≠ (.slice Ao30 t586.length co30 : Value).ownBlock) ho1 (fun k_ hk_ => ⟨Or.elim hk_ (fun hs_ => fun e_ => (((HO_12.out).1 k_ e_.symm).2.1) hs_) (fun hn_ => (Kd.fresh' (Kd.R_lt (by (with_reducible repeat (first | apply Kd.R_alloc | apply Kd.R_drewN | apply Kd.R_drew)); exact HO_12.out)) k_ hn_)), Or.elim hk_ (fun hs_ => fun e_ => (((HO_14.out).1 k_ e_.symm).2.1) hs_) (fun hn_ => (Kd.fresh' (Kd.R_lt (by (with_reducible repeat (first | apply Kd.R_alloc | apply Kd.R_drewN | apply Kd.R_drew)); exact HO_14.out)) k_ hn_)), Or.elim hk_ (fun hs_ => fun e_ => (((HO_583001.out).1 k_ e_.symm).2.2.1) hs_) (fun hn_ => (Kd.fresh' (Kd.R_lt (by (with_reducible repeat (first | apply Kd.R_alloc | apply Kd.R_drewN | apply Kd.R_drew)); exact HO_583001.out)) k_ hn_)), Or.elim hk_ (fun hs_ => fun e_ => (((HO_594001.out).1 k_ e_.symm).2.2.1) hs_) (fun hn_ => (Kd.fresh' (Kd.R_lt (by (with_reducible repeat (first | apply Kd.R_alloc | apply Kd.R_drewN | apply Kd.R_drew)); exact HO_594001.out)) k_ hn_))⟩))
             have n12_ := Aside0.mk (hb)
             clear HO_12
             clear HO_14
             clear HO_572000
             clear HO_583000
             clear HO_583001
             clear HO_594000
             clear HO_594001
             clear BK571
             clear BK582
             clear BK593
             clear HB
             clear HO_572001
             have HO_12 := n0_
             have HO_14 := n1_
             have HO_572000 := n2_
             have HO_583000 := n3_
             have HO_583001 := n4_
             have HO_594000 := n5_
             have HO_594001 := n6_
             have BK571 := n7_
             have BK582 := n8_
             have BK593 := n9_
             have HO601 := n10_
             have HO604 := n11_
             have HB := n12_
             clear n0_ n1_ n2_ n3_ n4_ n5_ n6_ n7_ n8_ n9_ n10_ n11_ n12_
             (try clear hb)
             (try clear hkp)
             (try clear ho0)
             (try clear ho1)
             refine hK.out _ _ ⟨(blk_cell BK571.out 0).trans rfl, (blk_cell BK571.out 1).trans rfl, (blk_cell BK571.out 2).trans rfl, (blk_cell BK593.out 0).trans rfl, (blk_cell BK593.out 1).trans rfl, (blk_cell BK593.out 2).trans rfl⟩ (fun hHeld => ?_)
             clear hK K
             refine norm_ (a' := ?_) ?_ ?_
             rotate_left
             ·show Act.put _ (some 105) _ = _
              simp only [Act.put, List.setIfInBounds_toArray, List.set_cons_zero, List.set_cons_succ, i64_w, i32_w]
              rfl
             refine one_ (i := 5) (N := some 107) #[true,true,true,true,true,true,false,false,false,false,false,false,false,false] rfl rfl (one_of HT_.out (by kernel_rfl)) (by decide) (fun K hK => ?_)
             refine goes_ Try.func38 (by kernel_rfl) rfl #[.agg #[.slice Ao26 t583.length co26, .slice Ao30 t586.length co30, .bool t589]] (by rfl) rfl rfl (by (try simp only [List.map_toArray, List.map_cons, List.map_nil]); first | done | rfl | (simp only [List.length_drop, List.length_take]; rfl)) ?_
             with_reducible refine (bywashlaw15_theirs.calls (fun k_ => ((((some k_ ≠ (v580 : Value).ownBlock ∧ (some k_ ≠ (v591 : Value).ownBlock ∧ (some k_ ≠ (.slice Ao15 t564.length co15 : Value).ownBlock ∧ (some k_ ≠ (.slice Ao20 t572.length co20 : Value).ownBlock ∧ (some k_ ≠ (.slice Ao23 t575.length co23 : Value).ownBlock ∧ (some k_ ≠ (.slice Ao30 t586.length co30 : Value).ownBlock ∧ some k_ ≠ (v603 : Value).ownBlock)))))) ∧ k_ ≠ gb571) ∧ k_ ≠ gb582) ∧ k_ ≠ gb593)) _ _ t583 (fun k_ => some k_ = (.slice Ao30 t586.length co30 : Value).ownBlock) (.slice Ao30 t586.length co30) t586 t589 t605 t608 w _ ?side1 ?side2 ?side3 A71.out).mono ?_
             (case side1 => repeat (first | (with_reducible first | exact HB.out | apply below_alloc | apply pw_below_drewN | apply below_drew1 | refine below_set ?_ GE571.out | refine below_set ?_ GE582.out | refine below_set ?_ GE593.out) | exact HB.out))
             (case side2 => exact Kd.V_mono (Kd.S_V (Kd.S_types (Kd.S_types (Kd.S_types (HO_594000.out) BK571.out (by decide)) BK582.out (by decide)) BK593.out (by decide))) (fun k_ hk_ => ⟨hk_, hk_.1.1.1.2.2.2.2.2.1⟩))
             (case side3 => exact Kd.R_tight rfl HO_594001.out)
             rintro e w77 ⟨v606, v609, rfl, ho0, ho1, hb, hkp⟩
             refine ⟨_, rfl, ?_⟩
             have n0_ := Aside0.mk (Kd.R_mono (ok' := fun k_ => some k_ ≠ (v591 : Value).ownBlock ∧ some k_ ≠ (.slice Ao23 t575.length co23 : Value).ownBlock ∧ some k_ ≠ (v603 : Value).ownBlock ∧ some k_ ≠ (v609 : Value).ownBlock) (Kd.R_keptB (HO_12.out) hkp (fun k_ hk_ hs_ => (hk_.2.2.1) hs_)) (fun k_ hk_ => ⟨hk_.1.1, hk_.1.2.1, hk_.1.2.2.2, fun e_ => Or.elim (ho1.1 k_ e_.symm) (fun hs_ => hk_.2.1 hs_) (fun hn_ => Nat.not_le.2 hk_.2.2 hn_)⟩))
             have n1_ := Aside0.mk (Kd.R_mono (ok' := fun k_ => some k_ ≠ (v580 : Value).ownBlock ∧ some k_ ≠ (.slice Ao23 t575.length co23 : Value).ownBlock ∧ some k_ ≠ (v603 : Value).ownBlock ∧ some k_ ≠ (v609 : Value).ownBlock) (Kd.R_keptB (HO_14.out) hkp (fun k_ hk_ hs_ => (hk_.2.2.1) hs_)) (fun k_ hk_ => ⟨hk_.1.1, hk_.1.2.1, hk_.1.2.2.2, fun e_ => Or.elim (ho1.1 k_ e_.symm) (fun hs_ => hk_.2.1 hs_) (fun hn_ => Nat.not_le.2 hk_.2.2 hn_)⟩))
             have n2_ := Aside0.mk (Kd.S_mono (ok' := fun k_ => some k_ ≠ (v580 : Value).ownBlock ∧ some k_ ≠ (v591 : Value).ownBlock ∧ some k_ ≠ (.slice Ao20 t572.length co20 : Value).ownBlock ∧ some k_ ≠ (.slice Ao23 t575.length co23 : Value).ownBlock ∧ some k_ ≠ (.slice Ao26 t583.length co26 : Value).ownBlock ∧ some k_ ≠ (v603 : Value).ownBlock ∧ some k_ ≠ (v609 : Value).ownBlock) (Kd.S_keptB (HO_572000.out) hkp (fun k_ hk_ hs_ => (hk_.2.2.2.2.2.1) hs_)) (fun k_ hk_ => ⟨hk_.1.1, hk_.1.2.1, hk_.1.2.2.1, hk_.1.2.2.2.1, hk_.1.2.2.2.2.1, hk_.1.2.2.2.2.2.2, fun e_ => Or.elim (ho1.1 k_ e_.symm) (fun hs_ => hk_.2.1 hs_) (fun hn_ => Nat.not_le.2 hk_.2.2 hn_)⟩))
             have n3_ := Aside0.mk (Kd.S_mono (ok' := fun k_ => some k_ ≠ (v580 : Value).ownBlock ∧ some k_ ≠ (v591 : Value).ownBlock ∧ some k_ ≠ (.slice Ao15 t564.length co15 : Value).ownBlock ∧ some k_ ≠ (.slice Ao23 t575.length co23 : Value).ownBlock ∧ some k_ ≠ (.slice Ao26 t583.length co26 : Value).ownBlock ∧ some k_ ≠ (v603 : Value).ownBlock ∧ some k_ ≠ (v609 : Value).ownBlock) (Kd.S_keptB (HO_583000.out) hkp (fun k_ hk_ hs_ => (hk_.2.2.2.2.2.1) hs_)) (fun k_ hk_ => ⟨hk_.1.1, hk_.1.2.1, hk_.1.2.2.1, hk_.1.2.2.2.1, hk_.1.2.2.2.2.1, hk_.1.2.2.2.2.2.2, fun e_ => Or.elim (ho1.1 k_ e_.symm) (fun hs_ => hk_.2.1 hs_) (fun hn_ => Nat.not_le.2 hk_.2.2 hn_)⟩))
             have n4_ := Aside0.mk (Kd.R_mono (ok' := fun k_ => some k_ ≠ (v580 : Value).ownBlock ∧ some k_ ≠ (v591 : Value).ownBlock ∧ some k_ ≠ (v603 : Value).ownBlock ∧ some k_ ≠ (v609 : Value).ownBlock) (Kd.R_keptB (HO_583001.out) hkp (fun k_ hk_ hs_ => (hk_.2.2.1) hs_)) (fun k_ hk_ => ⟨hk_.1.1, hk_.1.2.1, hk_.1.2.2.2, fun e_ => Or.elim (ho1.1 k_ e_.symm) (fun hs_ => hk_.2.1 hs_) (fun hn_ => Nat.not_le.2 hk_.2.2 hn_)⟩))
             have n5_ := Aside0.mk (Kd.S_mono (ok' := fun k_ => some k_ ≠ (v580 : Value).ownBlock ∧ some k_ ≠ (v591 : Value).ownBlock ∧ some k_ ≠ (.slice Ao15 t564.length co15 : Value).ownBlock ∧ some k_ ≠ (.slice Ao20 t572.length co20 : Value).ownBlock ∧ some k_ ≠ (.slice Ao23 t575.length co23 : Value).ownBlock ∧ some k_ ≠ (v603 : Value).ownBlock ∧ some k_ ≠ (v609 : Value).ownBlock) (Kd.S_keptB (HO_594000.out) hkp (fun k_ hk_ hs_ => (hk_.2.2.2.2.2.1) hs_)) (fun k_ hk_ => ⟨hk_.1.1, hk_.1.2.1, hk_.1.2.2.1, hk_.1.2.2.2.1, hk_.1.2.2.2.2.1, hk_.1.2.2.2.2.2.2, fun e_ => Or.elim (ho1.1 k_ e_.symm) (fun hs_ => hk_.2.1 hs_) (fun hn_ => Nat.not_le.2 hk_.2.2 hn_)⟩))
             have n6_ := Aside0.mk (blk_kept (by (with_reducible repeat (first | refine blk_drewN ?_ _ | refine blk_drew ?_ | refine blk_alloc ?_ _)); exact BK571.out) hkp (fun hs_ => (fun e_ => (Kd.R_ne HO_594001.out BK571.out (by decide)) e_) hs_))
             have n7_ := Aside0.mk (blk_kept (by (with_reducible repeat (first | refine blk_drewN ?_ _ | refine blk_drew ?_ | refine blk_alloc ?_ _)); exact BK582.out) hkp (fun hs_ => (fun e_ => (Kd.R_ne HO_594001.out BK582.out (by decide)) e_) hs_))
             have n8_ := Aside0.mk (blk_kept (by (with_reducible repeat (first | refine blk_drewN ?_ _ | refine blk_drew ?_ | refine blk_alloc ?_ _)); exact BK593.out) hkp (fun hs_ => (fun e_ => (Kd.R_ne HO_594001.out BK593.out (by decide)) e_) hs_))
             have n9_ := Aside0.mk (Kd.V_mono (ok' := fun k_ => some k_ ≠ (v580 : Value).ownBlock ∧ some k_ ≠ (v591 : Value).ownBlock ∧ some k_ ≠ (.slice Ao20 t572.length co20 : Value).ownBlock ∧ some k_ ≠ (.slice Ao23 t575.length co23 : Value).ownBlock ∧ some k_ ≠ (.slice Ao26 t583.length co26 : Value).ownBlock ∧ some k_ ≠ (v603 : Value).ownBlock ∧ k_ ≠ gb571 ∧ k_ ≠ gb582 ∧ k_ ≠ gb593 ∧ some k_ ≠ (v609 : Value).ownBlock) (Kd.V_keptB (HO601.out) hkp (fun k_ hk_ hs_ => (hk_.2.2.2.2.2.2.1) hs_)) (fun k_ hk_ => ⟨hk_.1.2.1, hk_.1.2.2.1, hk_.1.2.2.2.1, hk_.1.2.2.2.2.1, hk_.1.2.2.2.2.2.1, hk_.1.1, hk_.1.2.2.2.2.2.2.2.1, hk_.1.2.2.2.2.2.2.2.2.1, hk_.1.2.2.2.2.2.2.2.2.2, fun e_ => Or.elim (ho1.1 k_ e_.symm) (fun hs_ => hk_.2.1 hs_) (fun hn_ => Nat.not_le.2 hk_.2.2 hn_)⟩))
             have n10_ := Aside0.mk (Kd.R_mono (ok' := fun k_ => some k_ ≠ (v580 : Value).ownBlock ∧ some k_ ≠ (v591 : Value).ownBlock ∧ some k_ ≠ (.slice Ao23 t575.length co23 : Value).ownBlock ∧ some k_ ≠ (v609 : Value).ownBlock) (Kd.R_keptB (HO604.out) hkp (fun k_ hk_ hs_ => (hk_.2.2.2) hs_)) (fun k_ hk_ => ⟨hk_.1.1, hk_.1.2.1, hk_.1.2.2.1, fun e_ => Or.elim (ho1.1 k_ e_.symm) (fun hs_ => hk_.2.1 hs_) (fun hn_ => Nat.not_le.2 hk_.2.2 hn_)⟩))
             have n11_ := Aside0.mk (Kd.V_mono (ok' := fun k_ => some k_ ≠ (v609 : Value).ownBlock ∧ some k_ ≠ (v580 : Value).ownBlock ∧ some k_ ≠ (v591 : Value).ownBlock ∧ some k_ ≠ (.slice Ao15 t564.length co15 : Value).ownBlock ∧ some k_ ≠ (.slice Ao20 t572.length co20 : Value).ownBlock ∧ some k_ ≠ (.slice Ao23 t575.length co23 : Value).ownBlock ∧ some k_ ≠ (v603 : Value).ownBlock ∧ k_ ≠ gb571 ∧ k_ ≠ gb582 ∧ k_ ≠ gb593) ho0 (fun k_ hk_ => ⟨hk_.2, Or.elim hk_.1 (fun hs_ => Or.elim hs_ (fun hs_ => fun e_ => (((HO_12.out).1 k_ e_.symm).2.2.1) hs_) (fun hs_ => hs_.1.1.1.1)) (fun hn_ => (Kd.fresh' (Kd.R_lt (by (with_reducible repeat (first | apply Kd.R_alloc | apply Kd.R_drewN | apply Kd.R_drew)); exact HO_12.out)) k_ hn_)), Or.elim hk_.1 (fun hs_ => Or.elim hs_ (fun hs_ => fun e_ => (((HO_14.out).1 k_ e_.symm).2.2.1) hs_) (fun hs_ => hs_.1.1.1.2.1)) (fun hn_ => (Kd.fresh' (Kd.R_lt (by (with_reducible repeat (first | apply Kd.R_alloc | apply Kd.R_drewN | apply Kd.R_drew)); exact HO_14.out)) k_ hn_)), Or.elim hk_.1 (fun hs_ => Or.elim hs_ (fun hs_ => fun e_ => (((Kd.S_R HO_572000.out).1 k_ e_.symm).2.2.2.2.2.1) hs_) (fun hs_ => hs_.1.1.1.2.2.1)) (fun hn_ => (Kd.fresh' (Kd.S_lt (by (with_reducible repeat (first | apply Kd.S_alloc | apply Kd.S_drewN | apply Kd.S_drew)); exact HO_572000.out)) k_ hn_)), Or.elim hk_.1 (fun hs_ => Or.elim hs_ (fun hs_ => fun e_ => (((Kd.S_R HO_583000.out).1 k_ e_.symm).2.2.2.2.2.1) hs_) (fun hs_ => hs_.1.1.1.2.2.2.1)) (fun hn_ => (Kd.fresh' (Kd.S_lt (by (with_reducible repeat (first | apply Kd.S_alloc | apply Kd.S_drewN | apply Kd.S_drew)); exact HO_583000.out)) k_ hn_)), Or.elim hk_.1 (fun hs_ => Or.elim hs_ (fun hs_ => fun e_ => (((HO_583001.out).1 k_ e_.symm).2.2.1) hs_) (fun hs_ => hs_.1.1.1.2.2.2.2.1)) (fun hn_ => (Kd.fresh' (Kd.R_lt (by (with_reducible repeat (first | apply Kd.R_alloc | apply Kd.R_drewN | apply Kd.R_drew)); exact HO_583001.out)) k_ hn_)), Or.elim hk_.1 (fun hs_ => Or.elim hs_ (fun hs_ => fun e_ => (((HO604.out).1 k_ e_.symm).2.2.2) hs_) (fun hs_ => hs_.1.1.1.2.2.2.2.2.2)) (fun hn_ => (Kd.fresh' (Kd.R_lt (by (with_reducible repeat (first | apply Kd.R_alloc | apply Kd.R_drewN | apply Kd.R_drew)); exact HO604.out)) k_ hn_)), Or.elim hk_.1 (fun hs_ => Or.elim hs_ (fun hs_ => fun e_ => (Kd.R_ne HO_594001.out BK571.out (by decide)) (by rw [← e_]; exact hs_)) (fun hs_ => hs_.1.1.2)) (fun hn_ => (Kd.freshB (g := gb571) (o := .cells #[.slice Ao15 t564.length co15, .slice Ao17 t567.length co17, .bool t570] 40 (0, 0)) (by (with_reducible repeat (first | refine blk_drewN ?_ _ | refine blk_drew ?_ | refine blk_alloc ?_ _)); exact BK571.out) k_ hn_)), Or.elim hk_.1 (fun hs_ => Or.elim hs_ (fun hs_ => fun e_ => (Kd.R_ne HO_594001.out BK582.out (by decide)) (by rw [← e_]; exact hs_)) (fun hs_ => hs_.1.2)) (fun hn_ => (Kd.freshB (g := gb582) (o := .cells #[.slice Ao20 t572.length co20, .slice Ao23 t575.length co23, .bool t578] 40 (0, 0)) (by (with_reducible repeat (first | refine blk_drewN ?_ _ | refine blk_drew ?_ | refine blk_alloc ?_ _)); exact BK582.out) k_ hn_)), Or.elim hk_.1 (fun hs_ => Or.elim hs_ (fun hs_ => fun e_ => (Kd.R_ne HO_594001.out BK593.out (by decide)) (by rw [← e_]; exact hs_)) (fun hs_ => hs_.2)) (fun hn_ => (Kd.freshB (g := gb593) (o := .cells #[.slice Ao26 t583.length co26, .slice Ao30 t586.length co30, .bool t589] 40 (0, 0)) (by (with_reducible repeat (first | refine blk_drewN ?_ _ | refine blk_drew ?_ | refine blk_alloc ?_ _)); exact BK593.out) k_ hn_))⟩))
             have n12_ := Aside0.mk (Kd.R_mono (ok' := fun k_ => some k_ ≠ (v580 : Value).ownBlock ∧ some k_ ≠ (v591 : Value).ownBlock ∧ some k_ ≠ (.slice Ao23 t575.length co23 : Value).ownBlock ∧ some k_ ≠ (v603 : Value).ownBlock) ho1 (fun k_ hk_ => ⟨Or.elim hk_ (fun hs_ => fun e_ => (((HO_12.out).1 k_ e_.symm).2.2.1) hs_) (fun hn_ => (Kd.fresh' (Kd.R_lt (by (with_reducible repeat (first | apply Kd.R_alloc | apply Kd.R_drewN | apply Kd.R_drew)); exact HO_12.out)) k_ hn_)), Or.elim hk_ (fun hs_ => fun e_ => (((HO_14.out).1 k_ e_.symm).2.2.1) hs_) (fun hn_ => (Kd.fresh' (Kd.R_lt (by (with_reducible repeat (first | apply Kd.R_alloc | apply Kd.R_drewN | apply Kd.R_drew)); exact HO_14.out)) k_ hn_)), Or.elim hk_ (fun hs_ => fun e_ => (((HO_583001.out).1 k_ e_.symm).2.2.1) hs_) (fun hn_ => (Kd.fresh' (Kd.R_lt (by (with_reducible repeat (first | apply Kd.R_alloc | apply Kd.R_drewN | apply Kd.R_drew)); exact HO_583001.out)) k_ hn_)), Or.elim hk_ (fun hs_ => fun e_ => (((HO604.out).1 k_ e_.symm).2.2.2) hs_) (fun hn_ => (Kd.fresh' (Kd.R_lt (by (with_reducible repeat (first | apply Kd.R_alloc | apply Kd.R_drewN | apply Kd.R_drew)); exact HO604.out)) k_ hn_))⟩))
             have n13_ := Aside0.mk (hb)
             clear HO_12
             clear HO_14
             clear HO_572000
             clear HO_583000
             clear HO_583001
             clear HO_594000
             clear BK571
             clear BK582
             clear BK593
             clear HO601
             clear HO604
             clear HB
             clear HO_594001
             have HO_12 := n0_
             have HO_14 := n1_
             have HO_572000 := n2_
             have HO_583000 := n3_
             have HO_583001 := n4_
             have HO_594000 := n5_
             have BK571 := n6_
             have BK582 := n7_
             have BK593 := n8_
             have HO601 := n9_
             have HO604 := n10_
             have HO607 := n11_
             have HO610 := n12_
             have HB := n13_
             clear n0_ n1_ n2_ n3_ n4_ n5_ n6_ n7_ n8_ n9_ n10_ n11_ n12_ n13_
             (try clear hb)
             (try clear hkp)
             (try clear ho0)
             (try clear ho1)
             obtain ⟨Ao78, co78, eo78⟩ := Kd.V_slice HO601.out
             (first | subst eo78 | (injection eo78 with f1_ f2_ f3_; have f4_ := f1_.symm; have f5_ := f3_.symm; clear f1_ f2_ f3_; subst f4_; subst f5_))
             obtain ⟨Ao79, co79, eo79⟩ := Kd.R_slice HO604.out
             (first | subst eo79 | (injection eo79 with f1_ f2_ f3_; have f4_ := f1_.symm; have f5_ := f3_.symm; clear f1_ f2_ f3_; subst f4_; subst f5_))
             obtain ⟨Ao80, co80, eo80⟩ := Kd.V_slice HO607.out
             (first | subst eo80 | (injection eo80 with f1_ f2_ f3_; have f4_ := f1_.symm; have f5_ := f3_.symm; clear f1_ f2_ f3_; subst f4_; subst f5_))
             obtain ⟨Ao81, co81, eo81⟩ := Kd.R_slice HO610.out
             (first | subst eo81 | (injection eo81 with f1_ f2_ f3_; have f4_ := f1_.symm; have f5_ := f3_.symm; clear f1_ f2_ f3_; subst f4_; subst f5_))
             refine hK.out _ _ ⟨(blk_cell BK571.out 0).trans rfl, (blk_cell BK571.out 1).trans rfl, (blk_cell BK571.out 2).trans rfl, (blk_cell BK593.out 0).trans rfl, (blk_cell BK593.out 1).trans rfl, (blk_cell BK593.out 2).trans rfl⟩ (fun hHeld => ?_)
             clear hK K
             refine norm_ (a' := ?_) ?_ ?_
             rotate_left
             ·show Act.put _ (some 107) _ = _
              simp only [Act.put, List.setIfInBounds_toArray, List.set_cons_zero, List.set_cons_succ, i64_w, i32_w]
              rfl
             refine one_ (i := 6) (N := some 108) #[true,true,true,true,true,true,true,false,false,false,false,false,false,false] rfl rfl (one_of HT_.out (by kernel_rfl)) (by decide) (fun K hK => ?_)
             refine goes_ Try.func37 (by kernel_rfl) rfl #[.agg #[.slice Ao78 t599.length co78, .slice Ao79 t602.length co79], .agg #[.slice Ao80 t605.length co80, .slice Ao81 t608.length co81]] (by rfl) rfl rfl (by (try simp only [List.map_toArray, List.map_cons, List.map_nil]); first | done | rfl | (simp only [List.length_drop, List.length_take]; rfl)) ?_
             with_reducible refine (bywashref15_Same.calls kj54 _ _ t599 _ _ t602 _ _ t605 _ _ t608 true _ ?side1 ?side2 ?side3 ?side4 ?side5 ?side6 ?side7 ?side8 A72.out).mono ?_
             (case side1 => repeat (first | exact (Kd.V_reads' HO601.out).2.2 | (with_reducible refine Kd.C_alloc ?_ _) | (with_reducible refine Kd.C_drewN ?_ _) | (with_reducible refine Kd.C_drew ?_)))
             (case side2 => exact (Kd.V_reads' HO601.out).2.1)
             (case side3 => repeat (first | exact (Kd.R_reads' HO604.out).2.2 | (with_reducible refine Kd.C_alloc ?_ _) | (with_reducible refine Kd.C_drewN ?_ _) | (with_reducible refine Kd.C_drew ?_)))
             (case side4 => exact (Kd.R_reads' HO604.out).2.1)
             (case side5 => repeat (first | exact (Kd.V_reads' HO607.out).2.2 | (with_reducible refine Kd.C_alloc ?_ _) | (with_reducible refine Kd.C_drewN ?_ _) | (with_reducible refine Kd.C_drew ?_)))
             (case side6 => exact (Kd.V_reads' HO607.out).2.1)
             (case side7 => repeat (first | exact (Kd.R_reads' HO610.out).2.2 | (with_reducible refine Kd.C_alloc ?_ _) | (with_reducible refine Kd.C_drewN ?_ _) | (with_reducible refine Kd.C_drew ?_)))
             (case side8 => exact (Kd.R_reads' HO610.out).2.1)
             rintro e w82 ⟨rfl, hb⟩
             refine ⟨_, rfl, ?_⟩
             have n0_ := Aside0.mk (Kd.R_below (by (with_reducible repeat (first | apply Kd.R_alloc | apply Kd.R_drewN | apply Kd.R_drew)); exact HO_12.out) hb)
             have n1_ := Aside0.mk (Kd.R_below (by (with_reducible repeat (first | apply Kd.R_alloc | apply Kd.R_drewN | apply Kd.R_drew)); exact HO_14.out) hb)
             have n2_ := Aside0.mk (Kd.S_below (by (with_reducible repeat (first | apply Kd.S_alloc | apply Kd.S_drewN | apply Kd.S_drew)); exact HO_572000.out) hb)
             have n3_ := Aside0.mk (Kd.S_below (by (with_reducible repeat (first | apply Kd.S_alloc | apply Kd.S_drewN | apply Kd.S_drew)); exact HO_583000.out) hb)
             have n4_ := Aside0.mk (Kd.R_below (by (with_reducible repeat (first | apply Kd.R_alloc | apply Kd.R_drewN | apply Kd.R_drew)); exact HO_583001.out) hb)
             have n5_ := Aside0.mk (Kd.S_below (by (with_reducible repeat (first | apply Kd.S_alloc | apply Kd.S_drewN | apply Kd.S_drew)); exact HO_594000.out) hb)
             have n6_ := Aside0.mk (Kd.V_below (by (with_reducible repeat (first | apply Kd.V_alloc | apply Kd.V_drewN | apply Kd.V_drew)); exact HO601.out) hb)
             have n7_ := Aside0.mk (Kd.R_below (by (with_reducible repeat (first | apply Kd.R_alloc | apply Kd.R_drewN | apply Kd.R_drew)); exact HO604.out) hb)
             have n8_ := Aside0.mk (Kd.V_below (by (with_reducible repeat (first | apply Kd.V_alloc | apply Kd.V_drewN | apply Kd.V_drew)); exact HO607.out) hb)
             have n9_ := Aside0.mk (Kd.R_below (by (with_reducible repeat (first | apply Kd.R_alloc | apply Kd.R_drewN | apply Kd.R_drew)); exact HO610.out) hb)
             have n10_ := Aside0.mk (blk_below (g := gb571) (o := .cells #[.slice Ao15 t564.length co15, .slice Ao17 t567.length co17, .bool t570] 40 (0, 0)) (by (with_reducible repeat (first | refine blk_drewN ?_ _ | refine blk_drew ?_ | refine blk_alloc ?_ _)); exact BK571.out) hb)
             have n11_ := Aside0.mk (blk_below (g := gb582) (o := .cells #[.slice Ao20 t572.length co20, .slice Ao23 t575.length co23, .bool t578] 40 (0, 0)) (by (with_reducible repeat (first | refine blk_drewN ?_ _ | refine blk_drew ?_ | refine blk_alloc ?_ _)); exact BK582.out) hb)
             have n12_ := Aside0.mk (blk_below (g := gb593) (o := .cells #[.slice Ao26 t583.length co26, .slice Ao30 t586.length co30, .bool t589] 40 (0, 0)) (by (with_reducible repeat (first | refine blk_drewN ?_ _ | refine blk_drew ?_ | refine blk_alloc ?_ _)); exact BK593.out) hb)
             have n13_ := Aside0.mk (below_step (by repeat (first | (with_reducible first | exact HB.out | apply below_alloc | apply pw_below_drewN | apply below_drew1 | refine below_set ?_ GE571.out | refine below_set ?_ GE582.out | refine below_set ?_ GE593.out) | exact HB.out)) hb)
             clear HO_12
             clear HO_14
             clear HO_572000
             clear HO_583000
             clear HO_583001
             clear HO_594000
             clear HO601
             clear HO604
             clear HO607
             clear HO610
             clear BK571
             clear BK582
             clear BK593
             clear HB
             have HO_12 := n0_
             have HO_14 := n1_
             have HO_572000 := n2_
             have HO_583000 := n3_
             have HO_583001 := n4_
             have HO_594000 := n5_
             have HO601 := n6_
             have HO604 := n7_
             have HO607 := n8_
             have HO610 := n9_
             have BK571 := n10_
             have BK582 := n11_
             have BK593 := n12_
             have HB := n13_
             clear n0_ n1_ n2_ n3_ n4_ n5_ n6_ n7_ n8_ n9_ n10_ n11_ n12_ n13_
             (try clear hb)
             (try clear hb2)
             (try clear hk)
             (try clear hi)
             obtain ⟨Ao83, co83, eo83⟩ := Kd.R_slice HO_12.out
             (first | subst eo83 | (injection eo83 with f1_ f2_ f3_; have f4_ := f1_.symm; have f5_ := f3_.symm; clear f1_ f2_ f3_; subst f4_; subst f5_))
             obtain ⟨Ao84, co84, eo84⟩ := Kd.R_slice HO_14.out
             (first | subst eo84 | (injection eo84 with f1_ f2_ f3_; have f4_ := f1_.symm; have f5_ := f3_.symm; clear f1_ f2_ f3_; subst f4_; subst f5_))
             refine hK.out _ _ ⟨(blk_cell BK571.out 0).trans rfl, (blk_cell BK571.out 1).trans rfl, (blk_cell BK571.out 2).trans rfl, (blk_cell BK593.out 0).trans rfl, (blk_cell BK593.out 1).trans rfl, (blk_cell BK593.out 2).trans rfl⟩ (fun hHeld => ?_)
             clear hK K
             refine norm_ (a' := ?_) ?_ ?_
             rotate_left
             ·show Act.put _ (some 108) _ = _
              simp only [Act.put, List.setIfInBounds_toArray, List.set_cons_zero, List.set_cons_succ, i64_w, i32_w]
              rfl
             refine pure_ (i := 7) (N := some 109) (v := ?_) (a' := ?_) #[true,true,true,true,true,true,true,true,false,false,false,false,false,false] rfl rfl (any_of HT_.out (by kernel_rfl)) (fun _ _ _ h => h) (Or.inl ⟨by rfl, ?_⟩) ?_ ?_
             rotate_left
             ·intro w'
              go_simp
              with_reducible rfl
             rotate_left
             ·simp only [Act.put, List.setIfInBounds_toArray, List.set_cons_zero, List.set_cons_succ, i64_w, i32_w]
              rfl
             refine pure_ (i := 8) (N := some 110) (v := ?_) (a' := ?_) #[true,true,true,true,true,true,true,true,true,false,false,false,false,false] rfl rfl (any_of HT_.out (by kernel_rfl)) (fun _ _ _ h => h) (Or.inl ⟨by rfl, ?_⟩) ?_ ?_
             rotate_left
             ·intro w'
              go_simp
              with_reducible rfl
             rotate_left
             ·simp only [Act.put, List.setIfInBounds_toArray, List.set_cons_zero, List.set_cons_succ, i64_w, i32_w]
              rfl
             refine pure_ (i := 9) (N := some 111) (v := ?_) (a' := ?_) #[true,true,true,true,true,true,true,true,true,true,false,false,false,false] rfl rfl (any_of HT_.out (by kernel_rfl)) (fun _ _ _ h => h) (Or.inl ⟨by rfl, ?_⟩) ?_ ?_
             rotate_left
             ·intro w'
              go_simp
              with_reducible rfl
             rotate_left
             ·simp only [Act.put, List.setIfInBounds_toArray, List.set_cons_zero, List.set_cons_succ, i64_w, i32_w]
              rfl
             refine pure_ (i := 10) (N := some 112) (v := ?_) (a' := ?_) #[true,true,true,true,true,true,true,true,true,true,true,false,false,false] rfl rfl (any_of HT_.out (by kernel_rfl)) (fun _ _ _ h => h) (Or.inl ⟨by rfl, ?_⟩) ?_ ?_
             rotate_left
             ·intro w'
              go_simp
              with_reducible rfl
             rotate_left
             ·simp only [Act.put, List.setIfInBounds_toArray, List.set_cons_zero, List.set_cons_succ, i64_w, i32_w]
              rfl
             refine one_ (i := 11) (N := some 113) #[true,true,true,true,true,true,true,true,true,true,true,true,false,false] rfl rfl (one_of HT_.out (by kernel_rfl)) (by decide) (fun K hK => ?_)
             refine goes_ Try.func21 (by kernel_rfl) rfl #[.slice Ao83 t579.length co83, .slice Ao84 t590.length co84] (by rfl) rfl rfl (by (try simp only [List.map_toArray, List.map_cons, List.map_nil]); first | done | rfl | (simp only [List.length_drop, List.length_take]; rfl)) ?_
             with_reducible refine (bywashref01_Ints.calls kj54 _ _ t579 _ _ t590 t612 _ ?side1 ?side2 ?side3 ?side4 A74.out).mono ?_
             (case side1 => repeat (first | exact (Kd.R_reads' HO_12.out).2.2 | (with_reducible refine Kd.C_alloc ?_ _) | (with_reducible refine Kd.C_drewN ?_ _) | (with_reducible refine Kd.C_drew ?_)))
             (case side2 => exact (Kd.R_reads' HO_12.out).2.1)
             (case side3 => repeat (first | exact (Kd.R_reads' HO_14.out).2.2 | (with_reducible refine Kd.C_alloc ?_ _) | (with_reducible refine Kd.C_drewN ?_ _) | (with_reducible refine Kd.C_drew ?_)))
             (case side4 => exact (Kd.R_reads' HO_14.out).2.1)
             rintro e w' ⟨rfl, ⟨nd, rfl⟩⟩
             refine ⟨_, rfl, ?_⟩
             refine hK.out _ _ ⟨(blk_cell BK571.out 0).trans rfl, (blk_cell BK571.out 1).trans rfl, (blk_cell BK571.out 2).trans rfl, (blk_cell BK593.out 0).trans rfl, (blk_cell BK593.out 1).trans rfl, (blk_cell BK593.out 2).trans rfl⟩ (fun hHeld => ?_)
             clear hK K
             refine norm_ (a' := ?_) ?_ ?_
             rotate_left
             ·show Act.put _ (some 113) _ = _
              simp only [Act.put, List.setIfInBounds_toArray, List.set_cons_zero, List.set_cons_succ, i64_w, i32_w]
              rfl
             refine pure_ (i := 12) (N := some 114) (v := ?_) (a' := ?_) #[true,true,true,true,true,true,true,true,true,true,true,true,true,false] rfl rfl (any_of HT_.out (by kernel_rfl)) (fun _ _ _ h => h) (Or.inl ⟨by rfl, ?_⟩) ?_ ?_
             rotate_left
             ·intro w'
              go_simp
              with_reducible rfl
             rotate_left
             ·simp only [Act.put, List.setIfInBounds_toArray, List.set_cons_zero, List.set_cons_succ, i64_w, i32_w]
              rfl
             refine pure_ (i := 13) (N := some 8) (v := ?_) (a' := ?_) #[true,true,true,true,true,true,true,true,true,true,true,true,true,true] rfl rfl (any_of HT_.out (by kernel_rfl)) (fun _ _ _ h => h) (Or.inl ⟨by rfl, ?_⟩) ?_ ?_
             rotate_left
             ·intro w'
              go_simp
              with_reducible rfl
             rotate_left
             ·simp only [Act.put, List.setIfInBounds_toArray, List.set_cons_zero, List.set_cons_succ, i64_w, i32_w]
              rfl
             refine done_ (done_of HT_.out (by kernel_rfl)) ?_
             try go_wp2
             go_ret
             exact ⟨by first | rfl | (simp [errW_none, errW_some] <;> rfl) | (simp [*, errW_none, errW_some] <;> rfl) | (exfalso; (try simp_all); (try omega); done), by repeat (first | (with_reducible first | exact HB.out | apply below_alloc | apply pw_below_drewN | apply below_drew1 | refine below_set ?_ GE571.out | refine below_set ?_ GE582.out | refine below_set ?_ GE593.out) | exact HB.out)⟩
            ·replace c73 := Bool.eq_false_iff.mpr c73
             subst c73
             have H1 : (some false) = some r := by rw [if_neg (show ¬ (false = true) by decide)] at H; exact H
             clear H
             have H := H1
             clear H1
             obtain rfl := Option.some.inj H
             try go_wp2
             have n0_ := Aside0.mk (Kd.R_drew HO_12.out)
             have n1_ := Aside0.mk (Kd.R_drew HO_14.out)
             have n2_ := Aside0.mk (Kd.S_drew HO_572000.out)
             have n3_ := Aside0.mk (Kd.R_drew HO_572001.out)
             have n4_ := Aside0.mk (Kd.S_drew HO_583000.out)
             have n5_ := Aside0.mk (Kd.R_drew HO_583001.out)
             have n6_ := Aside0.mk (Kd.S_drew HO_594000.out)
             have n7_ := Aside0.mk (Kd.R_drew HO_594001.out)
             have n8_ := Aside0.mk (blk_drew BK571.out)
             have n9_ := Aside0.mk (blk_drew BK582.out)
             have n10_ := Aside0.mk (blk_drew BK593.out)
             have n11_ := Aside0.mk (below_drew1 HB.out)
             clear HO_12
             clear HO_14
             clear HO_572000
             clear HO_572001
             clear HO_583000
             clear HO_583001
             clear HO_594000
             clear HO_594001
             clear BK571
             clear BK582
             clear BK593
             clear HB
             have HO_12 := n0_
             have HO_14 := n1_
             have HO_572000 := n2_
             have HO_572001 := n3_
             have HO_583000 := n4_
             have HO_583001 := n5_
             have HO_594000 := n6_
             have HO_594001 := n7_
             have BK571 := n8_
             have BK582 := n9_
             have BK593 := n10_
             have HB := n11_
             clear n0_ n1_ n2_ n3_ n4_ n5_ n6_ n7_ n8_ n9_ n10_ n11_
             refine start_ (n := 14) (S := fun w' => w'.cell? ⟨gb571, 0, none⟩ = some (.slice Ao15 t564.length co15) ∧ w'.cell? ⟨gb571, 1, none⟩ = some (.slice Ao17 t567.length co17) ∧ w'.cell? ⟨gb571, 2, none⟩ = some (.bool t570) ∧ w'.cell? ⟨gb593, 0, none⟩ = some (.slice Ao26 t583.length co26) ∧ w'.cell? ⟨gb593, 1, none⟩ = some (.slice Ao30 t586.length co30) ∧ w'.cell? ⟨gb593, 2, none⟩ = some (.bool t589)) (ds := []) #[false,false,false,false,false,false,false,false,false,false,false,false,false,false] (by kernel_rfl) rfl rfl ⟨(blk_cell BK571.out 0).trans rfl, (blk_cell BK571.out 1).trans rfl, (blk_cell BK571.out 2).trans rfl, (blk_cell BK593.out 0).trans rfl, (blk_cell BK593.out 1).trans rfl, (blk_cell BK593.out 2).trans rfl⟩ (fun hHeld => ?_); refine with_tabW bywashlaw15_DomupBack.tab13 bywashlaw15_DomupBack.bits13 (fun HT_ HW_ => ?_)
             generalize wc.drew = w85 at HO_12 HO_14 HO_572000 HO_572001 HO_583000 HO_583001 HO_594000 HO_594001 BK571 BK582 BK593 HB hHeld ⊢
             refine pure_ (i := 0) (N := some 102) (v := ?_) (a' := ?_) #[true,false,false,false,false,false,false,false,false,false,false,false,false,false] rfl rfl (any_of HT_.out (by kernel_rfl)) (fun _ _ _ h => h) (Or.inl ⟨by rfl, ?_⟩) ?_ ?_
             rotate_left
             ·intro w'
              go_simp
              with_reducible rfl
             rotate_left
             ·simp only [Act.put, List.setIfInBounds_toArray, List.set_cons_zero, List.set_cons_succ, i64_w, i32_w]
              rfl
             refine pure_ (i := 1) (N := some 103) (v := ?_) (a' := ?_) #[true,true,false,false,false,false,false,false,false,false,false,false,false,false] rfl rfl (any_of HT_.out (by kernel_rfl)) (fun _ _ _ h => h) (Or.inl ⟨by rfl, ?_⟩) ?_ ?_
             rotate_left
             ·intro w'
              go_simp
              with_reducible rfl
             rotate_left
             ·simp only [Act.put, List.setIfInBounds_toArray, List.set_cons_zero, List.set_cons_succ, i64_w, i32_w]
              rfl
             refine take_ (i := 2) (N := some 104) (v := ?_) (a' := ?_) #[true,true,true,false,false,false,false,false,false,false,false,false,false,false] rfl rfl (take_ofW HT_.out HW_.out (by kernel_rfl)) (fun _ _ _ h => h) (Or.inl ⟨by rfl, ?_⟩) hHeld ?_ ?_
             rotate_left
             ·rintro w' ⟨s0, s1, s2, s3, s4, s5⟩
              go_simp
              with_reducible rfl
             rotate_left
             ·simp only [Act.put, List.setIfInBounds_toArray, List.set_cons_zero, List.set_cons_succ, i64_w, i32_w]
              rfl
             refine take_ (i := 4) (N := some 106) (v := ?_) (a' := ?_) #[true,true,true,false,true,false,false,false,false,false,false,false,false,false] rfl rfl (take_ofW HT_.out HW_.out (by kernel_rfl)) (fun _ _ _ h => h) (Or.inl ⟨by rfl, ?_⟩) hHeld ?_ ?_
             rotate_left
             ·rintro w' ⟨s0, s1, s2, s3, s4, s5⟩
              go_simp
              with_reducible rfl
             rotate_left
             ·simp only [Act.put, List.setIfInBounds_toArray, List.set_cons_zero, List.set_cons_succ, i64_w, i32_w]
              rfl
             refine one_ (i := 3) (N := some 105) #[true,true,true,true,true,false,false,false,false,false,false,false,false,false] rfl rfl (one_of HT_.out (by kernel_rfl)) (by decide) (fun K hK => ?_)
             refine goes_ Try.func38 (by kernel_rfl) rfl #[.agg #[.slice Ao15 t564.length co15, .slice Ao17 t567.length co17, .bool t570]] (by rfl) rfl rfl (by (try simp only [List.map_toArray, List.map_cons, List.map_nil]); first | done | rfl | (simp only [List.length_drop, List.length_take]; rfl)) ?_
             with_reducible refine (bywashlaw15_theirs.calls (fun k_ => ((((some k_ ≠ (v580 : Value).ownBlock ∧ (some k_ ≠ (v591 : Value).ownBlock ∧ (some k_ ≠ (.slice Ao17 t567.length co17 : Value).ownBlock ∧ (some k_ ≠ (.slice Ao20 t572.length co20 : Value).ownBlock ∧ (some k_ ≠ (.slice Ao23 t575.length co23 : Value).ownBlock ∧ (some k_ ≠ (.slice Ao26 t583.length co26 : Value).ownBlock ∧ some k_ ≠ (.slice Ao30 t586.length co30 : Value).ownBlock)))))) ∧ k_ ≠ gb571) ∧ k_ ≠ gb582) ∧ k_ ≠ gb593)) _ _ t564 (fun k_ => some k_ = (.slice Ao17 t567.length co17 : Value).ownBlock) (.slice Ao17 t567.length co17) t567 t570 t599 t602 w _ ?side1 ?side2 ?side3 A70.out).mono ?_
             (case side1 => repeat (first | (with_reducible first | exact HB.out | apply below_alloc | apply pw_below_drewN | apply below_drew1 | refine below_set ?_ GE571.out | refine below_set ?_ GE582.out | refine below_set ?_ GE593.out) | exact HB.out))
             (case side2 => exact Kd.V_mono (Kd.S_V (Kd.S_types (Kd.S_types (Kd.S_types (HO_572000.out) BK571.out (by decide)) BK582.out (by decide)) BK593.out (by decide))) (fun k_ hk_ => ⟨hk_, hk_.1.1.1.2.2.1⟩))
             (case side3 => exact Kd.R_tight rfl HO_572001.out)
             rintro e w86 ⟨v600, v603, rfl, ho0, ho1, hb, hkp⟩
             refine ⟨_, rfl, ?_⟩
             have n0_ := Aside0.mk (Kd.R_mono (ok' := fun k_ => some k_ ≠ (v591 : Value).ownBlock ∧ some k_ ≠ (.slice Ao23 t575.length co23 : Value).ownBlock ∧ some k_ ≠ (.slice Ao30 t586.length co30 : Value).ownBlock ∧ some k_ ≠ (v603 : Value).ownBlock) (Kd.R_keptB (HO_12.out) hkp (fun k_ hk_ hs_ => (hk_.2.1) hs_)) (fun k_ hk_ => ⟨hk_.1.1, hk_.1.2.2.1, hk_.1.2.2.2, fun e_ => Or.elim (ho1.1 k_ e_.symm) (fun hs_ => hk_.2.1 hs_) (fun hn_ => Nat.not_le.2 hk_.2.2 hn_)⟩))
             have n1_ := Aside0.mk (Kd.R_mono (ok' := fun k_ => some k_ ≠ (v580 : Value).ownBlock ∧ some k_ ≠ (.slice Ao23 t575.length co23 : Value).ownBlock ∧ some k_ ≠ (.slice Ao30 t586.length co30 : Value).ownBlock ∧ some k_ ≠ (v603 : Value).ownBlock) (Kd.R_keptB (HO_14.out) hkp (fun k_ hk_ hs_ => (hk_.2.1) hs_)) (fun k_ hk_ => ⟨hk_.1.1, hk_.1.2.2.1, hk_.1.2.2.2, fun e_ => Or.elim (ho1.1 k_ e_.symm) (fun hs_ => hk_.2.1 hs_) (fun hn_ => Nat.not_le.2 hk_.2.2 hn_)⟩))
             have n2_ := Aside0.mk (Kd.S_mono (ok' := fun k_ => some k_ ≠ (v580 : Value).ownBlock ∧ some k_ ≠ (v591 : Value).ownBlock ∧ some k_ ≠ (.slice Ao20 t572.length co20 : Value).ownBlock ∧ some k_ ≠ (.slice Ao23 t575.length co23 : Value).ownBlock ∧ some k_ ≠ (.slice Ao26 t583.length co26 : Value).ownBlock ∧ some k_ ≠ (.slice Ao30 t586.length co30 : Value).ownBlock ∧ some k_ ≠ (v603 : Value).ownBlock) (Kd.S_keptB (HO_572000.out) hkp (fun k_ hk_ hs_ => (hk_.2.2.1) hs_)) (fun k_ hk_ => ⟨hk_.1.1, hk_.1.2.1, hk_.1.2.2.2.1, hk_.1.2.2.2.2.1, hk_.1.2.2.2.2.2.1, hk_.1.2.2.2.2.2.2, fun e_ => Or.elim (ho1.1 k_ e_.symm) (fun hs_ => hk_.2.1 hs_) (fun hn_ => Nat.not_le.2 hk_.2.2 hn_)⟩))
             have n3_ := Aside0.mk (Kd.S_mono (ok' := fun k_ => some k_ ≠ (v580 : Value).ownBlock ∧ some k_ ≠ (v591 : Value).ownBlock ∧ some k_ ≠ (.slice Ao15 t564.length co15 : Value).ownBlock ∧ some k_ ≠ (.slice Ao23 t575.length co23 : Value).ownBlock ∧ some k_ ≠ (.slice Ao26 t583.length co26 : Value).ownBlock ∧ some k_ ≠ (.slice Ao30 t586.length co30 : Value).ownBlock ∧ some k_ ≠ (v603 : Value).ownBlock) (Kd.S_keptB (HO_583000.out) hkp (fun k_ hk_ hs_ => (hk_.2.2.2.1) hs_)) (fun k_ hk_ => ⟨hk_.1.1, hk_.1.2.1, hk_.1.2.2.1, hk_.1.2.2.2.2.1, hk_.1.2.2.2.2.2.1, hk_.1.2.2.2.2.2.2, fun e_ => Or.elim (ho1.1 k_ e_.symm) (fun hs_ => hk_.2.1 hs_) (fun hn_ => Nat.not_le.2 hk_.2.2 hn_)⟩))
             have n4_ := Aside0.mk (Kd.R_mono (ok' := fun k_ => some k_ ≠ (v580 : Value).ownBlock ∧ some k_ ≠ (v591 : Value).ownBlock ∧ some k_ ≠ (.slice Ao30 t586.length co30 : Value).ownBlock ∧ some k_ ≠ (v603 : Value).ownBlock) (Kd.R_keptB (HO_583001.out) hkp (fun k_ hk_ hs_ => (hk_.2.2.1) hs_)) (fun k_ hk_ => ⟨hk_.1.1, hk_.1.2.1, hk_.1.2.2.2, fun e_ => Or.elim (ho1.1 k_ e_.symm) (fun hs_ => hk_.2.1 hs_) (fun hn_ => Nat.not_le.2 hk_.2.2 hn_)⟩))
             have n5_ := Aside0.mk (Kd.S_mono (ok' := fun k_ => some k_ ≠ (v580 : Value).ownBlock ∧ some k_ ≠ (v591 : Value).ownBlock ∧ some k_ ≠ (.slice Ao15 t564.length co15 : Value).ownBlock ∧ some k_ ≠ (.slice Ao20 t572.length co20 : Value).ownBlock ∧ some k_ ≠ (.slice Ao23 t575.length co23 : Value).ownBlock ∧ some k_ ≠ (.slice Ao30 t586.length co30 : Value).ownBlock ∧ some k_ ≠ (v603 : Value).ownBlock) (Kd.S_keptB (HO_594000.out) hkp (fun k_ hk_ hs_ => (hk_.2.2.2.1) hs_)) (fun k_ hk_ => ⟨hk_.1.1, hk_.1.2.1, hk_.1.2.2.1, hk_.1.2.2.2.2.1, hk_.1.2.2.2.2.2.1, hk_.1.2.2.2.2.2.2, fun e_ => Or.elim (ho1.1 k_ e_.symm) (fun hs_ => hk_.2.1 hs_) (fun hn_ => Nat.not_le.2 hk_.2.2 hn_)⟩))
             have n6_ := Aside0.mk (Kd.R_mono (ok' := fun k_ => some k_ ≠ (v580 : Value).ownBlock ∧ some k_ ≠ (v591 : Value).ownBlock ∧ some k_ ≠ (.slice Ao23 t575.length co23 : Value).ownBlock ∧ some k_ ≠ (v603 : Value).ownBlock) (Kd.R_keptB (HO_594001.out) hkp (fun k_ hk_ hs_ => (hk_.2.2.1) hs_)) (fun k_ hk_ => ⟨hk_.1.1, hk_.1.2.1, hk_.1.2.2.2, fun e_ => Or.elim (ho1.1 k_ e_.symm) (fun hs_ => hk_.2.1 hs_) (fun hn_ => Nat.not_le.2 hk_.2.2 hn_)⟩))
             have n7_ := Aside0.mk (blk_kept (by (with_reducible repeat (first | refine blk_drewN ?_ _ | refine blk_drew ?_ | refine blk_alloc ?_ _)); exact BK571.out) hkp (fun hs_ => (fun e_ => (Kd.R_ne HO_572001.out BK571.out (by decide)) e_) hs_))
             have n8_ := Aside0.mk (blk_kept (by (with_reducible repeat (first | refine blk_drewN ?_ _ | refine blk_drew ?_ | refine blk_alloc ?_ _)); exact BK582.out) hkp (fun hs_ => (fun e_ => (Kd.R_ne HO_572001.out BK582.out (by decide)) e_) hs_))
             have n9_ := Aside0.mk (blk_kept (by (with_reducible repeat (first | refine blk_drewN ?_ _ | refine blk_drew ?_ | refine blk_alloc ?_ _)); exact BK593.out) hkp (fun hs_ => (fun e_ => (Kd.R_ne HO_572001.out BK593.out (by decide)) e_) hs_))
             have n10_ := Aside0.mk (Kd.V_mono (ok' := fun k_ => some k_ ≠ (v603 : Value).ownBlock ∧ some k_ ≠ (v580 : Value).ownBlock ∧ some k_ ≠ (v591 : Value).ownBlock ∧ some k_ ≠ (.slice Ao20 t572.length co20 : Value).ownBlock ∧ some k_ ≠ (.slice Ao23 t575.length co23 : Value).ownBlock ∧ some k_ ≠ (.slice Ao26 t583.length co26 : Value).ownBlock ∧ some k_ ≠ (.slice Ao30 t586.length co30 : Value).ownBlock ∧ k_ ≠ gb571 ∧ k_ ≠ gb582 ∧ k_ ≠ gb593) ho0 (fun k_ hk_ => ⟨hk_.2, Or.elim hk_.1 (fun hs_ => Or.elim hs_ (fun hs_ => fun e_ => (((HO_12.out).1 k_ e_.symm).2.1) hs_) (fun hs_ => hs_.1.1.1.1)) (fun hn_ => (Kd.fresh' (Kd.R_lt (by (with_reducible repeat (first | apply Kd.R_alloc | apply Kd.R_drewN | apply Kd.R_drew)); exact HO_12.out)) k_ hn_)), Or.elim hk_.1 (fun hs_ => Or.elim hs_ (fun hs_ => fun e_ => (((HO_14.out).1 k_ e_.symm).2.1) hs_) (fun hs_ => hs_.1.1.1.2.1)) (fun hn_ => (Kd.fresh' (Kd.R_lt (by (with_reducible repeat (first | apply Kd.R_alloc | apply Kd.R_drewN | apply Kd.R_drew)); exact HO_14.out)) k_ hn_)), Or.elim hk_.1 (fun hs_ => Or.elim hs_ (fun hs_ => fun e_ => (((Kd.S_R HO_583000.out).1 k_ e_.symm).2.2.2.1) hs_) (fun hs_ => hs_.1.1.1.2.2.2.1)) (fun hn_ => (Kd.fresh' (Kd.S_lt (by (with_reducible repeat (first | apply Kd.S_alloc | apply Kd.S_drewN | apply Kd.S_drew)); exact HO_583000.out)) k_ hn_)), Or.elim hk_.1 (fun hs_ => Or.elim hs_ (fun hs_ => fun e_ => (((HO_583001.out).1 k_ e_.symm).2.2.1) hs_) (fun hs_ => hs_.1.1.1.2.2.2.2.1)) (fun hn_ => (Kd.fresh' (Kd.R_lt (by (with_reducible repeat (first | apply Kd.R_alloc | apply Kd.R_drewN | apply Kd.R_drew)); exact HO_583001.out)) k_ hn_)), Or.elim hk_.1 (fun hs_ => Or.elim hs_ (fun hs_ => fun e_ => (((Kd.S_R HO_594000.out).1 k_ e_.symm).2.2.2.1) hs_) (fun hs_ => hs_.1.1.1.2.2.2.2.2.1)) (fun hn_ => (Kd.fresh' (Kd.S_lt (by (with_reducible repeat (first | apply Kd.S_alloc | apply Kd.S_drewN | apply Kd.S_drew)); exact HO_594000.out)) k_ hn_)), Or.elim hk_.1 (fun hs_ => Or.elim hs_ (fun hs_ => fun e_ => (((HO_594001.out).1 k_ e_.symm).2.2.1) hs_) (fun hs_ => hs_.1.1.1.2.2.2.2.2.2)) (fun hn_ => (Kd.fresh' (Kd.R_lt (by (with_reducible repeat (first | apply Kd.R_alloc | apply Kd.R_drewN | apply Kd.R_drew)); exact HO_594001.out)) k_ hn_)), Or.elim hk_.1 (fun hs_ => Or.elim hs_ (fun hs_ => fun e_ => (Kd.R_ne HO_572001.out BK571.out (by decide)) (by rw [← e_]; exact hs_)) (fun hs_ => hs_.1.1.2)) (fun hn_ => (Kd.freshB (g := gb571) (o := .cells #[.slice Ao15 t564.length co15, .slice Ao17 t567.length co17, .bool t570] 40 (0, 0)) (by (with_reducible repeat (first | refine blk_drewN ?_ _ | refine blk_drew ?_ | refine blk_alloc ?_ _)); exact BK571.out) k_ hn_)), Or.elim hk_.1 (fun hs_ => Or.elim hs_ (fun hs_ => fun e_ => (Kd.R_ne HO_572001.out BK582.out (by decide)) (by rw [← e_]; exact hs_)) (fun hs_ => hs_.1.2)) (fun hn_ => (Kd.freshB (g := gb582) (o := .cells #[.slice Ao20 t572.length co20, .slice Ao23 t575.length co23, .bool t578] 40 (0, 0)) (by (with_reducible repeat (first | refine blk_drewN ?_ _ | refine blk_drew ?_ | refine blk_alloc ?_ _)); exact BK582.out) k_ hn_)), Or.elim hk_.1 (fun hs_ => Or.elim hs_ (fun hs_ => fun e_ => (Kd.R_ne HO_572001.out BK593.out (by decide)) (by rw [← e_]; exact hs_)) (fun hs_ => hs_.2)) (fun hn_ => (Kd.freshB (g := gb593) (o := .cells #[.slice Ao26 t583.length co26, .slice Ao30 t586.length co30, .bool t589] 40 (0, 0)) (by (with_reducible repeat (first | refine blk_drewN ?_ _ | refine blk_drew ?_ | refine blk_alloc ?_ _)); exact BK593.out) k_ hn_))⟩))
             have n11_ := Aside0.mk (Kd.R_mono (ok' := fun k_ => some k_ ≠ (v580 : Value).ownBlock ∧ some k_ ≠ (v591 : Value).ownBlock ∧ some k_ ≠ (.slice Ao23 t575.length co23 : Value).ownBlock ∧ some k_ ≠ (.slice Ao30 t586.length co30 : Value).ownBlock) ho1 (fun k_ hk_ => ⟨Or.elim hk_ (fun hs_ => fun e_ => (((HO_12.out).1 k_ e_.symm).2.1) hs_) (fun hn_ => (Kd.fresh' (Kd.R_lt (by (with_reducible repeat (first | apply Kd.R_alloc | apply Kd.R_drewN | apply Kd.R_drew)); exact HO_12.out)) k_ hn_)), Or.elim hk_ (fun hs_ => fun e_ => (((HO_14.out).1 k_ e_.symm).2.1) hs_) (fun hn_ => (Kd.fresh' (Kd.R_lt (by (with_reducible repeat (first | apply Kd.R_alloc | apply Kd.R_drewN | apply Kd.R_drew)); exact HO_14.out)) k_ hn_)), Or.elim hk_ (fun hs_ => fun e_ => (((HO_583001.out).1 k_ e_.symm).2.2.1) hs_) (fun hn_ => (Kd.fresh' (Kd.R_lt (by (with_reducible repeat (first | apply Kd.R_alloc | apply Kd.R_drewN | apply Kd.R_drew)); exact HO_583001.out)) k_ hn_)), Or.elim hk_ (fun hs_ => fun e_ => (((HO_594001.out).1 k_ e_.symm).2.2.1) hs_) (fun hn_ => (Kd.fresh' (Kd.R_lt (by (with_reducible repeat (first | apply Kd.R_alloc | apply Kd.R_drewN | apply Kd.R_drew)); exact HO_594001.out)) k_ hn_))⟩))
             have n12_ := Aside0.mk (hb)
             clear HO_12
             clear HO_14
             clear HO_572000
             clear HO_583000
             clear HO_583001
             clear HO_594000
             clear HO_594001
             clear BK571
             clear BK582
             clear BK593
             clear HB
             clear HO_572001
             have HO_12 := n0_
             have HO_14 := n1_
             have HO_572000 := n2_
             have HO_583000 := n3_
             have HO_583001 := n4_
             have HO_594000 := n5_
             have HO_594001 := n6_
             have BK571 := n7_
             have BK582 := n8_
             have BK593 := n9_
             have HO601 := n10_
             have HO604 := n11_
             have HB := n12_
             clear n0_ n1_ n2_ n3_ n4_ n5_ n6_ n7_ n8_ n9_ n10_ n11_ n12_
             (try clear hb)
             (try clear hkp)
             (try clear ho0)
             (try clear ho1)
             refine hK.out _ _ ⟨(blk_cell BK571.out 0).trans rfl, (blk_cell BK571.out 1).trans rfl, (blk_cell BK571.out 2).trans rfl, (blk_cell BK593.out 0).trans rfl, (blk_cell BK593.out 1).trans rfl, (blk_cell BK593.out 2).trans rfl⟩ (fun hHeld => ?_)
             clear hK K
             refine norm_ (a' := ?_) ?_ ?_
             rotate_left
             ·show Act.put _ (some 105) _ = _
              simp only [Act.put, List.setIfInBounds_toArray, List.set_cons_zero, List.set_cons_succ, i64_w, i32_w]
              rfl
             refine one_ (i := 5) (N := some 107) #[true,true,true,true,true,true,false,false,false,false,false,false,false,false] rfl rfl (one_of HT_.out (by kernel_rfl)) (by decide) (fun K hK => ?_)
             refine goes_ Try.func38 (by kernel_rfl) rfl #[.agg #[.slice Ao26 t583.length co26, .slice Ao30 t586.length co30, .bool t589]] (by rfl) rfl rfl (by (try simp only [List.map_toArray, List.map_cons, List.map_nil]); first | done | rfl | (simp only [List.length_drop, List.length_take]; rfl)) ?_
             with_reducible refine (bywashlaw15_theirs.calls (fun k_ => ((((some k_ ≠ (v580 : Value).ownBlock ∧ (some k_ ≠ (v591 : Value).ownBlock ∧ (some k_ ≠ (.slice Ao15 t564.length co15 : Value).ownBlock ∧ (some k_ ≠ (.slice Ao20 t572.length co20 : Value).ownBlock ∧ (some k_ ≠ (.slice Ao23 t575.length co23 : Value).ownBlock ∧ (some k_ ≠ (.slice Ao30 t586.length co30 : Value).ownBlock ∧ some k_ ≠ (v603 : Value).ownBlock)))))) ∧ k_ ≠ gb571) ∧ k_ ≠ gb582) ∧ k_ ≠ gb593)) _ _ t583 (fun k_ => some k_ = (.slice Ao30 t586.length co30 : Value).ownBlock) (.slice Ao30 t586.length co30) t586 t589 t605 t608 w _ ?side1 ?side2 ?side3 A71.out).mono ?_
             (case side1 => repeat (first | (with_reducible first | exact HB.out | apply below_alloc | apply pw_below_drewN | apply below_drew1 | refine below_set ?_ GE571.out | refine below_set ?_ GE582.out | refine below_set ?_ GE593.out) | exact HB.out))
             (case side2 => exact Kd.V_mono (Kd.S_V (Kd.S_types (Kd.S_types (Kd.S_types (HO_594000.out) BK571.out (by decide)) BK582.out (by decide)) BK593.out (by decide))) (fun k_ hk_ => ⟨hk_, hk_.1.1.1.2.2.2.2.2.1⟩))
             (case side3 => exact Kd.R_tight rfl HO_594001.out)
             rintro e w87 ⟨v606, v609, rfl, ho0, ho1, hb, hkp⟩
             refine ⟨_, rfl, ?_⟩
             have n0_ := Aside0.mk (Kd.R_mono (ok' := fun k_ => some k_ ≠ (v591 : Value).ownBlock ∧ some k_ ≠ (.slice Ao23 t575.length co23 : Value).ownBlock ∧ some k_ ≠ (v603 : Value).ownBlock ∧ some k_ ≠ (v609 : Value).ownBlock) (Kd.R_keptB (HO_12.out) hkp (fun k_ hk_ hs_ => (hk_.2.2.1) hs_)) (fun k_ hk_ => ⟨hk_.1.1, hk_.1.2.1, hk_.1.2.2.2, fun e_ => Or.elim (ho1.1 k_ e_.symm) (fun hs_ => hk_.2.1 hs_) (fun hn_ => Nat.not_le.2 hk_.2.2 hn_)⟩))
             have n1_ := Aside0.mk (Kd.R_mono (ok' := fun k_ => some k_ ≠ (v580 : Value).ownBlock ∧ some k_ ≠ (.slice Ao23 t575.length co23 : Value).ownBlock ∧ some k_ ≠ (v603 : Value).ownBlock ∧ some k_ ≠ (v609 : Value).ownBlock) (Kd.R_keptB (HO_14.out) hkp (fun k_ hk_ hs_ => (hk_.2.2.1) hs_)) (fun k_ hk_ => ⟨hk_.1.1, hk_.1.2.1, hk_.1.2.2.2, fun e_ => Or.elim (ho1.1 k_ e_.symm) (fun hs_ => hk_.2.1 hs_) (fun hn_ => Nat.not_le.2 hk_.2.2 hn_)⟩))
             have n2_ := Aside0.mk (Kd.S_mono (ok' := fun k_ => some k_ ≠ (v580 : Value).ownBlock ∧ some k_ ≠ (v591 : Value).ownBlock ∧ some k_ ≠ (.slice Ao20 t572.length co20 : Value).ownBlock ∧ some k_ ≠ (.slice Ao23 t575.length co23 : Value).ownBlock ∧ some k_ ≠ (.slice Ao26 t583.length co26 : Value).ownBlock ∧ some k_ ≠ (v603 : Value).ownBlock ∧ some k_ ≠ (v609 : Value).ownBlock) (Kd.S_keptB (HO_572000.out) hkp (fun k_ hk_ hs_ => (hk_.2.2.2.2.2.1) hs_)) (fun k_ hk_ => ⟨hk_.1.1, hk_.1.2.1, hk_.1.2.2.1, hk_.1.2.2.2.1, hk_.1.2.2.2.2.1, hk_.1.2.2.2.2.2.2, fun e_ => Or.elim (ho1.1 k_ e_.symm) (fun hs_ => hk_.2.1 hs_) (fun hn_ => Nat.not_le.2 hk_.2.2 hn_)⟩))
             have n3_ := Aside0.mk (Kd.S_mono (ok' := fun k_ => some k_ ≠ (v580 : Value).ownBlock ∧ some k_ ≠ (v591 : Value).ownBlock ∧ some k_ ≠ (.slice Ao15 t564.length co15 : Value).ownBlock ∧ some k_ ≠ (.slice Ao23 t575.length co23 : Value).ownBlock ∧ some k_ ≠ (.slice Ao26 t583.length co26 : Value).ownBlock ∧ some k_ ≠ (v603 : Value).ownBlock ∧ some k_ ≠ (v609 : Value).ownBlock) (Kd.S_keptB (HO_583000.out) hkp (fun k_ hk_ hs_ => (hk_.2.2.2.2.2.1) hs_)) (fun k_ hk_ => ⟨hk_.1.1, hk_.1.2.1, hk_.1.2.2.1, hk_.1.2.2.2.1, hk_.1.2.2.2.2.1, hk_.1.2.2.2.2.2.2, fun e_ => Or.elim (ho1.1 k_ e_.symm) (fun hs_ => hk_.2.1 hs_) (fun hn_ => Nat.not_le.2 hk_.2.2 hn_)⟩))
             have n4_ := Aside0.mk (Kd.R_mono (ok' := fun k_ => some k_ ≠ (v580 : Value).ownBlock ∧ some k_ ≠ (v591 : Value).ownBlock ∧ some k_ ≠ (v603 : Value).ownBlock ∧ some k_ ≠ (v609 : Value).ownBlock) (Kd.R_keptB (HO_583001.out) hkp (fun k_ hk_ hs_ => (hk_.2.2.1) hs_)) (fun k_ hk_ => ⟨hk_.1.1, hk_.1.2.1, hk_.1.2.2.2, fun e_ => Or.elim (ho1.1 k_ e_.symm) (fun hs_ => hk_.2.1 hs_) (fun hn_ => Nat.not_le.2 hk_.2.2 hn_)⟩))
             have n5_ := Aside0.mk (Kd.S_mono (ok' := fun k_ => some k_ ≠ (v580 : Value).ownBlock ∧ some k_ ≠ (v591 : Value).ownBlock ∧ some k_ ≠ (.slice Ao15 t564.length co15 : Value).ownBlock ∧ some k_ ≠ (.slice Ao20 t572.length co20 : Value).ownBlock ∧ some k_ ≠ (.slice Ao23 t575.length co23 : Value).ownBlock ∧ some k_ ≠ (v603 : Value).ownBlock ∧ some k_ ≠ (v609 : Value).ownBlock) (Kd.S_keptB (HO_594000.out) hkp (fun k_ hk_ hs_ => (hk_.2.2.2.2.2.1) hs_)) (fun k_ hk_ => ⟨hk_.1.1, hk_.1.2.1, hk_.1.2.2.1, hk_.1.2.2.2.1, hk_.1.2.2.2.2.1, hk_.1.2.2.2.2.2.2, fun e_ => Or.elim (ho1.1 k_ e_.symm) (fun hs_ => hk_.2.1 hs_) (fun hn_ => Nat.not_le.2 hk_.2.2 hn_)⟩))
             have n6_ := Aside0.mk (blk_kept (by (with_reducible repeat (first | refine blk_drewN ?_ _ | refine blk_drew ?_ | refine blk_alloc ?_ _)); exact BK571.out) hkp (fun hs_ => (fun e_ => (Kd.R_ne HO_594001.out BK571.out (by decide)) e_) hs_))
             have n7_ := Aside0.mk (blk_kept (by (with_reducible repeat (first | refine blk_drewN ?_ _ | refine blk_drew ?_ | refine blk_alloc ?_ _)); exact BK582.out) hkp (fun hs_ => (fun e_ => (Kd.R_ne HO_594001.out BK582.out (by decide)) e_) hs_))
             have n8_ := Aside0.mk (blk_kept (by (with_reducible repeat (first | refine blk_drewN ?_ _ | refine blk_drew ?_ | refine blk_alloc ?_ _)); exact BK593.out) hkp (fun hs_ => (fun e_ => (Kd.R_ne HO_594001.out BK593.out (by decide)) e_) hs_))
             have n9_ := Aside0.mk (Kd.V_mono (ok' := fun k_ => some k_ ≠ (v580 : Value).ownBlock ∧ some k_ ≠ (v591 : Value).ownBlock ∧ some k_ ≠ (.slice Ao20 t572.length co20 : Value).ownBlock ∧ some k_ ≠ (.slice Ao23 t575.length co23 : Value).ownBlock ∧ some k_ ≠ (.slice Ao26 t583.length co26 : Value).ownBlock ∧ some k_ ≠ (v603 : Value).ownBlock ∧ k_ ≠ gb571 ∧ k_ ≠ gb582 ∧ k_ ≠ gb593 ∧ some k_ ≠ (v609 : Value).ownBlock) (Kd.V_keptB (HO601.out) hkp (fun k_ hk_ hs_ => (hk_.2.2.2.2.2.2.1) hs_)) (fun k_ hk_ => ⟨hk_.1.2.1, hk_.1.2.2.1, hk_.1.2.2.2.1, hk_.1.2.2.2.2.1, hk_.1.2.2.2.2.2.1, hk_.1.1, hk_.1.2.2.2.2.2.2.2.1, hk_.1.2.2.2.2.2.2.2.2.1, hk_.1.2.2.2.2.2.2.2.2.2, fun e_ => Or.elim (ho1.1 k_ e_.symm) (fun hs_ => hk_.2.1 hs_) (fun hn_ => Nat.not_le.2 hk_.2.2 hn_)⟩))
             have n10_ := Aside0.mk (Kd.R_mono (ok' := fun k_ => some k_ ≠ (v580 : Value).ownBlock ∧ some k_ ≠ (v591 : Value).ownBlock ∧ some k_ ≠ (.slice Ao23 t575.length co23 : Value).ownBlock ∧ some k_ ≠ (v609 : Value).ownBlock) (Kd.R_keptB (HO604.out) hkp (fun k_ hk_ hs_ => (hk_.2.2.2) hs_)) (fun k_ hk_ => ⟨hk_.1.1, hk_.1.2.1, hk_.1.2.2.1, fun e_ => Or.elim (ho1.1 k_ e_.symm) (fun hs_ => hk_.2.1 hs_) (fun hn_ => Nat.not_le.2 hk_.2.2 hn_)⟩))
             have n11_ := Aside0.mk (Kd.V_mono (ok' := fun k_ => some k_ ≠ (v609 : Value).ownBlock ∧ some k_ ≠ (v580 : Value).ownBlock ∧ some k_ ≠ (v591 : Value).ownBlock ∧ some k_ ≠ (.slice Ao15 t564.length co15 : Value).ownBlock ∧ some k_ ≠ (.slice Ao20 t572.length co20 : Value).ownBlock ∧ some k_ ≠ (.slice Ao23 t575.length co23 : Value).ownBlock ∧ some k_ ≠ (v603 : Value).ownBlock ∧ k_ ≠ gb571 ∧ k_ ≠ gb582 ∧ k_ ≠ gb593) ho0 (fun k_ hk_ => ⟨hk_.2, Or.elim hk_.1 (fun hs_ => Or.elim hs_ (fun hs_ => fun e_ => (((HO_12.out).1 k_ e_.symm).2.2.1) hs_) (fun hs_ => hs_.1.1.1.1)) (fun hn_ => (Kd.fresh' (Kd.R_lt (by (with_reducible repeat (first | apply Kd.R_alloc | apply Kd.R_drewN | apply Kd.R_drew)); exact HO_12.out)) k_ hn_)), Or.elim hk_.1 (fun hs_ => Or.elim hs_ (fun hs_ => fun e_ => (((HO_14.out).1 k_ e_.symm).2.2.1) hs_) (fun hs_ => hs_.1.1.1.2.1)) (fun hn_ => (Kd.fresh' (Kd.R_lt (by (with_reducible repeat (first | apply Kd.R_alloc | apply Kd.R_drewN | apply Kd.R_drew)); exact HO_14.out)) k_ hn_)), Or.elim hk_.1 (fun hs_ => Or.elim hs_ (fun hs_ => fun e_ => (((Kd.S_R HO_572000.out).1 k_ e_.symm).2.2.2.2.2.1) hs_) (fun hs_ => hs_.1.1.1.2.2.1)) (fun hn_ => (Kd.fresh' (Kd.S_lt (by (with_reducible repeat (first | apply Kd.S_alloc | apply Kd.S_drewN | apply Kd.S_drew)); exact HO_572000.out)) k_ hn_)), Or.elim hk_.1 (fun hs_ => Or.elim hs_ (fun hs_ => fun e_ => (((Kd.S_R HO_583000.out).1 k_ e_.symm).2.2.2.2.2.1) hs_) (fun hs_ => hs_.1.1.1.2.2.2.1)) (fun hn_ => (Kd.fresh' (Kd.S_lt (by (with_reducible repeat (first | apply Kd.S_alloc | apply Kd.S_drewN | apply Kd.S_drew)); exact HO_583000.out)) k_ hn_)), Or.elim hk_.1 (fun hs_ => Or.elim hs_ (fun hs_ => fun e_ => (((HO_583001.out).1 k_ e_.symm).2.2.1) hs_) (fun hs_ => hs_.1.1.1.2.2.2.2.1)) (fun hn_ => (Kd.fresh' (Kd.R_lt (by (with_reducible repeat (first | apply Kd.R_alloc | apply Kd.R_drewN | apply Kd.R_drew)); exact HO_583001.out)) k_ hn_)), Or.elim hk_.1 (fun hs_ => Or.elim hs_ (fun hs_ => fun e_ => (((HO604.out).1 k_ e_.symm).2.2.2) hs_) (fun hs_ => hs_.1.1.1.2.2.2.2.2.2)) (fun hn_ => (Kd.fresh' (Kd.R_lt (by (with_reducible repeat (first | apply Kd.R_alloc | apply Kd.R_drewN | apply Kd.R_drew)); exact HO604.out)) k_ hn_)), Or.elim hk_.1 (fun hs_ => Or.elim hs_ (fun hs_ => fun e_ => (Kd.R_ne HO_594001.out BK571.out (by decide)) (by rw [← e_]; exact hs_)) (fun hs_ => hs_.1.1.2)) (fun hn_ => (Kd.freshB (g := gb571) (o := .cells #[.slice Ao15 t564.length co15, .slice Ao17 t567.length co17, .bool t570] 40 (0, 0)) (by (with_reducible repeat (first | refine blk_drewN ?_ _ | refine blk_drew ?_ | refine blk_alloc ?_ _)); exact BK571.out) k_ hn_)), Or.elim hk_.1 (fun hs_ => Or.elim hs_ (fun hs_ => fun e_ => (Kd.R_ne HO_594001.out BK582.out (by decide)) (by rw [← e_]; exact hs_)) (fun hs_ => hs_.1.2)) (fun hn_ => (Kd.freshB (g := gb582) (o := .cells #[.slice Ao20 t572.length co20, .slice Ao23 t575.length co23, .bool t578] 40 (0, 0)) (by (with_reducible repeat (first | refine blk_drewN ?_ _ | refine blk_drew ?_ | refine blk_alloc ?_ _)); exact BK582.out) k_ hn_)), Or.elim hk_.1 (fun hs_ => Or.elim hs_ (fun hs_ => fun e_ => (Kd.R_ne HO_594001.out BK593.out (by decide)) (by rw [← e_]; exact hs_)) (fun hs_ => hs_.2)) (fun hn_ => (Kd.freshB (g := gb593) (o := .cells #[.slice Ao26 t583.length co26, .slice Ao30 t586.length co30, .bool t589] 40 (0, 0)) (by (with_reducible repeat (first | refine blk_drewN ?_ _ | refine blk_drew ?_ | refine blk_alloc ?_ _)); exact BK593.out) k_ hn_))⟩))
             have n12_ := Aside0.mk (Kd.R_mono (ok' := fun k_ => some k_ ≠ (v580 : Value).ownBlock ∧ some k_ ≠ (v591 : Value).ownBlock ∧ some k_ ≠ (.slice Ao23 t575.length co23 : Value).ownBlock ∧ some k_ ≠ (v603 : Value).ownBlock) ho1 (fun k_ hk_ => ⟨Or.elim hk_ (fun hs_ => fun e_ => (((HO_12.out).1 k_ e_.symm).2.2.1) hs_) (fun hn_ => (Kd.fresh' (Kd.R_lt (by (with_reducible repeat (first | apply Kd.R_alloc | apply Kd.R_drewN | apply Kd.R_drew)); exact HO_12.out)) k_ hn_)), Or.elim hk_ (fun hs_ => fun e_ => (((HO_14.out).1 k_ e_.symm).2.2.1) hs_) (fun hn_ => (Kd.fresh' (Kd.R_lt (by (with_reducible repeat (first | apply Kd.R_alloc | apply Kd.R_drewN | apply Kd.R_drew)); exact HO_14.out)) k_ hn_)), Or.elim hk_ (fun hs_ => fun e_ => (((HO_583001.out).1 k_ e_.symm).2.2.1) hs_) (fun hn_ => (Kd.fresh' (Kd.R_lt (by (with_reducible repeat (first | apply Kd.R_alloc | apply Kd.R_drewN | apply Kd.R_drew)); exact HO_583001.out)) k_ hn_)), Or.elim hk_ (fun hs_ => fun e_ => (((HO604.out).1 k_ e_.symm).2.2.2) hs_) (fun hn_ => (Kd.fresh' (Kd.R_lt (by (with_reducible repeat (first | apply Kd.R_alloc | apply Kd.R_drewN | apply Kd.R_drew)); exact HO604.out)) k_ hn_))⟩))
             have n13_ := Aside0.mk (hb)
             clear HO_12
             clear HO_14
             clear HO_572000
             clear HO_583000
             clear HO_583001
             clear HO_594000
             clear BK571
             clear BK582
             clear BK593
             clear HO601
             clear HO604
             clear HB
             clear HO_594001
             have HO_12 := n0_
             have HO_14 := n1_
             have HO_572000 := n2_
             have HO_583000 := n3_
             have HO_583001 := n4_
             have HO_594000 := n5_
             have BK571 := n6_
             have BK582 := n7_
             have BK593 := n8_
             have HO601 := n9_
             have HO604 := n10_
             have HO607 := n11_
             have HO610 := n12_
             have HB := n13_
             clear n0_ n1_ n2_ n3_ n4_ n5_ n6_ n7_ n8_ n9_ n10_ n11_ n12_ n13_
             (try clear hb)
             (try clear hkp)
             (try clear ho0)
             (try clear ho1)
             obtain ⟨Ao88, co88, eo88⟩ := Kd.V_slice HO601.out
             (first | subst eo88 | (injection eo88 with f1_ f2_ f3_; have f4_ := f1_.symm; have f5_ := f3_.symm; clear f1_ f2_ f3_; subst f4_; subst f5_))
             obtain ⟨Ao89, co89, eo89⟩ := Kd.R_slice HO604.out
             (first | subst eo89 | (injection eo89 with f1_ f2_ f3_; have f4_ := f1_.symm; have f5_ := f3_.symm; clear f1_ f2_ f3_; subst f4_; subst f5_))
             obtain ⟨Ao90, co90, eo90⟩ := Kd.V_slice HO607.out
             (first | subst eo90 | (injection eo90 with f1_ f2_ f3_; have f4_ := f1_.symm; have f5_ := f3_.symm; clear f1_ f2_ f3_; subst f4_; subst f5_))
             obtain ⟨Ao91, co91, eo91⟩ := Kd.R_slice HO610.out
             (first | subst eo91 | (injection eo91 with f1_ f2_ f3_; have f4_ := f1_.symm; have f5_ := f3_.symm; clear f1_ f2_ f3_; subst f4_; subst f5_))
             refine hK.out _ _ ⟨(blk_cell BK571.out 0).trans rfl, (blk_cell BK571.out 1).trans rfl, (blk_cell BK571.out 2).trans rfl, (blk_cell BK593.out 0).trans rfl, (blk_cell BK593.out 1).trans rfl, (blk_cell BK593.out 2).trans rfl⟩ (fun hHeld => ?_)
             clear hK K
             refine norm_ (a' := ?_) ?_ ?_
             rotate_left
             ·show Act.put _ (some 107) _ = _
              simp only [Act.put, List.setIfInBounds_toArray, List.set_cons_zero, List.set_cons_succ, i64_w, i32_w]
              rfl
             refine one_ (i := 6) (N := some 108) #[true,true,true,true,true,true,true,false,false,false,false,false,false,false] rfl rfl (one_of HT_.out (by kernel_rfl)) (by decide) (fun K hK => ?_)
             refine goes_ Try.func37 (by kernel_rfl) rfl #[.agg #[.slice Ao88 t599.length co88, .slice Ao89 t602.length co89], .agg #[.slice Ao90 t605.length co90, .slice Ao91 t608.length co91]] (by rfl) rfl rfl (by (try simp only [List.map_toArray, List.map_cons, List.map_nil]); first | done | rfl | (simp only [List.length_drop, List.length_take]; rfl)) ?_
             with_reducible refine (bywashref15_Same.calls kj54 _ _ t599 _ _ t602 _ _ t605 _ _ t608 false _ ?side1 ?side2 ?side3 ?side4 ?side5 ?side6 ?side7 ?side8 A72.out).mono ?_
             (case side1 => repeat (first | exact (Kd.V_reads' HO601.out).2.2 | (with_reducible refine Kd.C_alloc ?_ _) | (with_reducible refine Kd.C_drewN ?_ _) | (with_reducible refine Kd.C_drew ?_)))
             (case side2 => exact (Kd.V_reads' HO601.out).2.1)
             (case side3 => repeat (first | exact (Kd.R_reads' HO604.out).2.2 | (with_reducible refine Kd.C_alloc ?_ _) | (with_reducible refine Kd.C_drewN ?_ _) | (with_reducible refine Kd.C_drew ?_)))
             (case side4 => exact (Kd.R_reads' HO604.out).2.1)
             (case side5 => repeat (first | exact (Kd.V_reads' HO607.out).2.2 | (with_reducible refine Kd.C_alloc ?_ _) | (with_reducible refine Kd.C_drewN ?_ _) | (with_reducible refine Kd.C_drew ?_)))
             (case side6 => exact (Kd.V_reads' HO607.out).2.1)
             (case side7 => repeat (first | exact (Kd.R_reads' HO610.out).2.2 | (with_reducible refine Kd.C_alloc ?_ _) | (with_reducible refine Kd.C_drewN ?_ _) | (with_reducible refine Kd.C_drew ?_)))
             (case side8 => exact (Kd.R_reads' HO610.out).2.1)
             rintro e w92 ⟨rfl, hb⟩
             refine ⟨_, rfl, ?_⟩
             have n0_ := Aside0.mk (Kd.R_below (by (with_reducible repeat (first | apply Kd.R_alloc | apply Kd.R_drewN | apply Kd.R_drew)); exact HO_12.out) hb)
             have n1_ := Aside0.mk (Kd.R_below (by (with_reducible repeat (first | apply Kd.R_alloc | apply Kd.R_drewN | apply Kd.R_drew)); exact HO_14.out) hb)
             have n2_ := Aside0.mk (Kd.S_below (by (with_reducible repeat (first | apply Kd.S_alloc | apply Kd.S_drewN | apply Kd.S_drew)); exact HO_572000.out) hb)
             have n3_ := Aside0.mk (Kd.S_below (by (with_reducible repeat (first | apply Kd.S_alloc | apply Kd.S_drewN | apply Kd.S_drew)); exact HO_583000.out) hb)
             have n4_ := Aside0.mk (Kd.R_below (by (with_reducible repeat (first | apply Kd.R_alloc | apply Kd.R_drewN | apply Kd.R_drew)); exact HO_583001.out) hb)
             have n5_ := Aside0.mk (Kd.S_below (by (with_reducible repeat (first | apply Kd.S_alloc | apply Kd.S_drewN | apply Kd.S_drew)); exact HO_594000.out) hb)
             have n6_ := Aside0.mk (Kd.V_below (by (with_reducible repeat (first | apply Kd.V_alloc | apply Kd.V_drewN | apply Kd.V_drew)); exact HO601.out) hb)
             have n7_ := Aside0.mk (Kd.R_below (by (with_reducible repeat (first | apply Kd.R_alloc | apply Kd.R_drewN | apply Kd.R_drew)); exact HO604.out) hb)
             have n8_ := Aside0.mk (Kd.V_below (by (with_reducible repeat (first | apply Kd.V_alloc | apply Kd.V_drewN | apply Kd.V_drew)); exact HO607.out) hb)
             have n9_ := Aside0.mk (Kd.R_below (by (with_reducible repeat (first | apply Kd.R_alloc | apply Kd.R_drewN | apply Kd.R_drew)); exact HO610.out) hb)
             have n10_ := Aside0.mk (blk_below (g := gb571) (o := .cells #[.slice Ao15 t564.length co15, .slice Ao17 t567.length co17, .bool t570] 40 (0, 0)) (by (with_reducible repeat (first | refine blk_drewN ?_ _ | refine blk_drew ?_ | refine blk_alloc ?_ _)); exact BK571.out) hb)
             have n11_ := Aside0.mk (blk_below (g := gb582) (o := .cells #[.slice Ao20 t572.length co20, .slice Ao23 t575.length co23, .bool t578] 40 (0, 0)) (by (with_reducible repeat (first | refine blk_drewN ?_ _ | refine blk_drew ?_ | refine blk_alloc ?_ _)); exact BK582.out) hb)
             have n12_ := Aside0.mk (blk_below (g := gb593) (o := .cells #[.slice Ao26 t583.length co26, .slice Ao30 t586.length co30, .bool t589] 40 (0, 0)) (by (with_reducible repeat (first | refine blk_drewN ?_ _ | refine blk_drew ?_ | refine blk_alloc ?_ _)); exact BK593.out) hb)
             have n13_ := Aside0.mk (below_step (by repeat (first | (with_reducible first | exact HB.out | apply below_alloc | apply pw_below_drewN | apply below_drew1 | refine below_set ?_ GE571.out | refine below_set ?_ GE582.out | refine below_set ?_ GE593.out) | exact HB.out)) hb)
             clear HO_12
             clear HO_14
             clear HO_572000
             clear HO_583000
             clear HO_583001
             clear HO_594000
             clear HO601
             clear HO604
             clear HO607
             clear HO610
             clear BK571
             clear BK582
             clear BK593
             clear HB
             have HO_12 := n0_
             have HO_14 := n1_
             have HO_572000 := n2_
             have HO_583000 := n3_
             have HO_583001 := n4_
             have HO_594000 := n5_
             have HO601 := n6_
             have HO604 := n7_
             have HO607 := n8_
             have HO610 := n9_
             have BK571 := n10_
             have BK582 := n11_
             have BK593 := n12_
             have HB := n13_
             clear n0_ n1_ n2_ n3_ n4_ n5_ n6_ n7_ n8_ n9_ n10_ n11_ n12_ n13_
             (try clear hb)
             (try clear hb2)
             (try clear hk)
             (try clear hi)
             refine hK.out _ _ ⟨(blk_cell BK571.out 0).trans rfl, (blk_cell BK571.out 1).trans rfl, (blk_cell BK571.out 2).trans rfl, (blk_cell BK593.out 0).trans rfl, (blk_cell BK593.out 1).trans rfl, (blk_cell BK593.out 2).trans rfl⟩ (fun hHeld => ?_)
             clear hK K
             refine norm_ (a' := ?_) ?_ ?_
             rotate_left
             ·show Act.put _ (some 108) _ = _
              simp only [Act.put, List.setIfInBounds_toArray, List.set_cons_zero, List.set_cons_succ, i64_w, i32_w]
              rfl
             refine pure_ (i := 7) (N := some 109) (v := ?_) (a' := ?_) #[true,true,true,true,true,true,true,true,false,false,false,false,false,false] rfl rfl (any_of HT_.out (by kernel_rfl)) (fun _ _ _ h => h) (Or.inl ⟨by rfl, ?_⟩) ?_ ?_
             rotate_left
             ·intro w'
              go_simp
              with_reducible rfl
             rotate_left
             ·simp only [Act.put, List.setIfInBounds_toArray, List.set_cons_zero, List.set_cons_succ, i64_w, i32_w]
              rfl
             refine pure_ (i := 8) (N := some 110) (v := ?_) (a' := ?_) #[true,true,true,true,true,true,true,true,true,false,false,false,false,false] rfl rfl (any_of HT_.out (by kernel_rfl)) (fun _ _ _ h => h) (Or.inl ⟨by rfl, ?_⟩) ?_ ?_
             rotate_left
             ·intro w'
              go_simp
              with_reducible rfl
             rotate_left
             ·simp only [Act.put, List.setIfInBounds_toArray, List.set_cons_zero, List.set_cons_succ, i64_w, i32_w]
              rfl
             refine pure_ (i := 9) (N := some 111) (v := undef) (a' := ?_) #[true,true,true,true,true,true,true,true,true,true,false,false,false,false] rfl rfl (any_of HT_.out (by kernel_rfl)) (fun _ _ _ h => h) (Or.inr ⟨by rfl, rfl⟩) ?_ ?_
             rotate_left
             ·simp only [Act.put, List.setIfInBounds_toArray, List.set_cons_zero, List.set_cons_succ, i64_w, i32_w]
              rfl
             refine pure_ (i := 10) (N := some 112) (v := undef) (a' := ?_) #[true,true,true,true,true,true,true,true,true,true,true,false,false,false] rfl rfl (any_of HT_.out (by kernel_rfl)) (fun _ _ _ h => h) (Or.inr ⟨by rfl, rfl⟩) ?_ ?_
             rotate_left
             ·simp only [Act.put, List.setIfInBounds_toArray, List.set_cons_zero, List.set_cons_succ, i64_w, i32_w]
              rfl
             refine pure_ (i := 11) (N := some 113) (v := undef) (a' := ?_) #[true,true,true,true,true,true,true,true,true,true,true,true,false,false] rfl rfl (any_of HT_.out (by kernel_rfl)) (fun _ _ _ h => h) (Or.inr ⟨by rfl, rfl⟩) ?_ ?_
             rotate_left
             ·simp only [Act.put, List.setIfInBounds_toArray, List.set_cons_zero, List.set_cons_succ, i64_w, i32_w]
              rfl
             refine pure_ (i := 12) (N := some 114) (v := ?_) (a' := ?_) #[true,true,true,true,true,true,true,true,true,true,true,true,true,false] rfl rfl (any_of HT_.out (by kernel_rfl)) (fun _ _ _ h => h) (Or.inl ⟨by rfl, ?_⟩) ?_ ?_
             rotate_left
             ·intro w'
              go_simp
              with_reducible rfl
             rotate_left
             ·simp only [Act.put, List.setIfInBounds_toArray, List.set_cons_zero, List.set_cons_succ, i64_w, i32_w]
              rfl
             refine pure_ (i := 13) (N := some 8) (v := ?_) (a' := ?_) #[true,true,true,true,true,true,true,true,true,true,true,true,true,true] rfl rfl (any_of HT_.out (by kernel_rfl)) (fun _ _ _ h => h) (Or.inl ⟨by rfl, ?_⟩) ?_ ?_
             rotate_left
             ·intro w'
              go_simp
              with_reducible rfl
             rotate_left
             ·simp only [Act.put, List.setIfInBounds_toArray, List.set_cons_zero, List.set_cons_succ, i64_w, i32_w]
              rfl
             refine done_ (done_of HT_.out (by kernel_rfl)) ?_
             try go_wp2
             go_ret
             exact ⟨by first | rfl | (simp [errW_none, errW_some] <;> rfl) | (simp [*, errW_none, errW_some] <;> rfl) | (exfalso; (try simp_all); (try omega); done), by repeat (first | (with_reducible first | exact HB.out | apply below_alloc | apply pw_below_drewN | apply below_drew1 | refine below_set ?_ GE571.out | refine below_set ?_ GE582.out | refine below_set ?_ GE593.out) | exact HB.out)⟩
           ·replace c69 := Bool.eq_false_iff.mpr c69
            subst c69
            have H1 : (some false) = some r := by rw [if_neg (show ¬ (false = true) by decide)] at H; exact H
            clear H
            have H := H1
            clear H1
            obtain rfl := Option.some.inj H
            try go_wp2
            have n0_ := Aside0.mk (Kd.R_drew HO_12.out)
            have n1_ := Aside0.mk (Kd.R_drew HO_14.out)
            have n2_ := Aside0.mk (Kd.S_drew HO_572000.out)
            have n3_ := Aside0.mk (Kd.R_drew HO_572001.out)
            have n4_ := Aside0.mk (Kd.S_drew HO_583000.out)
            have n5_ := Aside0.mk (Kd.R_drew HO_583001.out)
            have n6_ := Aside0.mk (Kd.S_drew HO_594000.out)
            have n7_ := Aside0.mk (Kd.R_drew HO_594001.out)
            have n8_ := Aside0.mk (blk_drew BK571.out)
            have n9_ := Aside0.mk (blk_drew BK582.out)
            have n10_ := Aside0.mk (blk_drew BK593.out)
            have n11_ := Aside0.mk (below_drew1 HB.out)
            clear HO_12
            clear HO_14
            clear HO_572000
            clear HO_572001
            clear HO_583000
            clear HO_583001
            clear HO_594000
            clear HO_594001
            clear BK571
            clear BK582
            clear BK593
            clear HB
            have HO_12 := n0_
            have HO_14 := n1_
            have HO_572000 := n2_
            have HO_572001 := n3_
            have HO_583000 := n4_
            have HO_583001 := n5_
            have HO_594000 := n6_
            have HO_594001 := n7_
            have BK571 := n8_
            have BK582 := n9_
            have BK593 := n10_
            have HB := n11_
            clear n0_ n1_ n2_ n3_ n4_ n5_ n6_ n7_ n8_ n9_ n10_ n11_
            refine start_ (n := 14) (S := fun w' => True) (ds := []) #[false,false,false,false,false,false,false,false,false,false,false,false,false,false] (by kernel_rfl) rfl rfl trivial (fun hHeld => ?_); refine with_tabW bywashlaw15_DomupBack.tab13 bywashlaw15_DomupBack.bits13 (fun HT_ HW_ => ?_)
            generalize wc.drew = w93 at HO_12 HO_14 HO_572000 HO_572001 HO_583000 HO_583001 HO_594000 HO_594001 BK571 BK582 BK593 HB hHeld ⊢
            refine pure_ (i := 0) (N := some 102) (v := ?_) (a' := ?_) #[true,false,false,false,false,false,false,false,false,false,false,false,false,false] rfl rfl (any_of HT_.out (by kernel_rfl)) (fun _ _ _ h => h) (Or.inl ⟨by rfl, ?_⟩) ?_ ?_
            rotate_left
            ·intro w'
             go_simp
             with_reducible rfl
            rotate_left
            ·simp only [Act.put, List.setIfInBounds_toArray, List.set_cons_zero, List.set_cons_succ, i64_w, i32_w]
             rfl
            refine pure_ (i := 1) (N := some 103) (v := ?_) (a' := ?_) #[true,true,false,false,false,false,false,false,false,false,false,false,false,false] rfl rfl (any_of HT_.out (by kernel_rfl)) (fun _ _ _ h => h) (Or.inl ⟨by rfl, ?_⟩) ?_ ?_
            rotate_left
            ·intro w'
             go_simp
             with_reducible rfl
            rotate_left
            ·simp only [Act.put, List.setIfInBounds_toArray, List.set_cons_zero, List.set_cons_succ, i64_w, i32_w]
             rfl
            refine pure_ (i := 2) (N := some 104) (v := undef) (a' := ?_) #[true,true,true,false,false,false,false,false,false,false,false,false,false,false] rfl rfl (any_of HT_.out (by kernel_rfl)) (fun _ _ _ h => h) (Or.inr ⟨by rfl, rfl⟩) ?_ ?_
            rotate_left
            ·simp only [Act.put, List.setIfInBounds_toArray, List.set_cons_zero, List.set_cons_succ, i64_w, i32_w]
             rfl
            refine pure_ (i := 3) (N := some 105) (v := undef) (a' := ?_) #[true,true,true,true,false,false,false,false,false,false,false,false,false,false] rfl rfl (any_of HT_.out (by kernel_rfl)) (fun _ _ _ h => h) (Or.inr ⟨by rfl, rfl⟩) ?_ ?_
            rotate_left
            ·simp only [Act.put, List.setIfInBounds_toArray, List.set_cons_zero, List.set_cons_succ, i64_w, i32_w]
             rfl
            refine pure_ (i := 4) (N := some 106) (v := undef) (a' := ?_) #[true,true,true,true,true,false,false,false,false,false,false,false,false,false] rfl rfl (any_of HT_.out (by kernel_rfl)) (fun _ _ _ h => h) (Or.inr ⟨by rfl, rfl⟩) ?_ ?_
            rotate_left
            ·simp only [Act.put, List.setIfInBounds_toArray, List.set_cons_zero, List.set_cons_succ, i64_w, i32_w]
             rfl
            refine pure_ (i := 5) (N := some 107) (v := undef) (a' := ?_) #[true,true,true,true,true,true,false,false,false,false,false,false,false,false] rfl rfl (any_of HT_.out (by kernel_rfl)) (fun _ _ _ h => h) (Or.inr ⟨by rfl, rfl⟩) ?_ ?_
            rotate_left
            ·simp only [Act.put, List.setIfInBounds_toArray, List.set_cons_zero, List.set_cons_succ, i64_w, i32_w]
             rfl
            refine pure_ (i := 6) (N := some 108) (v := undef) (a' := ?_) #[true,true,true,true,true,true,true,false,false,false,false,false,false,false] rfl rfl (any_of HT_.out (by kernel_rfl)) (fun _ _ _ h => h) (Or.inr ⟨by rfl, rfl⟩) ?_ ?_
            rotate_left
            ·simp only [Act.put, List.setIfInBounds_toArray, List.set_cons_zero, List.set_cons_succ, i64_w, i32_w]
             rfl
            refine pure_ (i := 7) (N := some 109) (v := ?_) (a' := ?_) #[true,true,true,true,true,true,true,true,false,false,false,false,false,false] rfl rfl (any_of HT_.out (by kernel_rfl)) (fun _ _ _ h => h) (Or.inl ⟨by rfl, ?_⟩) ?_ ?_
            rotate_left
            ·intro w'
             go_simp
             with_reducible rfl
            rotate_left
            ·simp only [Act.put, List.setIfInBounds_toArray, List.set_cons_zero, List.set_cons_succ, i64_w, i32_w]
             rfl
            refine pure_ (i := 8) (N := some 110) (v := ?_) (a' := ?_) #[true,true,true,true,true,true,true,true,true,false,false,false,false,false] rfl rfl (any_of HT_.out (by kernel_rfl)) (fun _ _ _ h => h) (Or.inl ⟨by rfl, ?_⟩) ?_ ?_
            rotate_left
            ·intro w'
             go_simp
             with_reducible rfl
            rotate_left
            ·simp only [Act.put, List.setIfInBounds_toArray, List.set_cons_zero, List.set_cons_succ, i64_w, i32_w]
             rfl
            refine pure_ (i := 9) (N := some 111) (v := undef) (a' := ?_) #[true,true,true,true,true,true,true,true,true,true,false,false,false,false] rfl rfl (any_of HT_.out (by kernel_rfl)) (fun _ _ _ h => h) (Or.inr ⟨by rfl, rfl⟩) ?_ ?_
            rotate_left
            ·simp only [Act.put, List.setIfInBounds_toArray, List.set_cons_zero, List.set_cons_succ, i64_w, i32_w]
             rfl
            refine pure_ (i := 10) (N := some 112) (v := undef) (a' := ?_) #[true,true,true,true,true,true,true,true,true,true,true,false,false,false] rfl rfl (any_of HT_.out (by kernel_rfl)) (fun _ _ _ h => h) (Or.inr ⟨by rfl, rfl⟩) ?_ ?_
            rotate_left
            ·simp only [Act.put, List.setIfInBounds_toArray, List.set_cons_zero, List.set_cons_succ, i64_w, i32_w]
             rfl
            refine pure_ (i := 11) (N := some 113) (v := undef) (a' := ?_) #[true,true,true,true,true,true,true,true,true,true,true,true,false,false] rfl rfl (any_of HT_.out (by kernel_rfl)) (fun _ _ _ h => h) (Or.inr ⟨by rfl, rfl⟩) ?_ ?_
            rotate_left
            ·simp only [Act.put, List.setIfInBounds_toArray, List.set_cons_zero, List.set_cons_succ, i64_w, i32_w]
             rfl
            refine pure_ (i := 12) (N := some 114) (v := ?_) (a' := ?_) #[true,true,true,true,true,true,true,true,true,true,true,true,true,false] rfl rfl (any_of HT_.out (by kernel_rfl)) (fun _ _ _ h => h) (Or.inl ⟨by rfl, ?_⟩) ?_ ?_
            rotate_left
            ·intro w'
             go_simp
             with_reducible rfl
            rotate_left
            ·simp only [Act.put, List.setIfInBounds_toArray, List.set_cons_zero, List.set_cons_succ, i64_w, i32_w]
             rfl
            refine pure_ (i := 13) (N := some 8) (v := ?_) (a' := ?_) #[true,true,true,true,true,true,true,true,true,true,true,true,true,true] rfl rfl (any_of HT_.out (by kernel_rfl)) (fun _ _ _ h => h) (Or.inl ⟨by rfl, ?_⟩) ?_ ?_
            rotate_left
            ·intro w'
             go_simp
             with_reducible rfl
            rotate_left
            ·simp only [Act.put, List.setIfInBounds_toArray, List.set_cons_zero, List.set_cons_succ, i64_w, i32_w]
             rfl
            refine done_ (done_of HT_.out (by kernel_rfl)) ?_
            try go_wp2
            go_ret
            exact ⟨by first | rfl | (simp [errW_none, errW_some] <;> rfl) | (simp [*, errW_none, errW_some] <;> rfl) | (exfalso; (try simp_all); (try omega); done), by repeat (first | (with_reducible first | exact HB.out | apply below_alloc | apply pw_below_drewN | apply below_drew1 | refine below_set ?_ GE571.out | refine below_set ?_ GE582.out | refine below_set ?_ GE593.out) | exact HB.out)⟩
 ·replace c7 := Bool.eq_false_iff.mpr c7
  subst c7
  have H1 : (some t562) = some r := by rw [if_neg (show ¬ (false = true) by decide)] at H; exact H
  clear H
  have H := H1
  clear H1
  obtain rfl := Option.some.inj H
  go_enter Try.func10, Try.ntmps10
  go_wp2_with (first | ((with_reducible refine gate_callee (f := 31) rfl ?_); refine goesL_ (some 15) rfl rfl Try.func31 (by kernel_rfl) rfl #[] rfl (by (try simp only [List.map_toArray, List.map_cons, List.map_nil]); first | done | rfl | (simp only [List.length_drop, List.length_take]; rfl)) ?_; (with_reducible refine (bywashlaw15_awake.calls k  t562 _ A5.out).mono ?_); rintro e w94 ⟨rfl, hb⟩; refine ⟨_, rfl, ?_⟩; have n0_ := Aside0.mk (below_step (by repeat (first | (with_reducible first | exact HB.out | apply below_alloc | apply pw_below_drewN | apply below_drew1) | exact HB.out)) hb); clear HB; have HB := n0_; clear n0_; (try clear hb); (try clear hb2); (try clear hk); (try clear hi)) | ((with_reducible refine gate_callee (f := 14) rfl ?_); refine goesL_ (some 17) rfl rfl Try.func14 (by kernel_rfl) rfl #[.slice A0 l0.length c0] rfl (by (try simp only [List.map_toArray, List.map_cons, List.map_nil]); first | done | rfl | (simp only [List.length_drop, List.length_take]; rfl)) ?_; (with_reducible refine (bywashref10_Few.calls k _ _ l0 false _ ?side1 ?side2 A6.out).mono ?_); (case side1 => repeat (first | exact (Kd.C_below HR0.out HB.out) | (with_reducible refine Kd.C_alloc ?_ _) | (with_reducible refine Kd.C_drewN ?_ _) | (with_reducible refine Kd.C_drew ?_))); (case side2 => exact HC0.out); rintro e w' ⟨rfl, ⟨nd, rfl⟩⟩; refine ⟨_, rfl, ?_⟩))
  go_ret
  exact ⟨by first | rfl | (simp [errW_none, errW_some] <;> rfl) | (simp [*, errW_none, errW_some] <;> rfl) | (exfalso; (try simp_all); (try omega); done), by repeat (first | (with_reducible first | exact HB.out | apply below_alloc | apply pw_below_drewN | apply below_drew1) | exact HB.out)⟩
end Go.Proofs.Ytemcmcnhpdkdfaa.P
