/- The document's example for layer 16: true. -/
import Derived.Test.YtnhcimhdkdgccaaHwork3
import Derived.Test.YtnhcimhdkdgccaaHopen
namespace Go.Proofs.Ytnhcimhdkdgccaa.P
open Go.RowKit Go.Shelf Go.Lib Go.Sort Go.Maps Go.Proofs.YtnhcimhdkdgccaaW.PrintWords Go.Proofs.YtnhcimhdkdgccaaW.PrintLast Go.Proofs.YtnhcimhdkdgccaaW.PrintMore

theorem arr539 (w : World) : dI.C (w.alloc (.cells #[.int .i64 5, .int .i64 3, .int .i64 9] 3)) (some ⟨w.heap.size, 0, none⟩) [5, 3, 9].length [5, 3, 9] := by
  refine C_of_cells (n := 3) (zs := [5, 3, 9]) (by decide) (by decide) (fun e => by cases e) (fun a e c hc => ?_)
  injection e with e
  subst e
  have hb := World.alloc_heap_new w (.cells #[.int .i64 5, .int .i64 3, .int .i64 9] 3)
  match c, hc with
  | 0, _ => exact cell_of_blk (j := 0) hb rfl
  | 1, _ => exact cell_of_blk (j := 1) hb rfl
  | 2, _ => exact cell_of_blk (j := 2) hb rfl
set_option maxHeartbeats 4000000 in
set_option maxRecDepth 100000 in
theorem awake16_c (w : World) : Calls Try.prog 14 #[] w fun e w' => e = .returned (.bool true) ∧ Below w.heap.size w w' := by
  go_enter Try.func14, Try.ntmps14
  go_upto_region 2 with (go_at_call 15; refine (WK.new (w0 := w) (ord := [5, 3, 9]) (c := 3) (arr539 w) (below_alloc (Below.refl _ _) _) (by decide) (by decide)).mono ?_; rintro e w1 ⟨b, T, rfl, h1, _, _⟩; have H1 := Aside0.mk h1; clear h1)
  have HP1 := Aside0.mk (H1.out.put (i := 9) (by decide) (by decide) (by decide))
  rw [show putr [5, 3, 9] (fun _ => false) 9 = true by decide] at HP1
  go_upto_region 3 with (go_at_call 16; refine HP1.out.mono ?_; rintro e w2 ⟨rfl, ⟨T2, h2, _⟩, _⟩; have H2 := Aside0.mk h2; clear h2)
  have HP2 := Aside0.mk (H2.out.put (i := 5) (by decide) (by decide) (by decide))
  rw [show putr [5, 3, 9] (putg [5, 3, 9] (fun _ => false) 9) 5 = true by decide] at HP2
  go_upto_region 4 with (go_at_call 16; refine HP2.out.mono ?_; rintro e w3 ⟨rfl, ⟨T3, h3, _⟩, _⟩; have H3 := Aside0.mk h3; clear h3)
  obtain ⟨i1, e1, ht1⟩ := H3.out.take_yes (n := 1) (by decide) (by decide)
  obtain rfl : (5 : Int) = i1 := Option.some.inj ((show List.find? (putg [5, 3, 9] (putg [5, 3, 9] (fun _ => false) 9) 5) [5, 3, 9] = some 5 by decide).symm.trans e1)
  have HT1 := Aside0.mk ht1
  clear e1 ht1
  go_upto_region 5 with (go_at_call 18; refine HT1.out.mono ?_; rintro e w4 ⟨rfl, h4, _⟩; have H4 := Aside0.mk h4; clear h4)
  obtain ⟨i2, e2, ht2⟩ := H4.out.take_yes (n := 0) (by decide) (by decide)
  obtain rfl : (9 : Int) = i2 := Option.some.inj ((show List.find? (takeg [5, 3, 9] (putg [5, 3, 9] (putg [5, 3, 9] (fun _ => false) 9) 5)) [5, 3, 9] = some 9 by decide).symm.trans e2)
  have HT2 := Aside0.mk ht2
  clear e2 ht2
  go_upto_region 6 with (go_at_call 18; refine HT2.out.mono ?_; rintro e w5 ⟨rfl, h5, _⟩; have H5 := Aside0.mk h5; clear h5)
  have HL := Aside0.mk H5.out.len
  go_wp2_with (go_at_call 17; refine HL.out.mono ?_; rintro e wz ⟨rfl, rfl⟩)
  go_ret
  exact ⟨rfl, H5.out.bel⟩

end Go.Proofs.Ytnhcimhdkdgccaa.P
