/- WorkNone's walk: true. -/
import Derived.Test.YtnhcimhdkdgccaaGawake16
import Derived.Test.YtnhcimhdkdgccaaHlist
namespace Go.Proofs.Ytnhcimhdkdgccaa.P
open Go.RowKit Go.Shelf Go.Lib Go.Sort Go.Maps Go.Proofs.YtnhcimhdkdgccaaW.PrintWords Go.Proofs.YtnhcimhdkdgccaaW.PrintLast Go.Proofs.YtnhcimhdkdgccaaW.PrintMore

set_option maxHeartbeats 8000000 in
set_option maxRecDepth 100000 in
theorem WorkNone_c (a0 : Int) (w : World) (hw0 : (Lit.int .i64 a0).wf = true) :
    Calls Try.prog 10 #[.int .i64 a0] w fun e w' => e = .returned (.bool true) ∧ Below w.heap.size w w' := by
  have HW0 := Aside0.mk hw0
  clear hw0
  go_enter Try.func10, Try.ntmps10
  go_upto_region 3 with (go_at_call 14; refine (awake16_c _).mono ?_; rintro e w1 ⟨rfl, hb1⟩; have HB1 := Aside0.mk hb1; clear hb1)
  have HNW := Aside0.mk (WK.new (w0 := w) (w := w1.alloc (.cells #[.slice none 0 0, .map none, .map none, .nilIface] 61)) (A := none) (c := 0) (ord := []) ⟨rfl, by decide, fun hp => absurd hp (by simp)⟩ (below_alloc HB1.out _) (by decide) (by simp))
  go_wp2_with (go_at_call 15; refine HNW.out.mono ?_; rintro e w3 ⟨b, T, rfl, h3, _, hb3⟩; have H3 := Aside0.mk h3; have HB3 := Aside0.mk hb3; clear h3 hb3)
  obtain ⟨w4, e4⟩ : ∃ w4, w4 = w3.alloc (.cells #[.pointer none, .pointer (some ⟨w1.heap.size, 0, none⟩), .pointer (some ⟨b, 0, none⟩)] 24) := ⟨_, rfl⟩
  rw [← e4]
  have hL : w4.heap[w3.heap.size]? = some (.cells #[.pointer none, .pointer (some ⟨w1.heap.size, 0, none⟩), .pointer (some ⟨b, 0, none⟩)] 24 (0, 0)) := by rw [e4]; exact World.alloc_heap_new w3 _
  have h34 : Below w3.heap.size w3 w4 := by rw [e4]; exact below_alloc (Below.refl _ _) _
  have he : w4.heap[w1.heap.size]? = some (.cells #[.slice none 0 0, .map none, .map none, .nilIface] 61 (0, 0)) := by
    have h := World.alloc_heap_new w1 (.cells #[.slice none 0 0, .map none, .map none, .nilIface] 61)
    have hs := HB3.out.size
    rw [World.size_alloc] at hs
    exact (h34.block _ (by omega)).trans ((HB3.out.block _ (by rw [World.size_alloc]; omega)).trans h)
  have H4 := Aside0.mk (H3.out.later h34)
  have N0 : Aside0 (∀ W, Below w4.heap.size w4 W → Nought W (.pointer none) a0) := ⟨fun W _ => nought_un made_nil⟩
  have N1 : Aside0 (∀ W, Below w4.heap.size w4 W → Nought W (.pointer (some ⟨w1.heap.size, 0, none⟩)) a0) := ⟨fun W hW => nought_un (made_empty ((hW.block _ (blk_lt he)).trans he))⟩
  have N2 : Aside0 (∀ W, Below w4.heap.size w4 W → Nought W (.pointer (some ⟨b, 0, none⟩)) a0) := ⟨fun W hW => (H4.out.later hW).nought HW0.out⟩
  have HLC : Aside0 (∀ W, Below w4.heap.size w4 W → ∀ (j : Nat) v, (#[.pointer none, .pointer (some ⟨w1.heap.size, 0, none⟩), .pointer (some ⟨b, 0, none⟩)] : Array Value)[j]? = some v → W.cell? ⟨w3.heap.size, j, none⟩ = some v) := ⟨fun W hW j v hv => cell_of_blk ((hW.block _ (blk_lt hL)).trans hL) hv⟩
  have HB4 : Aside0 (Below w.heap.size w w4) := ⟨H4.out.bel⟩
  have hle4 : w.heap.size ≤ w4.heap.size := HB4.out.size
  clear e4 hL h34 he
  go_loopw [6] (fun v wr => ∃ k : Nat, k ≤ 3 ∧ v = .int .i64 k ∧ Aside0 (Below w4.heap.size w4 wr)) (fun v _ => 3 - (intOf v).toNat)
  case atStart => exact ⟨0, by omega, rfl, ⟨Below.refl _ _⟩⟩
  case round =>
    obtain ⟨k, hk, rfl, HB⟩ := hrel
    rcases (by omega : k = 0 ∨ k = 1 ∨ k = 2 ∨ k = 3) with rfl | rfl | rfl | rfl
    · have hx := HLC.out wr HB.out 0 _ rfl
      have N := Aside0.mk (N0.out wr HB.out)
      go_wp2_with (first | (go_at_call 18; refine N.out.take.mono ?_; rintro e wz ⟨rfl, rfl⟩) | (go_at_call 16; refine N.out.put.mono ?_; rintro e wz ⟨rfl, rfl⟩) | (go_at_call 19; refine N.out.has.mono ?_; rintro e wz ⟨rfl, rfl⟩) | (go_at_call 17; refine N.out.len.mono ?_; rintro e wz ⟨rfl, rfl⟩) | (go_at_call 30; refine N.out.list.mono ?_; rintro e w5 ⟨A, c, rfl, hb5⟩; have HB5 := Aside0.mk hb5; clear hb5))
      go_roundw
      case rel => exact ⟨1, by omega, rfl, ⟨HB.out.trans (HB5.out.mono HB.out.size)⟩⟩
      case measure => decide
    · have hx := HLC.out wr HB.out 1 _ rfl
      have N := Aside0.mk (N1.out wr HB.out)
      go_wp2_with (first | (go_at_call 18; refine N.out.take.mono ?_; rintro e wz ⟨rfl, rfl⟩) | (go_at_call 16; refine N.out.put.mono ?_; rintro e wz ⟨rfl, rfl⟩) | (go_at_call 19; refine N.out.has.mono ?_; rintro e wz ⟨rfl, rfl⟩) | (go_at_call 17; refine N.out.len.mono ?_; rintro e wz ⟨rfl, rfl⟩) | (go_at_call 30; refine N.out.list.mono ?_; rintro e w5 ⟨A, c, rfl, hb5⟩; have HB5 := Aside0.mk hb5; clear hb5))
      go_roundw
      case rel => exact ⟨2, by omega, rfl, ⟨HB.out.trans (HB5.out.mono HB.out.size)⟩⟩
      case measure => decide
    · have hx := HLC.out wr HB.out 2 _ rfl
      have N := Aside0.mk (N2.out wr HB.out)
      go_wp2_with (first | (go_at_call 18; refine N.out.take.mono ?_; rintro e wz ⟨rfl, rfl⟩) | (go_at_call 16; refine N.out.put.mono ?_; rintro e wz ⟨rfl, rfl⟩) | (go_at_call 19; refine N.out.has.mono ?_; rintro e wz ⟨rfl, rfl⟩) | (go_at_call 17; refine N.out.len.mono ?_; rintro e wz ⟨rfl, rfl⟩) | (go_at_call 30; refine N.out.list.mono ?_; rintro e w5 ⟨A, c, rfl, hb5⟩; have HB5 := Aside0.mk hb5; clear hb5))
      go_roundw
      case rel => exact ⟨3, by omega, rfl, ⟨HB.out.trans (HB5.out.mono HB.out.size)⟩⟩
      case measure => decide
    · go_wp2
      go_ret
      exact ⟨rfl, HB4.out.trans (HB.out.mono hle4)⟩

end Go.Proofs.Ytnhcimhdkdgccaa.P
