/- work.New: nothing left, over an order. -/
import Derived.Test.YtnhcimhdkdgccaaHback
import Derived.Test.YtnhcimhdkdgccaaHwork2
import Derived.Test.YtnhcimhdkdgccaaGwork2
import Derived.Maps.OwnIn
import Derived.RangeFuncWrites
namespace Go.Proofs.Ytnhcimhdkdgccaa.P
open Go.RowKit Go.Shelf Go.Lib Go.Sort Go.Maps Go.Proofs.YtnhcimhdkdgccaaW.PrintWords Go.Proofs.YtnhcimhdkdgccaaW.PrintLast Go.Proofs.YtnhcimhdkdgccaaW.PrintMore
attribute [local go_sem] Oper.semAt_some

abbrev PI := { x : Nat × Int // (Lit.int .i64 (x.1 : Int)).wf = true ∧ (Lit.int .i64 x.2).wf = true }
def mapOf (pre : List PI) : Int → Option Int := pre.foldl (fun f p x => if x = p.1.2 then some (p.1.1 : Int) else f x) (fun _ => none)
theorem mapOf_snoc (pre : List PI) (p : PI) : mapOf (pre ++ [p]) = fun x => if x = p.1.2 then some (p.1.1 : Int) else mapOf pre x := by simp [mapOf]
def mkP (xs : List Int) (m : Nat) : PI := if h : (Lit.int .i64 (m : Int)).wf = true ∧ (Lit.int .i64 (xs.getD m 0)).wf = true then ⟨(m, xs.getD m 0), h⟩ else ⟨(0, 0), by decide⟩
theorem mkP_val {xs : List Int} (hw : ∀ y ∈ xs, (Lit.int .i64 y).wf = true) (hl : xs.length ≤ 1000000) (m : Nat) (hm : m < xs.length) : (mkP xs m).1 = (m, xs.getD m 0) := by
  have h : (Lit.int .i64 (m : Int)).wf = true ∧ (Lit.int .i64 (xs.getD m 0)).wf = true := by
    refine ⟨wf64 (by omega), ?_⟩
    rw [List.getD_eq_getElem?_getD, List.getElem?_eq_getElem hm]
    exact hw _ (List.getElem_mem hm)
  unfold mkP
  rw [dif_pos h]

theorem push7 (w : World) (o0 o1 o2 o3 o4 o5 o6 : Obj) : ∃ W, (((((((w.alloc o0).alloc o1).alloc o2).alloc o3).alloc o4).alloc o5).alloc o6) = W ∧ W.heap.size = w.heap.size + 7 ∧ W.heap[w.heap.size]? = some o0 ∧ W.heap[w.heap.size + 1]? = some o1 ∧
    W.heap[w.heap.size + 2]? = some o2 ∧ W.heap[w.heap.size + 3]? = some o3 ∧ W.heap[w.heap.size + 4]? = some o4 ∧ W.heap[w.heap.size + 5]? = some o5 ∧ W.heap[w.heap.size + 6]? = some o6 ∧ Below w.heap.size w W ∧ Kept (w.alloc o0) W (fun _ => False) ∧ Kept ((w.alloc o0).alloc o1) W (fun _ => False) := by
  have e : ∀ (w : World) o, (w.alloc o).heap = w.heap.push o := fun _ _ => rfl
  refine ⟨_, rfl, ?_, ?_, ?_, ?_, ?_, ?_, ?_, ?_, ?_, ?_, ?_⟩
  · simp only [e, Array.size_push]
  · simp only [e, Array.getElem?_push, Array.size_push]; (repeat first | rw [if_pos trivial] | rw [if_pos (by omega)] | rw [if_neg (by omega)])
  · simp only [e, Array.getElem?_push, Array.size_push]; (repeat first | rw [if_pos trivial] | rw [if_pos (by omega)] | rw [if_neg (by omega)])
  · simp only [e, Array.getElem?_push, Array.size_push]; (repeat first | rw [if_pos trivial] | rw [if_pos (by omega)] | rw [if_neg (by omega)])
  · simp only [e, Array.getElem?_push, Array.size_push]; (repeat first | rw [if_pos trivial] | rw [if_pos (by omega)] | rw [if_neg (by omega)])
  · simp only [e, Array.getElem?_push, Array.size_push]; (repeat first | rw [if_pos trivial] | rw [if_pos (by omega)] | rw [if_neg (by omega)])
  · simp only [e, Array.getElem?_push, Array.size_push]; (repeat first | rw [if_pos trivial] | rw [if_pos (by omega)] | rw [if_neg (by omega)])
  · simp only [e, Array.getElem?_push, Array.size_push]; (repeat first | rw [if_pos trivial] | rw [if_pos (by omega)] | rw [if_neg (by omega)])
  · exact below_alloc (below_alloc (below_alloc (below_alloc (below_alloc (below_alloc (below_alloc (Below.refl _ _) _) _) _) _) _) _) _
  · exact (((((((Kept.refl _ _).alloc _).alloc _).alloc _).alloc _).alloc _).alloc _)
  · exact ((((((Kept.refl _ _).alloc _).alloc _).alloc _).alloc _).alloc _)
theorem cell_of_blk {w : World} {b t j : Nat} {cs : Array Value} {v : Value} (h : w.heap[b]? = some (.cells cs t (0, 0))) (hj : cs[j]? = some v) : w.cell? ⟨b, j, none⟩ = some v := by simp [World.cell?, h, hj]
theorem I_own {W2 : World} {s : Nat} (hs7 : s < W2.heap.size) : OwnFrom W2.heap.size (fun (pre : List PI) W => MI W s pre.length (mapOf pre) ∧ Kept W2 W (fun k => k = s) ∧ Below s W2 W) := fun pre W W' row hs hg hr =>
  ⟨hs.1.kept (Kept.of_grown hg (Kept.refl W (fun k => W2.heap.size ≤ k)) (fun k e => .inl (hr k e).1)) (by omega), Kept.of_grown hg hs.2.1 (fun k e => .inr (hr k e).1), hs.2.2.grown hg (by have := hs.2.2.size; omega) (fun j e => by have := (hr j e).1; omega)⟩
theorem K_put {s n : Nat} (W : World) (l : Nat) (o o' : Obj) (hl : n ≤ l) (_ : W.heap[l]? = some o) (_ : o.isCells = false) (_ : o.isWalk = false) : Kept W (W.putObj l o') (fun k => k = s ∨ n ≤ k) :=
  Kept.of_grown (grownBy_putObj' W l o') (Kept.refl W _) (fun k e => .inl (.inr (by injection e with e; omega)))

set_option maxHeartbeats 8000000 in
set_option maxRecDepth 100000 in
theorem new_in {w0 w : World} {A : Option Addr} {c : Nat} {xs : List Int} (hC : dI.C w A xs.length xs) (hb0 : Below w0.heap.size w0 w) (hl : xs.length ≤ 1000000) (hw : ∀ y ∈ xs, (Lit.int .i64 y).wf = true) :
    CallsIn Fence.wide 6 Try.prog 15 #[.slice A xs.length c] w fun e w' => ∃ b p BA BI na S So vo v, e = .returned (.pointer (some ⟨b, 0, none⟩)) ∧
      WS w0 w' b p BA BI na 0 S So vo v xs [] (mapOf (down (mkP xs) xs.length xs.length)) (fun _ => false) ∧ (∀ k, k = b ∨ k = p ∨ k = BA ∨ k = BI ∨ S k ∨ So k → w.heap.size ≤ k) ∧ Below w.heap.size w w' := by
  have HC := Aside0.mk hC
  have HX := Aside0.mk hw
  obtain ⟨n, en⟩ : ∃ n, n = xs.length := ⟨_, rfl⟩
  have HN := Aside0.mk en
  have HB0 := Aside0.mk hb0
  have HCL := Aside0.mk (clone_c A c xs w hC (by omega))
  rw [← en] at hC hl HCL ⊢
  clear hC hw en hb0
  refine callsIn_of_wp_marks Try.func15 rfl trivial ?_ rfl
  simp only [Try.ntmps15, List.size_toArray, List.length_cons, List.length_nil, Nat.reduceAdd, Nat.reduceSub, Array.replicate_succ, Array.replicate_zero, List.push_toArray, List.append_toArray, List.nil_append, List.cons_append]
  have hmm := @run_makeMap Try.prog
  gi_wp2_with (first | (refine ⟨trivial, ?_⟩; gi_at_call 48; refine (callsIn_wide.2 HCL.out).mono ?_; rintro e w1 ⟨v1, rfl, ho1, hb1⟩; have HO1 := Aside0.mk ho1; have HB1 := Aside0.mk hb1; clear ho1 hb1; obtain ⟨A1, c1, rfl⟩ := Kd.R_slice HO1.out; obtain ⟨n1, hn1⟩ : ∃ n1, n1 = w1.heap.size := ⟨_, rfl⟩; have HN1 := Aside0.mk hn1) | (refine ⟨trivial, ?_⟩; gi_at_call 49; refine (back_in Fence.wide _ trivial rfl _ _ _ _).mono ?_; rintro e w2 ⟨rfl, rfl⟩))
  obtain ⟨W2, hW2, hz, h0, h1, h2, h3, h4, h5, h6, hbel, hkm, hkm2⟩ := push7 w1 (Obj.map #[] 0) (Obj.map #[] 0) (Obj.cells #[] 3) (Obj.cells #[Value.slice (some { block := w1.heap.size + 1 + 1, off := 0 }) 0 0] 73) (Obj.cells #[Value.slice A1 xs.length c1, Value.map (some w1.heap.size), Value.map (some (w1.heap.size + 1)), Value.iface 72 (Value.pointer (some { block := w1.heap.size + 1 + 1 + 1, off := 0 }))] 61) (Obj.cells #[Value.pointer (some { block := w1.heap.size + 1 + 1 + 1 + 1, off := 0 })] 24) (Obj.cells #[Value.slice A n c] 22)
  rw [hW2]
  have hMI : MI W2 w1.heap.size 0 (mapOf []) := (MI.made w1).kept hkm (fun h => h)
  have hI6 : ∀ k, k < n → ∃ b off, ¬ (b = w1.heap.size ∨ W2.heap.size ≤ b) ∧ A = some ⟨b, off, none⟩ ∧ W2.cell? ⟨b, off + k, none⟩ = some (.int .i64 (xs.getD k 0)) := by
    intro k hk
    obtain ⟨b, off, e, _, hc⟩ := C_ints HC.out (by have := HN.out; omega)
    have hck := hc k (by have := HN.out; omega)
    have hlt : b < w.heap.size := World.block_lt_of_cell? w ⟨b, off + k, none⟩ hck
    have hs1 := HB1.out.size
    exact ⟨b, off, by omega, e, (hbel.cell (p := ⟨b, off + k, none⟩) (by show b < w1.heap.size; omega)).trans ((HB1.out.cell (p := ⟨b, off + k, none⟩) hlt).trans hck)⟩
  refine wpIn_rangeFunc_ownG rfl (by decide) (gf := 69) (lb := #[.pointer (some ⟨w1.heap.size + 6, 0, none⟩)]) rfl trivial (enters_of Try.func69 (by kernel_rfl) rfl)
    (back_stops (mkP xs) (fun p : PI => p.1) (fun k => k = w1.heap.size ∨ W2.heap.size ≤ k) Fence.wide 5 trivial rfl (by decide) (w1.heap.size + 6) n c A xs HN.out.symm (fun m hm => mkP_val HX.out (by have := HN.out; omega) m (by have := HN.out; omega)) (by omega) W2 (by omega) (cell_of_blk h6 rfl) hI6)
    (fun h1 h2 => h1.then_ h2 (fun k hk => .inl hk)) K_put (Below.refl _ _) (fun _ => rfl)
    (fun pre W => MI W w1.heap.size pre.length (mapOf pre) ∧ Kept W2 W (fun k => k = w1.heap.size) ∧ Below w1.heap.size W2 W)
    (fun _ _ _ => False) (I_own (by omega)) (fun _ _ _ _ _ hs _ _ => hs) ⟨hMI, Kept.refl _ _, Below.refl _ _⟩
    (fun x => { tmps := #[Value.slice A n c, undef, Value.pointer none, Value.pointer (some { block := w1.heap.size + 1 + 1 + 1 + 1 + 1, off := 0 }), .int .i64 (x.1.1 : Int), .int .i64 x.1.2, Value.slice A n c,
          Value.slice A1 xs.length c1, Value.map (some w1.heap.size), Value.map (some (w1.heap.size + 1)),
          Value.slice (some { block := w1.heap.size + 1 + 1, off := 0 }) 0 0,
          Value.pointer (some { block := w1.heap.size + 1 + 1 + 1, off := 0 }),
          Value.iface 72 (Value.pointer (some { block := w1.heap.size + 1 + 1 + 1, off := 0 })),
          Value.agg
            #[Value.slice A1 xs.length c1, Value.map (some w1.heap.size), Value.map (some (w1.heap.size + 1)),
              Value.iface 72 (Value.pointer (some { block := w1.heap.size + 1 + 1 + 1, off := 0 }))],
          Value.pointer (some { block := w1.heap.size + 1 + 1 + 1 + 1, off := 0 }), Value.slice A n c,
          Value.func (Fn.func 69) #[]
            #[Value.pointer (some { block := w1.heap.size + 1 + 1 + 1 + 1 + 1 + 1, off := 0 })],
          .int .i64 (x.1.1 : Int), .int .i64 x.1.2, undef, undef, undef, undef, undef, undef, undef], defers := [] }) ?assign ?body ?done ?stop
  case assign =>
    intro l x W K hK
    gi_wp2
    exact hK
  case body =>
    rintro l pre ⟨x, hx1, hx2⟩ W ⟨hm, hk, hb⟩ hlt
    have c5 := cell_of_blk (j := 0) (blk_kept h5 hk (by omega)) rfl
    have c4 := cell_of_blk (j := 1) (blk_kept h4 hk (by omega)) rfl
    obtain ⟨w3, hrun, hm3, hg3⟩ := hm.put (by have : (1000000 : Nat) < maxLen := by decide
                                              omega) hx2 hx1
    gi_wp2
    exact ⟨KeepsFrom.of_grownBy hg3 (fun j e => by injection e with e; omega), Kept.of_grown hg3 (Kept.refl W _) (fun k e => .inl (.inl (by injection e with e; exact e.symm))), by rw [mapOf_snoc, List.length_append]; exact hm3, Kept.of_grown hg3 hk (fun k e => .inl (by injection e with e; exact e.symm)), hb.grown hg3 (by have := hb.size; omega) (fun j e => by injection e with e; omega)⟩
  case done =>
    rintro D ys W hD rfl ⟨hm, hk, hb⟩ hK
    have c5 := cell_of_blk (j := 0) (blk_kept h5 hk (by omega)) rfl
    gi_wp2
    refine ⟨by simp, .inl ⟨_, _, rfl, run_takeDeferred hK, ?_⟩⟩
    refine ⟨_, results_tmp rfl _ _ _, ?_⟩
    have hgr := grownBy_putObj' W D (.deferred none)
    have hk' : Kept W2 (W.putObj D (.deferred none)) (fun k => k = w1.heap.size) := Kept.of_grown hgr hk (fun k e => .inr (by injection e with e; omega))
    have hb' : Below w1.heap.size W2 (W.putObj D (.deferred none)) := hb.grown hgr (by have := hb.size; omega) (fun j e => by injection e with e; omega)
    have hm' := hm.kept (Kept.of_grown hgr (Kept.refl W (fun k => k = D)) (fun k e => .inl (by injection e with e; exact e.symm))) (by omega)
    have hmb : MB W2 (w1.heap.size + 1) 0 (fun _ => false) := by
      have h := (MB.made (w1.alloc (Obj.map #[] 0))).kept hkm2 (fun h => h)
      rw [World.size_alloc] at h
      exact h
    have hs1 := HB1.out.size
    have hs0 := HB0.out.size
    have hsw := hk'.1
    have hso : ∀ k, some k = (Value.slice A1 xs.length c1).ownBlock → k < w1.heap.size := fun k e => Kd.R_lt HO1.out k e.symm
    have hbw : Below w.heap.size w (W.putObj D (.deferred none)) := HB1.out.trans ((hbel.trans hb').mono hs1)
    refine ⟨w1.heap.size + 4, w1.heap.size + 3, w1.heap.size, w1.heap.size + 1, _, fun k => k = w1.heap.size + 2, fun k => some k = (Value.slice A1 xs.length c1).ownBlock, _, _, rfl, ⟨blk_kept h4 hk' (by omega), ⟨blk_kept h3 hk' (by omega), ?_, HB0.out.trans (hbw.mono hs0), by omega, by omega⟩, hm', hmb.kept hk' (by omega), ?_, ?_, ?_, by omega, ?_⟩, ?_, hbw⟩
    · exact Kd.R_of_own (xs := []) ⟨rfl, .inr ⟨w1.heap.size + 2, 0, #[], rfl, by omega, blk_kept h2 hk' (by omega), Nat.le_refl _, by decide, rfl, rfl⟩⟩ (fun k e => by simp [Value.ownBlock] at e; exact e.symm)
    · exact Kd.R_kept (Kd.R_below (Kd.R_lower (Kd.R_tight rfl HO1.out) hs0) hbel) hk' (fun k e => by have := hso k e; omega)
    · rintro k (e | e)
      · exact ⟨by omega, by omega, by omega, fun h => by have := hso k h; omega⟩
      · exact ⟨by omega, by omega, by omega, fun h => by have := hso k h; omega⟩
    · exact ⟨by omega, by omega, fun h => by have := hso _ h; omega⟩
    · exact ⟨by omega, by omega, by omega, fun k h => by have := hso k h; omega⟩
    · rintro k (e | e | e | e | e | e)
      · omega
      · omega
      · omega
      · omega
      · omega
      · exact Kd.R_base HO1.out k e.symm
  case stop =>
    rintro D c pre W _ _ h _
    exact h.elim

end Go.Proofs.Ytnhcimhdkdgccaa.P
