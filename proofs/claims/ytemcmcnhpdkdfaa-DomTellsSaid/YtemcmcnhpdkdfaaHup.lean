/- A way up by a list: the words that the contracts of package dom share. -/
import Derived.Test.YtemcmcnhpdkdfaaP0
import Derived.Test.YtemcmcnhpdkdfaaGdefs
import Derived.RangeFuncNested
import Derived.RangeFuncBound
import Derived.RangeFuncCalls
import Derived.RangeFuncLeaves
import Derived.Shelf.Abstract
import Derived.Shelf.RegionOpen
import Derived.WalkKit
import Derived.OwnWalkIn
import Derived.TacticsInMore
import Derived.LoopNIn
import Derived.LoopIn
import Derived.OneCell
import Derived.Test.YtemcmcnhpdkdfaaHgr
import Derived.RangeFuncWrites
import Derived.Deep.QuietTactic
import Derived.Maps.AppendAt
namespace Go.Proofs.Ytemcmcnhpdkdfaa.P
open Go.Proofs.YtemcmcnhpdkdfaaW.PrintWords

/-- A way up from b, of so many steps at most. -/
def upL (ds : List Int) (n : Nat) : Nat → Int → List Int
  | 0, _ => []
  | k + 1, b => if isN n b = true then b :: upL ds n k (rd ds b) else []
theorem upL_yes {ds : List Int} {n k : Nat} {b : Int} (h : isN n b = true) : upL ds n (k + 1) b = b :: upL ds n k (rd ds b) := by rw [upL, if_pos h]
theorem upL_no {ds : List Int} {n k : Nat} {b : Int} (h : isN n b = false) : upL ds n k b = [] := by
  cases k with
  | zero => rfl
  | succ k => rw [upL, if_neg (by rw [h]; simp)]
theorem upL_len (ds : List Int) (n : Nat) : ∀ (k : Nat) (b : Int), (upL ds n k b).length ≤ k
  | 0, _ => Nat.le_refl _
  | k + 1, b => by
    rw [upL]
    split
    · rw [List.length_cons]; have := upL_len ds n k (rd ds b); omega
    · exact Nat.zero_le _

end Go.Proofs.Ytemcmcnhpdkdfaa.P

/-! dom.up's iterator, that keeps where it is in a variable of its own; a range over it. -/
namespace Go.Proofs.Ytemcmcnhpdkdfaa.P
open Go.RowKit Go.Shelf Go.Proofs.YtemcmcnhpdkdfaaW.PrintWords Go.Proofs.YtemcmcnhpdkdfaaW.PrintLast Go.Proofs.YtemcmcnhpdkdfaaW.PrintMore
attribute [local go_sem] Oper.semAt_some

theorem Fr.mono {S S' : Nat → Prop} {a b : World} (h : Fr S a b) (hs : ∀ k, S k → S' k) : Fr S' a b := ⟨h.os, h.tape, h.output, h.size, fun k hk hn => h.block k hk (fun hS => hn (hs k hS))⟩
theorem Fr.kept {S : Nat → Prop} {a b : World} (h : Fr S a b) : Kept a b S := ⟨h.size, h.block⟩
/-- What dom.up's iterator has captured, and reads. -/
structure UpI (Bi Bb : Nat) (A : Option Addr) (len cap : Nat) (ds : List Int) (b : Int) (W : World) : Prop where
  hi : W.heap[Bi]? = some (.cells #[.slice A len cap] 25 (0, 0))
  hb : W.heap[Bb]? = some (.cells #[.int .i64 b] 3 (0, 0))
  hc : 0 < len → ∃ g off, A = some ⟨g, off, none⟩ ∧ g ≠ Bb ∧ ∀ j, j < len → W.cell? ⟨g, off + j, none⟩ = some (.int .i64 (ds.getD j 0))
theorem UpI.kept {Bi Bb : Nat} {A : Option Addr} {len cap : Nat} {ds : List Int} {b : Int} {W W' : World} {T : Nat → Prop} (h : UpI Bi Bb A len cap ds b W) (k : Kept W W' T) (h1 : ¬ T Bi) (h2 : ¬ T Bb) (h3 : 0 < len → ∀ g off, A = some ⟨g, off, none⟩ → ¬ T g) : UpI Bi Bb A len cap ds b W' := by
  refine ⟨blk_kept h.hi k h1, blk_kept h.hb k h2, fun hp => ?_⟩
  obtain ⟨g, off, e, hne, hc⟩ := h.hc hp
  exact ⟨g, off, e, hne, fun j hj => Go.Proofs.YtemcmcnhpdkdfaaW.PrintWords.cell_kept (hc j hj) k (h3 hp g off e)⟩
theorem UpI.store {Bi Bb : Nat} {A : Option Addr} {len cap : Nat} {ds : List Int} {b : Int} {W : World} (h : UpI Bi Bb A len cap ds b W) (hne : Bi ≠ Bb) (x : Int) : UpI Bi Bb A len cap ds x (W.setCell ⟨Bb, 0, none⟩ (.int .i64 x)) := by
  refine ⟨(Below.heap_setCell _ _ _ _ hne).trans h.hi, one_setCell h.hb, fun hp => ?_⟩
  obtain ⟨g, off, e, hg, hc⟩ := h.hc hp
  exact ⟨g, off, e, hg, fun j hj => (World.cell?_setCell_other _ _ _ _ (by intro e; injection e with e; exact hg e.symm)).trans (hc j hj)⟩

set_option maxRecDepth 100000 in
set_option maxHeartbeats 4000000 in
theorem up1_in (F : Fence) (n : Nat) (hf : F.fn 81) (hro : F.round = none) (hn : 1 ≤ n) (l Bi Bb : Nat) (A : Option Addr) (len cap : Nat) (ds : List Int) (hlen : len ≤ 1000000) (b0 : Int) (T : Nat → Prop) (J Jx : List Int → World → Prop)
    (hJ : ∀ pre W W', J pre W → Fr (fun k => k = Bb) W W' → J pre W')
    (hY : ∀ pre x W, J pre W → 0 ≤ x → x < (len : Int) → pre.length < len → YieldAt F (n - 1) Try.prog l #[.int .i64 x] W fun e W' => (e = .returned (.bool true) ∧ J (pre ++ [x]) W' ∧ Fr T W W') ∨ (e = .returned (.bool false) ∧ Jx (pre ++ [x]) W'))
    (h1 : ¬ T Bi) (h2 : ¬ T Bb) (h3 : 0 < len → ∀ g off, A = some ⟨g, off, none⟩ → ¬ T g) (hne : Bi ≠ Bb)
    (W : World) (hU : UpI Bi Bb A len cap ds b0 W) (h0 : J [] W) :
    CallsIn F n Try.prog 81 #[.func (.yield l) #[] #[], .pointer (some ⟨Bi, 0, none⟩), .pointer (some ⟨Bb, 0, none⟩)] W fun e W' => (∃ v, e = .returned v) ∧ (J (upL ds len len b0) W' ∨ ∃ pre, pre <+: upL ds len len b0 ∧ Jx pre W') := by
  have H0 := Aside0.mk h0
  have HU0 := Aside0.mk hU
  have hci := cell_of_one hU.hi
  clear h0 hU
  refine callsIn_of_wp Try.func81 rfl hf ?_ hro
  simp only [Try.ntmps81, List.size_toArray, List.length_cons, List.length_nil, Nat.reduceAdd, Nat.reduceSub, Array.replicate_succ, Array.replicate_zero, List.push_toArray, List.append_toArray, List.nil_append, List.cons_append]
  gi_wp2
  clear hci
  gi_loopw [6] (fun i wr => ∃ (m : Nat) (pre : List Int) (b : Int), i = .int .i64 m ∧ m ≤ len ∧ pre.length = m ∧ Aside0 (upL ds len len b0 = pre ++ upL ds len (len - m) b) ∧ Aside0 (J pre wr) ∧ Aside0 (UpI Bi Bb A len cap ds b wr)) (fun i _ => len - (intOf i).toNat)
  case atStart => exact ⟨0, [], b0, rfl, Nat.zero_le _, rfl, ⟨rfl⟩, H0, HU0⟩
  case round =>
    clear H0 HU0
    obtain ⟨m, pre, b, rfl, hm, hpl, HL, HJ, HU⟩ := hrel
    have HPL := Aside0.mk hpl
    clear hpl
    have hci := cell_of_one HU.out.hi
    have hcb := cell_of_one HU.out.hb
    by_cases hlt : m < len
    · rcases Bool.eq_false_or_eq_true (isN len b) with hin | hin
      · have hbn := isN_iff.1 hin
        obtain ⟨x, rfl⟩ : ∃ x : Nat, b = (x : Int) := ⟨b.toNat, by omega⟩
        have hx : x < len := by omega
        have c1 : decide ((x : Int) < 0) = false := decide_eq_false (by omega)
        have c2 : decide ((len : Int) ≤ (x : Int)) = false := decide_eq_false (by omega)
        have c3 : decide (len ≤ x) = false := decide_eq_false (by omega)
        obtain ⟨fn, tmps, assign, body, hy, hR⟩ := hY pre (x : Int) wr HJ.out hbn.1 hbn.2 (by rw [HPL.out]; exact hlt)
        clear hbn
        gi_wp2
        refine hR.mono ?_
        rintro e W3 (⟨rfl, hJ3, hk3⟩ | ⟨rfl, hJx3⟩)
        · have hU3 := HU.out.kept hk3.kept h1 h2 h3
          have hci3 := cell_of_one hU3.hi
          have hcb3 := cell_of_one hU3.hb
          have hfb3 := free_of_one hU3.hb
          obtain ⟨g, off, e, hg, hc⟩ := hU3.hc (by omega)
          have hcx := hc x hx
          subst e
          obtain ⟨y, ey⟩ : ∃ y, y = ds.getD x 0 := ⟨_, rfl⟩
          rw [← ey] at hcx
          have HY := Aside0.mk ey
          have HU3 := Aside0.mk hU3
          have HJ3 := Aside0.mk hJ3
          clear hc ey hU3 hJ3 hk3 hci hcb
          gi_wp2
          go_roundw
          case rel =>
            refine ⟨m + 1, pre ++ [(x : Int)], y, by go_num, by omega, by rw [List.length_append, HPL.out]; rfl, ⟨?_⟩, ⟨hJ _ _ _ HJ3.out (Fr.setCell (p := ⟨Bb, 0, none⟩) (Fr.refl (fun k => k = Bb) W3) (.inl rfl) _)⟩, ⟨HU3.out.store hne y⟩⟩
            rw [HL.out, show len - m = (len - (m + 1)) + 1 by omega, upL_yes hin, List.append_assoc, HY.out]
            show _ = pre ++ ((x : Int) :: upL ds len (len - (m + 1)) (ds.getD x 0))
            rw [show rd ds (x : Int) = ds.getD x 0 by show ds.getD (Int.toNat (x : Int)) 0 = _; rw [Int.toNat_natCast]]
          case measure => simp [intOf]; omega
        · gi_wp2
          refine bodyPost_ret (results_none rfl _ _ _) rfl ?_
          refine ⟨⟨_, rfl⟩, .inr ⟨pre ++ [(x : Int)], ?_, hJx3⟩⟩
          rw [HL.out, show len - m = (len - (m + 1)) + 1 by omega, upL_yes hin]
          exact ⟨_, by simp; rfl⟩
      · have hend : Aside0 (J (upL ds len len b0) wr) := ⟨by rw [HL.out, upL_no hin, List.append_nil]; exact HJ.out⟩
        have hb : b < 0 ∨ (len : Int) ≤ b := by
          have : ¬ (0 ≤ b ∧ b < (len : Int)) := fun h => by rw [isN_iff.2 h] at hin; cases hin
          omega
        rcases hb with hb | hb
        · have c1 : decide (b < 0) = true := decide_eq_true hb
          gi_wp2
          all_goals (refine ⟨fun _ h => (by cases h), ?_⟩; gi_wp2; refine bodyPost_ret (results_none rfl _ _ _) rfl ?_; exact ⟨⟨_, rfl⟩, .inl hend.out⟩)
        · have c1 : decide (b < 0) = false := decide_eq_false (by omega)
          have c2 : decide ((len : Int) ≤ b) = true := decide_eq_true hb
          gi_wp2
          all_goals (refine ⟨fun _ h => (by cases h), ?_⟩; gi_wp2; refine bodyPost_ret (results_none rfl _ _ _) rfl ?_; exact ⟨⟨_, rfl⟩, .inl hend.out⟩)
    · obtain rfl : m = len := by omega
      have hend : Aside0 (J (upL ds m m b0) wr) := ⟨by have h := HJ.out; rw [HL.out, Nat.sub_self, upL, List.append_nil]; exact h⟩
      gi_wp2
      go_end0
      exact ⟨⟨_, rfl⟩, .inl hend.out⟩

end Go.Proofs.Ytemcmcnhpdkdfaa.P

/-! A range over dom.up; dom.rises. -/
namespace Go.Proofs.Ytemcmcnhpdkdfaa.P
open Go.RowKit Go.Shelf Go.Proofs.YtemcmcnhpdkdfaaW.PrintWords Go.Proofs.YtemcmcnhpdkdfaaW.PrintLast Go.Proofs.YtemcmcnhpdkdfaaW.PrintMore
attribute [local go_sem] Oper.semAt_some

/-- How a round's body may end: it keeps all but T and what is new. -/
def upPost (T : Nat → Prop) (I Ix : List Int → World → Prop) (xs : List Int) (W : World) : Exit → Act → World → Prop
  | .normal, _, W' => Fr T W W' ∧ I xs W'
  | .ret, _, W' => Fr T W W' ∧ Ix xs W'
  | _, _, _ => False

theorem fr_put (W : World) (l : Nat) (o : Obj) : Fr (fun k => k = l) W (W.putObj l o) :=
  Fr.grown (Fr.refl _ W) (grownBy_putObj' W l o) (fun k e => .inl (by injection e with e; exact e.symm))

set_option maxHeartbeats 1000000 in
theorem range_up {n : Nat} {g : Operand} {p : Tmp} {assign body : Code} {Q : Exit → Act → World → Prop} {a : Act} {w : World} {Bi Bb : Nat} {A : Option Addr} {len cap : Nat} {ds : List Int} {b0 : Int} (hn : 3 ≤ n) (hlen : len ≤ 1000000)
    (hg : a.eval g = .func (.func 81) #[] #[.pointer (some ⟨Bi, 0, none⟩), .pointer (some ⟨Bb, 0, none⟩)]) (hU : UpI Bi Bb A len cap ds b0 w) (hne : Bi ≠ Bb) (hA : 0 < len → ∀ g off, A = some ⟨g, off, none⟩ → g < w.heap.size)
    (T : Nat → Prop) (h1 : ¬ T Bi) (h2 : ¬ T Bb) (h3 : 0 < len → ∀ g off, A = some ⟨g, off, none⟩ → ¬ T g) (hT : ∀ k, T k → k < w.heap.size) (I Ix : List Int → World → Prop)
    (hI : ∀ pre W W', I pre W → Fr (fun k => k = Bb ∨ k = w.heap.size ∨ k = w.heap.size + 1) W W' → I pre W') (hIx : ∀ pre W W', Ix pre W → Fr (fun k => k = Bb ∨ k = w.heap.size ∨ k = w.heap.size + 1) W W' → Ix pre W') (h0 : I [] w) (a1 : Int → Act)
    (hassign : ∀ (l : Nat) (x : Int) (W : World) (K : Act → World → Prop), K (a1 x) W → assign.wpIn (Fence.wide.inRound l) (n - 1 - 1) Try.prog (Exit.then K (fun _ _ _ => False)) { tmps := a.tmps.setIfInBounds p (.int .i64 x), defers := [] } W)
    (hbody : ∀ (l : Nat) (pre : List Int) (x : Int) (W : World), 0 ≤ x → x < (len : Int) → pre.length < len → I pre W → w.heap.size + 2 ≤ W.heap.size → body.wpIn (Fence.wide.inRound l) (n - 1 - 1) Try.prog (upPost (fun k => T k ∨ w.heap.size + 2 ≤ k) I Ix (pre ++ [x]) W) (a1 x) W)
    (hdone : ∀ (D : Nat) (W : World), D = w.heap.size → w.heap.size + 2 ≤ W.heap.size → I (upL ds len len b0) W → W.heap[D]? = some (.deferred (some [])) → Q .normal { a with defers := { target := .collected D, args := #[] } :: a.defers } W)
    (hstop : ∀ (D : Nat) (pre : List Int) (W : World), D = w.heap.size → w.heap.size + 2 ≤ W.heap.size → pre <+: upL ds len len b0 → Ix pre W → W.heap[D]? = some (.deferred (some [])) → Code.ret.wpIn Fence.wide n Try.prog Q { a with defers := { target := .collected D, args := #[] } :: a.defers } W) :
    (Code.rangeFunc g #[p] assign body).wpIn Fence.wide n Try.prog Q a w := by
  refine wpIn_rangeFunc ?_
  intro fn _
  show ∃ (l : Nat) (mark : List Deferred) (w₁ : World) (d : Deferred) (w₁' : World) (f : FuncId) (args : Array Value) (w₂ : World), (Instr.enterLoop fn a.tmps #[p] assign body none).run Try.prog w = .ok (l, mark) w₁ ∧ _
  obtain ⟨N, hN⟩ : ∃ N, N = w.heap.size := ⟨_, rfl⟩
  obtain ⟨rec, hrec⟩ : ∃ rec : LoopState → Option Code → Loop, rec = fun st pe => { state := st, pending := pe, fn, tmps := a.tmps, params := #[p], assign, body, defers := N } := ⟨_, rfl⟩
  obtain ⟨W1, hW1⟩ : ∃ W1, (w.alloc (.deferred (some []))).alloc (.loop (rec .ready none)) = W1 := ⟨_, rfl⟩
  have hz1 : W1.heap.size = N + 2 := by rw [← hW1, size_alloc1, size_alloc1, hN]
  have hL1 : W1.heap[N + 1]? = some (.loop (rec .ready none)) := by
    rw [← hW1, hN, ← size_alloc1 w (.deferred (some []))]
    exact World.alloc_heap_new _ _
  have hK1 : W1.heap[N]? = some (.deferred (some [])) := by
    rw [← hW1, hN]
    exact (Below.heap_alloc _ _ _ (by rw [size_alloc1]; omega)).trans (World.alloc_heap_new w _)
  have hb1 : Below w.heap.size w W1 := by rw [← hW1]; exact below_alloc (below_alloc (Below.refl _ _) _) _
  have kep : ∀ {X Y : World} {S : Nat → Prop}, Fr S X Y → (∀ k, S k → k = Bb ∨ k = N ∨ k = N + 1) → Fr (fun k => k = Bb ∨ k = w.heap.size ∨ k = w.heap.size + 1) X Y := fun h hs => h.mono (fun k hk => by rw [← hN]; exact hs k hk)
  have ne1 : Bb ≠ N := fun e => by have := lt_of_block hU.hb; omega
  have ne2 : Bb ≠ N + 1 := fun e => by have := lt_of_block hU.hb; omega
  have lti := lt_of_block hU.hi
  have ltb := lt_of_block hU.hb
  refine ⟨N + 1, [{ target := .collected N, args := #[] }], W1, { target := .fn (.func 81) #[.pointer (some ⟨Bi, 0, none⟩), .pointer (some ⟨Bb, 0, none⟩)], args := #[.func (.yield (N + 1)) #[] #[]] }, W1, 81,
    #[.func (.yield (N + 1)) #[] #[], .pointer (some ⟨Bi, 0, none⟩), .pointer (some ⟨Bb, 0, none⟩)], W1, ?_, ?_, fun _ _ => trivial, ?_, fun _ => by omega, ?_⟩
  · rw [← hW1, hrec, hN]
    exact run_enterLoop_outer _ _ _ _ _
  · simp only [resolve, hg]
    simp [go_sem]
  · simp only [invoke]
    simp [go_sem]
  · refine (up1_in Fence.wide (n - 1) trivial rfl (by omega) (N + 1) Bi Bb A len cap ds hlen b0 (fun k => T k ∨ N ≤ k)
      (fun pre W => I pre W ∧ W.heap[N + 1]? = some (.loop (rec .ready none)) ∧ W.heap[N]? = some (.deferred (some [])) ∧ N + 2 ≤ W.heap.size)
      (fun pre W => Ix pre W ∧ W.heap[N + 1]? = some (.loop (rec .done (some .ret))) ∧ W.heap[N]? = some (.deferred (some [])) ∧ N + 2 ≤ W.heap.size) ?_ ?_ (fun h => h.elim h1 (by omega)) (fun h => h.elim h2 (by omega)) (fun hp g off e h => h.elim (h3 hp g off e) (by have := hA hp g off e; omega)) hne W1
      (hU.kept (Fr.below hb1 (S := fun _ => False) (fun i hi => .inr hi)).kept (fun h => h) (fun h => h) (fun _ _ _ _ h => h)) ⟨hI _ _ _ h0 (Fr.below hb1 (fun i hi => .inr hi)), hL1, hK1, by omega⟩).mono ?_
    · rintro pre W W' ⟨hi, hl, hk, hz⟩ hkp
      exact ⟨hI _ _ _ hi (kep hkp (fun k hk => .inl hk)), blk_kept hl hkp.kept (fun e => ne2 e.symm), blk_kept hk hkp.kept (fun e => ne1 e.symm), by have := hkp.size; omega⟩
    · rintro pre x W ⟨hi, hl, hk, hz⟩ hx0 hx1 hpl
      have hy := run_yield (P := Try.prog) (args := #[.int .i64 x]) hl (by rw [hrec]; rfl)
      rw [hrec] at hy
      refine ⟨fn, a.tmps.setIfInBounds p (.int .i64 x), assign, body, by simpa using hy, roundIn_of_wpIn trivial ?_⟩
      refine hassign _ x W _ ?_
      refine ⟨_, run_beginRound hl (by rw [hrec]), ?_⟩
      obtain ⟨W2, hW2⟩ : ∃ W2, W.putObj (N + 1) (.loop { rec .ready none with state := .busy }) = W2 := ⟨_, rfl⟩
      have hl2 : W2.heap[N + 1]? = some (.loop { rec .ready none with state := .busy }) := by rw [← hW2]; exact World.putObj_heap_same (by omega)
      have hkk : Fr (fun k => k = N + 1) W W2 := by rw [← hW2]; exact fr_put _ _ _
      have hk2 := blk_kept hk hkk.kept (by omega)
      rw [hW2]
      refine wpIn_mono (hbody _ pre x W2 hx0 hx1 hpl (hI _ _ _ hi (kep hkk (fun k e => .inr (.inr e)))) (by have := hkk.size; omega)) ?_
      have fin : ∀ (jump : Option Code) (W3 : World), Fr (fun k => T k ∨ w.heap.size + 2 ≤ k) W2 W3 →
          (Instr.endRound (N + 1) jump).run Try.prog W3 = .ok (.bool jump.isNone) (W3.putObj (N + 1) (.loop (rec (if jump.isNone then .ready else .done) jump))) ∧
          (W3.putObj (N + 1) (.loop (rec (if jump.isNone then .ready else .done) jump))).heap[N + 1]? = some (.loop (rec (if jump.isNone then .ready else .done) jump)) ∧
          (W3.putObj (N + 1) (.loop (rec (if jump.isNone then .ready else .done) jump))).heap[N]? = some (.deferred (some [])) ∧ N + 2 ≤ (W3.putObj (N + 1) (.loop (rec (if jump.isNone then .ready else .done) jump))).heap.size ∧
          Fr (fun k => T k ∨ N ≤ k) W (W3.putObj (N + 1) (.loop (rec (if jump.isNone then .ready else .done) jump))) := fun jump W3 hk3 => by
        have hl3 := blk_kept hl2 hk3.kept (fun h => h.elim (fun h => by have := hT _ h; omega) (by omega))
        have hd3 := blk_kept hk2 hk3.kept (fun h => h.elim (fun h => by have := hT _ h; omega) (by omega))
        have hr := run_endRound (P := Try.prog) jump hl3
        have hkp := fr_put W3 (N + 1) (.loop (rec (if jump.isNone then .ready else .done) jump))
        have hz2 := hkk.size
        have hz3 := hk3.size
        rw [hrec] at hr
        refine ⟨by rw [hrec]; exact hr, World.putObj_heap_same (by omega), blk_kept hd3 hkp.kept (by omega), by have := hkp.size; omega, ?_⟩
        exact ((hkk.mono (fun k e => .inr (by omega))).trans hk3 (fun k h => h.elim (fun h => .inl (.inl h)) (fun h => .inl (.inr (by omega))))).trans hkp (fun k e => .inl (.inr (by omega)))
      rintro e a3 W3 hp
      cases e with
      | normal =>
        obtain ⟨hk3, hi3⟩ := hp
        obtain ⟨hr, hl4, hk4, hz4, hkq⟩ := fin none W3 hk3
        exact ⟨_, _, hr, .inl ⟨rfl, ⟨hI _ _ _ hi3 (kep (fr_put _ _ _) (fun k e => .inr (.inr e))), hl4, hk4, hz4⟩, hkq⟩⟩
      | ret =>
        obtain ⟨hk3, hi3⟩ := hp
        obtain ⟨hr, hl4, hk4, hz4, hkq⟩ := fin (some .ret) W3 hk3
        exact ⟨_, _, hr, .inr ⟨rfl, hIx _ _ _ hi3 (kep (fr_put _ _ _) (fun k e => .inr (.inr e))), hl4, hk4, hz4⟩⟩
      | exit id => exact hp.elim
      | goto t => exact hp.elim
      | panic ch => exact hp.elim
      | outgrown => exact hp.elim
    · rintro e W2 ⟨⟨v, rfl⟩, (⟨hi, hl, hk, hz⟩ | ⟨pre, hpre, hi, hl, hk, hz⟩)⟩
      · refine ⟨none, _, (by have := run_endLoop (P := Try.prog) hl (by rw [hrec]; simp); rw [hrec] at this; exact this), hdone N _ hN ?_ (hI _ _ _ hi (kep (fr_put _ _ _) (fun k e => .inr (.inr e)))) (blk_kept hk (fr_put _ _ _).kept (by omega))⟩
        rw [← hN]
        exact Nat.le_trans hz (fr_put _ _ _).size
      · refine ⟨some .ret, _, (by have := run_endLoop (P := Try.prog) hl (by rw [hrec]; simp); rw [hrec] at this; exact this), hstop N pre _ hN ?_ hpre (hIx _ _ _ hi (kep (fr_put _ _ _) (fun k e => .inr (.inr e)))) (blk_kept hk (fr_put _ _ _).kept (by omega))⟩
        rw [← hN]
        exact Nat.le_trans hz (fr_put _ _ _).size

end Go.Proofs.Ytemcmcnhpdkdfaa.P

/-! dom.rises: is 0 on the way up? -/
namespace Go.Proofs.Ytemcmcnhpdkdfaa.P
open Go.RowKit Go.Shelf Go.Proofs.YtemcmcnhpdkdfaaW.PrintWords Go.Proofs.YtemcmcnhpdkdfaaW.PrintLast Go.Proofs.YtemcmcnhpdkdfaaW.PrintMore
attribute [local go_sem] Oper.semAt_some

/-- Of lists that are no longer than this. -/
def dom_rises.f (l0 : List Int) (a1 : Int) : Option Bool := if l0.length ≤ 1000000 then some (decide ((0 : Int) ∈ upL l0 l0.length l0.length a1)) else none

set_option maxHeartbeats 1000000 in
theorem up_in (F : Fence) (n : Nat) (h5 : F.fn 59) (hro : F.round = none) (A : Option Addr) (len cap : Nat) (b : Int) (w : World) :
    CallsIn F n Try.prog 59 #[.slice A len cap, .int .i64 b] w fun e w' => e = .returned (.func (.func 81) #[] #[.pointer (some ⟨w.heap.size, 0, none⟩), .pointer (some ⟨w.heap.size + 1, 0, none⟩)]) ∧ w' = (w.alloc (.cells #[.slice A len cap] 25)).alloc (.cells #[.int .i64 b] 3) := by
  refine callsIn_of_wp Try.func59 rfl h5 ?_ hro
  simp only [Try.ntmps59, List.size_toArray, List.length_cons, List.length_nil, Nat.reduceAdd, Nat.reduceSub, Array.replicate_succ, Array.replicate_zero, List.push_toArray, List.append_toArray, List.nil_append, List.cons_append]
  gi_wp2
  go_ret
  exact ⟨rfl, rfl⟩

/-- What dom.up has made. -/
theorem UpI_made {w W : World} {A : Option Addr} {len cap : Nat} {ds : List Int} {b : Int} (hC : dI.C w A len ds) (hb : Below w.heap.size w W) (o1 o2 : Obj) (h1 : o1 = .cells #[.slice A len cap] 25) (h2 : o2 = .cells #[.int .i64 b] 3) :
    UpI W.heap.size (W.heap.size + 1) A len cap ds b ((W.alloc o1).alloc o2) := by
  subst h1 h2
  refine ⟨(Below.heap_alloc _ _ _ (by rw [size_alloc1]; omega)).trans (World.alloc_heap_new W _), ?_, fun hp => ?_⟩
  · rw [← size_alloc1 W (.cells #[.slice A len cap] 25)]
    exact World.alloc_heap_new _ _
  · obtain ⟨g, off, e, hl, hc⟩ := C_ints hC hp
    refine ⟨g, off, e, ?_, fun j hj => ?_⟩
    · have hlt : g < w.heap.size := World.block_lt_of_cell? w ⟨g, off + 0, none⟩ (hc 0 (by omega))
      have := hb.size
      omega
    · have hcj := hc j (by omega)
      have hlt : g < w.heap.size := World.block_lt_of_cell? w ⟨g, off + j, none⟩ hcj
      have hW := (hb.cell (p := ⟨g, off + j, none⟩) hlt).trans hcj
      have hlt2 := World.block_lt_of_cell? W ⟨g, off + j, none⟩ hW
      rw [World.cell?_alloc_lt _ _ _ (by rw [size_alloc1]; exact Nat.lt_succ_of_lt hlt2), World.cell?_alloc_lt _ _ _ hlt2]
      exact hW

theorem C_addr {w : World} {A : Option Addr} {len : Nat} {ds : List Int} (hC : dI.C w A len ds) (hp : 0 < len) : ∀ g off, A = some ⟨g, off, none⟩ → g < w.heap.size := by
  intro g off e
  obtain ⟨g', off', e', hl, hc⟩ := C_ints hC hp
  rw [e] at e'
  injection e' with e'
  injection e' with e1 e2
  subst e1
  exact World.block_lt_of_cell? w ⟨g, off' + 0, none⟩ (hc 0 (by omega))

set_option maxRecDepth 100000 in
set_option maxHeartbeats 4000000 in
theorem rises_in (A : Option Addr) (len cap : Nat) (ds : List Int) (b : Int) (w : World) (hC : dI.C w A len ds) (hlen : len ≤ 1000000) :
    CallsIn Fence.wide 6 Try.prog 56 #[.slice A len cap, .int .i64 b] w fun e w' => e = .returned (.bool (decide ((0 : Int) ∈ upL ds len len b))) ∧ Below w.heap.size w w' := by
  have HA := Aside0.mk (fun hp => C_addr hC hp)
  have HC := Aside0.mk hC
  clear hC
  refine callsIn_of_wp_marks Try.func56 rfl trivial ?_ rfl
  simp only [Try.ntmps56, List.size_toArray, List.length_cons, List.length_nil, Nat.reduceAdd, Nat.reduceSub, Array.replicate_succ, Array.replicate_zero, List.push_toArray, List.append_toArray, List.nil_append, List.cons_append]
  gi_wp2_with (refine ⟨trivial, ?_⟩; gi_at_call 59; refine (up_in Fence.wide _ trivial rfl _ _ _ _ _).mono ?_; rintro e w' ⟨rfl, rfl⟩)
  obtain ⟨W0, hW0⟩ : ∃ W0, W0 = w.alloc (.cells #[.bool false] 4) := ⟨_, rfl⟩
  have hz0 : W0.heap.size = w.heap.size + 1 := by rw [hW0, size_alloc1]
  have hb0 : Below w.heap.size w W0 := by rw [hW0]; exact below_alloc (Below.refl _ _) _
  have hr0 : W0.heap[w.heap.size]? = some (.cells #[.bool false] 4 (0, 0)) := by rw [hW0]; exact World.alloc_heap_new w _
  have hU := UpI_made (cap := cap) (b := b) HC.out hb0 _ _ rfl rfl
  rw [← hW0, ← hz0]
  clear hW0
  obtain ⟨W1, hW1⟩ : ∃ W1, W1 = (W0.alloc (.cells #[.slice A len cap] 25)).alloc (.cells #[.int .i64 b] 3) := ⟨_, rfl⟩
  have hz1 : W1.heap.size = w.heap.size + 3 := by rw [hW1, size_alloc1, size_alloc1]; omega
  have hb1 : Below w.heap.size w W1 := by rw [hW1]; exact hb0.trans ((below_alloc (below_alloc (Below.refl _ _) _) _).mono hb0.size)
  have hr1 : W1.heap[w.heap.size]? = some (.cells #[.bool false] 4 (0, 0)) := by rw [hW1]; exact (Below.heap_alloc _ _ _ (by rw [size_alloc1]; omega)).trans ((Below.heap_alloc _ _ _ (by omega)).trans hr0)
  rw [← hW1] at hU ⊢
  have hne : ∀ k, (k = W0.heap.size + 1 ∨ k = W1.heap.size ∨ k = W1.heap.size + 1) → ¬ k = w.heap.size := by omega
  have hbB : ∀ {X Y : World}, Below w.heap.size w X → Fr (fun k => k = W0.heap.size + 1 ∨ k = W1.heap.size ∨ k = W1.heap.size + 1) X Y → Below w.heap.size w Y := fun h k => below_fr h k (fun k hk => by omega) h.size
  have hza : W0.heap.size ≤ w.heap.size + 1 := by omega
  have hzb : w.heap.size + 1 ≤ W0.heap.size := by omega
  have hzc : W1.heap.size ≤ w.heap.size + 3 := by omega
  have hzd : w.heap.size + 3 ≤ W1.heap.size := by omega
  clear hW1 hz0 hz1
  refine range_up (n := 6) (by omega) hlen rfl hU (by omega) (fun hp g off e => by have := HA.out hp g off e; omega) (fun k => k = w.heap.size) (by omega) (by omega) (fun hp g off e h => by have := HA.out hp g off e; omega) (fun k h => by omega)
    (fun pre W => (¬ (0 : Int) ∈ pre) ∧ W.heap[w.heap.size]? = some (.cells #[.bool false] 4 (0, 0)) ∧ Below w.heap.size w W)
    (fun pre W => (0 : Int) ∈ pre ∧ W.heap[w.heap.size]? = some (.cells #[.bool true] 4 (0, 0)) ∧ Below w.heap.size w W)
    (fun pre W W' h k => ⟨h.1, blk_kept h.2.1 k.kept (fun h => hne _ h rfl), hbB h.2.2 k⟩)
    (fun pre W W' h k => ⟨h.1, blk_kept h.2.1 k.kept (fun h => hne _ h rfl), hbB h.2.2 k⟩)
    ⟨by simp, hr1, hb1⟩
    (fun x => { tmps := #[.slice A len cap, .int .i64 b, undef, undef, .pointer (some ⟨w.heap.size, 0, none⟩), .int .i64 x, .slice A len cap, .int .i64 b, .func (.func 81) #[] #[.pointer (some ⟨W0.heap.size, 0, none⟩), .pointer (some ⟨W0.heap.size + 1, 0, none⟩)], .int .i64 x, undef, undef], defers := [] }) ?assign ?body ?done ?stop
  case assign =>
    intro l x W K hK
    gi_wp2
    exact hK
  case body =>
    rintro l pre x W hx0 hx1 hpl ⟨hn0, hr, hB⟩ hz
    have hc := cell_of_one hr
    have hf := free_of_one hr
    have HR := Aside0.mk hr
    have HB := Aside0.mk hB
    by_cases h0 : x = 0
    · subst h0
      clear hr hB hx0 hx1
      gi_wp2
      exact ⟨(Fr.refl _ W).setCell (p := ⟨w.heap.size, 0, none⟩) (.inl (.inl rfl)) _, by simp, one_setCell HR.out, HB.out.setCell (p := ⟨w.heap.size, 0, none⟩) (Nat.le_refl _) _⟩
    · have hx : (x == 0) = false := by simpa using h0
      clear hr hB
      gi_wp2
      exact ⟨Fr.refl _ _, fun h => (List.mem_append.1 h).elim hn0 (fun e => h0 (List.mem_singleton.1 e).symm), HR.out, HB.out⟩
  case done =>
    rintro D W hD hz ⟨hn0, hr, hB⟩ hK
    have hc := cell_of_one hr
    have hf := free_of_one hr
    have HR := Aside0.mk hr
    have HB := Aside0.mk hB
    have HD := Aside0.mk hD
    clear hr hB hD
    gi_wp2
    have hk1 : (W.setCell ⟨w.heap.size, 0, none⟩ (.bool false)).heap[D]? = some (.deferred (some [])) := (Below.heap_setCell _ _ _ _ (by have := HD.out; show D ≠ w.heap.size; omega)).trans hK
    refine ⟨by simp, .inl ⟨_, _, rfl, run_takeDeferred hk1, ?_⟩⟩
    have hc5 := cell_of_one (blk_kept (one_setCell (v := .bool false) HR.out) (fr_put (W.setCell ⟨w.heap.size, 0, none⟩ (.bool false)) D (.deferred none)).kept (by have := HD.out; omega))
    refine ⟨.bool false, ?_, by rw [decide_eq_false hn0], below_fr (HB.out.setCell (p := ⟨w.heap.size, 0, none⟩) (Nat.le_refl _) _) (fr_put _ _ _) (fun k hk => by have := HD.out; omega) (by have := HB.out.size; simp [World.setCell]; omega)⟩
    simp [results, Try.f56, go_sem, hc5]
  case stop =>
    rintro D pre W hD hz hpre ⟨hin, hr, hB⟩ hK
    have HR := Aside0.mk hr
    have HB := Aside0.mk hB
    have HD := Aside0.mk hD
    have HI := Aside0.mk (hpre.subset hin)
    clear hr hB hD hin
    gi_wp2
    refine ⟨by simp, .inl ⟨_, _, rfl, run_takeDeferred hK, ?_⟩⟩
    have hc5 := cell_of_one (blk_kept HR.out (fr_put W D (.deferred none)).kept (by have := HD.out; omega))
    refine ⟨.bool true, ?_, by rw [decide_eq_true HI.out], below_fr HB.out (fr_put _ _ _) (fun k hk => by have := HD.out; omega) HB.out.size⟩
    simp [results, Try.f56, go_sem, hc5]

theorem dom_rises.calls (A0 : Option Addr) (c0 : Nat) (l0 : List Int) (a1 : Int) (r : Bool) (w : World) (hr0 : Kd.C (Kd.int .i64) w A0 l0.length l0) (_hc0 : l0.length ≤ c0) (h : dom_rises.f l0 a1 = some r) :
    Calls Try.prog 56 #[.slice A0 l0.length c0, .int .i64 a1] w fun e w' => e = .returned (.bool r) ∧ Below w.heap.size w w' := by
  unfold dom_rises.f at h
  split at h
  · rename_i hl
    obtain rfl := Option.some.inj h
    exact callsIn_wide.1 (rises_in A0 l0.length c0 l0 a1 w hr0 hl)
  · cases h

end Go.Proofs.Ytemcmcnhpdkdfaa.P

/-! slices.Collect over dom.up. -/
namespace Go.Proofs.Ytemcmcnhpdkdfaa.P
open Go.RowKit Go.Shelf Go.Lib Go.Sort Go.Proofs.YtemcmcnhpdkdfaaW.PrintWords Go.Proofs.YtemcmcnhpdkdfaaW.PrintLast Go.Proofs.YtemcmcnhpdkdfaaW.PrintMore
attribute [local go_sem] Oper.semAt_some

/-- What slices.AppendSeq holds between two rounds. -/
def ApI (w : World) (N Bs Bb : Nat) (pre : List Int) (W : World) : Prop :=
  ∃ v, W.heap[Bs]? = some (.cells #[v] 25 (0, 0)) ∧ W.ownsRow N 3 1 v pre.length (pre.map (Value.int .i64)) ∧ Fr (fun k => k = Bb) w W
theorem ApI.fr {w : World} {N Bs Bb : Nat} {pre : List Int} {W W' : World} {S : Nat → Prop} (h : ApI w N Bs Bb pre W) (k : Fr S W W') (h1 : ¬ S Bs) (h2 : ∀ i, S i → i < N) (h3 : ∀ i, S i → i = Bb ∨ w.heap.size ≤ i) : ApI w N Bs Bb pre W' := by
  obtain ⟨v, hv, hr, hf⟩ := h
  exact ⟨v, blk_kept hv k.kept h1, own_move hr (fun i hi => k.block i (own_lt hr i hi) (fun hS => by have := h2 i hS; have := own_base hr i hi; omega)), hf.trans k h3⟩

theorem ApI_app {W w1 : World} {N Bs : Nat} {v : Value} {pre : List Int} {o : Obj} {row : Option Nat} (hv : W.heap[Bs]? = some (.cells #[v] 25 (0, 0))) (hr : W.ownsRow N 3 1 v pre.length (pre.map (Value.int .i64))) (hg : (W.alloc o).grownBy w1 row) (e : row = v.ownBlock := by rfl) :
    w1.heap[Bs]? = some (.cells #[v] 25 (0, 0)) := by
  have hlt := lt_of_block hv
  rw [hg.block Bs (by rw [size_alloc1]; omega) (fun e2 => by
    obtain ⟨cells, hc⟩ := own_typed hr Bs (by rw [← e]; exact e2.symm)
    rw [hv] at hc
    injection hc with hc
    injection hc with _ hc
    exact absurd hc (by decide)), Below.heap_alloc _ _ _ hlt]
  exact hv

set_option maxRecDepth 100000 in
set_option maxHeartbeats 4000000 in
theorem appendSeq_in (A : Option Addr) (len cap : Nat) (ds : List Int) (b : Int) (Bi Bb : Nat) (w : World) (hU : UpI Bi Bb A len cap ds b w) (hne : Bi ≠ Bb) (hA : 0 < len → ∀ g off, A = some ⟨g, off, none⟩ → g < w.heap.size) (hlen : len ≤ 1000000) :
    CallsIn Fence.wide 6 Try.prog 80 #[.slice none 0 0, .func (.func 81) #[] #[.pointer (some ⟨Bi, 0, none⟩), .pointer (some ⟨Bb, 0, none⟩)]] w fun e w' => ∃ v, e = .returned v ∧ dI.R 3 w' w.heap.size (fun _ => True) v (upL ds len len b) ∧ Fr (fun k => k = Bb) w w' := by
  have hlb := lt_of_block hU.hb
  have hli := lt_of_block hU.hi
  have HU := Aside0.mk hU
  clear hU
  refine callsIn_of_wp_marks Try.func80 rfl trivial ?_ rfl
  simp only [Try.ntmps80, List.size_toArray, List.length_cons, List.length_nil, Nat.reduceAdd, Nat.reduceSub, Array.replicate_succ, Array.replicate_zero, List.push_toArray, List.append_toArray, List.nil_append, List.cons_append]
  gi_wp2
  obtain ⟨W0, hW0⟩ : ∃ W0, W0 = w.alloc (.cells #[.slice none 0 0] 25) := ⟨_, rfl⟩
  have hz0 : W0.heap.size = w.heap.size + 1 := by rw [hW0, size_alloc1]
  have hb0 : Below w.heap.size w W0 := by rw [hW0]; exact below_alloc (Below.refl _ _) _
  have hr0 : W0.heap[w.heap.size]? = some (.cells #[.slice none 0 0] 25 (0, 0)) := by rw [hW0]; exact World.alloc_heap_new w _
  rw [← hW0]
  clear hW0
  have hza : W0.heap.size ≤ w.heap.size + 1 := by omega
  have hzb : w.heap.size + 1 ≤ W0.heap.size := by omega
  clear hz0
  have hU0 := HU.out.kept (Fr.below hb0 (S := fun _ => False) (fun i hi => .inr hi)).kept (fun h => h) (fun h => h) (fun _ _ _ _ h => h)
  obtain ⟨ti, hti, hq0, hq1, hq2⟩ := info_parts info3
  have HTI := Aside0.mk (And.intro hti (And.intro hq0 (And.intro hq1 hq2)))
  clear hti hq0 hq1 hq2
  refine range_up (n := 6) (by omega) hlen rfl hU0 hne (fun hp g off e => by have := hA hp g off e; omega) (fun k => k = w.heap.size) (by omega) (by omega) (fun hp g off e h => by have := hA hp g off e; omega) (fun k h => by omega)
    (ApI w (W0.heap.size + 2) w.heap.size Bb) (fun _ _ => False)
    (fun pre W W' h k => h.fr k (by omega) (fun i hi => by omega) (fun i hi => by omega))
    (fun pre W W' h k => h)
    ⟨_, hr0, ⟨rfl, .inl ⟨rfl, rfl⟩⟩, Fr.below hb0 (fun i hi => .inr hi)⟩
    (fun x => { tmps := #[.slice none 0 0, .func (.func 81) #[] #[.pointer (some ⟨Bi, 0, none⟩), .pointer (some ⟨Bb, 0, none⟩)], .pointer (some ⟨w.heap.size, 0, none⟩), undef, .slice none 0 0, .int .i64 x, .func (.func 81) #[] #[.pointer (some ⟨Bi, 0, none⟩), .pointer (some ⟨Bb, 0, none⟩)], .int .i64 x, undef, undef, undef, undef, undef], defers := [] }) ?assign ?body ?done ?stop
  case assign =>
    intro l x W K hK
    gi_wp2
    exact hK
  case body =>
    rintro l pre x W hx0 hx1 hpl ⟨v, hv, hr, hf⟩ hz
    have hc := cell_of_one hv
    have HV := Aside0.mk hv
    have HR := Aside0.mk hr
    have HF := Aside0.mk hf
    clear hv hr hf hx0 hx1
    have hlt := lt_of_block HV.out
    gi_wp2_with (gi_at_builtin; refine wpListIn_append_own _ rfl _ _ 25 rfl (W0.heap.size + 2) 3 ti (.int .i64 0) 1 8 Try.underlying25 HTI.out.1 HTI.out.2.1 HTI.out.2.2.1 HTI.out.2.2.2 rfl (by decide) _ _ _ rfl (HR.out.alloc _) ⟨W.heap.size, 0, none⟩ 1 1 [.int .i64 x] rfl rfl (one_cells rfl _ _) (fun u hu => by simp at hu; subst hu; rfl) (by unfold maxLen; omega) (by omega) (by rw [size_alloc1]; omega) ?_; intro v' w1 hown' hgrow _; obtain ⟨g', cap', rfl⟩ := ownsRow_succ hown'; (have hg1 := ApI_app HV.out HR.out hgrow); have hc1 := cell_of_one hg1; have hf1 := free_of_one hg1)
    have hne2 : g' ≠ w.heap.size := fun e => by have := own_base hown' g' rfl; omega
    refine ⟨?_, _, one_setCell hg1, ?_, ?_⟩
    · exact ((Fr.refl _ W).alloc _ |>.grown hgrow (fun k e => .inl (.inr (own_base HR.out k e)))).setCell (p := ⟨w.heap.size, 0, none⟩) (.inl (.inl rfl)) _
    · rw [List.length_append, List.length_singleton, List.map_append]
      exact ownsRow_setCell_other hown' (by show some g' ≠ _; intro e; injection e with e; exact hne2 e) _
    · exact ((HF.out.alloc _).grown hgrow (fun k e => .inr (by have := own_base HR.out k e; omega))).setCell (p := ⟨w.heap.size, 0, none⟩) (.inr (Nat.le_refl _)) _
  case done =>
    rintro D W hD hz ⟨v, hv, hr, hf⟩ hK
    have hc := cell_of_one hv
    have HV := Aside0.mk hv
    have HR := Aside0.mk hr
    have HF := Aside0.mk hf
    have HD := Aside0.mk hD
    clear hv hr hf hD
    gi_wp2
    refine ⟨by simp, .inl ⟨_, _, rfl, run_takeDeferred hK, ?_⟩⟩
    refine ⟨_, results_tmp rfl _ _ _, v, rfl, ?_, HF.out.trans (fr_put W D _) (fun k hk => .inr (by have := HD.out; omega))⟩
    refine ints_R (own_weaken (own_move HR.out (fun k hk => (fr_put W D _).block k (own_lt HR.out k hk) (by have := own_base HR.out k hk; have := HD.out; omega))) (by omega)) (fun _ _ => trivial)
  case stop =>
    rintro D pre W _ _ _ h _
    exact h.elim

set_option maxHeartbeats 1000000 in
theorem collect_in (A : Option Addr) (len cap : Nat) (ds : List Int) (b : Int) (Bi Bb : Nat) (w : World) (hU : UpI Bi Bb A len cap ds b w) (hne : Bi ≠ Bb) (hA : 0 < len → ∀ g off, A = some ⟨g, off, none⟩ → g < w.heap.size) (hlen : len ≤ 1000000) :
    CallsIn Fence.wide 7 Try.prog 58 #[.func (.func 81) #[] #[.pointer (some ⟨Bi, 0, none⟩), .pointer (some ⟨Bb, 0, none⟩)]] w fun e w' => ∃ v, e = .returned v ∧ dI.R 3 w' w.heap.size (fun _ => True) v (upL ds len len b) ∧ Fr (fun k => k = Bb) w w' := by
  have HS := Aside0.mk (appendSeq_in A len cap ds b Bi Bb w hU hne hA hlen)
  clear hU hA
  refine callsIn_of_wp Try.func58 rfl trivial ?_ rfl
  simp only [Try.ntmps58, List.size_toArray, List.length_cons, List.length_nil, Nat.reduceAdd, Nat.reduceSub, Array.replicate_succ, Array.replicate_zero, List.push_toArray, List.append_toArray, List.nil_append, List.cons_append]
  gi_wp2_with (refine ⟨trivial, ?_⟩; gi_at_call 80; refine HS.out.mono ?_; rintro e w' ⟨v, rfl, hr, hf⟩)
  go_ret
  exact ⟨v, rfl, hr, hf⟩

end Go.Proofs.Ytemcmcnhpdkdfaa.P
