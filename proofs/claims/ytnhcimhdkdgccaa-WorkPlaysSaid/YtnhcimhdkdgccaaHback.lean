/- slices.Backward's closure: the rounds from the last one down. -/
import Derived.RangeFuncNested
import Derived.RangeFuncBound
import Derived.RangeFuncCalls
import Derived.RangeFuncLeaves
import Derived.Shelf.Abstract
import Derived.Shelf.RegionOpen
import Derived.WalkKit
import Derived.OwnWalkIn
import Derived.TacticsInMore
import Derived.LoopNIn
import Derived.LoopIn
import Derived.Test.YtnhcimhdkdgccaaHbase
namespace Go.Proofs.Ytnhcimhdkdgccaa.P
open Go.RowKit Go.Shelf Go.Proofs.YtnhcimhdkdgccaaW.PrintWords Go.Proofs.YtnhcimhdkdgccaaW.PrintLast Go.Proofs.YtnhcimhdkdgccaaW.PrintMore
attribute [local go_sem] Oper.semAt_some

set_option maxRecDepth 100000 in
set_option maxHeartbeats 2000000 in
theorem back1_in (F : Fence) (n : Nat) (hf : F.fn 69) (hro : F.round = none) (hn : 1 ≤ n) (l Bs len cap : Nat) (A : Option Addr) (zs : List Int) (hl : zs.length = len) (hreach : len * 8 ≤ 140737488351232) (J Jx : Nat → World → Prop)
    (hcell : ∀ W k m, J m W → k < len → ∃ b off, A = some ⟨b, off, none⟩ ∧ W.cell? ⟨b, off + k, none⟩ = some (.int .i64 (zs.getD k 0)))
    (hbs : ∀ W m, J m W → W.cell? ⟨Bs, 0, none⟩ = some (.slice A len cap))
    (hY : ∀ m W, J (m + 1) W → m < len → YieldAt F (n - 1) Try.prog l #[.int .i64 m, .int .i64 (zs.getD m 0)] W fun e W' => (e = .returned (.bool true) ∧ J m W') ∨ (e = .returned (.bool false) ∧ Jx m W'))
    (W : World) (h0 : J len W) :
    CallsIn F n Try.prog 69 #[.func (.yield l) #[] #[], .pointer (some ⟨Bs, 0, none⟩)] W fun e W' => (∃ v, e = .returned v) ∧ (J 0 W' ∨ ∃ m, m < len ∧ Jx m W') := by
  have hb0 := hbs W len h0
  refine callsIn_of_wp Try.func69 rfl hf ?_ hro
  simp only [Try.ntmps69, List.size_toArray, List.length_cons, List.length_nil, Nat.reduceAdd, Nat.reduceSub, Array.replicate_succ, Array.replicate_zero, List.push_toArray, List.append_toArray, List.nil_append, List.cons_append]
  gi_wp2
  gi_loopw [3] (fun i wr => ∃ m : Nat, m ≤ len ∧ i = .int .i64 ((m : Int) - 1) ∧ J m wr) (fun i _ => (intOf i + 1).toNat)
  case atStart => exact ⟨len, Nat.le_refl _, by simp, h0⟩
  case round =>
    obtain ⟨m, hm, rfl, hJ⟩ := hrel
    have hbs' := hbs wr m hJ
    cases m with
    | zero =>
      have c0 : decide ((0 : Int) ≤ ((0 : Nat) : Int) - 1) = false := rfl
      gi_wp2
      go_end0
      exact ⟨⟨_, rfl⟩, .inl hJ⟩
    | succ m =>
      obtain ⟨b, off, e, hc⟩ := hcell wr m _ hJ (by omega)
      subst e
      have e1 : (((m + 1 : Nat) : Int) - 1) = (m : Int) := by omega
      rw [e1]
      obtain ⟨x, ex⟩ : ∃ x, x = zs.getD m 0 := ⟨_, rfl⟩
      obtain ⟨fn, tmps, assign, body, hy, hR⟩ := hY m wr hJ (by omega)
      rw [← ex] at hc hy
      clear ex e1
      gi_wp2
      refine hR.mono ?_
      rintro e W3 (⟨rfl, hJ3⟩ | ⟨rfl, hJx3⟩)
      · gi_wp2
        go_roundw
        case rel => exact ⟨m, by omega, by simp, hJ3⟩
        case measure => simp [intOf]
      · gi_wp2
        refine bodyPost_ret (results_none rfl _ _ _) rfl ?_
        exact ⟨⟨_, rfl⟩, .inr ⟨m, by omega, hJx3⟩⟩

theorem ckept {w W : World} {T : Nat → Prop} {a : Addr} {v : Value} (hc : w.cell? a = some v) (hk : Kept w W T) (hne : ¬ T a.block) : W.cell? a = some v := Go.Proofs.YtnhcimhdkdgccaaW.PrintWords.cell_kept hc hk hne

/-- The first k from the end. -/
def down {α : Type} (mk : Nat → α) (len k : Nat) : List α := (List.range k).map fun j => mk (len - 1 - j)
theorem down_succ {α : Type} (mk : Nat → α) (len k : Nat) : down mk len (k + 1) = down mk len k ++ [mk (len - 1 - k)] := by simp [down, List.range_succ]
theorem down_length {α : Type} (mk : Nat → α) (len k : Nat) : (down mk len k).length = k := by simp [down]

set_option maxHeartbeats 1000000 in
theorem back_in (F : Fence) (n : Nat) (h5 : F.fn 49) (hro : F.round = none) (a : Option Addr) (len cap : Nat) (w : World) :
    CallsIn F n Try.prog 49 #[.slice a len cap] w fun e w' => e = .returned (.func (.func 69) #[] #[.pointer (some ⟨w.heap.size, 0, none⟩)]) ∧ w' = w.alloc (.cells #[.slice a len cap] 22) := by
  refine callsIn_of_wp Try.func49 rfl h5 ?_ hro
  simp only [Try.ntmps49, List.size_toArray, List.length_cons, List.length_nil, Nat.reduceAdd, Nat.reduceSub, Array.replicate_succ, Array.replicate_zero, List.push_toArray, List.append_toArray, List.nil_append, List.cons_append]
  gi_wp2
  go_ret
  exact ⟨rfl, rfl⟩

/-- slices.Backward's iterator, at cells that each round keeps. -/
theorem back_stops {α : Type} (mk : Nat → α) (val : α → Nat × Int) (T : Nat → Prop) (F : Fence) (n : Nat) (hf : F.fn 69) (hro : F.round = none) (hn : 1 ≤ n) (Bs len cap : Nat) (A : Option Addr) (zs : List Int) (hl : zs.length = len) (hmk : ∀ m, m < len → val (mk m) = (m, zs.getD m 0)) (hreach : len * 8 ≤ 140737488351232) (w : World) (hBs : ¬ T Bs)
    (hc : w.cell? ⟨Bs, 0, none⟩ = some (.slice A len cap)) (hI : ∀ k, k < len → ∃ b off, ¬ T b ∧ A = some ⟨b, off, none⟩ ∧ w.cell? ⟨b, off + k, none⟩ = some (.int .i64 (zs.getD k 0))) :
    SeqStopsK F n Try.prog 69 #[.pointer (some ⟨Bs, 0, none⟩)] (fun x : α => #[Value.int .i64 ((val x).1 : Int), Value.int .i64 (val x).2]) (fun A B => Kept A B T) (fun ys => ys = down mk len len) (fun pre => ∃ k, k ≤ len ∧ pre = down mk len k) len w := fun l J Jx W hW _ _ hY h0 => by
  have hW' : Kept w W T := Kept.of_below hW T
  refine (back1_in F n hf hro hn l Bs len cap A zs hl hreach (fun m W' => J (down mk len (len - m)) W' ∧ Kept w W' T) (fun m W' => Jx (down mk len (len - m)) W') ?_ ?_ ?_ W ⟨by rw [Nat.sub_self]; exact h0, hW'⟩).mono ?_
  · rintro W1 k m ⟨_, hb⟩ hk
    obtain ⟨b, off, hlt, e, h⟩ := hI k hk
    exact ⟨b, off, e, ckept h hb hlt⟩
  · rintro W1 m ⟨_, hb⟩
    exact ckept hc hb hBs
  · rintro m W1 ⟨hj, hb⟩ hm
    have e : down mk len (len - m) = down mk len (len - (m + 1)) ++ [mk m] := by
      rw [show len - m = (len - (m + 1)) + 1 by omega, down_succ, show len - 1 - (len - (m + 1)) = m by omega]
    have h := hY _ (mk m) W1 hj (by rw [down_length]; omega)
    dsimp only at h
    rw [hmk m hm] at h
    refine h.mono ?_
    rintro e' W2 (⟨h1, h2, h3⟩ | ⟨h1, h2⟩)
    · exact .inl ⟨h1, by rw [e]; exact h2, hb.then_ h3 (fun k hk => .inl hk)⟩
    · exact .inr ⟨h1, by rw [e]; exact h2⟩
  · rintro e W' ⟨he, ⟨h, _⟩ | ⟨m, hm, h⟩⟩
    · exact ⟨he, .inl ⟨_, rfl, h⟩⟩
    · exact ⟨he, .inr ⟨_, ⟨len - m, by omega, rfl⟩, h⟩⟩

end Go.Proofs.Ytnhcimhdkdgccaa.P
