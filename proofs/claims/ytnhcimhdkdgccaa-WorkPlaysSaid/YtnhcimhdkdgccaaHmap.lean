/- Two maps that the code makes: map[int]bool and map[int]int, as functions. -/
import Derived.Test.YtnhcimhdkdgccaaHbase
import Derived.Maps.OwnOps
import Derived.Maps.OwnSet
import Derived.Maps.Views
namespace Go.Proofs.Ytnhcimhdkdgccaa.P
open Go.RowKit Go.Lib Go.Maps Go.Proofs.YtnhcimhdkdgccaaW.PrintWords Go.Proofs.YtnhcimhdkdgccaaW.PrintLast Go.Proofs.YtnhcimhdkdgccaaW.PrintMore

theorem kI : Keyed Try.prog 3 := int_keyed Try.underlying3
theorem wf64 {a : Int} (h : -9223372036854775808 ≤ a ∧ a ≤ 9223372036854775807) : (Lit.int .i64 a).wf = true := WalkArith.wf_i64 h
theorem key64 {a : Int} (h : (Lit.int .i64 a).wf = true) : keyOf Try.prog 3 (.int .i64 a) = some (.int .i64 a) := keyOf_int_mk Try.underlying3 h
theorem zeroB (w : World) : (zeroValue 4).run Try.prog w = .ok (.bool false) w := by kernel_rfl
theorem zeroI (w : World) : (zeroValue 3).run Try.prog w = .ok (.int .i64 0) w := by kernel_rfl
theorem eB_mk (b : Bool) : (plainElem (H := Unit) Try.prog 4) (.bool b) = some (.lit (.bool b), []) := plainElem_bool Try.underlying4 b
set_option maxRecDepth 100000 in
theorem eB_inv {v : Value} {b : Bool} {ps : List MemPlace} (h : (plainElem (H := Unit) Try.prog 4) v = some (.lit (.bool b), ps)) : v = .bool b := by
  unfold plainElem at h
  rw [Try.underlying4] at h
  cases v <;> simp at h
  rw [h.1]
theorem eI_mk {a : Int} (h : (Lit.int .i64 a).wf = true) : (plainElem (H := Unit) Try.prog 3) (.int .i64 a) = some (.lit (.int .i64 a), []) := plainElem_int Try.underlying3 h

/-- A map of ints to bools, as a function. -/
def MB (w : World) (B n : Nat) (f : Int → Bool) : Prop := ∃ D, w.ownsMap Try.prog 3 (plainElem (H := Unit) Try.prog 4) B n D ∧ ∀ a, (Lit.int .i64 a).wf = true → D.atKey (.int .i64 a) (.lit (.bool false)) = .lit (.bool (f a))
theorem MB.made (w : World) : MB (w.alloc (.map #[] 0)) w.heap.size 0 (fun _ => false) := ⟨_, World.ownsMap_made _ _ _ _, fun _ _ => rfl⟩
theorem MB.kept {w w' : World} {B n : Nat} {f : Int → Bool} {S : Nat → Prop} (h : MB w B n f) (hk : Kept w w' S) (hne : ¬ S B) : MB w' B n f := by
  obtain ⟨D, ho, hf⟩ := h
  have hlt := ho.lt
  obtain ⟨es, clock, hb, F, hs, hD⟩ := ho
  exact ⟨D, ⟨es, clock, (hk.2 B hlt hne).trans hb, F, hs, hD⟩, hf⟩
theorem MB.look {w : World} {B n : Nat} {f : Int → Bool} (h : MB w B n f) {a : Int} (ha : (Lit.int .i64 a).wf = true) : (Instr.lookup 57 (.map (some B)) (.int .i64 a) false).run Try.prog w = .ok (.bool (f a)) w := by
  obtain ⟨D, ho, hf⟩ := h
  obtain ⟨v, ps, hrun, hv⟩ := ho.lookup kI Try.underlying57 (zeroB w) (eB_mk false) (key64 ha)
  rw [hf a ha] at hv
  rw [eB_inv hv] at hrun
  exact hrun
theorem MB.put {w : World} {B n : Nat} {f : Int → Bool} (h : MB w B n f) (hn : n < maxLen) {a : Int} (ha : (Lit.int .i64 a).wf = true) (b : Bool) :
    ∃ w', (Instr.mapUpdate 57 (.map (some B)) (.int .i64 a) (.bool b)).run Try.prog w = .ok () w' ∧ MB w' B (n + 1) (fun x => if x = a then b else f x) ∧ w.grownBy w' (some B) := by
  obtain ⟨D, ho, hf⟩ := h
  obtain ⟨w', hrun, ho', hg⟩ := ho.update kI Try.underlying57 hn (key64 ha) (eB_mk b)
  refine ⟨w', hrun, ⟨_, ho', fun x hx => ?_⟩, hg⟩
  by_cases e : x = a
  · subst e
    rw [atKey_put_same ho.isMap (kI.key (key64 hx))]
    simp only [if_true]
  · rw [atKey_put_other (fun h => by injection h with _ h; exact e h), hf x hx]
    simp only [if_neg e]

/-- A map of ints to ints, as a function. -/
def MI (w : World) (B n : Nat) (f : Int → Option Int) : Prop := ∃ D, w.ownsMap Try.prog 3 (plainElem (H := Unit) Try.prog 3) B n D ∧ ∀ a, (Lit.int .i64 a).wf = true → ∀ z, D.atKey (.int .i64 a) z = match f a with | some c => .lit (.int .i64 c) | none => z
theorem MI.made (w : World) : MI (w.alloc (.map #[] 0)) w.heap.size 0 (fun _ => none) := ⟨_, World.ownsMap_made _ _ _ _, fun _ _ _ => rfl⟩
theorem MI.kept {w w' : World} {B n : Nat} {f : Int → Option Int} {S : Nat → Prop} (h : MI w B n f) (hk : Kept w w' S) (hne : ¬ S B) : MI w' B n f := by
  obtain ⟨D, ho, hf⟩ := h
  have hlt := ho.lt
  obtain ⟨es, clock, hb, F, hs, hD⟩ := ho
  exact ⟨D, ⟨es, clock, (hk.2 B hlt hne).trans hb, F, hs, hD⟩, hf⟩
set_option maxRecDepth 100000 in
theorem MI.look {w : World} {B n : Nat} {f : Int → Option Int} (h : MI w B n f) {a : Int} (ha : (Lit.int .i64 a).wf = true) :
    (Instr.lookup 56 (.map (some B)) (.int .i64 a) true).run Try.prog w = .ok (.tuple #[.int .i64 ((f a).getD 0), .bool (f a).isSome]) w := by
  obtain ⟨D, ho, hf⟩ := h
  obtain ⟨es, clock, hb, F, _, rfl⟩ := ho
  have h1 := hf a ha
  rcases Maps.fit_look true kI Try.underlying56 (zeroI w) hb F (key64 ha) with ⟨hrun, _, hat⟩ | ⟨e0, y, _, _, hrun, hRv, hat, _⟩
  · have h2 := (hat (.lit (.bool true))).symm.trans (h1 (.lit (.bool true)))
    cases e : f a with
    | none => rw [hrun]; rfl
    | some c => rw [e] at h2; cases h2
  · have h2 := (hat (.lit (.bool true))).symm.trans (h1 (.lit (.bool true)))
    obtain ⟨c, ec, hy, hc⟩ := plainElem_int_inv Try.underlying3 hRv
    rw [hy] at h2
    cases e : f a with
    | none => rw [e] at h2; cases h2
    | some c' =>
      rw [e] at h2
      injection h2 with h2
      injection h2 with _ h2
      rw [hrun, ec, h2]
      rfl
theorem MI.put {w : World} {B n : Nat} {f : Int → Option Int} (h : MI w B n f) (hn : n < maxLen) {a c : Int} (ha : (Lit.int .i64 a).wf = true) (hc : (Lit.int .i64 c).wf = true) :
    ∃ w', (Instr.mapUpdate 56 (.map (some B)) (.int .i64 a) (.int .i64 c)).run Try.prog w = .ok () w' ∧ MI w' B (n + 1) (fun x => if x = a then some c else f x) ∧ w.grownBy w' (some B) := by
  obtain ⟨D, ho, hf⟩ := h
  obtain ⟨w', hrun, ho', hg⟩ := ho.update kI Try.underlying56 hn (key64 ha) (eI_mk hc)
  refine ⟨w', hrun, ⟨_, ho', fun x hx z => ?_⟩, hg⟩
  by_cases e : x = a
  · subst e
    rw [atKey_put_same ho.isMap (kI.key (key64 hx))]
    simp only [if_true]
  · rw [atKey_put_other (fun h => by injection h with _ h; exact e h), hf x hx z]
    simp only [if_neg e]

end Go.Proofs.Ytnhcimhdkdgccaa.P
