/- What the claim uses of: Gdefs P0 Pbywashref01 Pbywashref10 Grefs Gref10 Gdom Pbits Pslices -/
import Derived.Lib.SlicesCompact
import Derived.Lib.RowBridge
import Derived.Below
import Derived.Deep.Draws
import Derived.Deep.AppendLies
import Derived.Maps.AppendAt
import Derived.OwnWalk
import Derived.Laws.BytesArg
import Derived.Laws.MakeOwn
import Derived.Laws.OwnMore
import Derived.Deep.OwnRows
import Derived.Tactics
import Derived.Lib.ConvBytes
import Derived.Laws.Slices
import Derived.WalkKit
import Derived.KernelRfl
import Derived.RowKit3
import Derived.Deep.LoopGhost
import Derived.Deep.QuietTactic
import Derived.BigQuiet
import Derived.WideLaws
import Derived.Deep.DeepCutAuto
import Derived.Deep.CutBlock
import Derived.Deep.RegionHeld3
import Derived.Laws.Rows
import Derived.Lib.AppendStr
import Derived.ArgAppend
import Derived.Laws.IdiomCopy
import Derived.OrdersHeld
import Derived.Laws.BitsLemmas
import Derived.RowKit
import Derived.Test.YtemcmcnhpdkdfaaGreatProg
import Derived.Test.YtemcmcnhpdkdfaaGreatQZ0
namespace Go.Proofs.YtemcmcnhpdkdfaaGreat.P
def isN (n : Nat) (b : Int) : Bool := decide (0 ≤ b ∧ b < (n : Int))
def cleanRow (n : Nat) (l : List Int) : List Int := Lib.compact ((l.filter fun b => isN n b).mergeSort fun x y => decide (x ≤ y))
def clean (g : List (List Int)) : List (List Int) := g.map (cleanRow g.length)
def fits (g : List (List Int)) : Bool := decide (g.length ≤ 100000) && g.all fun l => decide (l.length ≤ 100000)
def cleanSo (g : List (List Int)) (k : Nat) : List (List Int) := (clean g).take k ++ List.replicate (g.length - k) []
theorem cleanSo_zero (g : List (List Int)) : cleanSo g 0 = List.replicate g.length [] := by simp [cleanSo]
theorem cleanSo_all (g : List (List Int)) : cleanSo g g.length = clean g := by
 unfold cleanSo
 rw [List.take_of_length_le (by simp [clean]), Nat.sub_self, List.replicate_zero, List.append_nil]
theorem cleanSo_len (g : List (List Int)) (k : Nat) (h : k ≤ g.length) : (cleanSo g k).length = g.length := by
 simp [cleanSo, clean]; omega
theorem cleanSo_succ (g : List (List Int)) (k : Nat) (h : k < g.length) : (cleanSo g k).set k (cleanRow g.length g[k]) = cleanSo g (k + 1) := by
 have hl : ((clean g).take k).length = k := by simp [clean]; omega
 unfold cleanSo
 rw [List.set_append_right _ _ (by omega), hl, Nat.sub_self, show g.length - k = (g.length - (k + 1)) + 1 by omega, List.replicate_succ, List.set_cons_zero, List.take_succ_eq_append_getElem (by simp [clean]; omega), List.append_assoc]
 simp [clean]
theorem isN_yes {n : Nat} {x : Int} (h0 : 0 ≤ x) (h1 : x < (n : Int)) : isN n x = true := by unfold isN; simp [h0, h1]
theorem isN_no {n : Nat} {x : Int} (h : ¬ (0 ≤ x ∧ x < (n : Int))) : isN n x = false := by unfold isN; exact decide_eq_false h
theorem isN_iff {n : Nat} {x : Int} : isN n x = true ↔ 0 ≤ x ∧ x < (n : Int) := by unfold isN; exact decide_eq_true_iff
theorem fits_row {g : List (List Int)} (h : fits g = true) {k : Nat} (hk : k < g.length) : g[k].length ≤ 100000 := by
 unfold fits at h
 simp only [Bool.and_eq_true, decide_eq_true_eq, List.all_eq_true] at h
 exact h.2 _ (List.getElem_mem hk)
def dfs (g : List (List Int)) : Nat → List Bool → List (Int × Int) → List Int → Option (List Int)
 | 0, _, _, _ => none
 | _ + 1, _, [], told => some told
 | k + 1, met, (a, i) :: st, told =>
  if i < ((g.getD a.toNat []).length : Int) then
   (if met.getD ((g.getD a.toNat []).getD i.toNat 0).toNat true = true then dfs g k met ((a, i + 1) :: st) told
       else dfs g k (met.set ((g.getD a.toNat []).getD i.toNat 0).toNat true) (((g.getD a.toNat []).getD i.toNat 0, 0) :: (a, i) :: st) told)
  else dfs g k met st (told ++ [a])
section
variable {g : List (List Int)} {told : List Int} {kq : Nat} {met : List Bool} {st : List (Int × Int)} {tl : List Int} {a ii b : Int}
theorem dfs_len : ∀ (k : Nat) (met : List Bool) (st : List (Int × Int)) (tl : List Int), dfs g k met st tl = some told → told.length ≤ tl.length + k
 | 0, _, _, _, h => by simp [dfs] at h
 | k + 1, met, [], tl, h => by
  rw [dfs] at h
  obtain rfl := Option.some.inj h
  omega
 | k + 1, met, (a, i) :: st, tl, h => by
  rw [dfs] at h
  split at h
  ·split at h
   ·have := dfs_len k _ _ _ h; omega
   ·have := dfs_len k _ _ _ h; omega
  ·have := dfs_len k _ _ _ h
   rw [List.length_append, List.length_singleton] at this
   omega
theorem dfs_push (h : dfs g (kq + 1) met ((a, ii) :: st) tl = some told) (hl : ii < ((g.getD a.toNat []).length : Int)) (hb : b = (g.getD a.toNat []).getD ii.toNat 0) (hm : met.getD b.toNat true = false) : dfs g kq (met.set b.toNat true) ((b, 0) :: (a, ii) :: st) tl = some told := by
 rw [dfs, if_pos hl, ← hb, if_neg (by rw [hm]; simp)] at h
 exact h
theorem dfs_skip (h : dfs g (kq + 1) met ((a, ii) :: st) tl = some told) (hl : ii < ((g.getD a.toNat []).length : Int)) (hb : b = (g.getD a.toNat []).getD ii.toNat 0) (hm : met.getD b.toNat true = true) : dfs g kq met ((a, ii + 1) :: st) tl = some told := by
 rw [dfs, if_pos hl, ← hb, if_pos hm] at h
 exact h
theorem dfs_pop (h : dfs g (kq + 1) met ((a, ii) :: st) tl = some told) (hl : ¬ ii < ((g.getD a.toNat []).length : Int)) : dfs g kq met st (tl ++ [a]) = some told := by
 rw [dfs, if_neg hl] at h
 exact h
end
def marks (n : Nat) (l : List Int) : List Bool := l.foldl (fun m a => m.set a.toNat true) (List.replicate n false)
theorem foldl_set_len (l : List Int) (m : List Bool) : (l.foldl (fun m a => m.set a.toNat true) m).length = m.length := by
 induction l generalizing m with
 | nil => rfl
 | cons a l ih => rw [List.foldl_cons, ih, List.length_set]
theorem marks_len (n : Nat) (l : List Int) : (marks n l).length = n := by
 unfold marks
 rw [foldl_set_len, List.length_replicate]
theorem eq_of_rising : ∀ (a b : List Int), a.Pairwise (· < ·) → b.Pairwise (· < ·) → (∀ x, x ∈ a ↔ x ∈ b) → a = b
 | [], [], _, _, _ => rfl
 | [], y :: b, _, _, h => absurd ((h y).2 List.mem_cons_self) (by simp)
 | x :: a, [], _, _, h => absurd ((h x).1 List.mem_cons_self) (by simp)
 | x :: a, y :: b, ha, hb, h => by
  rw [List.pairwise_cons] at ha hb
  have hxy : x = y := by
   rcases List.mem_cons.1 ((h x).1 List.mem_cons_self) with e | e
   ·exact e
   ·rcases List.mem_cons.1 ((h y).2 List.mem_cons_self) with e' | e'
    ·exact e'.symm
    ·have := hb.1 x e
     have := ha.1 y e'
     omega
  subst hxy
  congr 1
  refine eq_of_rising a b ha.2 hb.2 (fun z => ⟨fun hz => ?_, fun hz => ?_⟩)
  ·rcases List.mem_cons.1 ((h z).1 (List.mem_cons_of_mem _ hz)) with e | e
   ·subst e
    exact absurd (ha.1 _ hz) (by omega)
   ·exact e
  ·rcases List.mem_cons.1 ((h z).2 (List.mem_cons_of_mem _ hz)) with e | e
   ·subst e
    exact absurd (hb.1 _ hz) (by omega)
   ·exact e
theorem compactUpTo_rises (d : Array Int) (hs : ∀ i j, i ≤ j → j < d.size → d[i]! ≤ d[j]!) : ∀ m, m ≤ d.size →
  (Lib.compactUpTo d m).Pairwise (· < ·) ∧ (∀ x, x ∈ Lib.compactUpTo d m ↔ ∃ j, j < m ∧ d[j]! = x)
 | 0, _ => ⟨by simp [Lib.compactUpTo], fun x => ⟨fun h => by simp [Lib.compactUpTo] at h, fun ⟨j, h, _⟩ => by omega⟩⟩
 | m + 1, hm => by
  obtain ⟨h1, h2⟩ := compactUpTo_rises d hs m (by omega)
  rw [Lib.compactUpTo_succ]
  by_cases hk : Lib.keeps d m = true
  ·rw [if_pos hk]
   have hk' : m = 0 ∨ d[m]! ≠ d[m - 1]! := by simpa [Lib.keeps] using hk
   refine ⟨List.pairwise_append.2 ⟨h1, by simp, fun x hx y hy => ?_⟩, fun x => ?_⟩
   ·obtain rfl := List.mem_singleton.1 hy
    obtain ⟨j, hj, rfl⟩ := (h2 x).1 hx
    have a1 := hs j (m - 1) (by omega) (by omega)
    have a2 := hs (m - 1) m (by omega) (by omega)
    rcases hk' with e | e
    ·omega
    ·omega
   ·rw [List.mem_append, List.mem_singleton, h2]
    constructor
    ·rintro (⟨j, hj, e⟩ | e)
     ·exact ⟨j, by omega, e⟩
     ·exact ⟨m, by omega, e.symm⟩
    ·rintro ⟨j, hj, e⟩
     rcases Nat.lt_or_ge j m with h | h
     ·exact .inl ⟨j, h, e⟩
     ·exact .inr (by rw [← e, show j = m by omega])
  ·rw [if_neg hk, List.append_nil]
   have hk' : m ≠ 0 ∧ d[m]! = d[m - 1]! := by
    have : ¬ (m = 0 ∨ d[m]! ≠ d[m - 1]!) := by simpa [Lib.keeps] using hk
    omega
   refine ⟨h1, fun x => ?_⟩
   rw [h2]
   constructor
   ·rintro ⟨j, hj, e⟩
    exact ⟨j, by omega, e⟩
   ·rintro ⟨j, hj, e⟩
    rcases Nat.lt_or_ge j m with h | h
    ·exact ⟨j, h, e⟩
    ·exact ⟨m - 1, by omega, by rw [← hk'.2, ← e, show j = m by omega]⟩
theorem compact_sorted (zs : List Int) : (Lib.compact (zs.mergeSort fun x y => decide (x ≤ y))).Pairwise (· < ·) ∧ ∀ x, x ∈ Lib.compact (zs.mergeSort fun x y => decide (x ≤ y)) ↔ x ∈ zs := by
 obtain ⟨ys, hy⟩ : ∃ ys, ys = zs.mergeSort fun x y => decide (x ≤ y) := ⟨_, rfl⟩
 have hp : ys.Pairwise (· ≤ ·) := by
  rw [hy]
  have := List.pairwise_mergeSort (le := fun x y : Int => decide (x ≤ y)) (fun a b c => by simp; omega) (fun a b => by simp; omega) zs
  exact this.imp (by simp)
 have hm : ∀ x, x ∈ ys ↔ x ∈ zs := fun x => by rw [hy, List.mem_mergeSort]
 rw [← hy]
 have hs : ∀ i j, i ≤ j → j < ys.toArray.size → ys.toArray[i]! ≤ ys.toArray[j]! := by
  intro i j hij hj
  have hj' : j < ys.length := by simpa using hj
  rw [getElem!_pos _ i (by simp; omega), getElem!_pos _ j hj]
  simp only [List.getElem_toArray]
  rcases Nat.lt_or_ge i j with h | h
  ·exact List.pairwise_iff_getElem.1 hp i j (by omega) hj' h
  ·obtain rfl : i = j := by omega
   exact Int.le_refl _
 obtain ⟨h1, h2⟩ := compactUpTo_rises ys.toArray hs ys.length (by simp)
 refine ⟨h1, fun x => ?_⟩
 unfold Lib.compact
 rw [h2, ← hm]
 constructor
 ·rintro ⟨j, hj, e⟩
  rw [← e, getElem!_pos _ j (by simpa using hj)]
  simp
 ·intro hx
  obtain ⟨j, hj, e⟩ := List.getElem_of_mem hx
  exact ⟨j, hj, by rw [getElem!_pos _ j (by simpa using hj)]; simpa using e⟩
theorem mem_cleanRow {n : Nat} {l : List Int} {x : Int} : x ∈ cleanRow n l ↔ x ∈ l ∧ 0 ≤ x ∧ x < (n : Int) := by
 unfold cleanRow
 rw [(compact_sorted _).2, List.mem_filter, isN_iff]
theorem cleanRow_rises (n : Nat) (l : List Int) : (cleanRow n l).Pairwise (· < ·) := (compact_sorted _).1
theorem cleanRow_len (n : Nat) (l : List Int) : (cleanRow n l).length ≤ l.length := by
 unfold cleanRow
 refine Nat.le_trans (Lib.compact_length_le _) ?_
 rw [List.length_mergeSort]
 exact List.length_filter_le _ _
theorem cleanRow_eq {n : Nat} {l m : List Int} (h : m.Pairwise (· < ·)) (hm : ∀ x, x ∈ m ↔ x ∈ l ∧ 0 ≤ x ∧ x < (n : Int)) : cleanRow n l = m :=
 eq_of_rising _ _ (cleanRow_rises n l) h (fun x => by rw [mem_cleanRow, hm])
theorem clean_len (g : List (List Int)) : (clean g).length = g.length := by simp [clean]
theorem clean_valid {g : List (List Int)} : ∀ l ∈ clean g, ∀ b ∈ l, 0 ≤ b ∧ b < (g.length : Int) := by
 intro l hl b hb
 obtain ⟨r, _, rfl⟩ := List.mem_map.1 hl
 exact (mem_cleanRow.1 hb).2
theorem clean_small {g : List (List Int)} (h : fits g = true) : ∀ l ∈ clean g, l.length ≤ 100000 := by
 intro l hl
 obtain ⟨r, hr, rfl⟩ := List.mem_map.1 hl
 unfold fits at h
 simp only [Bool.and_eq_true, decide_eq_true_eq, List.all_eq_true] at h
 exact Nat.le_trans (cleanRow_len _ _) (h.2 r hr)
def toldOf (g : List (List Int)) (a : Int) : Option (List Int) := if isN g.length a = true then dfs g 1000000 ((List.replicate g.length false).set a.toNat true) [(a, 0)] [] else some []
theorem toldOf_len {g : List (List Int)} {a : Int} {t : List Int} (h : toldOf g a = some t) : t.length ≤ 1000000 := by
 unfold toldOf at h
 split at h
 ·have := dfs_len _ _ _ _ h
  simpa using this
 ·obtain rfl := Option.some.inj h
  simp
def turnStep (a : Int) (o : List (List Int)) (b : Int) : List (List Int) := o.set b.toNat (o.getD b.toNat [] ++ [a])
def turnSo (c : List (List Int)) : Nat → List (List Int)
 | 0 => List.replicate c.length []
 | k + 1 => (c.getD k []).foldl (turnStep (k : Int)) (turnSo c k)
def turn (c : List (List Int)) : List (List Int) := turnSo c c.length
def graph_Turn.f (l0 : List (List Int)) : Option (List (List Int)) := if fits l0 = true then some (turn (clean l0)) else none
theorem turnRow_len (a : Int) (l : List Int) : ∀ o : List (List Int), (l.foldl (turnStep a) o).length = o.length := by
 induction l with
 | nil => intro o; rfl
 | cons b l ih => intro o; rw [List.foldl_cons, ih]; simp [turnStep]
theorem turnSo_len (c : List (List Int)) : ∀ k, (turnSo c k).length = c.length
 | 0 => by simp [turnSo]
 | k + 1 => by rw [turnSo, turnRow_len, turnSo_len c k]
def NoLonger (o : List (List Int)) (m : Nat) : Prop := ∀ j : Nat, (o.getD j []).length ≤ m
theorem NoLonger.step {a b : Int} {o : List (List Int)} {m : Nat} (h : NoLonger o m) : NoLonger (turnStep a o b) (m + 1) := by
 intro j
 unfold turnStep
 rw [List.getD_eq_getElem?_getD, List.getElem?_set]
 have hj := h j
 have hb := h b.toNat
 split
 ·split
  ·rw [Option.getD_some, List.length_append, List.length_singleton]; omega
  ·simp
 ·rw [← List.getD_eq_getElem?_getD]; omega
def insAt (l : List Int) (b : Int) : List Int := l.take (l.countP (fun x => decide (x < b))) ++ b :: l.drop (l.countP (fun x => decide (x < b)))
def withE (c : List (List Int)) (a b : Int) : List (List Int) := if isN c.length a = true ∧ isN c.length b = true ∧ ¬ b ∈ c.getD a.toNat [] then c.set a.toNat (insAt (c.getD a.toNat []) b) else c
def withoutE (c : List (List Int)) (a b : Int) : List (List Int) := if isN c.length a = true then c.set a.toNat ((c.getD a.toNat []).filter fun x => !decide (x = b)) else c
def graph_With.f (l0 : List (List Int)) (a1 a2 : Int) : Option (List (List Int)) := if fits l0 = true then some (withE (clean l0) a1 a2) else none
def graph_Without.f (l0 : List (List Int)) (a1 a2 : Int) : Option (List (List Int)) := if fits l0 = true then some (withoutE (clean l0) a1 a2) else none
def graph_Clean.f (l0 : List (List Int)) : Option (List (List Int)) := if fits l0 = true then some (clean l0) else none
def graph_Order.f (l0 : List (List Int)) (a1 : Int) : Option (List Int) := if fits l0 = true then (toldOf (clean l0) a1).map List.reverse else none
def graph_Reach.f (l0 : List (List Int)) (a1 : Int) : Option (List Bool) := if fits l0 = true then (toldOf (clean l0) a1).map (marks l0.length) else none
def reachB (l0 : List (List Int)) (c b : Int) : Bool := ((graph_Reach.f l0 c).getD []).getD b.toNat false
end Go.Proofs.YtemcmcnhpdkdfaaGreat.P
namespace Go.Proofs.YtemcmcnhpdkdfaaGreat.P
def row (g : List (List Int)) (a : Int) : List Int := g.getD a.toNat []
def Valid (g : List (List Int)) : Prop := ∀ l ∈ g, ∀ b ∈ l, 0 ≤ b ∧ b < (g.length : Int)
def Node (g : List (List Int)) (a : Int) : Prop := 0 ≤ a ∧ a < (g.length : Int)
theorem row_mem {g : List (List Int)} {a b : Int} (h : b ∈ row g a) : row g a ∈ g := by
 unfold row at h ⊢
 rw [List.getD_eq_getElem?_getD] at h ⊢
 cases hx : g[a.toNat]? with
 | none => rw [hx] at h; simp at h
 | some l => rw [Option.getD_some]; exact List.mem_of_getElem? hx
theorem row_node {g : List (List Int)} (hg : Valid g) {a b : Int} (h : b ∈ row g a) : Node g b := hg _ (row_mem h) _ h
inductive Way (g : List (List Int)) : Int → Int → Prop where
 | refl (a : Int) : Way g a a
 | step {a b c : Int} : b ∈ row g a → Way g b c → Way g a c
theorem Way.trans {g : List (List Int)} {a b c : Int} (h : Way g a b) (k : Way g b c) : Way g a c := by
 induction h with
 | refl => exact k
 | step hb _ ih => exact .step hb (ih k)
theorem Way.edge {g : List (List Int)} {a b : Int} (h : b ∈ row g a) : Way g a b := .step h (.refl _)
theorem Way.node {g : List (List Int)} (hg : Valid g) {a b : Int} (h : Way g a b) (ha : Node g a) : Node g b := by
 induction h with
 | refl => exact ha
 | step hb _ ih => exact ih (row_node hg hb)
theorem Way.closed {g : List (List Int)} {P : Int → Prop} (hc : ∀ x y, P x → y ∈ row g x → P y) {a b : Int} (h : Way g a b) (ha : P a) : P b := by
 induction h with
 | refl => exact ha
 | step hb _ ih => exact ih (hc _ _ ha hb)
def metB (m : List Bool) (a : Int) : Bool := m.getD a.toNat true
theorem metB_set {m : List Bool} {a b : Int} (hb : 0 ≤ b) (ha : 0 ≤ a) (hl : a < (m.length : Int)) : metB (m.set a.toNat true) b = (metB m b || decide (b = a)) := by
 unfold metB
 rw [List.getD_eq_getElem?_getD, List.getD_eq_getElem?_getD, List.getElem?_set]
 by_cases e : b = a
 ·subst e
  rw [if_pos rfl, if_pos (by omega)]
  simp
 ·rw [if_neg (by omega)]
  simp [e]
inductive Vs (g : List (List Int)) : List Int → List Bool → List Bool → List Int → Prop where
 | nil (m : List Bool) : Vs g [] m m []
 | skip {b : Int} {l : List Int} {m m' : List Bool} {t : List Int} : metB m b = true → Vs g l m m' t → Vs g (b :: l) m m' t
 | go {b : Int} {l : List Int} {m m1 m2 : List Bool} {t1 t2 : List Int} : metB m b = false → Vs g (row g b) (m.set b.toNat true) m1 t1 → Vs g l m1 m2 t2 → Vs g (b :: l) m m2 (t1 ++ b :: t2)
section
variable {g : List (List Int)} {l t : List Int} {m m' : List Bool}
theorem Vs.len (h : Vs g l m m' t) : m'.length = m.length := by
 induction h with
 | nil => rfl
 | skip _ _ ih => exact ih
 | go _ _ _ ih1 ih2 => rw [ih2, ih1, List.length_set]
theorem Vs.met (hg : Valid g) (h : Vs g l m m' t) (hm : m.length = g.length) (hl : ∀ b ∈ l, Node g b) :
  (∀ x, 0 ≤ x → metB m' x = (metB m x || decide (x ∈ t))) ∧ (∀ x ∈ t, metB m x = false ∧ Node g x) ∧ t.Nodup := by
 induction h with
 | nil m => exact ⟨fun x _ => by simp, fun x hx => by simp at hx, List.nodup_nil⟩
 | skip _ _ ih => exact ih hm (fun b hb => hl b (List.mem_cons_of_mem _ hb))
 | @go b l m m1 m2 t1 t2 hb h1 h2 ih1 ih2 =>
  have hbn := hl b List.mem_cons_self
  obtain ⟨a1, a2, a3⟩ := ih1 (by rw [List.length_set]; exact hm) (fun c hc => row_node hg hc)
  obtain ⟨b1, b2, b3⟩ := ih2 (by rw [h1.len, List.length_set]; exact hm) (fun c hc => hl c (List.mem_cons_of_mem _ hc))
  have hset : ∀ x, 0 ≤ x → metB (m.set b.toNat true) x = (metB m x || decide (x = b)) := fun x hx => metB_set hx hbn.1 (by rw [hm]; exact hbn.2)
  have hb1 : ∀ x ∈ t1, metB m x = false ∧ x ≠ b := by
   intro x hx
   have := (a2 x hx).1
   rw [hset x (a2 x hx).2.1] at this
   simpa using this
  have hb2 : ∀ x ∈ t2, metB m x = false ∧ x ≠ b ∧ x ∉ t1 := by
   intro x hx
   have := (b2 x hx).1
   rw [a1 x (b2 x hx).2.1, hset x (b2 x hx).2.1] at this
   simp only [Bool.or_eq_false_iff, decide_eq_false_iff_not] at this
   exact ⟨this.1.1, this.1.2, this.2⟩
  refine ⟨fun x hx => ?_, fun x hx => ?_, ?_⟩
  ·rw [b1 x hx, a1 x hx, hset x hx]
   simp only [List.mem_append, List.mem_cons]
   by_cases e1 : x ∈ t1 <;> by_cases e2 : x = b <;> by_cases e3 : x ∈ t2 <;> simp [e1, e2, e3]
  ·rw [List.mem_append, List.mem_cons] at hx
   rcases hx with hx | rfl | hx
   ·exact ⟨(hb1 x hx).1, (a2 x hx).2⟩
   ·exact ⟨hb, hbn⟩
   ·exact ⟨(hb2 x hx).1, (b2 x hx).2⟩
  ·rw [List.nodup_append]
   refine ⟨a3, List.nodup_cons.2 ⟨fun hx => (hb2 b hx).2.1 rfl, b3⟩, fun x hx y hy => ?_⟩
   rcases List.mem_cons.1 hy with rfl | hy
   ·exact (hb1 x hx).2
   ·rintro rfl
    exact (hb2 x hy).2.2 hx
theorem Vs.all (hg : Valid g) (h : Vs g l m m' t) (hm : m.length = g.length) (hl : ∀ b ∈ l, Node g b) :
  (∀ b ∈ l, metB m' b = true) ∧ ∀ x ∈ t, ∀ y ∈ row g x, metB m' y = true := by
 induction h with
 | nil m => exact ⟨fun b hb => by simp at hb, fun x hx => by simp at hx⟩
 | @skip b l m m' t hb h1 ih =>
  obtain ⟨a1, a2⟩ := ih hm (fun b hb => hl b (List.mem_cons_of_mem _ hb))
  refine ⟨fun c hc => ?_, a2⟩
  rcases List.mem_cons.1 hc with rfl | hc
  ·rw [(h1.met hg hm (fun b hb => hl b (List.mem_cons_of_mem _ hb))).1 c (hl c List.mem_cons_self).1, hb]
   rfl
  ·exact a1 c hc
 | @go b l m m1 m2 t1 t2 hb h1 h2 ih1 ih2 =>
  have hbn := hl b List.mem_cons_self
  have hm1 : m1.length = g.length := by rw [h1.len, List.length_set]; exact hm
  have hms : (m.set b.toNat true).length = g.length := by rw [List.length_set]; exact hm
  have hl2 : ∀ c ∈ l, Node g c := fun c hc => hl c (List.mem_cons_of_mem _ hc)
  obtain ⟨a1, a2⟩ := ih1 hms (fun c hc => row_node hg hc)
  obtain ⟨b1, b2⟩ := ih2 hm1 hl2
  have k1 := (h1.met hg hms (fun c hc => row_node hg hc)).1
  have k2 := (h2.met hg hm1 hl2).1
  have up : ∀ y, 0 ≤ y → metB m1 y = true → metB m2 y = true := fun y hy e => by rw [k2 y hy, e]; rfl
  have hbm : metB m1 b = true := by
   rw [k1 b hbn.1, metB_set hbn.1 hbn.1 (by rw [hm]; exact hbn.2)]
   simp
  refine ⟨fun c hc => ?_, fun x hx y hy => ?_⟩
  ·rcases List.mem_cons.1 hc with rfl | hc
   ·exact up c hbn.1 hbm
   ·exact b1 c hc
  ·rw [List.mem_append, List.mem_cons] at hx
   rcases hx with hx | rfl | hx
   ·exact up y (row_node hg hy).1 (a2 x hx y hy)
   ·exact up y (row_node hg hy).1 (a1 y hy)
   ·exact b2 x hx y hy
theorem Vs.way (h : Vs g l m m' t) : ∀ x ∈ t, ∃ b ∈ l, Way g b x := by
 induction h with
 | nil m => intro x hx; simp at hx
 | skip _ _ ih =>
  intro x hx
  obtain ⟨b, hb, hw⟩ := ih x hx
  exact ⟨b, List.mem_cons_of_mem _ hb, hw⟩
 | @go b l m m1 m2 t1 t2 hb h1 h2 ih1 ih2 =>
  intro x hx
  rw [List.mem_append, List.mem_cons] at hx
  rcases hx with hx | rfl | hx
  ·obtain ⟨c, hc, hw⟩ := ih1 x hx
   exact ⟨b, List.mem_cons_self, .step hc hw⟩
  ·exact ⟨x, List.mem_cons_self, .refl _⟩
  ·obtain ⟨c, hc, hw⟩ := ih2 x hx
   exact ⟨c, List.mem_cons_of_mem _ hc, hw⟩
theorem Vs.back (hg : Valid g) (h : Vs g l m m' t) (hm : m.length = g.length) (hl : ∀ b ∈ l, Node g b) : ∀ t1 x t2, t = t1 ++ x :: t2 → ∀ y ∈ row g x, y = x ∨ y ∈ t2 → Way g y x := by
 induction h with
 | nil m => intro t1 x t2 e; simp at e
 | skip _ _ ih => exact ih hm (fun b hb => hl b (List.mem_cons_of_mem _ hb))
 | @go b l m m1 m2 s1 s2 hb h1 h2 ih1 ih2 =>
  intro t1 x t2 e y hy hxy
  have hbn := hl b List.mem_cons_self
  have hms : (m.set b.toNat true).length = g.length := by rw [List.length_set]; exact hm
  have hm1 : m1.length = g.length := by rw [h1.len]; exact hms
  have hl2 : ∀ c ∈ l, Node g c := fun c hc => hl c (List.mem_cons_of_mem _ hc)
  rcases hxy with rfl | hxy
  ·exact .refl _

  rcases List.append_eq_append_iff.1 e with ⟨a', e1, e2⟩ | ⟨c', e1, e2⟩
  ·
   cases a' with
   | nil =>
    simp only [List.nil_append, List.cons.injEq] at e2
    obtain ⟨rfl, rfl⟩ := e2

    have hy1 : metB m1 y = true := (h1.all hg hms (fun c hc => row_node hg hc)).1 y hy
    have := ((h2.met hg hm1 hl2).2.1 y hxy).1
    rw [hy1] at this
    cases this
   | cons z a' =>
    simp only [List.cons_append, List.cons.injEq] at e2
    obtain ⟨rfl, e2⟩ := e2
    exact ih2 hm1 hl2 a' x t2 e2 y hy (.inr hxy)
  ·
   cases c' with
   | nil =>
    simp only [List.nil_append, List.cons.injEq] at e2
    obtain ⟨rfl, rfl⟩ := e2
    have hy1 : metB m1 y = true := (h1.all hg hms (fun c hc => row_node hg hc)).1 y hy
    have := ((h2.met hg hm1 hl2).2.1 y hxy).1
    rw [hy1] at this
    cases this
   | cons z c' =>
    simp only [List.cons_append, List.cons.injEq] at e2
    obtain ⟨rfl, rfl⟩ := e2
    rw [List.mem_append, List.mem_cons] at hxy
    have hxs : x ∈ s1 := by rw [e1]; simp
    rcases hxy with hxy | rfl | hxy
    ·exact ih1 hms (fun c hc => row_node hg hc) t1 x c' e1 y hy (.inr hxy)
    ·obtain ⟨c, hc, hw⟩ := h1.way x hxs
     exact .step hc hw
    ·have hy1 : metB m1 y = true := (h1.all hg hms (fun c hc => row_node hg hc)).2 x hxs y hy
     have := ((h2.met hg hm1 hl2).2.1 y hxy).1
     rw [hy1] at this
     cases this
end
theorem metB_set_self (m : List Bool) (b : Int) : metB (m.set b.toNat true) b = true := by
 unfold metB
 rw [List.getD_eq_getElem?_getD, List.getElem?_set, if_pos rfl]
 split <;> rfl
theorem metB_set_of {m : List Bool} {b x : Int} (h : metB m x = true) : metB (m.set b.toNat true) x = true := by
 unfold metB at *
 rw [List.getD_eq_getElem?_getD, List.getElem?_set]
 split
 ·split <;> rfl
 ·rw [← List.getD_eq_getElem?_getD]
  exact h
theorem Vs.keeps {g : List (List Int)} {l t : List Int} {m m' : List Bool} (h : Vs g l m m' t) {x : Int} (hx : metB m x = true) : metB m' x = true := by
 induction h with
 | nil => exact hx
 | skip _ _ ih => exact ih hx
 | go _ _ _ ih1 ih2 => exact ih2 (ih1 (metB_set_of hx))
def cost (g : List (List Int)) (t : List Int) : Nat := (t.map fun b => (row g b).length + 2).sum
theorem cost_app (g : List (List Int)) (s t : List Int) : cost g (s ++ t) = cost g s + cost g t := by simp [cost]
theorem cost_cons (g : List (List Int)) (b : Int) (t : List Int) : cost g (b :: t) = (row g b).length + 2 + cost g t := by simp [cost]
theorem Vs.dfs {g : List (List Int)} {l t : List Int} {m m' : List Bool} (h : Vs g l m m' t) : ∀ (a : Int) (i : Nat) (st : List (Int × Int)) (tl : List Int), (row g a).drop i = l → ∀ k, dfs g (k + (l.length + 1 + cost g t)) m ((a, (i : Int)) :: st) tl = dfs g k m' st (tl ++ t ++ [a]) := by
 induction h with
 | nil m =>
  intro a i st tl hl k
  have hi : (row g a).length ≤ i := by
   have := congrArg List.length hl
   rw [List.length_drop, List.length_nil] at this
   omega
  rw [show k + (([] : List Int).length + 1 + cost g []) = k + 1 by simp [cost], P.dfs, if_neg (by show ¬ (i : Int) < ((row g a).length : Int); omega), List.append_nil]
 | @skip b l m m' t hb h1 ih =>
  intro a i st tl hl k
  have hi : i < (row g a).length := by
   rcases Nat.lt_or_ge i (row g a).length with h | h
   ·exact h
   ·rw [List.drop_eq_nil_of_le h] at hl; cases hl
  have hd := List.drop_eq_getElem_cons hi
  rw [hl] at hd
  injection hd with hd1 hd2
  have hg : (row g a).getD (i : Int).toNat 0 = b := by
   rw [Int.toNat_natCast, List.getD_eq_getElem?_getD, List.getElem?_eq_getElem hi, hd1]
   rfl
  rw [show k + ((b :: l).length + 1 + cost g t) = (k + (l.length + 1 + cost g t)) + 1 by simp; omega, P.dfs, if_pos (by show (i : Int) < ((row g a).length : Int); omega)]
  show (if metB m ((row g a).getD (i : Int).toNat 0) = true then _ else _) = _
  rw [hg, if_pos hb]
  exact ih a (i + 1) st tl hd2.symm k
 | @go b l m m1 m2 t1 t2 hb h1 h2 ih1 ih2 =>
  intro a i st tl hl k
  have hi : i < (row g a).length := by
   rcases Nat.lt_or_ge i (row g a).length with h | h
   ·exact h
   ·rw [List.drop_eq_nil_of_le h] at hl; cases hl
  have hd := List.drop_eq_getElem_cons hi
  rw [hl] at hd
  injection hd with hd1 hd2
  have hg : (row g a).getD (i : Int).toNat 0 = b := by
   rw [Int.toNat_natCast, List.getD_eq_getElem?_getD, List.getElem?_eq_getElem hi, hd1]
   rfl
  have hbm : metB m1 b = true := h1.keeps (metB_set_self m b)
  rw [show k + ((b :: l).length + 1 + cost g (t1 ++ b :: t2)) = ((k + (l.length + 1 + cost g t2)) + 1 + ((row g b).length + 1 + cost g t1)) + 1 by rw [cost_app, cost_cons]; simp; omega, P.dfs, if_pos (by show (i : Int) < ((row g a).length : Int); omega)]
  show (if metB m ((row g a).getD (i : Int).toNat 0) = true then _ else P.dfs g _ (m.set ((row g a).getD (i : Int).toNat 0).toNat true) (((row g a).getD (i : Int).toNat 0, 0) :: (a, (i : Int)) :: st) tl) = _
  rw [hg, if_neg (by rw [hb]; simp)]
  have e1 := ih1 b 0 ((a, (i : Int)) :: st) tl (by simp) ((k + (l.length + 1 + cost g t2)) + 1)
  rw [show ((0 : Nat) : Int) = 0 from rfl] at e1
  rw [e1, P.dfs, if_pos (by show (i : Int) < ((row g a).length : Int); omega)]
  show (if metB m1 ((row g a).getD (i : Int).toNat 0) = true then _ else _) = _
  rw [hg, if_pos hbm]
  have e2 := ih2 a (i + 1) st (tl ++ t1 ++ [b]) hd2.symm k
  rw [show ((i : Int) + 1) = ((i + 1 : Nat) : Int) by omega, e2]
  simp
theorem count_set {m : List Bool} {b : Int} (h : metB m b = false) : (m.set b.toNat true).count false + 1 = m.count false := by
 unfold metB at h
 rw [List.getD_eq_getElem?_getD] at h
 have hlt : b.toNat < m.length := by
  rcases Nat.lt_or_ge b.toNat m.length with h1 | h1
  ·exact h1
  ·rw [List.getElem?_eq_none h1] at h; simp at h
 rw [List.getElem?_eq_getElem hlt, Option.getD_some] at h
 rw [List.count_set hlt, h]
 have : 0 < m.count false := List.count_pos_iff.2 (by rw [← h]; exact List.getElem_mem hlt)
 simp
 omega
theorem Vs.count {g : List (List Int)} {l t : List Int} {m m' : List Bool} (h : Vs g l m m' t) : m'.count false ≤ m.count false := by
 induction h with
 | nil => exact Nat.le_refl _
 | skip _ _ ih => exact ih
 | go hb _ _ ih1 ih2 => have := count_set hb; omega
theorem Vs.exists {g : List (List Int)} : ∀ (n : Nat) (l : List Int) (m : List Bool), m.count false ≤ n → ∃ m' t, Vs g l m m' t := by
 intro n
 induction n with
 | zero =>
  intro l
  induction l with
  | nil => intro m _; exact ⟨m, [], .nil m⟩
  | cons b l ih =>
   intro m hm
   have hb : metB m b = true := by
    rcases Bool.eq_false_or_eq_true (metB m b) with h | h
    ·exact h
    ·have := count_set h; omega
   obtain ⟨m', t, h⟩ := ih m hm
   exact ⟨m', t, .skip hb h⟩
 | succ n ihn =>
  intro l
  induction l with
  | nil => intro m _; exact ⟨m, [], .nil m⟩
  | cons b l ih =>
   intro m hm
   rcases Bool.eq_false_or_eq_true (metB m b) with hb | hb
   ·obtain ⟨m', t, h⟩ := ih m hm
    exact ⟨m', t, .skip hb h⟩
   ·have hc := count_set hb
    obtain ⟨m1, t1, h1⟩ := ihn (row g b) (m.set b.toNat true) (by omega)
    have := h1.count
    obtain ⟨m2, t2, h2⟩ := ih m1 (by omega)
    exact ⟨m2, _, .go hb h1 h2⟩
theorem length_le_of_subset {α : Type} [DecidableEq α] : ∀ (t l : List α), t.Nodup → (∀ x ∈ t, x ∈ l) → t.length ≤ l.length
 | [], _, _, _ => Nat.zero_le _
 | x :: t, l, hn, hs => by
  rw [List.nodup_cons] at hn
  have hx := hs x List.mem_cons_self
  have := length_le_of_subset t (l.erase x) hn.2 (fun y hy => by
   rw [List.mem_erase_of_ne (by rintro rfl; exact hn.1 hy)]
   exact hs y (List.mem_cons_of_mem _ hy))
  rw [List.length_erase_of_mem hx] at this
  have : 0 < l.length := List.length_pos_of_mem hx
  simp only [List.length_cons]
  omega
def nodes (n : Nat) : List Int := (List.range n).map fun i : Nat => (i : Int)
theorem mem_nodes {n : Nat} {x : Int} : x ∈ nodes n ↔ 0 ≤ x ∧ x < (n : Int) := by
 unfold nodes
 rw [List.mem_map]
 constructor
 ·rintro ⟨i, hi, rfl⟩
  rw [List.mem_range] at hi
  omega
 ·intro h
  exact ⟨x.toNat, List.mem_range.2 (by omega), by omega⟩
theorem nodes_len (n : Nat) : (nodes n).length = n := by simp [nodes]
theorem few_nodes {n : Nat} {t : List Int} (hn : t.Nodup) (ht : ∀ x ∈ t, 0 ≤ x ∧ x < (n : Int)) : t.length ≤ n := by
 have := length_le_of_subset t (nodes n) hn (fun x hx => mem_nodes.2 (ht x hx))
 rwa [nodes_len] at this
theorem cost_le (g : List (List Int)) (L : Nat) (hL : ∀ l ∈ g, l.length ≤ L) : ∀ t : List Int, cost g t ≤ t.length * (L + 2)
 | [] => by simp [cost]
 | b :: t => by
  have h := cost_le g L hL t
  rw [cost_cons, List.length_cons, Nat.succ_mul]
  have : (row g b).length ≤ L := by
   unfold row
   rw [List.getD_eq_getElem?_getD]
   cases hx : g[b.toNat]? with
   | none => simp
   | some l => rw [Option.getD_some]; exact hL l (List.mem_of_getElem? hx)
  omega
theorem told_spec {g : List (List Int)} (hg : Valid g) (hn : g.length ≤ 900) (hL : ∀ l ∈ g, l.length ≤ 900) {a : Int} (ha : Node g a) :
  ∃ t, toldOf g a = some (t ++ [a]) ∧ (∀ x, x ∈ t ++ [a] ↔ Way g a x) ∧ (t ++ [a]).Nodup ∧ (∀ x ∈ t ++ [a], Node g x) ∧
   (∀ t1 x t2, t ++ [a] = t1 ++ x :: t2 → ∀ y ∈ row g x, y = x ∨ y ∈ t2 → Way g y x) ∧ ∃ m', Vs g [a] (List.replicate g.length false) m' (t ++ [a]) := by
 obtain ⟨m0, hm0⟩ : ∃ m0, m0 = List.replicate g.length false := ⟨_, rfl⟩
 have hl0 : m0.length = g.length := by rw [hm0, List.length_replicate]
 have hun : ∀ x, Node g x → metB m0 x = false := by
  intro x hx
  unfold metB
  rw [hm0, List.getD_eq_getElem?_getD, List.getElem?_replicate, if_pos (by have := hx.1; have := hx.2; omega)]
  rfl
 obtain ⟨m1, t, h⟩ := Vs.exists (g := g) _ (row g a) (m0.set a.toNat true) (Nat.le_refl _)
 have hV : Vs g [a] m0 m1 (t ++ [a]) := .go (hun a ha) h (.nil _)
 have hls : ∀ b ∈ [a], Node g b := fun b hb => by obtain rfl := List.mem_singleton.1 hb; exact ha
 obtain ⟨p1, p2, p3⟩ := hV.met hg hl0 hls
 obtain ⟨q1, q2⟩ := hV.all hg hl0 hls
 have hmem : ∀ x, x ∈ t ++ [a] ↔ Way g a x := by
  intro x
  constructor
  ·intro hx
   obtain ⟨b, hb, hw⟩ := hV.way x hx
   obtain rfl := List.mem_singleton.1 hb
   exact hw
  ·intro hw
   refine (hw.closed (P := fun x => x ∈ t ++ [a]) (fun x y hx hy => ?_) (by simp))
   have h1 := q2 x hx y hy
   have hyn := row_node hg hy
   rw [p1 y hyn.1, hun y hyn] at h1
   simpa using h1
 refine ⟨t, ?_, hmem, p3, fun x hx => (p2 x hx).2, hV.back hg hl0 hls, m1, by rw [← hm0]; exact hV⟩
 unfold toldOf
 rw [if_pos (isN_yes ha.1 ha.2), ← hm0]
 have hc : (row g a).length + 1 + cost g t ≤ 999999 := by
  have h1 := cost_le g 900 hL t
  have h2 : t.length ≤ g.length := few_nodes (List.nodup_append.1 p3).1 (fun x hx => (p2 x (by simp [hx])).2)
  have h3 : t.length * (900 + 2) ≤ 900 * (900 + 2) := Nat.mul_le_mul_right _ (by omega)
  have h4 : (row g a).length ≤ 900 := by
   unfold row
   rw [List.getD_eq_getElem?_getD]
   cases hx : g[a.toNat]? with
   | none => simp
   | some l => rw [Option.getD_some]; exact hL l (List.mem_of_getElem? hx)
  omega
 obtain ⟨k, hk⟩ : ∃ k, 1000000 = (k + 1) + ((row g a).length + 1 + cost g t) := ⟨999999 - ((row g a).length + 1 + cost g t), by omega⟩
 have e := h.dfs a 0 [] [] (by simp) (k + 1)
 rw [← hk, show ((0 : Nat) : Int) = 0 from rfl] at e
 rw [e, P.dfs]
 rfl
theorem told_none {g : List (List Int)} {a : Int} (ha : ¬ Node g a) : toldOf g a = some [] := by
 unfold toldOf
 rw [if_neg (by rw [isN_iff]; exact ha)]
end Go.Proofs.YtemcmcnhpdkdfaaGreat.P
namespace Go.Proofs.YtemcmcnhpdkdfaaGreat.P
open Go.RowKit Go.Proofs.YtemcmcnhpdkdfaaGreatW.PrintWords Go.Proofs.YtemcmcnhpdkdfaaGreatW.PrintLast Go.Proofs.YtemcmcnhpdkdfaaGreatW.PrintMore
attribute [local go_sem] max2_int min2_int max_two min_two max_three min_three max_four min_four
set_option linter.unusedVariables false
set_option linter.unusedSimpArgs false
def errW : Option Int → Value
 | none => .nilIface
 | some c => .iface 0 (.int .i64 c)
theorem errW_none : errW none = .nilIface := rfl
theorem errW_some (c : Int) : errW (some c) = .iface 0 (.int .i64 c) := rfl
theorem info3 : (Tryz.prog.info? 3).map (fun i => (i.zero, i.size, i.bytes)) = some (some (.int .i64 0), 1, 8) := by kernel_rfl
theorem info4 : (Tryz.prog.info? 4).map (fun i => (i.zero, i.size, i.bytes)) = some (some (.bool false), 1, 1) := by kernel_rfl
theorem info23 : (Tryz.prog.info? 23).map (fun i => (i.zero, i.size, i.bytes)) = some (some (.slice none 0 0), 1, 24) := by kernel_rfl
theorem info56 : (Tryz.prog.info? 56).map (fun i => (i.zero, i.size, i.bytes)) = some (some (.slice none 0 0), 1, 24) := by kernel_rfl
def rd_L1 (xs : List (List Int)) (i : Int) : (List Int) := xs.getD i.toNat ([] : List Int)
theorem at_L1 {w : World} {A : Option Addr} {n : Nat} {xs : List (List Int)} (h : Kd.C (Kd.slice 3 (Kd.int .i64)) w A n xs) (i : Int) (h0 : 0 ≤ i) (h1 : i < n) : ∃ ad A0 c0, A = some ad ∧ w.cell? (ad.add i.toNat) = some (.slice A0 (rd_L1 xs i).length c0) ∧ (rd_L1 xs i).length ≤ c0 ∧ (Kd.int .i64).C w A0 (rd_L1 xs i).length (rd_L1 xs i) := by
 obtain ⟨ad, c, e, _, hK, hc0⟩ := Kd.C_get h ([] : List Int) i h0 h1
 have hc : ∀ j u, c[j]? = some u → w.cell? (ad.add (i.toNat * 1 + j)) = some u := hc0
 obtain ⟨A0, c0, rfl, l0, g0⟩ := hK
 exact ⟨ad, A0, c0, e, by have hq := hc 0 _ rfl; rwa [Nat.mul_one, Nat.add_zero] at hq, l0, g0⟩
def rd_L3 (xs : List (List Bool)) (i : Int) : (List Bool) := xs.getD i.toNat ([] : List Bool)
theorem at_L3 {w : World} {A : Option Addr} {n : Nat} {xs : List (List Bool)} (h : Kd.C (Kd.slice 4 Kd.bool) w A n xs) (i : Int) (h0 : 0 ≤ i) (h1 : i < n) : ∃ ad A0 c0, A = some ad ∧ w.cell? (ad.add i.toNat) = some (.slice A0 (rd_L3 xs i).length c0) ∧ (rd_L3 xs i).length ≤ c0 ∧ Kd.bool.C w A0 (rd_L3 xs i).length (rd_L3 xs i) := by
 obtain ⟨ad, c, e, _, hK, hc0⟩ := Kd.C_get h ([] : List Bool) i h0 h1
 have hc : ∀ j u, c[j]? = some u → w.cell? (ad.add (i.toNat * 1 + j)) = some u := hc0
 obtain ⟨A0, c0, rfl, l0, g0⟩ := hK
 exact ⟨ad, A0, c0, e, by have hq := hc 0 _ rfl; rwa [Nat.mul_one, Nat.add_zero] at hq, l0, g0⟩
end Go.Proofs.YtemcmcnhpdkdfaaGreat.P
namespace Go.Proofs.YtemcmcnhpdkdfaaGreat.P
open Go.RowKit Go.Proofs.YtemcmcnhpdkdfaaGreatW.PrintWords Go.Proofs.YtemcmcnhpdkdfaaGreatW.PrintLast Go.Proofs.YtemcmcnhpdkdfaaGreatW.PrintMore
attribute [local go_sem] max2_int min2_int max_two min_two max_three min_three max_four min_four
set_option linter.unusedVariables false
set_option linter.unusedSimpArgs false
def bywashref01_Ints.l0 : Nat → List Int → List Int → Int → Option (Bool)
 | 0, _, _, _ => none
 | k + 1, x0, x1, x5 => if x5 < (x0.length : Int) then (if 0 ≤ x5 then (if x5 < (x1.length : Int) then (if (rd x0 x5) = (rd x1 x5) then (bywashref01_Ints.l0 k x0 x1 (wrap64 (x5 + 1))) else (some false)) else (none)) else (none)) else (some true)
def bywashref01_Ints.f (k : Nat) (l0 : List Int) (l1 : List Int) : Option (Bool) := if (l0.length : Int) = (l1.length : Int) then (bywashref01_Ints.l0 k l0 l1 0) else (some false)
set_option maxHeartbeats 8000000 in
set_option maxRecDepth 100000 in
theorem bywashref01_Ints.calls (k : Nat) (A0 : Option Addr) (c0 : Nat) (l0 : List Int) (A1 : Option Addr) (c1 : Nat) (l1 : List Int) (r : Bool) (w : World) (hr0 : Kd.C (Kd.int .i64) w A0 l0.length l0) (hc0 : l0.length ≤ c0) (hr1 : Kd.C (Kd.int .i64) w A1 l1.length l1) (hc1 : l1.length ≤ c1) (h : bywashref01_Ints.f k l0 l1 = some r) :
  Calls Tryz.prog 13 #[.slice A0 l0.length c0, .slice A1 l1.length c1] w fun e w' => e = .returned (.bool r) ∧ Drawn0 w w' := by
 have HR0 := Aside0.mk hr0
 have HC0 := Aside0.mk hc0
 clear hr0 hc0
 have HR1 := Aside0.mk hr1
 have HC1 := Aside0.mk hc1
 clear hr1 hc1
 have H : (if (l0.length : Int) = (l1.length : Int) then (bywashref01_Ints.l0 k l0 l1 0) else (some false)) = some r := h
 clear h
 by_cases c3 : (l0.length : Int) = (l1.length : Int)
 ·rw [if_pos c3] at H
  have c3b0 : ((l0.length : Int) == (l1.length : Int)) = true := beq_iff_eq.mpr c3
  have c3b1 : ((l0.length : Int) != (l1.length : Int)) = false := bne_eq_false_iff_eq.mpr c3
  have c3b2 : (l0.length == l1.length) = true := by first | simpa using c3 | (simp at c3 ⊢; omega)
  clear c3
  have H' := Aside0.mk H
  clear H
  go_enter Tryz.func13, Tryz.ntmps13
  go_wp2
  repeat (go_quiet (fail); try go_wp2)
  go_loopg [5] k (fun kq v5 w' => ∃ (x5_1 : Int), v5 = .int .i64 x5_1 ∧ Aside0 (bywashref01_Ints.l0 kq l0 l1 x5_1 = some r) ∧ Aside0 (kq ≤ k) ∧ Drawn0 w w')
  case atStart => exact ⟨(0), (by first | rfl | (simp; done) | (simp [*]; done)), H', ⟨Nat.le_refl _⟩, by repeat (first | exact Drawn0.refl _ | apply Drawn0.step)⟩
  case round =>
   clear H'
   try clear c1
   try clear p2
   try clear c3
   try clear c3b0
   try clear c3b1
   try clear c3b2
   obtain ⟨x5_1, rfl, HA, HK1, ⟨m1, rfl⟩⟩ := hrel
   cases gk with
   | zero => exact absurd HA.out (by simp [bywashref01_Ints.l0])
   | succ k1 =>
    have H := HA.out
    clear HA
    simp only [bywashref01_Ints.l0] at H
    by_cases c4 : x5_1 < (l0.length : Int)
    ·rw [if_pos c4] at H
     have c4b0 : decide (x5_1 < (l0.length : Int)) = true := decide_eq_true c4
     clear c4
     by_cases c5 : 0 ≤ x5_1
     ·rw [if_pos c5] at H
      have c5b0 : decide (0 ≤ x5_1) = true := decide_eq_true c5
      clear c5
      by_cases c6 : x5_1 < (l1.length : Int)
      ·rw [if_pos c6] at H
       have c6b0 : decide (x5_1 < (l1.length : Int)) = true := decide_eq_true c6
       clear c6
       by_cases c7 : (rd l0 x5_1) = (rd l1 x5_1)
       ·rw [if_pos c7] at H
        have c7b0 : ((rd l0 x5_1) == (rd l1 x5_1)) = true := beq_iff_eq.mpr c7
        have c7b1 : ((rd l0 x5_1) != (rd l1 x5_1)) = false := bne_eq_false_iff_eq.mpr c7
        clear c7
        have H' := Aside0.mk H
        clear H
        have p101 : 0 ≤ (x5_1 : Int) := of_decide_eq_true (by first | (with_reducible assumption) | assumption)
        have q101 : x5_1 < (l0.length : Int) := of_decide_eq_true (by first | (with_reducible assumption) | assumption)
        obtain ⟨ad101, e101, hx101_0⟩ := Kd.at_int HR0.out x5_1 p101 q101
        cases e101
        replace p101 := eq_true p101
        replace q101 := eq_true q101
        have p102 : 0 ≤ (x5_1 : Int) := of_decide_eq_true (by first | (with_reducible assumption) | assumption)
        have q102 : x5_1 < (l1.length : Int) := of_decide_eq_true (by first | (with_reducible assumption) | assumption)
        obtain ⟨ad102, e102, hx102_0⟩ := Kd.at_int HR1.out x5_1 p102 q102
        cases e102
        replace p102 := eq_true p102
        replace q102 := eq_true q102
        go_wp2
        repeat (go_quiet (fail); try go_wp2)
        go_roundg k1
        case measure => have := HK1.out; omega
        case rel => exact ⟨(wrap64 (x5_1 + 1)), (by first | rfl | (simp; done) | (simp [*]; done)), H', ⟨by have := HK1.out; omega⟩, by repeat (first | exact Drawn0.refl _ | apply Drawn0.step)⟩
       ·rw [if_neg c7] at H
        have c7b0 : ((rd l0 x5_1) == (rd l1 x5_1)) = false := beq_eq_false_iff_ne.mpr c7
        have c7b1 : ((rd l0 x5_1) != (rd l1 x5_1)) = true := bne_iff_ne.mpr c7
        obtain rfl := Option.some.inj H
        have p101 : 0 ≤ (x5_1 : Int) := of_decide_eq_true (by first | (with_reducible assumption) | assumption)
        have q101 : x5_1 < (l0.length : Int) := of_decide_eq_true (by first | (with_reducible assumption) | assumption)
        obtain ⟨ad101, e101, hx101_0⟩ := Kd.at_int HR0.out x5_1 p101 q101
        cases e101
        replace p101 := eq_true p101
        replace q101 := eq_true q101
        have p102 : 0 ≤ (x5_1 : Int) := of_decide_eq_true (by first | (with_reducible assumption) | assumption)
        have q102 : x5_1 < (l1.length : Int) := of_decide_eq_true (by first | (with_reducible assumption) | assumption)
        obtain ⟨ad102, e102, hx102_0⟩ := Kd.at_int HR1.out x5_1 p102 q102
        cases e102
        replace p102 := eq_true p102
        replace q102 := eq_true q102
        go_wp2
        repeat (go_quiet (fail); try go_wp2)
        go_ret
        exact ⟨by first | rfl | (simp; done) | (simp [*]; done), by repeat (first | exact Drawn0.refl _ | apply Drawn0.step)⟩
      ·rw [if_neg c6] at H
       exact absurd H (by simp)
     ·rw [if_neg c5] at H
      exact absurd H (by simp)
    ·rw [if_neg c4] at H
     have c4b0 : decide (x5_1 < (l0.length : Int)) = false := decide_eq_false c4
     clear c4
     obtain rfl := Option.some.inj H
     go_wp2
     repeat (go_quiet (fail); try go_wp2)
     go_ret
     exact ⟨by first | rfl | (simp; done) | (simp [*]; done), by repeat (first | exact Drawn0.refl _ | apply Drawn0.step)⟩
 ·rw [if_neg c3] at H
  have c3b0 : ((l0.length : Int) == (l1.length : Int)) = false := beq_eq_false_iff_ne.mpr c3
  have c3b1 : ((l0.length : Int) != (l1.length : Int)) = true := bne_iff_ne.mpr c3
  have c3b2 : (l0.length == l1.length) = false := by first | simpa using c3 | (simp at c3 ⊢; omega)
  obtain rfl := Option.some.inj H
  go_enter Tryz.func13, Tryz.ntmps13
  go_wp2
  repeat (go_quiet (fail); try go_wp2)
  go_ret
  exact ⟨by first | rfl | (simp; done) | (simp [*]; done), by repeat (first | exact Drawn0.refl _ | apply Drawn0.step)⟩
end Go.Proofs.YtemcmcnhpdkdfaaGreat.P
namespace Go.Proofs.YtemcmcnhpdkdfaaGreat.P
open Go.RowKit Go.Proofs.YtemcmcnhpdkdfaaGreatW.PrintWords Go.Proofs.YtemcmcnhpdkdfaaGreatW.PrintLast Go.Proofs.YtemcmcnhpdkdfaaGreatW.PrintMore
attribute [local go_sem] max2_int min2_int max_two min_two max_three min_three max_four min_four
set_option linter.unusedVariables false
set_option linter.unusedSimpArgs false
def bywashref10_Few.l0 : Nat → List (List Int) → Int → Option (Bool)
 | 0, _, _ => none
 | k + 1, x0, x3 => if x3 < (x0.length : Int) then (if 0 ≤ x3 then (if ((rd_L1 x0 x3).length : Int) > 60 then (some false) else (bywashref10_Few.l0 k x0 (wrap64 (x3 + 1)))) else (none)) else (some (decide ((x0.length : Int) ≤ 40)))
def bywashref10_Few.f (k : Nat) (l0 : List (List Int)) : Option (Bool) := bywashref10_Few.l0 k l0 0
set_option maxHeartbeats 8000000 in
set_option maxRecDepth 100000 in
theorem bywashref10_Few.calls (k : Nat) (A0 : Option Addr) (c0 : Nat) (l0 : List (List Int)) (r : Bool) (w : World) (hr0 : Kd.C (Kd.slice 3 (Kd.int .i64)) w A0 l0.length l0) (hc0 : l0.length ≤ c0) (h : bywashref10_Few.f k l0 = some r) :
  Calls Tryz.prog 5 #[.slice A0 l0.length c0] w fun e w' => e = .returned (.bool r) ∧ Drawn0 w w' := by
 have HR0 := Aside0.mk hr0
 have HC0 := Aside0.mk hc0
 clear hr0 hc0
 have H : (bywashref10_Few.l0 k l0 0) = some r := h
 clear h
 have H' := Aside0.mk H
 clear H
 go_enter Tryz.func5, Tryz.ntmps5
 go_wp2
 go_loopg [3] k (fun kq v3 w' => ∃ (x3_1 : Int), v3 = .int .i64 x3_1 ∧ Aside0 (bywashref10_Few.l0 kq l0 x3_1 = some r) ∧ Aside0 (kq ≤ k) ∧ Drawn0 w w')
 case atStart => exact ⟨(0), (by first | rfl | (simp; done) | (simp [*]; done)), H', ⟨Nat.le_refl _⟩, by repeat (first | exact Drawn0.refl _ | apply Drawn0.step)⟩
 case round =>
  clear H'
  obtain ⟨x3_1, rfl, HA, HK1, ⟨m1, rfl⟩⟩ := hrel
  cases gk with
  | zero => exact absurd HA.out (by simp [bywashref10_Few.l0])
  | succ k1 =>
   have H := HA.out
   clear HA
   simp only [bywashref10_Few.l0] at H
   by_cases c2 : x3_1 < (l0.length : Int)
   ·rw [if_pos c2] at H
    have c2b0 : decide (x3_1 < (l0.length : Int)) = true := decide_eq_true c2
    clear c2
    by_cases c3 : 0 ≤ x3_1
    ·rw [if_pos c3] at H
     have c3b0 : decide (0 ≤ x3_1) = true := decide_eq_true c3
     clear c3
     by_cases c4 : ((rd_L1 l0 x3_1).length : Int) > 60
     ·rw [if_pos c4] at H
      have c4b0 : decide (60 < ((rd_L1 l0 x3_1).length : Int)) = true := decide_eq_true c4
      have c4b1 : decide (60 < (rd_L1 l0 x3_1).length) = true := decide_eq_true (by omega)
      clear c4
      obtain rfl := Option.some.inj H
      have p148 : 0 ≤ (x3_1 : Int) := of_decide_eq_true (by first | (with_reducible assumption) | assumption)
      have q148 : x3_1 < (l0.length : Int) := of_decide_eq_true (by first | (with_reducible assumption) | assumption)
      obtain ⟨ad148, A148_0, c148_0, e148, hx148_0, hl148_0, hi148_0⟩ := at_L1 HR0.out x3_1 p148 q148
      cases e148
      have HR148_0 := Aside0.mk hi148_0
      have HC148_0 := Aside0.mk hl148_0
      clear hi148_0 hl148_0
      replace p148 := eq_true p148
      replace q148 := eq_true q148
      go_wp2
      go_ret
      exact ⟨by first | rfl | (simp; done) | (simp [*]; done), by repeat (first | exact Drawn0.refl _ | apply Drawn0.step)⟩
     ·rw [if_neg c4] at H
      have c4b0 : decide (60 < ((rd_L1 l0 x3_1).length : Int)) = false := decide_eq_false c4
      have c4b1 : decide (60 < (rd_L1 l0 x3_1).length) = false := decide_eq_false (by omega)
      clear c4
      have H' := Aside0.mk H
      clear H
      have p148 : 0 ≤ (x3_1 : Int) := of_decide_eq_true (by first | (with_reducible assumption) | assumption)
      have q148 : x3_1 < (l0.length : Int) := of_decide_eq_true (by first | (with_reducible assumption) | assumption)
      obtain ⟨ad148, A148_0, c148_0, e148, hx148_0, hl148_0, hi148_0⟩ := at_L1 HR0.out x3_1 p148 q148
      cases e148
      have HR148_0 := Aside0.mk hi148_0
      have HC148_0 := Aside0.mk hl148_0
      clear hi148_0 hl148_0
      replace p148 := eq_true p148
      replace q148 := eq_true q148
      go_wp2
      go_roundg k1
      case measure => have := HK1.out; omega
      case rel => exact ⟨(wrap64 (x3_1 + 1)), (by first | rfl | (simp; done) | (simp [*]; done)), H', ⟨by have := HK1.out; omega⟩, by repeat (first | exact Drawn0.refl _ | apply Drawn0.step)⟩
    ·rw [if_neg c3] at H
     exact absurd H (by simp)
   ·rw [if_neg c2] at H
    have c2b0 : decide (x3_1 < (l0.length : Int)) = false := decide_eq_false c2
    clear c2
    obtain rfl := Option.some.inj H
    go_wp2
    go_ret
    exact ⟨by first | rfl | (simp; done) | (simp [*]; done), by repeat (first | exact Drawn0.refl _ | apply Drawn0.step)⟩
def bywashref10_Has.l0 : Nat → List Int → Int → Int → Option (Bool)
 | 0, _, _, _ => none
 | k + 1, x0, x1, x5 => if x5 < (x0.length : Int) then (if 0 ≤ x5 then (if (rd x0 x5) = x1 then (some true) else (bywashref10_Has.l0 k x0 x1 (wrap64 (x5 + 1)))) else (none)) else (some false)
def bywashref10_Has.f (k : Nat) (l0 : List Int) (a1 : Int) : Option (Bool) := bywashref10_Has.l0 k l0 a1 0
set_option maxHeartbeats 8000000 in
set_option maxRecDepth 100000 in
theorem bywashref10_Has.calls (k : Nat) (A0 : Option Addr) (c0 : Nat) (l0 : List Int) (a1 : Int) (r : Bool) (w : World) (hr0 : Kd.C (Kd.int .i64) w A0 l0.length l0) (hc0 : l0.length ≤ c0) (h : bywashref10_Has.f k l0 a1 = some r) :
  Calls Tryz.prog 63 #[.slice A0 l0.length c0, .int .i64 a1] w fun e w' => e = .returned (.bool r) ∧ Drawn0 w w' := by
 have HR0 := Aside0.mk hr0
 have HC0 := Aside0.mk hc0
 clear hr0 hc0
 have H : (bywashref10_Has.l0 k l0 a1 0) = some r := h
 clear h
 have H' := Aside0.mk H
 clear H
 go_enter Tryz.func63, Tryz.ntmps63
 go_wp2
 go_loopg [5] k (fun kq v5 w' => ∃ (x5_1 : Int), v5 = .int .i64 x5_1 ∧ Aside0 (bywashref10_Has.l0 kq l0 a1 x5_1 = some r) ∧ Aside0 (kq ≤ k) ∧ Drawn0 w w')
 case atStart => exact ⟨(0), (by first | rfl | (simp; done) | (simp [*]; done)), H', ⟨Nat.le_refl _⟩, by repeat (first | exact Drawn0.refl _ | apply Drawn0.step)⟩
 case round =>
  clear H'
  try clear p2
  obtain ⟨x5_1, rfl, HA, HK1, ⟨m1, rfl⟩⟩ := hrel
  cases gk with
  | zero => exact absurd HA.out (by simp [bywashref10_Has.l0])
  | succ k1 =>
   have H := HA.out
   clear HA
   simp only [bywashref10_Has.l0] at H
   by_cases c3 : x5_1 < (l0.length : Int)
   ·rw [if_pos c3] at H
    have c3b0 : decide (x5_1 < (l0.length : Int)) = true := decide_eq_true c3
    clear c3
    by_cases c4 : 0 ≤ x5_1
    ·rw [if_pos c4] at H
     have c4b0 : decide (0 ≤ x5_1) = true := decide_eq_true c4
     clear c4
     by_cases c5 : (rd l0 x5_1) = a1
     ·rw [if_pos c5] at H
      have c5b0 : ((rd l0 x5_1) == a1) = true := beq_iff_eq.mpr c5
      have c5b1 : ((rd l0 x5_1) != a1) = false := bne_eq_false_iff_eq.mpr c5
      clear c5
      obtain rfl := Option.some.inj H
      have p151 : 0 ≤ (x5_1 : Int) := of_decide_eq_true (by first | (with_reducible assumption) | assumption)
      have q151 : x5_1 < (l0.length : Int) := of_decide_eq_true (by first | (with_reducible assumption) | assumption)
      obtain ⟨ad151, e151, hx151_0⟩ := Kd.at_int HR0.out x5_1 p151 q151
      cases e151
      replace p151 := eq_true p151
      replace q151 := eq_true q151
      go_wp2
      go_ret
      exact ⟨by first | rfl | (simp; done) | (simp [*]; done), by repeat (first | exact Drawn0.refl _ | apply Drawn0.step)⟩
     ·rw [if_neg c5] at H
      have c5b0 : ((rd l0 x5_1) == a1) = false := beq_eq_false_iff_ne.mpr c5
      have c5b1 : ((rd l0 x5_1) != a1) = true := bne_iff_ne.mpr c5
      have H' := Aside0.mk H
      clear H
      have p151 : 0 ≤ (x5_1 : Int) := of_decide_eq_true (by first | (with_reducible assumption) | assumption)
      have q151 : x5_1 < (l0.length : Int) := of_decide_eq_true (by first | (with_reducible assumption) | assumption)
      obtain ⟨ad151, e151, hx151_0⟩ := Kd.at_int HR0.out x5_1 p151 q151
      cases e151
      replace p151 := eq_true p151
      replace q151 := eq_true q151
      go_wp2
      go_roundg k1
      case measure => have := HK1.out; omega
      case rel => exact ⟨(wrap64 (x5_1 + 1)), (by first | rfl | (simp; done) | (simp [*]; done)), H', ⟨by have := HK1.out; omega⟩, by repeat (first | exact Drawn0.refl _ | apply Drawn0.step)⟩
    ·rw [if_neg c4] at H
     exact absurd H (by simp)
   ·rw [if_neg c3] at H
    have c3b0 : decide (x5_1 < (l0.length : Int)) = false := decide_eq_false c3
    clear c3
    obtain rfl := Option.some.inj H
    go_wp2
    go_ret
    exact ⟨by first | rfl | (simp; done) | (simp [*]; done), by repeat (first | exact Drawn0.refl _ | apply Drawn0.step)⟩
mutual
def bywashref10_Clean.l0 : Nat → List (List Int) → List (List Int) → Int → Option ((List (List Int)))
 | 0, _, _, _ => none
 | k + 1, x0, x3, x4 => if x4 < (x0.length : Int) then (bywashref10_Clean.l1 k x0 x3 x4 ([] : List Int) 0) else (some x3)
def bywashref10_Clean.l1 : Nat → List (List Int) → List (List Int) → Int → List Int → Int → Option ((List (List Int)))
 | 0, _, _, _, _, _ => none
 | k + 1, x0, x3, x4, x5, x6 => if x6 < (x0.length : Int) then (if 0 ≤ x4 then (if x4 < (x0.length : Int) then ((bywashref10_Has.f k (rd_L1 x0 x4) x6).bind fun t153 => (if t153 = true then (if x5.length < 17592186044416 then (bywashref10_Clean.l1 k x0 x3 x4 (x5 ++ [x6]) (wrap64 (x6 + 1))) else (none)) else (bywashref10_Clean.l1 k x0 x3 x4 x5 (wrap64 (x6 + 1))))) else (none)) else (none)) else (if x3.length < 5864062014805 then (bywashref10_Clean.l0 k x0 (x3 ++ [x5]) (wrap64 (x4 + 1))) else (none))
end
def bywashref10_Clean.f (k : Nat) (l0 : List (List Int)) : Option ((List (List Int))) := bywashref10_Clean.l0 k l0 ([] : List (List Int)) 0
set_option maxHeartbeats 8000000 in
set_option maxRecDepth 100000 in
theorem bywashref10_Clean.calls (k : Nat) (A0 : Option Addr) (c0 : Nat) (l0 : List (List Int)) (r : List (List Int)) (w : World) (hr0 : Kd.C (Kd.slice 3 (Kd.int .i64)) w A0 l0.length l0) (hc0 : l0.length ≤ c0) (h : bywashref10_Clean.f k l0 = some r) :
  Calls Tryz.prog 40 #[.slice A0 l0.length c0] w fun e w' => ∃ v0_ : Value, e = .returned (v0_) ∧ Kd.S (Kd.slice 3 (Kd.int .i64)) 23 w' w.heap.size (fun _ => True) v0_ r ∧ Below w.heap.size w w' := by
 have HR0 := Aside0.mk hr0
 have HC0 := Aside0.mk hc0
 clear hr0 hc0
 have HB := Aside0.mk (Below.refl w.heap.size w)
 have H : (bywashref10_Clean.l0 k l0 ([] : List (List Int)) 0) = some r := h
 clear h
 have H' := Aside0.mk H
 clear H
 go_enter Tryz.func40, Tryz.ntmps40
 go_wp2
 go_loopg [3, 4] k (fun kq v3 v4 w' => ∃ (x3_1 : List (List Int)) (x4_1 : Int), v4 = .int .i64 x4_1 ∧ Aside0 (bywashref10_Clean.l0 kq l0 x3_1 x4_1 = some r) ∧ Aside0 (kq ≤ k) ∧ Aside0 (Kd.S (Kd.slice 3 (Kd.int .i64)) 23 w' w.heap.size (fun _ => True) v3 x3_1) ∧ Aside0 (Below w.heap.size w w'))
 case atStart => exact ⟨(([] : List (List Int))), (0), (by first | rfl | (simp; done) | (simp [*]; done)), H', ⟨Nat.le_refl _⟩, ⟨by first | exact Kd.S_nil _ _ _ _ _ | exact Kd.N_nil _ _ _ _ _ | exact Kd.V_nil _ _ _ _ _ | exact Kd.Q_nil _ _ _ _ _ | exact Kd.R_nil _ _ _ _ _⟩, ⟨by repeat (first | (with_reducible first | exact HB.out | apply below_alloc | apply pw_below_drewN | apply below_drew1) | exact HB.out)⟩⟩
 case round =>
  clear H'
  obtain ⟨x3_1, x4_1, rfl, HA, HK1, HO_3, HB⟩ := hrel
  cases gk with
  | zero => exact absurd HA.out (by simp [bywashref10_Clean.l0])
  | succ k1 =>
   have H := HA.out
   clear HA
   simp only [bywashref10_Clean.l0] at H
   by_cases c2 : x4_1 < (l0.length : Int)
   ·rw [if_pos c2] at H
    have c2b0 : decide (x4_1 < (l0.length : Int)) = true := decide_eq_true c2
    clear c2
    have H' := Aside0.mk H
    clear H
    go_wp2
    go_loopg [5, 6] k1 (fun kq v5 v6 w' => ∃ (x5_2 : List Int) (x6_2 : Int), v6 = .int .i64 x6_2 ∧ Aside0 (bywashref10_Clean.l1 kq l0 x3_1 x4_1 x5_2 x6_2 = some r) ∧ Aside0 (kq ≤ k1) ∧ Aside0 (Kd.S (Kd.slice 3 (Kd.int .i64)) 23 w' w.heap.size (fun k_ => some k_ ≠ (v5 : Value).ownBlock) u3 x3_1) ∧ Aside0 (Kd.R (Kd.int .i64) 3 w' w.heap.size (fun _ => True) v5 x5_2) ∧ Aside0 (Below w.heap.size w w'))
    case atStart => exact ⟨(([] : List Int)), (0), (by first | rfl | (simp; done) | (simp [*]; done)), H', ⟨Nat.le_refl _⟩, ⟨by (with_reducible repeat (first | apply Kd.S_alloc | apply Kd.S_drewN | apply Kd.S_drew)); exact Kd.S_mono HO_3.out (fun _ hk => (by simp [Value.ownBlock]))⟩, ⟨by first | exact Kd.R_nil _ _ _ _ _ | exact Kd.N_nil _ _ _ _ _ | exact Kd.V_nil _ _ _ _ _ | exact Kd.Q_nil _ _ _ _ _ | exact Kd.S_nil _ _ _ _ _⟩, ⟨by repeat (first | (with_reducible first | exact HB.out | apply below_alloc | apply pw_below_drewN | apply below_drew1) | exact HB.out)⟩⟩
    case round =>
     clear H'
     try clear c2
     try clear c2b0
     try clear p2
     obtain ⟨x5_2, x6_2, rfl, HA, HK2, HO_3, HO_5, HB⟩ := hrel
     cases gk with
     | zero => exact absurd HA.out (by simp [bywashref10_Clean.l1])
     | succ k2 =>
      have H := HA.out
      clear HA
      simp only [bywashref10_Clean.l1] at H
      by_cases c3 : x6_2 < (l0.length : Int)
      ·rw [if_pos c3] at H
       have c3b0 : decide (x6_2 < (l0.length : Int)) = true := decide_eq_true c3
       clear c3
       by_cases c4 : 0 ≤ x4_1
       ·rw [if_pos c4] at H
        have c4b0 : decide (0 ≤ x4_1) = true := decide_eq_true c4
        clear c4
        by_cases c5 : x4_1 < (l0.length : Int)
        ·rw [if_pos c5] at H
         have c5b0 : decide (x4_1 < (l0.length : Int)) = true := decide_eq_true c5
         clear c5
         replace H := Option.bind_eq_some_iff.mp H
         obtain ⟨t153, A60, H⟩ := H
         replace H : (if t153 = true then (if x5_2.length < 17592186044416 then (bywashref10_Clean.l1 k2 l0 x3_1 x4_1 (x5_2 ++ [x6_2]) (wrap64 (x6_2 + 1))) else (none)) else (bywashref10_Clean.l1 k2 l0 x3_1 x4_1 x5_2 (wrap64 (x6_2 + 1)))) = some r := H
         have A6 := Aside0.mk A60
         clear A60
         by_cases c7 : t153 = true
         ·subst c7
          have H1 : (if x5_2.length < 17592186044416 then (bywashref10_Clean.l1 k2 l0 x3_1 x4_1 (x5_2 ++ [x6_2]) (wrap64 (x6_2 + 1))) else (none)) = some r := by rw [if_pos rfl] at H; exact H
          clear H
          have H := H1
          clear H1
          by_cases c8 : x5_2.length < 17592186044416
          ·rw [if_pos c8] at H
           have LMc8 := Aside0.mk c8
           clear c8
           obtain ⟨y154, hy154⟩ : ∃ y_ : List Int, y_ = (x5_2 ++ [x6_2]) := ⟨_, rfl⟩
           replace H : (bywashref10_Clean.l1 k2 l0 x3_1 x4_1 y154 (wrap64 (x6_2 + 1))) = some r := by first | (rw [hy154]; with_reducible exact H) | (have H2_ := (Option.bind_some _ _).symm.trans H; rw [hy154]; with_reducible exact H2_) | (have H2_ := (Option.bind_some _ _).symm.trans H; with_reducible exact H2_) | with_reducible exact H | (rw [hy154]; exact H) | exact H
           have Ny154 := Aside0.mk hy154
           clear hy154
           have H' := Aside0.mk H
           clear H
           have p152 : 0 ≤ (x4_1 : Int) := of_decide_eq_true (by first | (with_reducible assumption) | assumption)
           have q152 : x4_1 < (l0.length : Int) := of_decide_eq_true (by first | (with_reducible assumption) | assumption)
           obtain ⟨ad152, A152_0, c152_0, e152, hx152_0, hl152_0, hi152_0⟩ := at_L1 HR0.out x4_1 p152 q152
           cases e152
           replace hx152_0 := (HB.out.cell (World.block_lt_of_cell? w _ hx152_0)).trans hx152_0
           have HR152_0 := Aside0.mk hi152_0
           have HC152_0 := Aside0.mk hl152_0
           clear hi152_0 hl152_0
           replace p152 := eq_true p152
           replace q152 := eq_true q152
           go_wp2_with (first | ((with_reducible refine gate_callee (f := 63) rfl ?_); refine goesL_ (some 24) rfl rfl Tryz.func63 (by kernel_rfl) rfl #[.slice A152_0 (rd_L1 l0 x4_1).length c152_0, .int .i64 x6_2] rfl (by (try simp only [List.map_toArray, List.map_cons, List.map_nil]); first | done | rfl | (simp only [List.length_drop, List.length_take]; rfl)) ?_; (with_reducible refine (bywashref10_Has.calls k2 _ _ (rd_L1 l0 x4_1) x6_2 true _ ?side1 ?side2 A6.out).mono ?_); (case side1 => repeat (first | exact (Kd.C_below HR152_0.out HB.out) | (with_reducible refine Kd.C_alloc ?_ _) | (with_reducible refine Kd.C_drewN ?_ _) | (with_reducible refine Kd.C_drew ?_))); (case side2 => exact HC152_0.out); rintro e w' ⟨rfl, ⟨nd, rfl⟩⟩; refine ⟨_, rfl, ?_⟩) | ((with_reducible refine gate_builtin (b := .append) (xs := #[.tmp 25, .tmp 27]) rfl ?_); at_builtin; refine Kd.R_append (Kd.int .i64) (w0 := w) w.heap.size rfl (.tmp 25) (.tmp 27) 23 3 (.int .i64 0) 8 rfl Tryz.underlying23 info3 rfl (by decide) (by omega) u5 x5_2 x6_2 [.int .i64 x6_2] (fun _ => True) (fun _ => False) rfl rfl ?aP (fun _ hk => hk.elim) ?aF ?aO ?aB ?aS ?aL ?_; (case aP => exact rfl); (case aB => exact (by repeat (first | (with_reducible first | exact HB.out | apply below_alloc | apply pw_below_drewN | apply below_drew1) | exact HB.out))); (case aF => exact (fun _ _ => trivial)); (case aO => exact (by (with_reducible repeat (first | apply Kd.R_alloc | apply Kd.R_drewN | apply Kd.R_drew)); exact HO_5.out)); (case aS => exact (below_size (by repeat (first | (with_reducible first | exact HB.out | apply below_alloc | apply pw_below_drewN | apply below_drew1) | exact HB.out)))); (case aL => have := LMc8.out; omega); intro v155 w9 ho hb hg hat; rw [← Ny154.out] at ho; have n0_ := Aside0.mk (Kd.S_after (ok := (fun _ => True)) (by (with_reducible repeat (first | apply Kd.S_alloc | apply Kd.S_drewN | apply Kd.S_drew)); exact Kd.S_mono HO_3.out (fun _ hk => ⟨trivial, hk⟩)) hg hat); have n1_ := Aside0.mk (hb); have n2_ := Aside0.mk (ho); clear HO_3; clear HB; clear HO_5; have HO_3 := n0_; have HB := n1_; have HO156 := n2_; clear n0_ n1_ n2_; clear ho hb hg hat))
           go_roundg k2
           case measure => have := HK1.out; have := HK2.out; omega
           case rel => exact ⟨(y154), (wrap64 (x6_2 + 1)), (by first | rfl | (simp; done) | (simp [*]; done)), H', ⟨by have := HK1.out; have := HK2.out; omega⟩, ⟨by (with_reducible repeat (first | apply Kd.S_alloc | apply Kd.S_drewN | apply Kd.S_drew)); exact Kd.S_mono HO_3.out (fun _ hk => hk.2)⟩, ⟨by (with_reducible repeat (first | apply Kd.R_alloc | apply Kd.R_drewN | apply Kd.R_drew)); exact HO156.out⟩, ⟨by repeat (first | (with_reducible first | exact HB.out | apply below_alloc | apply pw_below_drewN | apply below_drew1) | exact HB.out)⟩⟩
          ·rw [if_neg c8] at H
           exact absurd H (by simp)
         ·replace c7 := Bool.eq_false_iff.mpr c7
          subst c7
          have H1 : (bywashref10_Clean.l1 k2 l0 x3_1 x4_1 x5_2 (wrap64 (x6_2 + 1))) = some r := by rw [if_neg (show ¬ (false = true) by decide)] at H; exact H
          clear H
          have H := H1
          clear H1
          have H' := Aside0.mk H
          clear H
          have p152 : 0 ≤ (x4_1 : Int) := of_decide_eq_true (by first | (with_reducible assumption) | assumption)
          have q152 : x4_1 < (l0.length : Int) := of_decide_eq_true (by first | (with_reducible assumption) | assumption)
          obtain ⟨ad152, A152_0, c152_0, e152, hx152_0, hl152_0, hi152_0⟩ := at_L1 HR0.out x4_1 p152 q152
          cases e152
          replace hx152_0 := (HB.out.cell (World.block_lt_of_cell? w _ hx152_0)).trans hx152_0
          have HR152_0 := Aside0.mk hi152_0
          have HC152_0 := Aside0.mk hl152_0
          clear hi152_0 hl152_0
          replace p152 := eq_true p152
          replace q152 := eq_true q152
          go_wp2_with (first | ((with_reducible refine gate_callee (f := 63) rfl ?_); refine goesL_ (some 24) rfl rfl Tryz.func63 (by kernel_rfl) rfl #[.slice A152_0 (rd_L1 l0 x4_1).length c152_0, .int .i64 x6_2] rfl (by (try simp only [List.map_toArray, List.map_cons, List.map_nil]); first | done | rfl | (simp only [List.length_drop, List.length_take]; rfl)) ?_; (with_reducible refine (bywashref10_Has.calls k2 _ _ (rd_L1 l0 x4_1) x6_2 false _ ?side1 ?side2 A6.out).mono ?_); (case side1 => repeat (first | exact (Kd.C_below HR152_0.out HB.out) | (with_reducible refine Kd.C_alloc ?_ _) | (with_reducible refine Kd.C_drewN ?_ _) | (with_reducible refine Kd.C_drew ?_))); (case side2 => exact HC152_0.out); rintro e w' ⟨rfl, ⟨nd, rfl⟩⟩; refine ⟨_, rfl, ?_⟩))
          go_roundg k2
          case measure => have := HK1.out; have := HK2.out; omega
          case rel => exact ⟨(x5_2), (wrap64 (x6_2 + 1)), (by first | rfl | (simp; done) | (simp [*]; done)), H', ⟨by have := HK1.out; have := HK2.out; omega⟩, ⟨by (with_reducible repeat (first | apply Kd.S_alloc | apply Kd.S_drewN | apply Kd.S_drew)); exact HO_3.out⟩, ⟨by (with_reducible repeat (first | apply Kd.R_alloc | apply Kd.R_drewN | apply Kd.R_drew)); exact HO_5.out⟩, ⟨by repeat (first | (with_reducible first | exact HB.out | apply below_alloc | apply pw_below_drewN | apply below_drew1) | exact HB.out)⟩⟩
        ·rw [if_neg c5] at H
         exact absurd H (by simp)
       ·rw [if_neg c4] at H
        exact absurd H (by simp)
      ·rw [if_neg c3] at H
       have c3b0 : decide (x6_2 < (l0.length : Int)) = false := decide_eq_false c3
       clear c3
       by_cases c10 : x3_1.length < 5864062014805
       ·rw [if_pos c10] at H
        have LMc10 := Aside0.mk c10
        clear c10
        obtain ⟨y157, hy157⟩ : ∃ y_ : List (List Int), y_ = (x3_1 ++ [x5_2]) := ⟨_, rfl⟩
        replace H : (bywashref10_Clean.l0 k2 l0 y157 (wrap64 (x4_1 + 1))) = some r := by first | (rw [hy157]; with_reducible exact H) | (have H2_ := (Option.bind_some _ _).symm.trans H; rw [hy157]; with_reducible exact H2_) | (have H2_ := (Option.bind_some _ _).symm.trans H; with_reducible exact H2_) | with_reducible exact H | (rw [hy157]; exact H) | exact H
        have Ny157 := Aside0.mk hy157
        clear hy157
        have H' := Aside0.mk H
        clear H
        obtain ⟨Ao12, co12, eo12⟩ := Kd.R_slice HO_5.out
        subst eo12
        go_wp2_with (first | ((with_reducible refine gate_builtin (b := .append) (xs := #[.tmp 29, .tmp 31]) rfl ?_); at_builtin; refine Kd.S_append (Kd.slice 3 (Kd.int .i64)) (w0 := w) w.heap.size rfl (.tmp 29) (.tmp 31) 22 23 (.slice none 0 0) 24 rfl Tryz.underlying22 info23 rfl (by decide) (by omega) u3 x3_1 x5_2 [.slice Ao12 x5_2.length co12] (fun _ => True) (fun k_ => some k_ = (.slice Ao12 x5_2.length co12 : Value).ownBlock) rfl rfl ?aP (fun k_ hk_ => ((Kd.R_mono (ok' := fun k_ => ((fun _ => True)) k_ ∧ some k_ ≠ (u3 : Value).ownBlock) (Kd.R_apart' (HO_5.out) (Kd.S_typed HO_3.out) (by decide)) (fun k_ hk => ⟨trivial, hk.2⟩))).1 k_ hk_.symm) ?aF ?aO ?aB ?aS ?aL ?_; (case aP => exact Kd.M_row (Kd.R_mono (Kd.R_tight rfl (Kd.R_mono (ok' := fun k_ => ((fun _ => True)) k_ ∧ some k_ ≠ (u3 : Value).ownBlock) (Kd.R_apart' (HO_5.out) (Kd.S_typed HO_3.out) (by decide)) (fun k_ hk => ⟨trivial, hk.2⟩))) (fun _ h_ => h_))); (case aB => exact (by repeat (first | (with_reducible first | exact HB.out | apply below_alloc | apply pw_below_drewN | apply below_drew1) | exact HB.out))); (case aF => exact (fun _ _ => trivial)); (case aO => exact (by (with_reducible repeat (first | apply Kd.S_alloc | apply Kd.S_drewN | apply Kd.S_drew)); exact Kd.S_mono HO_3.out (fun k_ hk => ⟨trivial, fun e_ => hk e_⟩))); (case aS => exact (below_size (by repeat (first | (with_reducible first | exact HB.out | apply below_alloc | apply pw_below_drewN | apply below_drew1) | exact HB.out)))); (case aL => have := LMc10.out; omega); intro v158 w11 ho hb hg hat; rw [← Ny157.out] at ho; have n0_ := Aside0.mk (hb); have n1_ := Aside0.mk (ho); clear HB; clear HO_3; clear HO_5; have HB := n0_; have HO159 := n1_; clear n0_ n1_; clear ho hb hg hat))
        go_roundg k2
        case measure => have := HK1.out; have := HK2.out; omega
        case rel => exact ⟨(y157), (wrap64 (x4_1 + 1)), (by first | rfl | (simp; done) | (simp [*]; done)), H', ⟨by have := HK1.out; have := HK2.out; omega⟩, ⟨by (with_reducible repeat (first | apply Kd.S_alloc | apply Kd.S_drewN | apply Kd.S_drew)); exact HO159.out⟩, ⟨by repeat (first | (with_reducible first | exact HB.out | apply below_alloc | apply pw_below_drewN | apply below_drew1) | exact HB.out)⟩⟩
       ·rw [if_neg c10] at H
        exact absurd H (by simp)
   ·rw [if_neg c2] at H
    have c2b0 : decide (x4_1 < (l0.length : Int)) = false := decide_eq_false c2
    clear c2
    obtain rfl := Option.some.inj H
    go_wp2
    go_ret
    exact ⟨_, by first | rfl | (simp [errW_none, errW_some] <;> rfl) | (simp [*, errW_none, errW_some] <;> rfl) | (exfalso; (try simp_all); (try omega); done), by (with_reducible repeat (first | apply Kd.S_alloc | apply Kd.S_drewN | apply Kd.S_drew)); exact HO_3.out, by repeat (first | (with_reducible first | exact HB.out | apply below_alloc | apply pw_below_drewN | apply below_drew1) | exact HB.out)⟩
def bywashref10_is.f (l0 : List (List Int)) (a1 : Int) : Option (Bool) := if a1 ≥ 0 then (some (decide (a1 < (l0.length : Int)))) else (some false)
set_option maxHeartbeats 8000000 in
set_option maxRecDepth 100000 in
theorem bywashref10_is.calls (A0 : Option Addr) (c0 : Nat) (l0 : List (List Int)) (a1 : Int) (r : Bool) (w : World) (hr0 : Kd.C (Kd.slice 3 (Kd.int .i64)) w A0 l0.length l0) (hc0 : l0.length ≤ c0) (h : bywashref10_is.f l0 a1 = some r) :
  Calls Tryz.prog 55 #[.slice A0 l0.length c0, .int .i64 a1] w fun e w' => e = .returned (.bool r) ∧ Below w.heap.size w w' := by
 have HR0 := Aside0.mk hr0
 have HC0 := Aside0.mk hc0
 clear hr0 hc0
 have HB := Aside0.mk (Below.refl w.heap.size w)
 have H : (if a1 ≥ 0 then (some (decide (a1 < (l0.length : Int)))) else (some false)) = some r := h
 clear h
 by_cases c3 : a1 ≥ 0
 ·rw [if_pos c3] at H
  have c3b0 : decide (0 ≤ a1) = true := decide_eq_true c3
  clear c3
  obtain rfl := Option.some.inj H
  go_enter Tryz.func55, Tryz.ntmps55
  go_wp2
  go_ret
  exact ⟨by first | rfl | (simp [errW_none, errW_some] <;> rfl) | (simp [*, errW_none, errW_some] <;> rfl) | (exfalso; (try simp_all); (try omega); done), by repeat (first | (with_reducible first | exact HB.out | apply below_alloc | apply pw_below_drewN | apply below_drew1) | exact HB.out)⟩
 ·rw [if_neg c3] at H
  have c3b0 : decide (0 ≤ a1) = false := decide_eq_false c3
  clear c3
  obtain rfl := Option.some.inj H
  go_enter Tryz.func55, Tryz.ntmps55
  go_wp2
  go_ret
  exact ⟨by first | rfl | (simp [errW_none, errW_some] <;> rfl) | (simp [*, errW_none, errW_some] <;> rfl) | (exfalso; (try simp_all); (try omega); done), by repeat (first | (with_reducible first | exact HB.out | apply below_alloc | apply pw_below_drewN | apply below_drew1) | exact HB.out)⟩
mutual
def bywashref10_Reach.j0 : Nat → List (List Int) → List Bool → Option (List Bool)
 | 0, _, _ => none
 | k + 1, x0, x5 => (bywashref10_Clean.f k x0).bind fun t165 => (bywashref10_Reach.l0 k x0 x5 t165 0)
def bywashref10_Reach.l0 : Nat → List (List Int) → List Bool → List (List Int) → Int → Option (List Bool)
 | 0, _, _, _, _ => none
 | k + 1, x0, x5, x6, x7 => if x7 < (x0.length : Int) then (bywashref10_Reach.l1 k x0 x5 x6 x7 0) else (some x5)
def bywashref10_Reach.l1 : Nat → List (List Int) → List Bool → List (List Int) → Int → Int → Option (List Bool)
 | 0, _, _, _, _, _ => none
 | k + 1, x0, x5, x6, x7, x8 => if x8 < (x0.length : Int) then (bywashref10_Reach.l2 k x0 x5 x6 x7 x8 0) else (bywashref10_Reach.l0 k x0 x5 x6 (wrap64 (x7 + 1)))
def bywashref10_Reach.l2 : Nat → List (List Int) → List Bool → List (List Int) → Int → Int → Int → Option (List Bool)
 | 0, _, _, _, _, _, _ => none
 | k + 1, x0, x5, x6, x7, x8, x9 => if 0 ≤ x8 then (if x8 < (x6.length : Int) then (if x9 < ((rd_L1 x6 x8).length : Int) then (if x8 < (x5.length : Int) then (if rdOf false x5 x8 = true then (if 0 ≤ x9 then (if 0 ≤ (rd (rd_L1 x6 x8) x9) then (if (rd (rd_L1 x6 x8) x9) < (x5.length : Int) then (bywashref10_Reach.l2 k x0 (x5.set ((rd (rd_L1 x6 x8) x9) : Int).toNat true) x6 x7 x8 (wrap64 (x9 + 1))) else (none)) else (none)) else (none)) else (bywashref10_Reach.l1 k x0 x5 x6 x7 (wrap64 (x8 + 1)))) else (none)) else (bywashref10_Reach.l1 k x0 x5 x6 x7 (wrap64 (x8 + 1)))) else (none)) else (none)
end
def bywashref10_Reach.f (k : Nat) (l0 : List (List Int)) (a1 : Int) : Option (List Bool) := if 0 ≤ (l0.length : Int) then (if ((l0.length : Int) : Int).toNat ≤ 281474976710656 then ((some (List.replicate ((l0.length : Int) : Int).toNat false : List Bool)).bind fun y160 => ((bywashref10_is.f l0 a1).bind fun t163 => (if t163 = true then (if 0 ≤ a1 then (if a1 < (y160.length : Int) then (bywashref10_Reach.j0 k l0 (y160.set (a1 : Int).toNat true)) else (none)) else (none)) else (bywashref10_Reach.j0 k l0 y160)))) else (none)) else (none)
set_option maxHeartbeats 8000000 in
set_option maxRecDepth 100000 in
theorem bywashref10_Reach.calls (k : Nat) (A0 : Option Addr) (c0 : Nat) (l0 : List (List Int)) (a1 : Int) (r : List Bool) (w : World) (hr0 : Kd.C (Kd.slice 3 (Kd.int .i64)) w A0 l0.length l0) (hc0 : l0.length ≤ c0) (h : bywashref10_Reach.f k l0 a1 = some r) :
  Calls Tryz.prog 65 #[.slice A0 l0.length c0, .int .i64 a1] w fun e w' => ∃ v0_ : Value, e = .returned (v0_) ∧ Kd.R Kd.bool 4 w' w.heap.size (fun _ => True) v0_ r ∧ Below w.heap.size w w' := by
 have HR0 := Aside0.mk hr0
 have HC0 := Aside0.mk hc0
 clear hr0 hc0
 have HB := Aside0.mk (Below.refl w.heap.size w)
 have H : (if 0 ≤ (l0.length : Int) then (if ((l0.length : Int) : Int).toNat ≤ 281474976710656 then ((some (List.replicate ((l0.length : Int) : Int).toNat false : List Bool)).bind fun y160 => ((bywashref10_is.f l0 a1).bind fun t163 => (if t163 = true then (if 0 ≤ a1 then (if a1 < (y160.length : Int) then (bywashref10_Reach.j0 k l0 (y160.set (a1 : Int).toNat true)) else (none)) else (none)) else (bywashref10_Reach.j0 k l0 y160)))) else (none)) else (none)) = some r := h
 clear h
 by_cases c3 : 0 ≤ (l0.length : Int)
 ·rw [if_pos c3] at H
  have c3b0 := eq_true c3
  have c3b1 : decide (0 ≤ (l0.length : Int)) = true := decide_eq_true c3
  clear c3
  by_cases c4 : ((l0.length : Int) : Int).toNat ≤ 281474976710656
  ·rw [if_pos c4] at H
   have c4b0 := eq_true c4
   have c4b1 : decide (((l0.length : Int) : Int).toNat ≤ 281474976710656) = true := decide_eq_true c4
   clear c4
   obtain ⟨y160, hy160⟩ : ∃ y_ : List Bool, y_ = (List.replicate ((l0.length : Int) : Int).toNat false) := ⟨_, rfl⟩
   replace H : ((bywashref10_is.f l0 a1).bind fun t163 => (if t163 = true then (if 0 ≤ a1 then (if a1 < (y160.length : Int) then (bywashref10_Reach.j0 k l0 (y160.set (a1 : Int).toNat true)) else (none)) else (none)) else (bywashref10_Reach.j0 k l0 y160))) = some r := by first | (rw [hy160]; with_reducible exact H) | (have H2_ := (Option.bind_some _ _).symm.trans H; rw [hy160]; with_reducible exact H2_) | (have H2_ := (Option.bind_some _ _).symm.trans H; with_reducible exact H2_) | with_reducible exact H | (rw [hy160]; exact H) | exact H
   have Ny160 := Aside0.mk hy160
   clear hy160
   replace H := Option.bind_eq_some_iff.mp H
   obtain ⟨t163, A50, H⟩ := H
   replace H : (if t163 = true then (if 0 ≤ a1 then (if a1 < (y160.length : Int) then (bywashref10_Reach.j0 k l0 (y160.set (a1 : Int).toNat true)) else (none)) else (none)) else (bywashref10_Reach.j0 k l0 y160)) = some r := H
   have A5 := Aside0.mk A50
   clear A50
   have HC6 := Aside0.mk H
   clear H
   go_enter Tryz.func65, Tryz.ntmps65
   go_upto_if 15 with (first | ((with_reducible refine gate_dst (N := 12) rfl ?_); refine Kd.R_make Kd.bool _ 4 rfl (N := 12) rfl 56 _ _ rfl (l0.length : Int) rfl rfl Tryz.underlying56 (.bool false) 1 info4 rfl (by decide) (by omega) false (ok := fun _ => True) (okp := fun _ => True) rfl (fun _ hk => hk) trivial (of_decide_eq_true (by first | (with_reducible assumption) | assumption)) (Nat.le_trans (Nat.mul_le_mul_right _ (of_decide_eq_true (by first | (with_reducible assumption) | assumption) : (l0.length : Int).toNat ≤ 281474976710656)) (by omega)) (Below.refl _ _) (Nat.le_refl _) ?_; intro v161 w7 ho8 hb hg_ hnew_; clear hg_ hnew_; (first | rw [← Ny160.out] at ho8 | (simp only [Int.reduceToNat] at ho8; rw [← Ny160.out] at ho8)); have n0_ := Aside0.mk (Kd.R_lower ho8 (below_size (by repeat (first | (with_reducible first | exact HB.out | apply below_alloc | apply pw_below_drewN | apply below_drew1) | exact HB.out)))); have n1_ := Aside0.mk (below_step (by repeat (first | (with_reducible first | exact HB.out | apply below_alloc | apply pw_below_drewN | apply below_drew1) | exact HB.out)) hb); clear HB; have HO162 := n0_; have HB := n1_; clear n0_ n1_; clear hb ho8) | ((with_reducible refine gate_callee (f := 55) rfl ?_); refine goesL_ (some 15) rfl rfl Tryz.func55 (by kernel_rfl) rfl #[.slice A0 l0.length c0, .int .i64 a1] rfl (by (try simp only [List.map_toArray, List.map_cons, List.map_nil]); first | done | rfl | (simp only [List.length_drop, List.length_take]; rfl)) ?_; (with_reducible refine (bywashref10_is.calls _ _ l0 a1 t163 _ ?side1 ?side2 A5.out).mono ?_); (case side1 => repeat (first | exact (Kd.C_below HR0.out HB.out) | (with_reducible refine Kd.C_alloc ?_ _) | (with_reducible refine Kd.C_drewN ?_ _) | (with_reducible refine Kd.C_drew ?_))); (case side2 => exact HC0.out); rintro e w9 ⟨rfl, hb⟩; refine ⟨_, rfl, ?_⟩; have n0_ := Aside0.mk (Kd.R_below (by (with_reducible repeat (first | apply Kd.R_alloc | apply Kd.R_drewN | apply Kd.R_drew)); exact HO162.out) hb); have n1_ := Aside0.mk (below_step (by repeat (first | (with_reducible first | exact HB.out | apply below_alloc | apply pw_below_drewN | apply below_drew1) | exact HB.out)) hb); clear HO162; clear HB; have HO162 := n0_; have HB := n1_; clear n0_ n1_; (try clear hb); (try clear hb2); (try clear hk); (try clear hi)))
   (try simp only [Act.put, List.setIfInBounds_toArray, List.set_cons_zero, List.set_cons_succ])
   go_cut [] (fun wc => ∃ (kq : Nat) (x5_5 : List Bool), Aside0 (bywashref10_Reach.j0 kq l0 x5_5 = some r) ∧ Aside0 (kq ≤ k) ∧ Aside0 (Kd.R Kd.bool 4 wc w.heap.size (fun _ => True) v161 x5_5) ∧ Aside0 (Below w.heap.size w wc))
   case first =>
    have H := HC6.out
    clear HC6
    by_cases c10 : t163 = true
    ·subst c10
     have H1 : (if 0 ≤ a1 then (if a1 < (y160.length : Int) then (bywashref10_Reach.j0 k l0 (y160.set (a1 : Int).toNat true)) else (none)) else (none)) = some r := by rw [if_pos rfl] at H; exact H
     clear H
     have H := H1
     clear H1
     by_cases c11 : 0 ≤ a1
     ·rw [if_pos c11] at H
      have c11b0 : decide (0 ≤ a1) = true := decide_eq_true c11
      clear c11
      (first | rw [c11b0] | (simp only [i64_w, i32_w]; rw [c11b0]) | skip)
      by_cases c12 : a1 < (y160.length : Int)
      ·rw [if_pos c12] at H
       have c12b0 : decide (a1 < (y160.length : Int)) = true := decide_eq_true c12
       clear c12
       obtain ⟨y164, hy164⟩ : ∃ y_ : List Bool, y_ = (y160.set (a1 : Int).toNat true) := ⟨_, rfl⟩
       replace H : (bywashref10_Reach.j0 k l0 y164) = some r := by first | (rw [hy164]; with_reducible exact H) | (have H2_ := (Option.bind_some _ _).symm.trans H; rw [hy164]; with_reducible exact H2_) | (have H2_ := (Option.bind_some _ _).symm.trans H; with_reducible exact H2_) | with_reducible exact H | (rw [hy164]; exact H) | exact H
       have Ny164 := Aside0.mk hy164
       clear hy164
       have H' := Aside0.mk H
       clear H
       have p13 : 0 ≤ (a1 : Int) := of_decide_eq_true (by first | (with_reducible assumption) | assumption)
       have q13 : (a1 : Int) < ((y160.length : Int) : Int) := of_decide_eq_true (by first | (with_reducible assumption) | assumption)
       obtain ⟨go13, co13, eo13, gb13, gl13, cl13, HG13⟩ := Kd.R_form HO162.out (by omega)
       (first | cases eo13 | (injection eo13 with ea_ en_ ec_; (first | subst ea_ | (injection ea_ with ea_; subst ea_)); subst ec_; clear en_))
       have GB13 := Aside0.mk gb13
       have GG13 := Aside0.mk HG13
       clear gb13 gl13 HG13
       obtain ⟨hx13_0, hf13_0⟩ := Kd.R_celln false HO162.out (a1 : Int) p13 q13
       replace p13 := eq_true p13
       replace q13 := eq_true q13
       have HP14 := Kd.R_putg HO162.out (a1 : Int) true
       go_wp2_with (first | ((with_reducible refine gate_store (t := 4) (p := 18) rfl ?_); refine store_event (t := 4) (p := 18) (v := ?vo_w15) (w1 := (w9.setCell ⟨go13, (a1 : Int).toNat, none⟩ (.bool true))) ?hg ?ho ?hn ?hr ?_; (case ho => rfl); (case hg => rfl); (case hn => rfl); (case hr => first | (go_simp; done) | (go_simp; rfl)); intro w15 hw; have hg : w9.grownBy w15 (some go13) := (by rw [hw]; exact HP14.2); have hp_ : Kd.R Kd.bool 4 w15 w.heap.size (fun _ => True) (.slice (some ⟨go13, 0, none⟩) y160.length co13) y164 := (by rw [hw, Ny164.out]; exact HP14.1); clear HP14; have n0_ := Aside0.mk (hp_); have n1_ := Aside0.mk ((by rw [hw]; exact below_set (HB.out) GB13.out : Below w.heap.size w w15)); clear HO162; clear HB; have HO162 := n0_; have HB := n1_; clear n0_ n1_; clear hg hw hp_))
       go_meet
       case rel => exact ⟨_, (y164), H', ⟨by first | omega | exact Nat.le_refl _⟩, ⟨by (with_reducible repeat (first | apply Kd.R_alloc | apply Kd.R_drewN | apply Kd.R_drew)); exact HO162.out⟩, ⟨by repeat (first | (with_reducible first | exact HB.out | apply below_alloc | apply pw_below_drewN | apply below_drew1) | exact HB.out)⟩⟩
      ·rw [if_neg c12] at H
       exact absurd H (by simp)
     ·rw [if_neg c11] at H
      exact absurd H (by simp)
    ·replace c10 := Bool.eq_false_iff.mpr c10
     subst c10
     have H1 : (bywashref10_Reach.j0 k l0 y160) = some r := by rw [if_neg (show ¬ (false = true) by decide)] at H; exact H
     clear H
     have H := H1
     clear H1
     have H' := Aside0.mk H
     clear H
     go_wp2
     go_meet
     case rel => exact ⟨_, (y160), H', ⟨by first | omega | exact Nat.le_refl _⟩, ⟨by (with_reducible repeat (first | apply Kd.R_alloc | apply Kd.R_drewN | apply Kd.R_drew)); exact HO162.out⟩, ⟨by repeat (first | (with_reducible first | exact HB.out | apply below_alloc | apply pw_below_drewN | apply below_drew1) | exact HB.out)⟩⟩
   case rest =>
    clear HC6
    try clear c1
    try clear p1
    try clear q1
    try clear hx1
    try clear p2
    try clear c3
    try clear c3b0
    try clear c3b1
    try clear c4
    try clear c4b0
    try clear c4b1
    try clear c5
    try clear c6
    try clear c10
    try clear c11
    try clear c11b0
    try clear c12
    try clear c12b0
    try clear p13
    try clear q13
    try clear hx13
    try clear hf13
    try clear hx13_0
    try clear p13
    try clear q13
    obtain ⟨kq, x5_5, HA, HJ5, HO_5, HB⟩ := hcut
    cases kq with
    | zero => exact absurd HA.out (by simp [bywashref10_Reach.j0])
    | succ kj5 =>
     have H := HA.out
     clear HA
     simp only [bywashref10_Reach.j0] at H
     replace H := Option.bind_eq_some_iff.mp H
     obtain ⟨t165, A160, H⟩ := H
     replace H : (bywashref10_Reach.l0 kj5 l0 x5_5 t165 0) = some r := H
     have A16 := Aside0.mk A160
     clear A160
     have H' := Aside0.mk H
     clear H
     go_wp2_with (first | ((with_reducible refine gate_callee (f := 40) rfl ?_); refine goesL_ (some 20) rfl rfl Tryz.func40 (by kernel_rfl) rfl #[.slice A0 l0.length c0] rfl (by (try simp only [List.map_toArray, List.map_cons, List.map_nil]); first | done | rfl | (simp only [List.length_drop, List.length_take]; rfl)) ?_; (with_reducible refine (bywashref10_Clean.calls kj5 _ _ l0 t165 _ ?side1 ?side2 A16.out).mono ?_); (case side1 => repeat (first | exact (Kd.C_below HR0.out HB.out) | (with_reducible refine Kd.C_alloc ?_ _) | (with_reducible refine Kd.C_drewN ?_ _) | (with_reducible refine Kd.C_drew ?_))); (case side2 => exact HC0.out); rintro e w17 ⟨v166, rfl, ho0, hb⟩; refine ⟨_, rfl, ?_⟩; have n0_ := Aside0.mk (Kd.R_below (by (with_reducible repeat (first | apply Kd.R_alloc | apply Kd.R_drewN | apply Kd.R_drew)); exact HO_5.out) hb); have n1_ := Aside0.mk (Kd.S_lower ho0 (below_size (by repeat (first | (with_reducible first | exact HB.out | apply below_alloc | apply pw_below_drewN | apply below_drew1) | exact HB.out)))); have n2_ := Aside0.mk (below_step (by repeat (first | (with_reducible first | exact HB.out | apply below_alloc | apply pw_below_drewN | apply below_drew1) | exact HB.out)) hb); clear HO_5; clear HB; have HO_5 := n0_; have HO167 := n1_; have HB := n2_; clear n0_ n1_ n2_; (try clear hb); (try clear hb2); (try clear hk); (try clear hi); (try clear ho0)))
     go_loopg [7] kj5 (fun kq v7 w' => ∃ (x5_2 : List Bool) (x7_2 : Int), v7 = .int .i64 x7_2 ∧ Aside0 (bywashref10_Reach.l0 kq l0 x5_2 t165 x7_2 = some r) ∧ Aside0 (kq ≤ kj5) ∧ Aside0 (Kd.R Kd.bool 4 w' w.heap.size (fun _ => True) v161 x5_2) ∧ Aside0 (Kd.S (Kd.slice 3 (Kd.int .i64)) 23 w' w.heap.size (fun _ => True) v166 t165) ∧ Aside0 (Below w.heap.size w w'))
     case atStart => exact ⟨(x5_5), (0), (by first | rfl | (simp; done) | (simp [*]; done)), H', ⟨Nat.le_refl _⟩, ⟨by (with_reducible repeat (first | apply Kd.R_alloc | apply Kd.R_drewN | apply Kd.R_drew)); exact HO_5.out⟩, ⟨by (with_reducible repeat (first | apply Kd.S_alloc | apply Kd.S_drewN | apply Kd.S_drew)); exact HO167.out⟩, ⟨by repeat (first | (with_reducible first | exact HB.out | apply below_alloc | apply pw_below_drewN | apply below_drew1) | exact HB.out)⟩⟩
     case round =>
      clear H'
      try clear c1
      try clear p1
      try clear q1
      try clear hx1
      try clear p2
      try clear c3
      try clear c3b0
      try clear c3b1
      try clear c4
      try clear c4b0
      try clear c4b1
      try clear c5
      try clear c6
      try clear c10
      try clear c11
      try clear c11b0
      try clear c12
      try clear c12b0
      try clear p13
      try clear q13
      try clear hx13
      try clear hf13
      try clear hx13_0
      try clear p1
      try clear p13
      try clear p2
      try clear q1
      try clear q13
      obtain ⟨x5_2, x7_2, rfl, HA, HK2, HO_5, HO_6, HB⟩ := hrel
      cases gk with
      | zero => exact absurd HA.out (by simp [bywashref10_Reach.l0])
      | succ k2 =>
       have H := HA.out
       clear HA
       simp only [bywashref10_Reach.l0] at H
       by_cases c18 : x7_2 < (l0.length : Int)
       ·rw [if_pos c18] at H
        have c18b0 : decide (x7_2 < (l0.length : Int)) = true := decide_eq_true c18
        clear c18
        have H' := Aside0.mk H
        clear H
        go_wp2
        go_loopg [8] k2 (fun kq v8 w' => ∃ (x5_3 : List Bool) (x8_3 : Int), v8 = .int .i64 x8_3 ∧ Aside0 (bywashref10_Reach.l1 kq l0 x5_3 t165 x7_2 x8_3 = some r) ∧ Aside0 (kq ≤ k2) ∧ Aside0 (Kd.R Kd.bool 4 w' w.heap.size (fun _ => True) v161 x5_3) ∧ Aside0 (Kd.S (Kd.slice 3 (Kd.int .i64)) 23 w' w.heap.size (fun _ => True) v166 t165) ∧ Aside0 (Below w.heap.size w w'))
        case atStart => exact ⟨(x5_2), (0), (by first | rfl | (simp; done) | (simp [*]; done)), H', ⟨Nat.le_refl _⟩, ⟨by (with_reducible repeat (first | apply Kd.R_alloc | apply Kd.R_drewN | apply Kd.R_drew)); exact HO_5.out⟩, ⟨by (with_reducible repeat (first | apply Kd.S_alloc | apply Kd.S_drewN | apply Kd.S_drew)); exact HO_6.out⟩, ⟨by repeat (first | (with_reducible first | exact HB.out | apply below_alloc | apply pw_below_drewN | apply below_drew1) | exact HB.out)⟩⟩
        case round =>
         clear H'
         try clear c1
         try clear p1
         try clear q1
         try clear hx1
         try clear p2
         try clear c3
         try clear c3b0
         try clear c3b1
         try clear c4
         try clear c4b0
         try clear c4b1
         try clear c5
         try clear c6
         try clear c10
         try clear c11
         try clear c11b0
         try clear c12
         try clear c12b0
         try clear p13
         try clear q13
         try clear hx13
         try clear hf13
         try clear c18
         try clear c18b0
         try clear hx13_0
         try clear p1
         try clear p13
         try clear p2
         try clear q1
         try clear q13
         obtain ⟨x5_3, x8_3, rfl, HA, HK3, HO_5, HO_6, HB⟩ := hrel
         cases gk with
         | zero => exact absurd HA.out (by simp [bywashref10_Reach.l1])
         | succ k3 =>
          have H := HA.out
          clear HA
          simp only [bywashref10_Reach.l1] at H
          by_cases c19 : x8_3 < (l0.length : Int)
          ·rw [if_pos c19] at H
           have c19b0 : decide (x8_3 < (l0.length : Int)) = true := decide_eq_true c19
           clear c19
           have H' := Aside0.mk H
           clear H
           go_wp2
           go_loopg [9] k3 (fun kq v9 w' => ∃ (x5_4 : List Bool) (x9_4 : Int), v9 = .int .i64 x9_4 ∧ Aside0 (bywashref10_Reach.l2 kq l0 x5_4 t165 x7_2 x8_3 x9_4 = some r) ∧ Aside0 (kq ≤ k3) ∧ Aside0 (Kd.R Kd.bool 4 w' w.heap.size (fun _ => True) v161 x5_4) ∧ Aside0 (Kd.S (Kd.slice 3 (Kd.int .i64)) 23 w' w.heap.size (fun _ => True) v166 t165) ∧ Aside0 (Below w.heap.size w w'))
           case atStart => exact ⟨(x5_3), (0), (by first | rfl | (simp; done) | (simp [*]; done)), H', ⟨Nat.le_refl _⟩, ⟨by (with_reducible repeat (first | apply Kd.R_alloc | apply Kd.R_drewN | apply Kd.R_drew)); exact HO_5.out⟩, ⟨by (with_reducible repeat (first | apply Kd.S_alloc | apply Kd.S_drewN | apply Kd.S_drew)); exact HO_6.out⟩, ⟨by repeat (first | (with_reducible first | exact HB.out | apply below_alloc | apply pw_below_drewN | apply below_drew1) | exact HB.out)⟩⟩
           case round =>
            clear H'
            try clear c1
            try clear p1
            try clear q1
            try clear hx1
            try clear p2
            try clear c3
            try clear c3b0
            try clear c3b1
            try clear c4
            try clear c4b0
            try clear c4b1
            try clear c5
            try clear c6
            try clear c10
            try clear c11
            try clear c11b0
            try clear c12
            try clear c12b0
            try clear p13
            try clear q13
            try clear hx13
            try clear hf13
            try clear c18
            try clear c18b0
            try clear c19
            try clear c19b0
            try clear hx13_0
            try clear p1
            try clear p13
            try clear p2
            try clear q1
            try clear q13
            obtain ⟨x5_4, x9_4, rfl, HA, HK4, HO_5, HO_6, HB⟩ := hrel
            cases gk with
            | zero => exact absurd HA.out (by simp [bywashref10_Reach.l2])
            | succ k4 =>
             have H := HA.out
             clear HA
             simp only [bywashref10_Reach.l2] at H
             by_cases c20 : 0 ≤ x8_3
             ·rw [if_pos c20] at H
              have c20b0 : decide (0 ≤ x8_3) = true := decide_eq_true c20
              clear c20
              by_cases c21 : x8_3 < (t165.length : Int)
              ·rw [if_pos c21] at H
               have c21b0 : decide (x8_3 < (t165.length : Int)) = true := decide_eq_true c21
               clear c21
               by_cases c22 : x9_4 < ((rd_L1 t165 x8_3).length : Int)
               ·rw [if_pos c22] at H
                have c22b0 : decide (x9_4 < ((rd_L1 t165 x8_3).length : Int)) = true := decide_eq_true c22
                clear c22
                by_cases c23 : x8_3 < (x5_4.length : Int)
                ·rw [if_pos c23] at H
                 have c23b0 : decide (x8_3 < (x5_4.length : Int)) = true := decide_eq_true c23
                 clear c23
                 obtain ⟨bq24, hbq24⟩ : ∃ b_ : Bool, b_ = (rdOf false x5_4 x8_3) := ⟨_, rfl⟩
                 replace H : (if bq24 = true then (if 0 ≤ x9_4 then (if 0 ≤ (rd (rd_L1 t165 x8_3) x9_4) then (if (rd (rd_L1 t165 x8_3) x9_4) < (x5_4.length : Int) then (bywashref10_Reach.l2 k4 l0 (x5_4.set ((rd (rd_L1 t165 x8_3) x9_4) : Int).toNat true) t165 x7_2 x8_3 (wrap64 (x9_4 + 1))) else (none)) else (none)) else (none)) else (bywashref10_Reach.l1 k4 l0 x5_4 t165 x7_2 (wrap64 (x8_3 + 1)))) = some r := by rw [← hbq24] at H; exact H
                 have Nbq24 := Aside0.mk hbq24
                 clear hbq24
                 by_cases c25 : bq24 = true
                 ·subst c25
                  have H1 : (if 0 ≤ x9_4 then (if 0 ≤ (rd (rd_L1 t165 x8_3) x9_4) then (if (rd (rd_L1 t165 x8_3) x9_4) < (x5_4.length : Int) then (bywashref10_Reach.l2 k4 l0 (x5_4.set ((rd (rd_L1 t165 x8_3) x9_4) : Int).toNat true) t165 x7_2 x8_3 (wrap64 (x9_4 + 1))) else (none)) else (none)) else (none)) = some r := by rw [if_pos rfl] at H; exact H
                  clear H
                  have H := H1
                  clear H1
                  by_cases c26 : 0 ≤ x9_4
                  ·rw [if_pos c26] at H
                   have c26b0 : decide (0 ≤ x9_4) = true := decide_eq_true c26
                   clear c26
                   by_cases c27 : 0 ≤ (rd (rd_L1 t165 x8_3) x9_4)
                   ·rw [if_pos c27] at H
                    have c27b0 : decide (0 ≤ (rd (rd_L1 t165 x8_3) x9_4)) = true := decide_eq_true c27
                    clear c27
                    by_cases c28 : (rd (rd_L1 t165 x8_3) x9_4) < (x5_4.length : Int)
                    ·rw [if_pos c28] at H
                     have c28b0 : decide ((rd (rd_L1 t165 x8_3) x9_4) < (x5_4.length : Int)) = true := decide_eq_true c28
                     clear c28
                     obtain ⟨y172, hy172⟩ : ∃ y_ : List Bool, y_ = (x5_4.set ((rd (rd_L1 t165 x8_3) x9_4) : Int).toNat true) := ⟨_, rfl⟩
                     replace H : (bywashref10_Reach.l2 k4 l0 y172 t165 x7_2 x8_3 (wrap64 (x9_4 + 1))) = some r := by first | (rw [hy172]; with_reducible exact H) | (have H2_ := (Option.bind_some _ _).symm.trans H; rw [hy172]; with_reducible exact H2_) | (have H2_ := (Option.bind_some _ _).symm.trans H; with_reducible exact H2_) | with_reducible exact H | (rw [hy172]; exact H) | exact H
                     have Ny172 := Aside0.mk hy172
                     clear hy172
                     have H' := Aside0.mk H
                     clear H
                     obtain ⟨Ao30, co30, eo30⟩ := Kd.S_slice HO_6.out
                     subst eo30
                     have p168 : 0 ≤ (x8_3 : Int) := of_decide_eq_true (by first | (with_reducible assumption) | assumption)
                     have q168 : x8_3 < (t165.length : Int) := of_decide_eq_true (by first | (with_reducible assumption) | assumption)
                     obtain ⟨ad168, A168_0, c168_0, e168, hx168_0, hl168_0, hi168_0⟩ := at_L1 (Kd.S_reads' HO_6.out).2.2 x8_3 p168 q168
                     cases e168
                     obtain ⟨ce168, hce168, hMe168, hcc168⟩ := Kd.S_get HO_6.out [] x8_3 p168 (by first | exact q168 | exact of_decide_eq_true (by first | (with_reducible assumption) | assumption) | (have e_ := (Kd.S_reads' HO_6.out).1; omega))
                     obtain ⟨ve168_0, rfl, ge168_0⟩ := hMe168
                     have hv168_0 := hcc168 0 _ rfl
                     rw [Nat.add_zero, show ((Kd.slice 3 (Kd.int .i64))).sz = 1 from rfl, Nat.mul_one] at hv168_0
                     replace hv168_0 := Option.some.inj (hv168_0.symm.trans hx168_0)
                     rw [hv168_0] at ge168_0
                     have HL168_0 := Aside0.mk (show Kd.R (Kd.int .i64) 3 _ _ _ _ (rd_L1 t165 x8_3) from ge168_0)
                     clear hv168_0 ge168_0
                     clear hcc168 hce168
                     have HR168_0 := Aside0.mk hi168_0
                     have HC168_0 := Aside0.mk hl168_0
                     clear hi168_0 hl168_0
                     replace p168 := eq_true p168
                     replace q168 := eq_true q168
                     obtain ⟨Ao31, co31, eo31⟩ := Kd.R_slice HO_5.out
                     subst eo31
                     have p169 : 0 ≤ (x8_3 : Int) := of_decide_eq_true (by first | (with_reducible assumption) | assumption)
                     have q169 : x8_3 < (x5_4.length : Int) := of_decide_eq_true (by first | (with_reducible assumption) | assumption)
                     obtain ⟨ad169, e169, hx169_0⟩ := Kd.at_bool (Kd.R_reads' HO_5.out).2.2 x8_3 p169 q169
                     (try rw [← Nbq24.out] at hx169_0)
                     cases e169
                     replace p169 := eq_true p169
                     replace q169 := eq_true q169
                     have p170 : 0 ≤ (x8_3 : Int) := of_decide_eq_true (by first | (with_reducible assumption) | assumption)
                     have q170 : x8_3 < (t165.length : Int) := of_decide_eq_true (by first | (with_reducible assumption) | assumption)
                     obtain ⟨ad170, A170_0, c170_0, e170, hx170_0, hl170_0, hi170_0⟩ := at_L1 (Kd.S_reads' HO_6.out).2.2 x8_3 p170 q170
                     obtain rfl : ad168 = ad170 := (by injection e170)
                     obtain ⟨ce170, hce170, hMe170, hcc170⟩ := Kd.S_get HO_6.out [] x8_3 p170 (by first | exact q170 | exact of_decide_eq_true (by first | (with_reducible assumption) | assumption) | (have e_ := (Kd.S_reads' HO_6.out).1; omega))
                     obtain ⟨ve170_0, rfl, ge170_0⟩ := hMe170
                     have hv170_0 := hcc170 0 _ rfl
                     rw [Nat.add_zero, show ((Kd.slice 3 (Kd.int .i64))).sz = 1 from rfl, Nat.mul_one] at hv170_0
                     replace hv170_0 := Option.some.inj (hv170_0.symm.trans hx170_0)
                     rw [hv170_0] at ge170_0
                     have HL170_0 := Aside0.mk (show Kd.R (Kd.int .i64) 3 _ _ _ _ (rd_L1 t165 x8_3) from ge170_0)
                     clear hv170_0 ge170_0
                     clear hcc170 hce170
                     have HR170_0 := Aside0.mk hi170_0
                     have HC170_0 := Aside0.mk hl170_0
                     clear hi170_0 hl170_0
                     replace p170 := eq_true p170
                     replace q170 := eq_true q170
                     have ea_ := Option.some.inj (hx168_0.symm.trans hx170_0)
                     injection ea_ with ea_ en_ ec_
                     subst ea_
                     subst ec_
                     clear en_
                     have p171 : 0 ≤ (x9_4 : Int) := of_decide_eq_true (by first | (with_reducible assumption) | assumption)
                     have q171 : x9_4 < ((rd_L1 t165 x8_3).length : Int) := of_decide_eq_true (by first | (with_reducible assumption) | assumption)
                     obtain ⟨ad171, e171, hx171_0⟩ := Kd.at_int (by repeat (first | (with_reducible exact HR170_0.out) | (with_reducible refine Kd.C_alloc ?_ _) | (with_reducible refine Kd.C_drewN ?_ _) | (with_reducible refine Kd.C_drew ?_) | exact HR170_0.out)) x9_4 p171 q171
                     cases e171
                     replace p171 := eq_true p171
                     replace q171 := eq_true q171
                     have p29 : 0 ≤ ((rd (rd_L1 t165 x8_3) x9_4) : Int) := of_decide_eq_true (by first | (with_reducible assumption) | assumption)
                     have q29 : ((rd (rd_L1 t165 x8_3) x9_4) : Int) < ((x5_4.length : Int) : Int) := of_decide_eq_true (by first | (with_reducible assumption) | assumption)
                     obtain ⟨go29, co29, eo29, gb29, gl29, cl29, HG29⟩ := Kd.R_form HO_5.out (by omega)
                     (first | cases eo29 | (injection eo29 with ea_ en_ ec_; (first | subst ea_ | (injection ea_ with ea_; subst ea_)); subst ec_; clear en_))
                     have GB29 := Aside0.mk gb29
                     have GG29 := Aside0.mk HG29
                     clear gb29 gl29 HG29
                     (first | simp only [add_plain] at hx169_0 | skip)
                     obtain ⟨hx29_0, hf29_0⟩ := Kd.R_celln false HO_5.out ((rd (rd_L1 t165 x8_3) x9_4) : Int) p29 q29
                     replace p29 := eq_true p29
                     replace q29 := eq_true q29
                     have HP32 := Kd.R_putg HO_5.out ((rd (rd_L1 t165 x8_3) x9_4) : Int) true
                     go_wp2_with (first | ((with_reducible refine gate_store (t := 4) (p := 56) rfl ?_); refine store_event (t := 4) (p := 56) (v := ?vo_w33) (w1 := (wr.setCell ⟨go29, ((rd (rd_L1 t165 x8_3) x9_4) : Int).toNat, none⟩ (.bool true))) ?hg ?ho ?hn ?hr ?_; (case ho => rfl); (case hg => rfl); (case hn => rfl); (case hr => first | (go_simp; done) | (go_simp; rfl)); intro w33 hw; have hg : wr.grownBy w33 (some go29) := (by rw [hw]; exact HP32.2); have hp_ : Kd.R Kd.bool 4 w33 w.heap.size (fun _ => True) (.slice (some ⟨go29, 0, none⟩) x5_4.length co31) y172 := (by rw [hw, Ny172.out]; exact HP32.1); clear HP32; have n0_ := Aside0.mk (hp_); have n1_ := Aside0.mk (Kd.S_over' (v := (.slice (some ⟨go29, 0, none⟩) x5_4.length co31)) (by (with_reducible repeat (first | apply Kd.S_alloc | apply Kd.S_drewN | apply Kd.S_drew)); exact HO_6.out) (Kd.R_typed HO_5.out) (by decide) hg); have n2_ := Aside0.mk (Kd.R_over' (v := (.slice (some ⟨go29, 0, none⟩) x5_4.length co31)) (by (with_reducible repeat (first | apply Kd.R_alloc | apply Kd.R_drewN | apply Kd.R_drew)); exact HL168_0.out) (Kd.R_typed HO_5.out) (by decide) hg); have n3_ := Aside0.mk (Kd.R_over' (v := (.slice (some ⟨go29, 0, none⟩) x5_4.length co31)) (by (with_reducible repeat (first | apply Kd.R_alloc | apply Kd.R_drewN | apply Kd.R_drew)); exact HL170_0.out) (Kd.R_typed HO_5.out) (by decide) hg); have n4_ := Aside0.mk ((by rw [hw]; exact below_set (HB.out) GB29.out : Below w.heap.size w w33)); clear HO_5; clear HO_6; clear HL168_0; clear HL170_0; clear HB; have HO_5 := n0_; have HO_6 := n1_; have HL168_0 := n2_; have HL170_0 := n3_; have HB := n4_; clear n0_ n1_ n2_ n3_ n4_; clear hg hw hp_))
                     go_roundg k4
                     case measure => have := HJ5.out; have := HK2.out; have := HK3.out; have := HK4.out; omega
                     case rel => exact ⟨(y172), (wrap64 (x9_4 + 1)), (by first | rfl | (simp; done) | (simp [*]; done)), H', ⟨by have := HJ5.out; have := HK2.out; have := HK3.out; have := HK4.out; omega⟩, ⟨by (with_reducible repeat (first | apply Kd.R_alloc | apply Kd.R_drewN | apply Kd.R_drew)); exact HO_5.out⟩, ⟨by (with_reducible repeat (first | apply Kd.S_alloc | apply Kd.S_drewN | apply Kd.S_drew)); exact HO_6.out⟩, ⟨by repeat (first | (with_reducible first | exact HB.out | apply below_alloc | apply pw_below_drewN | apply below_drew1) | exact HB.out)⟩⟩
                    ·rw [if_neg c28] at H
                     exact absurd H (by simp)
                   ·rw [if_neg c27] at H
                    exact absurd H (by simp)
                  ·rw [if_neg c26] at H
                   exact absurd H (by simp)
                 ·replace c25 := Bool.eq_false_iff.mpr c25
                  subst c25
                  have H1 : (bywashref10_Reach.l1 k4 l0 x5_4 t165 x7_2 (wrap64 (x8_3 + 1))) = some r := by rw [if_neg (show ¬ (false = true) by decide)] at H; exact H
                  clear H
                  have H := H1
                  clear H1
                  have H' := Aside0.mk H
                  clear H
                  obtain ⟨Ao34, co34, eo34⟩ := Kd.S_slice HO_6.out
                  subst eo34
                  have p168 : 0 ≤ (x8_3 : Int) := of_decide_eq_true (by first | (with_reducible assumption) | assumption)
                  have q168 : x8_3 < (t165.length : Int) := of_decide_eq_true (by first | (with_reducible assumption) | assumption)
                  obtain ⟨ad168, A168_0, c168_0, e168, hx168_0, hl168_0, hi168_0⟩ := at_L1 (Kd.S_reads' HO_6.out).2.2 x8_3 p168 q168
                  cases e168
                  obtain ⟨ce168, hce168, hMe168, hcc168⟩ := Kd.S_get HO_6.out [] x8_3 p168 (by first | exact q168 | exact of_decide_eq_true (by first | (with_reducible assumption) | assumption) | (have e_ := (Kd.S_reads' HO_6.out).1; omega))
                  obtain ⟨ve168_0, rfl, ge168_0⟩ := hMe168
                  have hv168_0 := hcc168 0 _ rfl
                  rw [Nat.add_zero, show ((Kd.slice 3 (Kd.int .i64))).sz = 1 from rfl, Nat.mul_one] at hv168_0
                  replace hv168_0 := Option.some.inj (hv168_0.symm.trans hx168_0)
                  rw [hv168_0] at ge168_0
                  have HL168_0 := Aside0.mk (show Kd.R (Kd.int .i64) 3 _ _ _ _ (rd_L1 t165 x8_3) from ge168_0)
                  clear hv168_0 ge168_0
                  clear hcc168 hce168
                  have HR168_0 := Aside0.mk hi168_0
                  have HC168_0 := Aside0.mk hl168_0
                  clear hi168_0 hl168_0
                  replace p168 := eq_true p168
                  replace q168 := eq_true q168
                  obtain ⟨Ao35, co35, eo35⟩ := Kd.R_slice HO_5.out
                  subst eo35
                  have p169 : 0 ≤ (x8_3 : Int) := of_decide_eq_true (by first | (with_reducible assumption) | assumption)
                  have q169 : x8_3 < (x5_4.length : Int) := of_decide_eq_true (by first | (with_reducible assumption) | assumption)
                  obtain ⟨ad169, e169, hx169_0⟩ := Kd.at_bool (Kd.R_reads' HO_5.out).2.2 x8_3 p169 q169
                  (try rw [← Nbq24.out] at hx169_0)
                  cases e169
                  replace p169 := eq_true p169
                  replace q169 := eq_true q169
                  go_wp2
                  go_roundg k4
                  case measure => have := HJ5.out; have := HK2.out; have := HK3.out; have := HK4.out; omega
                  case rel => exact ⟨(x5_4), (wrap64 (x8_3 + 1)), (by first | rfl | (simp; done) | (simp [*]; done)), H', ⟨by have := HJ5.out; have := HK2.out; have := HK3.out; have := HK4.out; omega⟩, ⟨by (with_reducible repeat (first | apply Kd.R_alloc | apply Kd.R_drewN | apply Kd.R_drew)); exact HO_5.out⟩, ⟨by (with_reducible repeat (first | apply Kd.S_alloc | apply Kd.S_drewN | apply Kd.S_drew)); exact HO_6.out⟩, ⟨by repeat (first | (with_reducible first | exact HB.out | apply below_alloc | apply pw_below_drewN | apply below_drew1) | exact HB.out)⟩⟩
                ·rw [if_neg c23] at H
                 exact absurd H (by simp)
               ·rw [if_neg c22] at H
                have c22b0 : decide (x9_4 < ((rd_L1 t165 x8_3).length : Int)) = false := decide_eq_false c22
                clear c22
                have H' := Aside0.mk H
                clear H
                obtain ⟨Ao36, co36, eo36⟩ := Kd.S_slice HO_6.out
                subst eo36
                have p168 : 0 ≤ (x8_3 : Int) := of_decide_eq_true (by first | (with_reducible assumption) | assumption)
                have q168 : x8_3 < (t165.length : Int) := of_decide_eq_true (by first | (with_reducible assumption) | assumption)
                obtain ⟨ad168, A168_0, c168_0, e168, hx168_0, hl168_0, hi168_0⟩ := at_L1 (Kd.S_reads' HO_6.out).2.2 x8_3 p168 q168
                cases e168
                obtain ⟨ce168, hce168, hMe168, hcc168⟩ := Kd.S_get HO_6.out [] x8_3 p168 (by first | exact q168 | exact of_decide_eq_true (by first | (with_reducible assumption) | assumption) | (have e_ := (Kd.S_reads' HO_6.out).1; omega))
                obtain ⟨ve168_0, rfl, ge168_0⟩ := hMe168
                have hv168_0 := hcc168 0 _ rfl
                rw [Nat.add_zero, show ((Kd.slice 3 (Kd.int .i64))).sz = 1 from rfl, Nat.mul_one] at hv168_0
                replace hv168_0 := Option.some.inj (hv168_0.symm.trans hx168_0)
                rw [hv168_0] at ge168_0
                have HL168_0 := Aside0.mk (show Kd.R (Kd.int .i64) 3 _ _ _ _ (rd_L1 t165 x8_3) from ge168_0)
                clear hv168_0 ge168_0
                clear hcc168 hce168
                have HR168_0 := Aside0.mk hi168_0
                have HC168_0 := Aside0.mk hl168_0
                clear hi168_0 hl168_0
                replace p168 := eq_true p168
                replace q168 := eq_true q168
                go_wp2
                go_roundg k4
                case measure => have := HJ5.out; have := HK2.out; have := HK3.out; have := HK4.out; omega
                case rel => exact ⟨(x5_4), (wrap64 (x8_3 + 1)), (by first | rfl | (simp; done) | (simp [*]; done)), H', ⟨by have := HJ5.out; have := HK2.out; have := HK3.out; have := HK4.out; omega⟩, ⟨by (with_reducible repeat (first | apply Kd.R_alloc | apply Kd.R_drewN | apply Kd.R_drew)); exact HO_5.out⟩, ⟨by (with_reducible repeat (first | apply Kd.S_alloc | apply Kd.S_drewN | apply Kd.S_drew)); exact HO_6.out⟩, ⟨by repeat (first | (with_reducible first | exact HB.out | apply below_alloc | apply pw_below_drewN | apply below_drew1) | exact HB.out)⟩⟩
              ·rw [if_neg c21] at H
               exact absurd H (by simp)
             ·rw [if_neg c20] at H
              exact absurd H (by simp)
          ·rw [if_neg c19] at H
           have c19b0 : decide (x8_3 < (l0.length : Int)) = false := decide_eq_false c19
           clear c19
           have H' := Aside0.mk H
           clear H
           go_wp2
           go_roundg k3
           case measure => have := HJ5.out; have := HK2.out; have := HK3.out; omega
           case rel => exact ⟨(x5_3), (wrap64 (x7_2 + 1)), (by first | rfl | (simp; done) | (simp [*]; done)), H', ⟨by have := HJ5.out; have := HK2.out; have := HK3.out; omega⟩, ⟨by (with_reducible repeat (first | apply Kd.R_alloc | apply Kd.R_drewN | apply Kd.R_drew)); exact HO_5.out⟩, ⟨by (with_reducible repeat (first | apply Kd.S_alloc | apply Kd.S_drewN | apply Kd.S_drew)); exact HO_6.out⟩, ⟨by repeat (first | (with_reducible first | exact HB.out | apply below_alloc | apply pw_below_drewN | apply below_drew1) | exact HB.out)⟩⟩
       ·rw [if_neg c18] at H
        have c18b0 : decide (x7_2 < (l0.length : Int)) = false := decide_eq_false c18
        clear c18
        obtain rfl := Option.some.inj H
        go_wp2
        go_ret
        exact ⟨_, by first | rfl | (simp [errW_none, errW_some] <;> rfl) | (simp [*, errW_none, errW_some] <;> rfl) | (exfalso; (try simp_all); (try omega); done), by (with_reducible repeat (first | apply Kd.R_alloc | apply Kd.R_drewN | apply Kd.R_drew)); exact HO_5.out, by repeat (first | (with_reducible first | exact HB.out | apply below_alloc | apply pw_below_drewN | apply below_drew1) | exact HB.out)⟩
  ·rw [if_neg c4] at H
   exact absurd H (by simp)
 ·rw [if_neg c3] at H
  exact absurd H (by simp)
def bywashref10_With.f (k : Nat) (l0 : List (List Int)) (a1 : Int) (a2 : Int) : Option ((List (List Int))) := (bywashref10_Clean.f k l0).bind fun t229 => ((bywashref10_is.f l0 a1).bind fun t232 => (if t232 = true then ((bywashref10_is.f l0 a2).bind fun t233 => (if t233 = true then (if 0 ≤ a1 then (if a1 < (t229.length : Int) then (if (rd_L1 t229 a1).length < 17592186044416 then ((bywashref10_Clean.f k (t229.set (a1 : Int).toNat ((rd_L1 t229 a1) ++ [a2]))).bind fun t239 => (some t239)) else (none)) else (none)) else (none)) else ((bywashref10_Clean.f k t229).bind fun t242 => (some t242)))) else ((bywashref10_Clean.f k t229).bind fun t245 => (some t245))))
set_option maxHeartbeats 8000000 in
set_option maxRecDepth 100000 in
theorem bywashref10_With.calls (k : Nat) (A0 : Option Addr) (c0 : Nat) (l0 : List (List Int)) (a1 : Int) (a2 : Int) (r : List (List Int)) (w : World) (hr0 : Kd.C (Kd.slice 3 (Kd.int .i64)) w A0 l0.length l0) (hc0 : l0.length ≤ c0) (h : bywashref10_With.f k l0 a1 a2 = some r) :
  Calls Tryz.prog 31 #[.slice A0 l0.length c0, .int .i64 a1, .int .i64 a2] w fun e w' => ∃ v0_ : Value, e = .returned (v0_) ∧ Kd.S (Kd.slice 3 (Kd.int .i64)) 23 w' w.heap.size (fun _ => True) v0_ r ∧ Below w.heap.size w w' := by
 have HR0 := Aside0.mk hr0
 have HC0 := Aside0.mk hc0
 clear hr0 hc0
 have HB := Aside0.mk (Below.refl w.heap.size w)
 have H : ((bywashref10_Clean.f k l0).bind fun t229 => ((bywashref10_is.f l0 a1).bind fun t232 => (if t232 = true then ((bywashref10_is.f l0 a2).bind fun t233 => (if t233 = true then (if 0 ≤ a1 then (if a1 < (t229.length : Int) then (if (rd_L1 t229 a1).length < 17592186044416 then ((bywashref10_Clean.f k (t229.set (a1 : Int).toNat ((rd_L1 t229 a1) ++ [a2]))).bind fun t239 => (some t239)) else (none)) else (none)) else (none)) else ((bywashref10_Clean.f k t229).bind fun t242 => (some t242)))) else ((bywashref10_Clean.f k t229).bind fun t245 => (some t245))))) = some r := h
 clear h
 replace H := Option.bind_eq_some_iff.mp H
 obtain ⟨t229, A40, H⟩ := H
 replace H : ((bywashref10_is.f l0 a1).bind fun t232 => (if t232 = true then ((bywashref10_is.f l0 a2).bind fun t233 => (if t233 = true then (if 0 ≤ a1 then (if a1 < (t229.length : Int) then (if (rd_L1 t229 a1).length < 17592186044416 then ((bywashref10_Clean.f k (t229.set (a1 : Int).toNat ((rd_L1 t229 a1) ++ [a2]))).bind fun t239 => (some t239)) else (none)) else (none)) else (none)) else ((bywashref10_Clean.f k t229).bind fun t242 => (some t242)))) else ((bywashref10_Clean.f k t229).bind fun t245 => (some t245)))) = some r := H
 have A4 := Aside0.mk A40
 clear A40
 replace H := Option.bind_eq_some_iff.mp H
 obtain ⟨t232, A50, H⟩ := H
 replace H : (if t232 = true then ((bywashref10_is.f l0 a2).bind fun t233 => (if t233 = true then (if 0 ≤ a1 then (if a1 < (t229.length : Int) then (if (rd_L1 t229 a1).length < 17592186044416 then ((bywashref10_Clean.f k (t229.set (a1 : Int).toNat ((rd_L1 t229 a1) ++ [a2]))).bind fun t239 => (some t239)) else (none)) else (none)) else (none)) else ((bywashref10_Clean.f k t229).bind fun t242 => (some t242)))) else ((bywashref10_Clean.f k t229).bind fun t245 => (some t245))) = some r := H
 have A5 := Aside0.mk A50
 clear A50
 by_cases c6 : t232 = true
 ·subst c6
  have H1 : ((bywashref10_is.f l0 a2).bind fun t233 => (if t233 = true then (if 0 ≤ a1 then (if a1 < (t229.length : Int) then (if (rd_L1 t229 a1).length < 17592186044416 then ((bywashref10_Clean.f k (t229.set (a1 : Int).toNat ((rd_L1 t229 a1) ++ [a2]))).bind fun t239 => (some t239)) else (none)) else (none)) else (none)) else ((bywashref10_Clean.f k t229).bind fun t242 => (some t242)))) = some r := by rw [if_pos rfl] at H; exact H
  clear H
  have H := H1
  clear H1
  replace H := Option.bind_eq_some_iff.mp H
  obtain ⟨t233, A70, H⟩ := H
  replace H : (if t233 = true then (if 0 ≤ a1 then (if a1 < (t229.length : Int) then (if (rd_L1 t229 a1).length < 17592186044416 then ((bywashref10_Clean.f k (t229.set (a1 : Int).toNat ((rd_L1 t229 a1) ++ [a2]))).bind fun t239 => (some t239)) else (none)) else (none)) else (none)) else ((bywashref10_Clean.f k t229).bind fun t242 => (some t242))) = some r := H
  have A7 := Aside0.mk A70
  clear A70
  by_cases c8 : t233 = true
  ·subst c8
   have H1 : (if 0 ≤ a1 then (if a1 < (t229.length : Int) then (if (rd_L1 t229 a1).length < 17592186044416 then ((bywashref10_Clean.f k (t229.set (a1 : Int).toNat ((rd_L1 t229 a1) ++ [a2]))).bind fun t239 => (some t239)) else (none)) else (none)) else (none)) = some r := by rw [if_pos rfl] at H; exact H
   clear H
   have H := H1
   clear H1
   by_cases c9 : 0 ≤ a1
   ·rw [if_pos c9] at H
    have c9b0 : decide (0 ≤ a1) = true := decide_eq_true c9
    clear c9
    by_cases c10 : a1 < (t229.length : Int)
    ·rw [if_pos c10] at H
     have c10b0 : decide (a1 < (t229.length : Int)) = true := decide_eq_true c10
     clear c10
     by_cases c11 : (rd_L1 t229 a1).length < 17592186044416
     ·rw [if_pos c11] at H
      have LMc11 := Aside0.mk c11
      clear c11
      obtain ⟨y235, hy235⟩ : ∃ y_ : List Int, y_ = ((rd_L1 t229 a1) ++ [a2]) := ⟨_, rfl⟩
      replace H : ((bywashref10_Clean.f k (t229.set (a1 : Int).toNat y235)).bind fun t239 => (some t239)) = some r := by first | (rw [hy235]; with_reducible exact H) | (have H2_ := (Option.bind_some _ _).symm.trans H; rw [hy235]; with_reducible exact H2_) | (have H2_ := (Option.bind_some _ _).symm.trans H; with_reducible exact H2_) | with_reducible exact H | (rw [hy235]; exact H) | exact H
      have Ny235 := Aside0.mk hy235
      clear hy235
      obtain ⟨y238, hy238⟩ : ∃ y_ : List (List Int), y_ = (t229.set (a1 : Int).toNat y235) := ⟨_, rfl⟩
      replace H : ((bywashref10_Clean.f k y238).bind fun t239 => (some t239)) = some r := by first | (rw [hy238]; with_reducible exact H) | (have H2_ := (Option.bind_some _ _).symm.trans H; rw [hy238]; with_reducible exact H2_) | (have H2_ := (Option.bind_some _ _).symm.trans H; with_reducible exact H2_) | with_reducible exact H | (rw [hy238]; exact H) | exact H
      have Ny238 := Aside0.mk hy238
      clear hy238
      replace H := Option.bind_eq_some_iff.mp H
      obtain ⟨t239, A130, H⟩ := H
      replace H : (some t239) = some r := H
      have A13 := Aside0.mk A130
      clear A130
      obtain rfl := Option.some.inj H
      go_enter Tryz.func31, Tryz.ntmps31
      go_wp2_with (first | ((with_reducible refine gate_callee (f := 40) rfl ?_); refine goesL_ (some 9) rfl rfl Tryz.func40 (by kernel_rfl) rfl #[.slice A0 l0.length c0] rfl (by (try simp only [List.map_toArray, List.map_cons, List.map_nil]); first | done | rfl | (simp only [List.length_drop, List.length_take]; rfl)) ?_; (with_reducible refine (bywashref10_Clean.calls k _ _ l0 t229 _ ?side1 ?side2 A4.out).mono ?_); (case side1 => repeat (first | exact HR0.out | (with_reducible refine Kd.C_alloc ?_ _) | (with_reducible refine Kd.C_drewN ?_ _) | (with_reducible refine Kd.C_drew ?_))); (case side2 => exact HC0.out); rintro e w14 ⟨v230, rfl, ho0, hb⟩; refine ⟨_, rfl, ?_⟩; have n0_ := Aside0.mk (Kd.S_lower ho0 (below_size (by repeat (first | (with_reducible first | exact HB.out | apply below_alloc | apply pw_below_drewN | apply below_drew1) | exact HB.out)))); have n1_ := Aside0.mk (below_step (by repeat (first | (with_reducible first | exact HB.out | apply below_alloc | apply pw_below_drewN | apply below_drew1) | exact HB.out)) hb); clear HB; have HO231 := n0_; have HB := n1_; clear n0_ n1_; (try clear hb); (try clear hb2); (try clear hk); (try clear hi); (try clear ho0)) | ((with_reducible refine gate_callee (f := 55) rfl ?_); refine goesL_ (some 12) rfl rfl Tryz.func55 (by kernel_rfl) rfl #[.slice A0 l0.length c0, .int .i64 a1] rfl (by (try simp only [List.map_toArray, List.map_cons, List.map_nil]); first | done | rfl | (simp only [List.length_drop, List.length_take]; rfl)) ?_; (with_reducible refine (bywashref10_is.calls _ _ l0 a1 true _ ?side1 ?side2 A5.out).mono ?_); (case side1 => repeat (first | exact (Kd.C_below HR0.out HB.out) | (with_reducible refine Kd.C_alloc ?_ _) | (with_reducible refine Kd.C_drewN ?_ _) | (with_reducible refine Kd.C_drew ?_))); (case side2 => exact HC0.out); rintro e w15 ⟨rfl, hb⟩; refine ⟨_, rfl, ?_⟩; have n0_ := Aside0.mk (Kd.S_below (by (with_reducible repeat (first | apply Kd.S_alloc | apply Kd.S_drewN | apply Kd.S_drew)); exact HO231.out) hb); have n1_ := Aside0.mk (below_step (by repeat (first | (with_reducible first | exact HB.out | apply below_alloc | apply pw_below_drewN | apply below_drew1) | exact HB.out)) hb); clear HO231; clear HB; have HO231 := n0_; have HB := n1_; clear n0_ n1_; (try clear hb); (try clear hb2); (try clear hk); (try clear hi)) | (go_at_call 55; (with_reducible refine (bywashref10_is.calls _ _ l0 a2 true _ ?side1 ?side2 A7.out).mono ?_); (case side1 => repeat (first | exact (Kd.C_below HR0.out HB.out) | (with_reducible refine Kd.C_alloc ?_ _) | (with_reducible refine Kd.C_drewN ?_ _) | (with_reducible refine Kd.C_drew ?_))); (case side2 => exact HC0.out); rintro e w16 ⟨rfl, hb⟩; have n0_ := Aside0.mk (Kd.S_below (by (with_reducible repeat (first | apply Kd.S_alloc | apply Kd.S_drewN | apply Kd.S_drew)); exact HO231.out) hb); have n1_ := Aside0.mk (below_step (by repeat (first | (with_reducible first | exact HB.out | apply below_alloc | apply pw_below_drewN | apply below_drew1) | exact HB.out)) hb); clear HO231; clear HB; have HO231 := n0_; have HB := n1_; clear n0_ n1_; (try clear hb); (try clear hb2); (try clear hk); (try clear hi); obtain ⟨Ao17, co17, eo17⟩ := Kd.S_slice HO231.out; subst eo17; have p234 : 0 ≤ (a1 : Int) := of_decide_eq_true (by first | (with_reducible assumption) | assumption); have q234 : a1 < (t229.length : Int) := of_decide_eq_true (by first | (with_reducible assumption) | assumption); obtain ⟨ad234, A234_0, c234_0, e234, hx234_0, hl234_0, hi234_0⟩ := at_L1 (Kd.S_reads' HO231.out).2.2 a1 p234 q234; cases e234; obtain ⟨ce234, hce234, hMe234, hcc234⟩ := Kd.S_get HO231.out [] a1 p234 (by first | exact q234 | exact of_decide_eq_true (by first | (with_reducible assumption) | assumption) | (have e_ := (Kd.S_reads' HO231.out).1; omega)); obtain ⟨ve234_0, rfl, ge234_0⟩ := hMe234; have hv234_0 := hcc234 0 _ rfl; rw [Nat.add_zero, show ((Kd.slice 3 (Kd.int .i64))).sz = 1 from rfl, Nat.mul_one] at hv234_0; replace hv234_0 := Option.some.inj (hv234_0.symm.trans hx234_0); rw [hv234_0] at ge234_0; have HL234_0 := Aside0.mk (show Kd.R (Kd.int .i64) 3 _ _ _ _ (rd_L1 t229 a1) from ge234_0); clear hv234_0 ge234_0; have HX234_0 := Aside0.mk hx234_0; clear hcc234 hce234; have HR234_0 := Aside0.mk hi234_0; have HC234_0 := Aside0.mk hl234_0; clear hi234_0 hl234_0; replace p234 := eq_true p234; replace q234 := eq_true q234; obtain ⟨go18, co18, eo18, gb18, gl18, cl18, HG18⟩ := Kd.S_form HO231.out (by have h_ : (a1 : Int) < ((t229.length : Int) : Int) := of_decide_eq_true (by first | (with_reducible assumption) | assumption); have h2_ : 0 ≤ (a1 : Int) := (of_decide_eq_true (by first | (with_reducible assumption) | assumption)); omega); (first | cases eo18 | (injection eo18 with ea_ en_ ec_; (first | subst ea_ | (injection ea_ with ea_; subst ea_)); subst ec_; clear en_)); have GB18 := Aside0.mk gb18; have GG18 := Aside0.mk HG18; clear gb18 gl18 HG18; (first | simp only [add_plain] at hx234_0 | skip); obtain ⟨oki18, ce18, hcl18, hM18, hcc18, _, _, hH18⟩ := Kd.S_elem HO231.out [] (a1 : Int) (of_decide_eq_true (by first | (with_reducible assumption) | assumption)) (by have h_ : (a1 : Int) < ((t229.length : Int) : Int) := of_decide_eq_true (by first | (with_reducible assumption) | assumption); first | exact h_ | (have e_ := (Kd.S_reads' HO231.out).1; omega) | simpa using h_); obtain ⟨ve18_0, rfl, ge18_0⟩ := hM18; have hv18 := hcc18 0 _ rfl; have hX18 := HX234_0.out; (try simp only [add_plain] at hX18); (try simp only [Nat.add_zero] at hv18); (try rw [show ((Kd.slice 3 (Kd.int .i64))).sz = 1 from rfl, Nat.mul_one] at hv18); replace hv18 := Option.some.inj (hv18.symm.trans hX18); subst hv18; clear hX18 hcc18 hcl18; have UU18 := Aside0.mk (show Kd.R (Kd.int .i64) 3 _ w.heap.size oki18 (.slice A234_0 (rd_L1 t229 a1).length c234_0) (rd_L1 t229 a1) from ge18_0); have HH18 := Aside0.mk hH18; have HN18 := Aside0.mk (Kd.S_reads' HO231.out).1; clear hH18 ge18_0) | ((with_reducible refine gate_builtin (b := .append) (xs := #[.tmp 23, .tmp 25]) rfl ?_); at_builtin; refine Kd.R_append (Kd.int .i64) (w0 := w) w.heap.size rfl (.tmp 23) (.tmp 25) 23 3 (.int .i64 0) 8 rfl Tryz.underlying23 info3 rfl (by decide) (by omega) (.slice A234_0 (rd_L1 t229 a1).length c234_0) (rd_L1 t229 a1) a2 [.int .i64 a2] (fun k_ => oki18 k_ ∨ ((fun _ => True)) k_ ∧ w16.heap.size ≤ k_) (fun _ => False) rfl rfl ?aP (fun _ hk => hk.elim) ?aF ?aO ?aB ?aS ?aL ?_; (case aP => exact rfl); (case aB => exact (by repeat (first | (with_reducible first | exact HB.out | apply below_alloc | apply pw_below_drewN | apply below_drew1) | exact HB.out))); (case aF => exact (fun k_ hk => .inr ⟨trivial, hk⟩)); (case aO => exact (by (with_reducible repeat (first | apply Kd.R_alloc | apply Kd.R_drewN | apply Kd.R_drew)); exact Kd.R_mono UU18.out (fun _ hk => .inl hk))); (case aS => exact (below_size (by repeat (first | (with_reducible first | exact HB.out | apply below_alloc | apply pw_below_drewN | apply below_drew1) | exact HB.out)))); (case aL => have := LMc11.out; omega); intro v236 w19 ho hb hg hat; rw [← Ny235.out] at ho; have n0_ := Aside0.mk (hb); have n1_ := Aside0.mk (Kd.H_grown (Kd.H_widen (by repeat (first | exact HH18.out | refine Kd.H_alloc ?_ _ | refine Kd.H_drewN ?_ _ | refine Kd.H_drew ?_))) hg (fun k_ e_ => .inl (UU18.out.1 k_ e_))); have n2_ := Aside0.mk (ho); clear HB; clear HH18; clear HO231; clear UU18; clear HL234_0; have HB := n0_; have HH18 := n1_; have HO237 := n2_; clear n0_ n1_ n2_; clear ho hb hg hat; have p12 : 0 ≤ (a1 : Int) := of_decide_eq_true (by first | (with_reducible assumption) | assumption); have q12 : (a1 : Int) < ((t229.length : Int) : Int) := of_decide_eq_true (by first | (with_reducible assumption) | assumption); replace p12 := eq_true p12; replace q12 := eq_true q12; obtain ⟨Ao22, co22, eo22⟩ := Kd.R_slice HO237.out; subst eo22; obtain ⟨_, _, hraw20, _, _, hcc20, _⟩ := Kd.H_raw HH18.out (of_decide_eq_true (by first | (with_reducible assumption) | assumption)) (by have h_ : (a1 : Int) < ((t229.length : Int) : Int) := of_decide_eq_true (by first | (with_reducible assumption) | assumption); first | exact h_ | (have e_ := (HN18.out); omega) | simpa using h_); obtain ⟨_, hfr20⟩ := Kd.H_at HH18.out (of_decide_eq_true (by first | (with_reducible assumption) | assumption)) (by have h_ : (a1 : Int) < ((t229.length : Int) : Int) := of_decide_eq_true (by first | (with_reducible assumption) | assumption); first | exact h_ | (have e_ := (HN18.out); omega) | simpa using h_); have hx20_0 := hcc20 0 _ rfl; have hf20_0 := hfr20 0; (try simp only [Nat.add_zero] at hx20_0 hf20_0); (try rw [show ((Kd.slice 3 (Kd.int .i64))).sz = 1 from rfl, Nat.mul_one] at hx20_0); (try rw [show ((Kd.slice 3 (Kd.int .i64))).sz = 1 from rfl, Nat.mul_one] at hf20_0); have HP20 := Kd.S_seg0 HH18.out (of_decide_eq_true (by first | (with_reducible assumption) | assumption)) (by have h_ : (a1 : Int) < ((t229.length : Int) : Int) := of_decide_eq_true (by first | (with_reducible assumption) | assumption); first | exact h_ | (have e_ := (HN18.out); omega) | simpa using h_) (seg := [.slice Ao22 y235.length co22]) (j := 0) (show 1 ≤ 1 from by decide) (x' := y235) (Kd.M_row HO237.out) (fun _ hk => hk); (try simp only [show ((Kd.slice 3 (Kd.int .i64))).sz = 1 from rfl, Nat.mul_one, Nat.add_zero] at HP20); clear hcc20 hfr20) | ((with_reducible refine gate_store (t := 23) (p := 27) rfl ?_); refine store_event (t := 23) (p := 27) (v := ?vo_w21) (w1 := (w19.setCell ⟨go18, (a1 : Int).toNat, none⟩ (.slice Ao22 y235.length co22))) ?hg ?ho ?hn ?hr ?_; (case ho => rfl); (case hg => rfl); (case hn => rfl); (case hr => first | (go_simp; done) | (go_simp; rfl)); intro w21 hw; have hg : w19.grownBy w21 (some go18) := (by rw [hw]; exact HP20.2); have hp_ : Kd.S (Kd.slice 3 (Kd.int .i64)) 23 w21 w.heap.size (fun _ => True) (.slice (some ⟨go18, 0, none⟩) t229.length co17) y238 := (by rw [hw, Ny238.out]; exact HP20.1); clear HP20; have n0_ := Aside0.mk ((by rw [hw]; exact below_set HB.out GB18.out : Below w.heap.size w w21)); have n1_ := Aside0.mk (hp_); clear HB; clear HO237; clear HH18; have HB := n0_; have HO231 := n1_; clear n0_ n1_; clear hg hw hp_ hraw20) | ((with_reducible refine gate_callee (f := 40) rfl ?_); refine goesL_ (some 29) rfl rfl Tryz.func40 (by kernel_rfl) rfl #[.slice (some ⟨go18, 0, none⟩) y238.length co17] rfl (by (try simp only [List.map_toArray, List.map_cons, List.map_nil]); first | done | (rw [show y238.length = t229.length from (Kd.S_reads' HO231.out).1.symm] <;> rfl) | rfl | (simp only [List.length_drop, List.length_take]; rfl)) ?_; (with_reducible refine (bywashref10_Clean.calls k _ _ y238 t239 _ ?side1 ?side2 A13.out).mono ?_); (case side1 => repeat (first | exact (Kd.S_reads' HO231.out).2.2 | (with_reducible refine Kd.C_alloc ?_ _) | (with_reducible refine Kd.C_drewN ?_ _) | (with_reducible refine Kd.C_drew ?_))); (case side2 => rw [show y238.length = t229.length from (Kd.S_reads' HO231.out).1.symm]; exact (Kd.S_reads' HO231.out).2.1); rintro e w23 ⟨v240, rfl, ho0, hb⟩; refine ⟨_, rfl, ?_⟩; have n0_ := Aside0.mk (Kd.S_elder' (by (with_reducible repeat (first | apply Kd.S_alloc | apply Kd.S_drewN | apply Kd.S_drew)); exact HO231.out) (Kd.S_base ho0) hb); have n1_ := Aside0.mk (Kd.S_lower (Kd.S_new' ho0 (Kd.S_lt (by (with_reducible repeat (first | apply Kd.S_alloc | apply Kd.S_drewN | apply Kd.S_drew)); exact HO231.out))) (below_size (by repeat (first | (with_reducible first | exact HB.out | apply below_alloc | apply pw_below_drewN | apply below_drew1) | exact HB.out)))); have n2_ := Aside0.mk (below_step (by repeat (first | (with_reducible first | exact HB.out | apply below_alloc | apply pw_below_drewN | apply below_drew1) | exact HB.out)) hb); clear HO231; clear HB; have HO231 := n0_; have HO241 := n1_; have HB := n2_; clear n0_ n1_ n2_; (try clear hb); (try clear hb2); (try clear hk); (try clear hi); (try clear ho0)))
      go_ret
      exact ⟨_, by first | rfl | (simp [errW_none, errW_some] <;> rfl) | (simp [*, errW_none, errW_some] <;> rfl) | (exfalso; (try simp_all); (try omega); done), by (with_reducible repeat (first | apply Kd.S_alloc | apply Kd.S_drewN | apply Kd.S_drew)); exact Kd.S_mono HO241.out (fun _ hk => trivial), by repeat (first | (with_reducible first | exact HB.out | apply below_alloc | apply pw_below_drewN | apply below_drew1) | exact HB.out)⟩
     ·rw [if_neg c11] at H
      exact absurd H (by simp)
    ·rw [if_neg c10] at H
     exact absurd H (by simp)
   ·rw [if_neg c9] at H
    exact absurd H (by simp)
  ·replace c8 := Bool.eq_false_iff.mpr c8
   subst c8
   have H1 : ((bywashref10_Clean.f k t229).bind fun t242 => (some t242)) = some r := by rw [if_neg (show ¬ (false = true) by decide)] at H; exact H
   clear H
   have H := H1
   clear H1
   replace H := Option.bind_eq_some_iff.mp H
   obtain ⟨t242, A240, H⟩ := H
   replace H : (some t242) = some r := H
   have A24 := Aside0.mk A240
   clear A240
   obtain rfl := Option.some.inj H
   go_enter Tryz.func31, Tryz.ntmps31
   go_wp2_with (first | ((with_reducible refine gate_callee (f := 40) rfl ?_); refine goesL_ (some 9) rfl rfl Tryz.func40 (by kernel_rfl) rfl #[.slice A0 l0.length c0] rfl (by (try simp only [List.map_toArray, List.map_cons, List.map_nil]); first | done | rfl | (simp only [List.length_drop, List.length_take]; rfl)) ?_; (with_reducible refine (bywashref10_Clean.calls k _ _ l0 t229 _ ?side1 ?side2 A4.out).mono ?_); (case side1 => repeat (first | exact HR0.out | (with_reducible refine Kd.C_alloc ?_ _) | (with_reducible refine Kd.C_drewN ?_ _) | (with_reducible refine Kd.C_drew ?_))); (case side2 => exact HC0.out); rintro e w25 ⟨v230, rfl, ho0, hb⟩; refine ⟨_, rfl, ?_⟩; have n0_ := Aside0.mk (Kd.S_lower ho0 (below_size (by repeat (first | (with_reducible first | exact HB.out | apply below_alloc | apply pw_below_drewN | apply below_drew1) | exact HB.out)))); have n1_ := Aside0.mk (below_step (by repeat (first | (with_reducible first | exact HB.out | apply below_alloc | apply pw_below_drewN | apply below_drew1) | exact HB.out)) hb); clear HB; have HO231 := n0_; have HB := n1_; clear n0_ n1_; (try clear hb); (try clear hb2); (try clear hk); (try clear hi); (try clear ho0)) | ((with_reducible refine gate_callee (f := 55) rfl ?_); refine goesL_ (some 12) rfl rfl Tryz.func55 (by kernel_rfl) rfl #[.slice A0 l0.length c0, .int .i64 a1] rfl (by (try simp only [List.map_toArray, List.map_cons, List.map_nil]); first | done | rfl | (simp only [List.length_drop, List.length_take]; rfl)) ?_; (with_reducible refine (bywashref10_is.calls _ _ l0 a1 true _ ?side1 ?side2 A5.out).mono ?_); (case side1 => repeat (first | exact (Kd.C_below HR0.out HB.out) | (with_reducible refine Kd.C_alloc ?_ _) | (with_reducible refine Kd.C_drewN ?_ _) | (with_reducible refine Kd.C_drew ?_))); (case side2 => exact HC0.out); rintro e w26 ⟨rfl, hb⟩; refine ⟨_, rfl, ?_⟩; have n0_ := Aside0.mk (Kd.S_below (by (with_reducible repeat (first | apply Kd.S_alloc | apply Kd.S_drewN | apply Kd.S_drew)); exact HO231.out) hb); have n1_ := Aside0.mk (below_step (by repeat (first | (with_reducible first | exact HB.out | apply below_alloc | apply pw_below_drewN | apply below_drew1) | exact HB.out)) hb); clear HO231; clear HB; have HO231 := n0_; have HB := n1_; clear n0_ n1_; (try clear hb); (try clear hb2); (try clear hk); (try clear hi)) | (go_at_call 55; (with_reducible refine (bywashref10_is.calls _ _ l0 a2 false _ ?side1 ?side2 A7.out).mono ?_); (case side1 => repeat (first | exact (Kd.C_below HR0.out HB.out) | (with_reducible refine Kd.C_alloc ?_ _) | (with_reducible refine Kd.C_drewN ?_ _) | (with_reducible refine Kd.C_drew ?_))); (case side2 => exact HC0.out); rintro e w27 ⟨rfl, hb⟩; have n0_ := Aside0.mk (Kd.S_below (by (with_reducible repeat (first | apply Kd.S_alloc | apply Kd.S_drewN | apply Kd.S_drew)); exact HO231.out) hb); have n1_ := Aside0.mk (below_step (by repeat (first | (with_reducible first | exact HB.out | apply below_alloc | apply pw_below_drewN | apply below_drew1) | exact HB.out)) hb); clear HO231; clear HB; have HO231 := n0_; have HB := n1_; clear n0_ n1_; (try clear hb); (try clear hb2); (try clear hk); (try clear hi); obtain ⟨Ao28, co28, eo28⟩ := Kd.S_slice HO231.out; subst eo28) | ((with_reducible refine gate_callee (f := 40) rfl ?_); refine goesL_ (some 29) rfl rfl Tryz.func40 (by kernel_rfl) rfl #[.slice Ao28 t229.length co28] rfl (by (try simp only [List.map_toArray, List.map_cons, List.map_nil]); first | done | rfl | (simp only [List.length_drop, List.length_take]; rfl)) ?_; (with_reducible refine (bywashref10_Clean.calls k _ _ t229 t242 _ ?side1 ?side2 A24.out).mono ?_); (case side1 => repeat (first | exact (Kd.S_reads' HO231.out).2.2 | (with_reducible refine Kd.C_alloc ?_ _) | (with_reducible refine Kd.C_drewN ?_ _) | (with_reducible refine Kd.C_drew ?_))); (case side2 => exact (Kd.S_reads' HO231.out).2.1); rintro e w29 ⟨v243, rfl, ho0, hb⟩; refine ⟨_, rfl, ?_⟩; have n0_ := Aside0.mk (Kd.S_elder' (by (with_reducible repeat (first | apply Kd.S_alloc | apply Kd.S_drewN | apply Kd.S_drew)); exact HO231.out) (Kd.S_base ho0) hb); have n1_ := Aside0.mk (Kd.S_lower (Kd.S_new' ho0 (Kd.S_lt (by (with_reducible repeat (first | apply Kd.S_alloc | apply Kd.S_drewN | apply Kd.S_drew)); exact HO231.out))) (below_size (by repeat (first | (with_reducible first | exact HB.out | apply below_alloc | apply pw_below_drewN | apply below_drew1) | exact HB.out)))); have n2_ := Aside0.mk (below_step (by repeat (first | (with_reducible first | exact HB.out | apply below_alloc | apply pw_below_drewN | apply below_drew1) | exact HB.out)) hb); clear HO231; clear HB; have HO231 := n0_; have HO244 := n1_; have HB := n2_; clear n0_ n1_ n2_; (try clear hb); (try clear hb2); (try clear hk); (try clear hi); (try clear ho0)))
   go_ret
   exact ⟨_, by first | rfl | (simp [errW_none, errW_some] <;> rfl) | (simp [*, errW_none, errW_some] <;> rfl) | (exfalso; (try simp_all); (try omega); done), by (with_reducible repeat (first | apply Kd.S_alloc | apply Kd.S_drewN | apply Kd.S_drew)); exact Kd.S_mono HO244.out (fun _ hk => trivial), by repeat (first | (with_reducible first | exact HB.out | apply below_alloc | apply pw_below_drewN | apply below_drew1) | exact HB.out)⟩
 ·replace c6 := Bool.eq_false_iff.mpr c6
  subst c6
  have H1 : ((bywashref10_Clean.f k t229).bind fun t245 => (some t245)) = some r := by rw [if_neg (show ¬ (false = true) by decide)] at H; exact H
  clear H
  have H := H1
  clear H1
  replace H := Option.bind_eq_some_iff.mp H
  obtain ⟨t245, A300, H⟩ := H
  replace H : (some t245) = some r := H
  have A30 := Aside0.mk A300
  clear A300
  obtain rfl := Option.some.inj H
  go_enter Tryz.func31, Tryz.ntmps31
  go_wp2_with (first | ((with_reducible refine gate_callee (f := 40) rfl ?_); refine goesL_ (some 9) rfl rfl Tryz.func40 (by kernel_rfl) rfl #[.slice A0 l0.length c0] rfl (by (try simp only [List.map_toArray, List.map_cons, List.map_nil]); first | done | rfl | (simp only [List.length_drop, List.length_take]; rfl)) ?_; (with_reducible refine (bywashref10_Clean.calls k _ _ l0 t229 _ ?side1 ?side2 A4.out).mono ?_); (case side1 => repeat (first | exact HR0.out | (with_reducible refine Kd.C_alloc ?_ _) | (with_reducible refine Kd.C_drewN ?_ _) | (with_reducible refine Kd.C_drew ?_))); (case side2 => exact HC0.out); rintro e w31 ⟨v230, rfl, ho0, hb⟩; refine ⟨_, rfl, ?_⟩; have n0_ := Aside0.mk (Kd.S_lower ho0 (below_size (by repeat (first | (with_reducible first | exact HB.out | apply below_alloc | apply pw_below_drewN | apply below_drew1) | exact HB.out)))); have n1_ := Aside0.mk (below_step (by repeat (first | (with_reducible first | exact HB.out | apply below_alloc | apply pw_below_drewN | apply below_drew1) | exact HB.out)) hb); clear HB; have HO231 := n0_; have HB := n1_; clear n0_ n1_; (try clear hb); (try clear hb2); (try clear hk); (try clear hi); (try clear ho0)) | ((with_reducible refine gate_callee (f := 55) rfl ?_); refine goesL_ (some 12) rfl rfl Tryz.func55 (by kernel_rfl) rfl #[.slice A0 l0.length c0, .int .i64 a1] rfl (by (try simp only [List.map_toArray, List.map_cons, List.map_nil]); first | done | rfl | (simp only [List.length_drop, List.length_take]; rfl)) ?_; (with_reducible refine (bywashref10_is.calls _ _ l0 a1 false _ ?side1 ?side2 A5.out).mono ?_); (case side1 => repeat (first | exact (Kd.C_below HR0.out HB.out) | (with_reducible refine Kd.C_alloc ?_ _) | (with_reducible refine Kd.C_drewN ?_ _) | (with_reducible refine Kd.C_drew ?_))); (case side2 => exact HC0.out); rintro e w32 ⟨rfl, hb⟩; refine ⟨_, rfl, ?_⟩; have n0_ := Aside0.mk (Kd.S_below (by (with_reducible repeat (first | apply Kd.S_alloc | apply Kd.S_drewN | apply Kd.S_drew)); exact HO231.out) hb); have n1_ := Aside0.mk (below_step (by repeat (first | (with_reducible first | exact HB.out | apply below_alloc | apply pw_below_drewN | apply below_drew1) | exact HB.out)) hb); clear HO231; clear HB; have HO231 := n0_; have HB := n1_; clear n0_ n1_; (try clear hb); (try clear hb2); (try clear hk); (try clear hi); obtain ⟨Ao33, co33, eo33⟩ := Kd.S_slice HO231.out; subst eo33) | ((with_reducible refine gate_callee (f := 40) rfl ?_); refine goesL_ (some 29) rfl rfl Tryz.func40 (by kernel_rfl) rfl #[.slice Ao33 t229.length co33] rfl (by (try simp only [List.map_toArray, List.map_cons, List.map_nil]); first | done | rfl | (simp only [List.length_drop, List.length_take]; rfl)) ?_; (with_reducible refine (bywashref10_Clean.calls k _ _ t229 t245 _ ?side1 ?side2 A30.out).mono ?_); (case side1 => repeat (first | exact (Kd.S_reads' HO231.out).2.2 | (with_reducible refine Kd.C_alloc ?_ _) | (with_reducible refine Kd.C_drewN ?_ _) | (with_reducible refine Kd.C_drew ?_))); (case side2 => exact (Kd.S_reads' HO231.out).2.1); rintro e w34 ⟨v246, rfl, ho0, hb⟩; refine ⟨_, rfl, ?_⟩; have n0_ := Aside0.mk (Kd.S_elder' (by (with_reducible repeat (first | apply Kd.S_alloc | apply Kd.S_drewN | apply Kd.S_drew)); exact HO231.out) (Kd.S_base ho0) hb); have n1_ := Aside0.mk (Kd.S_lower (Kd.S_new' ho0 (Kd.S_lt (by (with_reducible repeat (first | apply Kd.S_alloc | apply Kd.S_drewN | apply Kd.S_drew)); exact HO231.out))) (below_size (by repeat (first | (with_reducible first | exact HB.out | apply below_alloc | apply pw_below_drewN | apply below_drew1) | exact HB.out)))); have n2_ := Aside0.mk (below_step (by repeat (first | (with_reducible first | exact HB.out | apply below_alloc | apply pw_below_drewN | apply below_drew1) | exact HB.out)) hb); clear HO231; clear HB; have HO231 := n0_; have HO247 := n1_; have HB := n2_; clear n0_ n1_ n2_; (try clear hb); (try clear hb2); (try clear hk); (try clear hi); (try clear ho0)))
  go_ret
  exact ⟨_, by first | rfl | (simp [errW_none, errW_some] <;> rfl) | (simp [*, errW_none, errW_some] <;> rfl) | (exfalso; (try simp_all); (try omega); done), by (with_reducible repeat (first | apply Kd.S_alloc | apply Kd.S_drewN | apply Kd.S_drew)); exact Kd.S_mono HO247.out (fun _ hk => trivial), by repeat (first | (with_reducible first | exact HB.out | apply below_alloc | apply pw_below_drewN | apply below_drew1) | exact HB.out)⟩
def bywashref10_Without.l0 : Nat → Int → Int → List (List Int) → List Int → Int → Option ((List (List Int)))
 | 0, _, _, _, _, _ => none
 | k + 1, x1, x2, x7, x8, x9 => if 0 ≤ x1 then (if x1 < (x7.length : Int) then (if x9 < ((rd_L1 x7 x1).length : Int) then (if 0 ≤ x9 then (if (rd (rd_L1 x7 x1) x9) = x2 then (bywashref10_Without.l0 k x1 x2 x7 x8 (wrap64 (x9 + 1))) else (if x8.length < 17592186044416 then (bywashref10_Without.l0 k x1 x2 x7 (x8 ++ [rd (rd_L1 x7 x1) x9]) (wrap64 (x9 + 1))) else (none))) else (none)) else (some (x7.set (x1 : Int).toNat x8))) else (none)) else (none)
def bywashref10_Without.f (k : Nat) (l0 : List (List Int)) (a1 : Int) (a2 : Int) : Option ((List (List Int))) := (bywashref10_Clean.f k l0).bind fun t276 => ((bywashref10_is.f l0 a1).bind fun t279 => (if t279 = true then (bywashref10_Without.l0 k a1 a2 t276 ([] : List Int) 0) else (some t276)))
set_option maxHeartbeats 8000000 in
set_option maxRecDepth 100000 in
theorem bywashref10_Without.calls (k : Nat) (A0 : Option Addr) (c0 : Nat) (l0 : List (List Int)) (a1 : Int) (a2 : Int) (r : List (List Int)) (w : World) (hr0 : Kd.C (Kd.slice 3 (Kd.int .i64)) w A0 l0.length l0) (hc0 : l0.length ≤ c0) (h : bywashref10_Without.f k l0 a1 a2 = some r) :
  Calls Tryz.prog 35 #[.slice A0 l0.length c0, .int .i64 a1, .int .i64 a2] w fun e w' => ∃ v0_ : Value, e = .returned (v0_) ∧ Kd.S (Kd.slice 3 (Kd.int .i64)) 23 w' w.heap.size (fun _ => True) v0_ r ∧ Below w.heap.size w w' := by
 have HR0 := Aside0.mk hr0
 have HC0 := Aside0.mk hc0
 clear hr0 hc0
 have HB := Aside0.mk (Below.refl w.heap.size w)
 have H : ((bywashref10_Clean.f k l0).bind fun t276 => ((bywashref10_is.f l0 a1).bind fun t279 => (if t279 = true then (bywashref10_Without.l0 k a1 a2 t276 ([] : List Int) 0) else (some t276)))) = some r := h
 clear h
 replace H := Option.bind_eq_some_iff.mp H
 obtain ⟨t276, A40, H⟩ := H
 replace H : ((bywashref10_is.f l0 a1).bind fun t279 => (if t279 = true then (bywashref10_Without.l0 k a1 a2 t276 ([] : List Int) 0) else (some t276))) = some r := H
 have A4 := Aside0.mk A40
 clear A40
 replace H := Option.bind_eq_some_iff.mp H
 obtain ⟨t279, A50, H⟩ := H
 replace H : (if t279 = true then (bywashref10_Without.l0 k a1 a2 t276 ([] : List Int) 0) else (some t276)) = some r := H
 have A5 := Aside0.mk A50
 clear A50
 by_cases c6 : t279 = true
 ·subst c6
  have H1 : (bywashref10_Without.l0 k a1 a2 t276 ([] : List Int) 0) = some r := by rw [if_pos rfl] at H; exact H
  clear H
  have H := H1
  clear H1
  have H' := Aside0.mk H
  clear H
  go_enter Tryz.func35, Tryz.ntmps35
  go_wp2_with (first | ((with_reducible refine gate_callee (f := 40) rfl ?_); refine goesL_ (some 11) rfl rfl Tryz.func40 (by kernel_rfl) rfl #[.slice A0 l0.length c0] rfl (by (try simp only [List.map_toArray, List.map_cons, List.map_nil]); first | done | rfl | (simp only [List.length_drop, List.length_take]; rfl)) ?_; (with_reducible refine (bywashref10_Clean.calls k _ _ l0 t276 _ ?side1 ?side2 A4.out).mono ?_); (case side1 => repeat (first | exact HR0.out | (with_reducible refine Kd.C_alloc ?_ _) | (with_reducible refine Kd.C_drewN ?_ _) | (with_reducible refine Kd.C_drew ?_))); (case side2 => exact HC0.out); rintro e w7 ⟨v277, rfl, ho0, hb⟩; refine ⟨_, rfl, ?_⟩; have n0_ := Aside0.mk (Kd.S_lower ho0 (below_size (by repeat (first | (with_reducible first | exact HB.out | apply below_alloc | apply pw_below_drewN | apply below_drew1) | exact HB.out)))); have n1_ := Aside0.mk (below_step (by repeat (first | (with_reducible first | exact HB.out | apply below_alloc | apply pw_below_drewN | apply below_drew1) | exact HB.out)) hb); clear HB; have HO278 := n0_; have HB := n1_; clear n0_ n1_; (try clear hb); (try clear hb2); (try clear hk); (try clear hi); (try clear ho0)) | ((with_reducible refine gate_callee (f := 55) rfl ?_); refine goesL_ (some 14) rfl rfl Tryz.func55 (by kernel_rfl) rfl #[.slice A0 l0.length c0, .int .i64 a1] rfl (by (try simp only [List.map_toArray, List.map_cons, List.map_nil]); first | done | rfl | (simp only [List.length_drop, List.length_take]; rfl)) ?_; (with_reducible refine (bywashref10_is.calls _ _ l0 a1 true _ ?side1 ?side2 A5.out).mono ?_); (case side1 => repeat (first | exact (Kd.C_below HR0.out HB.out) | (with_reducible refine Kd.C_alloc ?_ _) | (with_reducible refine Kd.C_drewN ?_ _) | (with_reducible refine Kd.C_drew ?_))); (case side2 => exact HC0.out); rintro e w8 ⟨rfl, hb⟩; refine ⟨_, rfl, ?_⟩; have n0_ := Aside0.mk (Kd.S_below (by (with_reducible repeat (first | apply Kd.S_alloc | apply Kd.S_drewN | apply Kd.S_drew)); exact HO278.out) hb); have n1_ := Aside0.mk (below_step (by repeat (first | (with_reducible first | exact HB.out | apply below_alloc | apply pw_below_drewN | apply below_drew1) | exact HB.out)) hb); clear HO278; clear HB; have HO278 := n0_; have HB := n1_; clear n0_ n1_; (try clear hb); (try clear hb2); (try clear hk); (try clear hi)))
  go_loopg [8, 9] k (fun kq v8 v9 w' => ∃ (x8_1 : List Int) (x9_1 : Int), v9 = .int .i64 x9_1 ∧ Aside0 (bywashref10_Without.l0 kq a1 a2 t276 x8_1 x9_1 = some r) ∧ Aside0 (kq ≤ k) ∧ Aside0 (Kd.S (Kd.slice 3 (Kd.int .i64)) 23 w' w.heap.size (fun k_ => some k_ ≠ (v8 : Value).ownBlock) v277 t276) ∧ Aside0 (Kd.R (Kd.int .i64) 3 w' w.heap.size (fun _ => True) v8 x8_1) ∧ Aside0 (Below w.heap.size w w'))
  case atStart => exact ⟨(([] : List Int)), (0), (by first | rfl | (simp; done) | (simp [*]; done)), H', ⟨Nat.le_refl _⟩, ⟨by (with_reducible repeat (first | apply Kd.S_alloc | apply Kd.S_drewN | apply Kd.S_drew)); exact Kd.S_mono HO278.out (fun _ hk => (by simp [Value.ownBlock]))⟩, ⟨by first | exact Kd.R_nil _ _ _ _ _ | exact Kd.N_nil _ _ _ _ _ | exact Kd.V_nil _ _ _ _ _ | exact Kd.Q_nil _ _ _ _ _ | exact Kd.S_nil _ _ _ _ _⟩, ⟨by repeat (first | (with_reducible first | exact HB.out | apply below_alloc | apply pw_below_drewN | apply below_drew1) | exact HB.out)⟩⟩
  case round =>
   clear H'
   try clear p2
   try clear c3
   try clear c4
   try clear c5
   try clear c6
   obtain ⟨x8_1, x9_1, rfl, HA, HK1, HO_7, HO_8, HB⟩ := hrel
   cases gk with
   | zero => exact absurd HA.out (by simp [bywashref10_Without.l0])
   | succ k1 =>
    have H := HA.out
    clear HA
    simp only [bywashref10_Without.l0] at H
    by_cases c9 : 0 ≤ a1
    ·rw [if_pos c9] at H
     have c9b0 : decide (0 ≤ a1) = true := decide_eq_true c9
     clear c9
     by_cases c10 : a1 < (t276.length : Int)
     ·rw [if_pos c10] at H
      have c10b0 : decide (a1 < (t276.length : Int)) = true := decide_eq_true c10
      clear c10
      by_cases c11 : x9_1 < ((rd_L1 t276 a1).length : Int)
      ·rw [if_pos c11] at H
       have c11b0 : decide (x9_1 < ((rd_L1 t276 a1).length : Int)) = true := decide_eq_true c11
       clear c11
       by_cases c12 : 0 ≤ x9_1
       ·rw [if_pos c12] at H
        have c12b0 : decide (0 ≤ x9_1) = true := decide_eq_true c12
        clear c12
        by_cases c13 : (rd (rd_L1 t276 a1) x9_1) = a2
        ·rw [if_pos c13] at H
         have c13b0 : ((rd (rd_L1 t276 a1) x9_1) == a2) = true := beq_iff_eq.mpr c13
         have c13b1 : ((rd (rd_L1 t276 a1) x9_1) != a2) = false := bne_eq_false_iff_eq.mpr c13
         clear c13
         have H' := Aside0.mk H
         clear H
         obtain ⟨Ao14, co14, eo14⟩ := Kd.S_slice HO_7.out
         subst eo14
         have p280 : 0 ≤ (a1 : Int) := of_decide_eq_true (by first | (with_reducible assumption) | assumption)
         have q280 : a1 < (t276.length : Int) := of_decide_eq_true (by first | (with_reducible assumption) | assumption)
         obtain ⟨ad280, A280_0, c280_0, e280, hx280_0, hl280_0, hi280_0⟩ := at_L1 (Kd.S_reads' HO_7.out).2.2 a1 p280 q280
         cases e280
         obtain ⟨ce280, hce280, hMe280, hcc280⟩ := Kd.S_get HO_7.out [] a1 p280 (by first | exact q280 | exact of_decide_eq_true (by first | (with_reducible assumption) | assumption) | (have e_ := (Kd.S_reads' HO_7.out).1; omega))
         obtain ⟨ve280_0, rfl, ge280_0⟩ := hMe280
         have hv280_0 := hcc280 0 _ rfl
         rw [Nat.add_zero, show ((Kd.slice 3 (Kd.int .i64))).sz = 1 from rfl, Nat.mul_one] at hv280_0
         replace hv280_0 := Option.some.inj (hv280_0.symm.trans hx280_0)
         rw [hv280_0] at ge280_0
         have HL280_0 := Aside0.mk (show Kd.R (Kd.int .i64) 3 _ _ _ _ (rd_L1 t276 a1) from ge280_0)
         clear hv280_0 ge280_0
         clear hcc280 hce280
         have HR280_0 := Aside0.mk hi280_0
         have HC280_0 := Aside0.mk hl280_0
         clear hi280_0 hl280_0
         replace p280 := eq_true p280
         replace q280 := eq_true q280
         have p281 : 0 ≤ (a1 : Int) := of_decide_eq_true (by first | (with_reducible assumption) | assumption)
         have q281 : a1 < (t276.length : Int) := of_decide_eq_true (by first | (with_reducible assumption) | assumption)
         obtain ⟨ad281, A281_0, c281_0, e281, hx281_0, hl281_0, hi281_0⟩ := at_L1 (Kd.S_reads' HO_7.out).2.2 a1 p281 q281
         obtain rfl : ad280 = ad281 := (by injection e281)
         obtain ⟨ce281, hce281, hMe281, hcc281⟩ := Kd.S_get HO_7.out [] a1 p281 (by first | exact q281 | exact of_decide_eq_true (by first | (with_reducible assumption) | assumption) | (have e_ := (Kd.S_reads' HO_7.out).1; omega))
         obtain ⟨ve281_0, rfl, ge281_0⟩ := hMe281
         have hv281_0 := hcc281 0 _ rfl
         rw [Nat.add_zero, show ((Kd.slice 3 (Kd.int .i64))).sz = 1 from rfl, Nat.mul_one] at hv281_0
         replace hv281_0 := Option.some.inj (hv281_0.symm.trans hx281_0)
         rw [hv281_0] at ge281_0
         have HL281_0 := Aside0.mk (show Kd.R (Kd.int .i64) 3 _ _ _ _ (rd_L1 t276 a1) from ge281_0)
         clear hv281_0 ge281_0
         clear hcc281 hce281
         have HR281_0 := Aside0.mk hi281_0
         have HC281_0 := Aside0.mk hl281_0
         clear hi281_0 hl281_0
         replace p281 := eq_true p281
         replace q281 := eq_true q281
         have ea_ := Option.some.inj (hx280_0.symm.trans hx281_0)
         injection ea_ with ea_ en_ ec_
         subst ea_
         subst ec_
         clear en_
         have p282 : 0 ≤ (x9_1 : Int) := of_decide_eq_true (by first | (with_reducible assumption) | assumption)
         have q282 : x9_1 < ((rd_L1 t276 a1).length : Int) := of_decide_eq_true (by first | (with_reducible assumption) | assumption)
         obtain ⟨ad282, e282, hx282_0⟩ := Kd.at_int (by repeat (first | (with_reducible exact HR281_0.out) | (with_reducible refine Kd.C_alloc ?_ _) | (with_reducible refine Kd.C_drewN ?_ _) | (with_reducible refine Kd.C_drew ?_) | exact HR281_0.out)) x9_1 p282 q282
         cases e282
         replace p282 := eq_true p282
         replace q282 := eq_true q282
         go_wp2
         go_roundg k1
         case measure => have := HK1.out; omega
         case rel => exact ⟨(x8_1), (wrap64 (x9_1 + 1)), (by first | rfl | (simp; done) | (simp [*]; done)), H', ⟨by have := HK1.out; omega⟩, ⟨by (with_reducible repeat (first | apply Kd.S_alloc | apply Kd.S_drewN | apply Kd.S_drew)); exact HO_7.out⟩, ⟨by (with_reducible repeat (first | apply Kd.R_alloc | apply Kd.R_drewN | apply Kd.R_drew)); exact HO_8.out⟩, ⟨by repeat (first | (with_reducible first | exact HB.out | apply below_alloc | apply pw_below_drewN | apply below_drew1) | exact HB.out)⟩⟩
        ·rw [if_neg c13] at H
         have c13b0 : ((rd (rd_L1 t276 a1) x9_1) == a2) = false := beq_eq_false_iff_ne.mpr c13
         have c13b1 : ((rd (rd_L1 t276 a1) x9_1) != a2) = true := bne_iff_ne.mpr c13
         by_cases c15 : x8_1.length < 17592186044416
         ·rw [if_pos c15] at H
          have LMc15 := Aside0.mk c15
          clear c15
          obtain ⟨y285, hy285⟩ : ∃ y_ : List Int, y_ = (x8_1 ++ [rd (rd_L1 t276 a1) x9_1]) := ⟨_, rfl⟩
          replace H : (bywashref10_Without.l0 k1 a1 a2 t276 y285 (wrap64 (x9_1 + 1))) = some r := by first | (rw [hy285]; with_reducible exact H) | (have H2_ := (Option.bind_some _ _).symm.trans H; rw [hy285]; with_reducible exact H2_) | (have H2_ := (Option.bind_some _ _).symm.trans H; with_reducible exact H2_) | with_reducible exact H | (rw [hy285]; exact H) | exact H
          have Ny285 := Aside0.mk hy285
          clear hy285
          have H' := Aside0.mk H
          clear H
          obtain ⟨Ao16, co16, eo16⟩ := Kd.S_slice HO_7.out
          subst eo16
          have p280 : 0 ≤ (a1 : Int) := of_decide_eq_true (by first | (with_reducible assumption) | assumption)
          have q280 : a1 < (t276.length : Int) := of_decide_eq_true (by first | (with_reducible assumption) | assumption)
          obtain ⟨ad280, A280_0, c280_0, e280, hx280_0, hl280_0, hi280_0⟩ := at_L1 (Kd.S_reads' HO_7.out).2.2 a1 p280 q280
          cases e280
          obtain ⟨ce280, hce280, hMe280, hcc280⟩ := Kd.S_get HO_7.out [] a1 p280 (by first | exact q280 | exact of_decide_eq_true (by first | (with_reducible assumption) | assumption) | (have e_ := (Kd.S_reads' HO_7.out).1; omega))
          obtain ⟨ve280_0, rfl, ge280_0⟩ := hMe280
          have hv280_0 := hcc280 0 _ rfl
          rw [Nat.add_zero, show ((Kd.slice 3 (Kd.int .i64))).sz = 1 from rfl, Nat.mul_one] at hv280_0
          replace hv280_0 := Option.some.inj (hv280_0.symm.trans hx280_0)
          rw [hv280_0] at ge280_0
          have HL280_0 := Aside0.mk (show Kd.R (Kd.int .i64) 3 _ _ _ _ (rd_L1 t276 a1) from ge280_0)
          clear hv280_0 ge280_0
          clear hcc280 hce280
          have HR280_0 := Aside0.mk hi280_0
          have HC280_0 := Aside0.mk hl280_0
          clear hi280_0 hl280_0
          replace p280 := eq_true p280
          replace q280 := eq_true q280
          have p281 : 0 ≤ (a1 : Int) := of_decide_eq_true (by first | (with_reducible assumption) | assumption)
          have q281 : a1 < (t276.length : Int) := of_decide_eq_true (by first | (with_reducible assumption) | assumption)
          obtain ⟨ad281, A281_0, c281_0, e281, hx281_0, hl281_0, hi281_0⟩ := at_L1 (Kd.S_reads' HO_7.out).2.2 a1 p281 q281
          obtain rfl : ad280 = ad281 := (by injection e281)
          obtain ⟨ce281, hce281, hMe281, hcc281⟩ := Kd.S_get HO_7.out [] a1 p281 (by first | exact q281 | exact of_decide_eq_true (by first | (with_reducible assumption) | assumption) | (have e_ := (Kd.S_reads' HO_7.out).1; omega))
          obtain ⟨ve281_0, rfl, ge281_0⟩ := hMe281
          have hv281_0 := hcc281 0 _ rfl
          rw [Nat.add_zero, show ((Kd.slice 3 (Kd.int .i64))).sz = 1 from rfl, Nat.mul_one] at hv281_0
          replace hv281_0 := Option.some.inj (hv281_0.symm.trans hx281_0)
          rw [hv281_0] at ge281_0
          have HL281_0 := Aside0.mk (show Kd.R (Kd.int .i64) 3 _ _ _ _ (rd_L1 t276 a1) from ge281_0)
          clear hv281_0 ge281_0
          clear hcc281 hce281
          have HR281_0 := Aside0.mk hi281_0
          have HC281_0 := Aside0.mk hl281_0
          clear hi281_0 hl281_0
          replace p281 := eq_true p281
          replace q281 := eq_true q281
          have ea_ := Option.some.inj (hx280_0.symm.trans hx281_0)
          injection ea_ with ea_ en_ ec_
          subst ea_
          subst ec_
          clear en_
          have p282 : 0 ≤ (x9_1 : Int) := of_decide_eq_true (by first | (with_reducible assumption) | assumption)
          have q282 : x9_1 < ((rd_L1 t276 a1).length : Int) := of_decide_eq_true (by first | (with_reducible assumption) | assumption)
          obtain ⟨ad282, e282, hx282_0⟩ := Kd.at_int (by repeat (first | (with_reducible exact HR281_0.out) | (with_reducible refine Kd.C_alloc ?_ _) | (with_reducible refine Kd.C_drewN ?_ _) | (with_reducible refine Kd.C_drew ?_) | exact HR281_0.out)) x9_1 p282 q282
          cases e282
          replace p282 := eq_true p282
          replace q282 := eq_true q282
          have p283 : 0 ≤ (a1 : Int) := of_decide_eq_true (by first | (with_reducible assumption) | assumption)
          have q283 : a1 < (t276.length : Int) := of_decide_eq_true (by first | (with_reducible assumption) | assumption)
          obtain ⟨ad283, A283_0, c283_0, e283, hx283_0, hl283_0, hi283_0⟩ := at_L1 (Kd.S_reads' HO_7.out).2.2 a1 p283 q283
          obtain rfl : ad280 = ad283 := (by injection e283)
          obtain ⟨ce283, hce283, hMe283, hcc283⟩ := Kd.S_get HO_7.out [] a1 p283 (by first | exact q283 | exact of_decide_eq_true (by first | (with_reducible assumption) | assumption) | (have e_ := (Kd.S_reads' HO_7.out).1; omega))
          obtain ⟨ve283_0, rfl, ge283_0⟩ := hMe283
          have hv283_0 := hcc283 0 _ rfl
          rw [Nat.add_zero, show ((Kd.slice 3 (Kd.int .i64))).sz = 1 from rfl, Nat.mul_one] at hv283_0
          replace hv283_0 := Option.some.inj (hv283_0.symm.trans hx283_0)
          rw [hv283_0] at ge283_0
          have HL283_0 := Aside0.mk (show Kd.R (Kd.int .i64) 3 _ _ _ _ (rd_L1 t276 a1) from ge283_0)
          clear hv283_0 ge283_0
          clear hcc283 hce283
          have HR283_0 := Aside0.mk hi283_0
          have HC283_0 := Aside0.mk hl283_0
          clear hi283_0 hl283_0
          replace p283 := eq_true p283
          replace q283 := eq_true q283
          have ea_ := Option.some.inj (hx280_0.symm.trans hx283_0)
          injection ea_ with ea_ en_ ec_
          subst ea_
          subst ec_
          clear en_
          have p284 : 0 ≤ (x9_1 : Int) := of_decide_eq_true (by first | (with_reducible assumption) | assumption)
          have q284 : x9_1 < ((rd_L1 t276 a1).length : Int) := of_decide_eq_true (by first | (with_reducible assumption) | assumption)
          obtain ⟨ad284, e284, hx284_0⟩ := Kd.at_int (by repeat (first | (with_reducible exact HR283_0.out) | (with_reducible refine Kd.C_alloc ?_ _) | (with_reducible refine Kd.C_drewN ?_ _) | (with_reducible refine Kd.C_drew ?_) | exact HR283_0.out)) x9_1 p284 q284
          cases e284
          replace p284 := eq_true p284
          replace q284 := eq_true q284
          go_wp2_with (first | ((with_reducible refine gate_builtin (b := .append) (xs := #[.tmp 33, .tmp 41]) rfl ?_); at_builtin; refine Kd.R_append (Kd.int .i64) (w0 := w) w.heap.size rfl (.tmp 33) (.tmp 41) 23 3 (.int .i64 0) 8 rfl Tryz.underlying23 info3 rfl (by decide) (by omega) u8 x8_1 (rd (rd_L1 t276 a1) x9_1) [.int .i64 (rd (rd_L1 t276 a1) x9_1)] (fun _ => True) (fun _ => False) rfl rfl ?aP (fun _ hk => hk.elim) ?aF ?aO ?aB ?aS ?aL ?_; (case aP => exact rfl); (case aB => exact (by repeat (first | (with_reducible first | exact HB.out | apply below_alloc | apply pw_below_drewN | apply below_drew1) | exact HB.out))); (case aF => exact (fun _ _ => trivial)); (case aO => exact (by (with_reducible repeat (first | apply Kd.R_alloc | apply Kd.R_drewN | apply Kd.R_drew)); exact HO_8.out)); (case aS => exact (below_size (by repeat (first | (with_reducible first | exact HB.out | apply below_alloc | apply pw_below_drewN | apply below_drew1) | exact HB.out)))); (case aL => have := LMc15.out; omega); intro v286 w17 ho hb hg hat; rw [← Ny285.out] at ho; have n0_ := Aside0.mk (Kd.S_after (ok := (fun _ => True)) (by (with_reducible repeat (first | apply Kd.S_alloc | apply Kd.S_drewN | apply Kd.S_drew)); exact Kd.S_mono HO_7.out (fun _ hk => ⟨trivial, hk⟩)) hg hat); have n1_ := Aside0.mk (Kd.R_after (ok := (fun k_ => some k_ ≠ (.slice (some ad280) t276.length co16 : Value).ownBlock)) (by (with_reducible repeat (first | apply Kd.R_alloc | apply Kd.R_drewN | apply Kd.R_drew)); exact Kd.R_mono HL280_0.out (fun _ hk => ⟨hk.2, hk.1⟩)) hg hat); have n2_ := Aside0.mk (Kd.R_after (ok := (fun k_ => some k_ ≠ (.slice (some ad280) t276.length co16 : Value).ownBlock)) (by (with_reducible repeat (first | apply Kd.R_alloc | apply Kd.R_drewN | apply Kd.R_drew)); exact Kd.R_mono HL281_0.out (fun _ hk => ⟨hk.2, hk.1⟩)) hg hat); have n3_ := Aside0.mk (Kd.R_after (ok := (fun k_ => some k_ ≠ (.slice (some ad280) t276.length co16 : Value).ownBlock)) (by (with_reducible repeat (first | apply Kd.R_alloc | apply Kd.R_drewN | apply Kd.R_drew)); exact Kd.R_mono HL283_0.out (fun _ hk => ⟨hk.2, hk.1⟩)) hg hat); have n4_ := Aside0.mk (hb); have n5_ := Aside0.mk (ho); clear HO_7; clear HL280_0; clear HL281_0; clear HL283_0; clear HB; clear HO_8; have HO_7 := n0_; have HL280_0 := n1_; have HL281_0 := n2_; have HL283_0 := n3_; have HB := n4_; have HO287 := n5_; clear n0_ n1_ n2_ n3_ n4_ n5_; clear ho hb hg hat))
          go_roundg k1
          case measure => have := HK1.out; omega
          case rel => exact ⟨(y285), (wrap64 (x9_1 + 1)), (by first | rfl | (simp; done) | (simp [*]; done)), H', ⟨by have := HK1.out; omega⟩, ⟨by (with_reducible repeat (first | apply Kd.S_alloc | apply Kd.S_drewN | apply Kd.S_drew)); exact Kd.S_mono HO_7.out (fun _ hk => hk.2)⟩, ⟨by (with_reducible repeat (first | apply Kd.R_alloc | apply Kd.R_drewN | apply Kd.R_drew)); exact HO287.out⟩, ⟨by repeat (first | (with_reducible first | exact HB.out | apply below_alloc | apply pw_below_drewN | apply below_drew1) | exact HB.out)⟩⟩
         ·rw [if_neg c15] at H
          exact absurd H (by simp)
       ·rw [if_neg c12] at H
        exact absurd H (by simp)
      ·rw [if_neg c11] at H
       have c11b0 : decide (x9_1 < ((rd_L1 t276 a1).length : Int)) = false := decide_eq_false c11
       clear c11
       obtain ⟨y288, hy288⟩ : ∃ y_ : List (List Int), y_ = (t276.set (a1 : Int).toNat x8_1) := ⟨_, rfl⟩
       replace H : (some y288) = some r := by first | (rw [hy288]; with_reducible exact H) | (have H2_ := (Option.bind_some _ _).symm.trans H; rw [hy288]; with_reducible exact H2_) | (have H2_ := (Option.bind_some _ _).symm.trans H; with_reducible exact H2_) | with_reducible exact H | (rw [hy288]; exact H) | exact H
       have Ny288 := Aside0.mk hy288
       clear hy288
       obtain rfl := Option.some.inj H
       obtain ⟨Ao19, co19, eo19⟩ := Kd.S_slice HO_7.out
       subst eo19
       have p280 : 0 ≤ (a1 : Int) := of_decide_eq_true (by first | (with_reducible assumption) | assumption)
       have q280 : a1 < (t276.length : Int) := of_decide_eq_true (by first | (with_reducible assumption) | assumption)
       obtain ⟨ad280, A280_0, c280_0, e280, hx280_0, hl280_0, hi280_0⟩ := at_L1 (Kd.S_reads' HO_7.out).2.2 a1 p280 q280
       cases e280
       obtain ⟨ce280, hce280, hMe280, hcc280⟩ := Kd.S_get HO_7.out [] a1 p280 (by first | exact q280 | exact of_decide_eq_true (by first | (with_reducible assumption) | assumption) | (have e_ := (Kd.S_reads' HO_7.out).1; omega))
       obtain ⟨ve280_0, rfl, ge280_0⟩ := hMe280
       have hv280_0 := hcc280 0 _ rfl
       rw [Nat.add_zero, show ((Kd.slice 3 (Kd.int .i64))).sz = 1 from rfl, Nat.mul_one] at hv280_0
       replace hv280_0 := Option.some.inj (hv280_0.symm.trans hx280_0)
       rw [hv280_0] at ge280_0
       have HL280_0 := Aside0.mk (show Kd.R (Kd.int .i64) 3 _ _ _ _ (rd_L1 t276 a1) from ge280_0)
       clear hv280_0 ge280_0
       clear hcc280 hce280
       have HR280_0 := Aside0.mk hi280_0
       have HC280_0 := Aside0.mk hl280_0
       clear hi280_0 hl280_0
       replace p280 := eq_true p280
       replace q280 := eq_true q280
       have p18 : 0 ≤ (a1 : Int) := of_decide_eq_true (by first | (with_reducible assumption) | assumption)
       have q18 : (a1 : Int) < ((t276.length : Int) : Int) := of_decide_eq_true (by first | (with_reducible assumption) | assumption)
       obtain ⟨go18, co18, eo18, gb18, gl18, cl18, HG18⟩ := Kd.S_form HO_7.out (by omega)
       (first | cases eo18 | (injection eo18 with ea_ en_ ec_; (first | subst ea_ | (injection ea_ with ea_; subst ea_)); subst ec_; clear en_))
       have GB18 := Aside0.mk gb18
       have GG18 := Aside0.mk HG18
       clear gb18 gl18 HG18
       (first | simp only [add_plain] at hx280_0 | skip)
       (first | simp only [add_plain] at hx281_0 | skip)
       (first | simp only [add_plain] at hx283_0 | skip)
       obtain ⟨_, ce18, hcl18, hM18, hcc18, hfr18, _, _⟩ := Kd.S_elem HO_7.out [] (a1 : Int) p18 q18
       obtain ⟨ve18_0, rfl, ge18_0⟩ := hM18
       have hx18_0 := hcc18 0 _ rfl
       have hf18_0 := hfr18 0
       (try simp only [show ((Kd.slice 3 (Kd.int .i64))).sz = 1 from rfl, Nat.mul_one, Nat.add_zero] at hx18_0)
       (try simp only [show ((Kd.slice 3 (Kd.int .i64))).sz = 1 from rfl, Nat.mul_one, Nat.add_zero] at hf18_0)
       clear hcl18 hcc18 hfr18
       try clear hM18
       replace p18 := eq_true p18
       replace q18 := eq_true q18
       have HX20 := Aside0.mk (show Kd.S (Kd.slice 3 (Kd.int .i64)) 23 wr w.heap.size (fun k_ => ((fun _ => True)) k_ ∧ ¬ ((fun k_ => some k_ = (u8 : Value).ownBlock)) k_) (.slice (some ⟨go18, 0, none⟩) t276.length co19) t276 from (by (with_reducible repeat (first | apply Kd.S_alloc | apply Kd.S_drewN | apply Kd.S_drew)); exact Kd.S_mono HO_7.out (fun k_ hk => ⟨trivial, fun e_ => hk e_⟩)))
       obtain ⟨oki20, ce20, hcl20, hM20, hcc20, hfr20, hoki20, hH20⟩ := Kd.S_elem HX20.out [] (a1 : Int) (of_decide_eq_true (by first | (with_reducible assumption) | assumption)) (by have h_ : (a1 : Int) < ((t276.length : Int) : Int) := of_decide_eq_true (by first | (with_reducible assumption) | assumption); first | exact h_ | (have e_ := (Kd.S_reads' HO_7.out).1; omega) | simpa using h_)
       obtain ⟨ve20_0, rfl, ge20_0⟩ := hM20
       have HP20 := Kd.S_seg hH20 (of_decide_eq_true (by first | (with_reducible assumption) | assumption)) (by have h_ : (a1 : Int) < ((t276.length : Int) : Int) := of_decide_eq_true (by first | (with_reducible assumption) | assumption); first | exact h_ | (have e_ := (Kd.S_reads' HO_7.out).1; omega) | simpa using h_) (seg := [u8]) (j := 0) (show 1 ≤ 1 from by decide) (x' := x8_1) (Kd.M_row (Kd.R_mono (Kd.R_tight rfl (Kd.R_mono (ok' := fun k_ => ((fun _ => True)) k_ ∧ k_ ≠ go18) (Kd.R_apart' (HO_8.out) (Kd.S_typed HO_7.out) (by decide)) (fun k_ hk => ⟨trivial, fun e_ => (hk.2) (by rw [e_]; rfl)⟩))) (fun _ h_ => Or.inr (h_)))) (fun _ hk => hk) (fun k_ hk_ => ((Kd.R_mono (ok' := fun k_ => ((fun _ => True)) k_ ∧ k_ ≠ go18) (Kd.R_apart' (HO_8.out) (Kd.S_typed HO_7.out) (by decide)) (fun k_ hk => ⟨trivial, fun e_ => (hk.2) (by rw [e_]; rfl)⟩))).1 k_ hk_.symm)
       have hx20_0 := hcc20 0 _ rfl
       (try simp only [show ((Kd.slice 3 (Kd.int .i64))).sz = 1 from rfl, Nat.mul_one, Nat.add_zero] at hx20_0)
       have hf20_0 := hfr20 0
       (try simp only [show ((Kd.slice 3 (Kd.int .i64))).sz = 1 from rfl, Nat.mul_one, Nat.add_zero] at hf20_0)
       clear hcl20 hcc20 hfr20 hoki20 hH20
       try clear hM20
       (try simp only [show ((Kd.slice 3 (Kd.int .i64))).sz = 1 from rfl, Nat.mul_one, Nat.add_zero] at HP20)
       obtain ⟨A_, c_, hu_⟩ := (by first | exact Kd.R_slice HO_8.out | exact Kd.S_slice HO_8.out : ∃ A c, u8 = .slice A _ c)
       have HU_ := Aside0.mk hu_
       clear hu_
       go_wp2_with (first | ((with_reducible refine gate_store (t := 23) (p := 46) rfl ?_); refine store_event (t := 23) (p := 46) (v := ?vo_w21) (w1 := (wr.setCell ⟨go18, (a1 : Int).toNat, none⟩ (u8))) ?hg ?ho ?hn ?hr ?_; (case ho => rfl); (case hg => rfl); (case hn => rfl); (case hr => first | (go_simp; done) | (go_simp; rfl) | (rw [HU_.out]; go_simp; done) | (rw [HU_.out]; go_simp; rfl)); intro w21 hw; have hg : wr.grownBy w21 (some go18) := (by rw [hw]; exact HP20.2); have hp_ : Kd.S (Kd.slice 3 (Kd.int .i64)) 23 w21 w.heap.size (fun _ => True) (.slice (some ⟨go18, 0, none⟩) t276.length co19) y288 := (by rw [hw, Ny288.out]; exact HP20.1); clear HP20; have n0_ := Aside0.mk (hp_); have n1_ := Aside0.mk (Kd.R_after (v := (.slice (some ⟨go18, 0, none⟩) t276.length co19)) (v1 := (.slice (some ⟨go18, 0, none⟩) t276.length co19)) (ok := (fun k_ => some k_ ≠ (u8 : Value).ownBlock)) (by (with_reducible repeat (first | apply Kd.R_alloc | apply Kd.R_drewN | apply Kd.R_drew)); exact HL280_0.out) hg (.inl rfl)); have n2_ := Aside0.mk ((by rw [hw]; exact below_set (HB.out) GB18.out : Below w.heap.size w w21)); clear HO_7; clear HL280_0; clear HB; clear HO_8; have HO_7 := n0_; have HL280_0 := n1_; have HB := n2_; clear n0_ n1_ n2_; clear hg hw hp_))
       go_ret
       exact ⟨_, by first | rfl | (simp [errW_none, errW_some] <;> rfl) | (simp [*, errW_none, errW_some] <;> rfl) | (exfalso; (try simp_all); (try omega); done), by (with_reducible repeat (first | apply Kd.S_alloc | apply Kd.S_drewN | apply Kd.S_drew)); exact HO_7.out, by repeat (first | (with_reducible first | exact HB.out | apply below_alloc | apply pw_below_drewN | apply below_drew1) | exact HB.out)⟩
     ·rw [if_neg c10] at H
      exact absurd H (by simp)
    ·rw [if_neg c9] at H
     exact absurd H (by simp)
 ·replace c6 := Bool.eq_false_iff.mpr c6
  subst c6
  have H1 : (some t276) = some r := by rw [if_neg (show ¬ (false = true) by decide)] at H; exact H
  clear H
  have H := H1
  clear H1
  obtain rfl := Option.some.inj H
  go_enter Tryz.func35, Tryz.ntmps35
  go_wp2_with (first | ((with_reducible refine gate_callee (f := 40) rfl ?_); refine goesL_ (some 11) rfl rfl Tryz.func40 (by kernel_rfl) rfl #[.slice A0 l0.length c0] rfl (by (try simp only [List.map_toArray, List.map_cons, List.map_nil]); first | done | rfl | (simp only [List.length_drop, List.length_take]; rfl)) ?_; (with_reducible refine (bywashref10_Clean.calls k _ _ l0 t276 _ ?side1 ?side2 A4.out).mono ?_); (case side1 => repeat (first | exact HR0.out | (with_reducible refine Kd.C_alloc ?_ _) | (with_reducible refine Kd.C_drewN ?_ _) | (with_reducible refine Kd.C_drew ?_))); (case side2 => exact HC0.out); rintro e w22 ⟨v277, rfl, ho0, hb⟩; refine ⟨_, rfl, ?_⟩; have n0_ := Aside0.mk (Kd.S_lower ho0 (below_size (by repeat (first | (with_reducible first | exact HB.out | apply below_alloc | apply pw_below_drewN | apply below_drew1) | exact HB.out)))); have n1_ := Aside0.mk (below_step (by repeat (first | (with_reducible first | exact HB.out | apply below_alloc | apply pw_below_drewN | apply below_drew1) | exact HB.out)) hb); clear HB; have HO278 := n0_; have HB := n1_; clear n0_ n1_; (try clear hb); (try clear hb2); (try clear hk); (try clear hi); (try clear ho0)) | ((with_reducible refine gate_callee (f := 55) rfl ?_); refine goesL_ (some 14) rfl rfl Tryz.func55 (by kernel_rfl) rfl #[.slice A0 l0.length c0, .int .i64 a1] rfl (by (try simp only [List.map_toArray, List.map_cons, List.map_nil]); first | done | rfl | (simp only [List.length_drop, List.length_take]; rfl)) ?_; (with_reducible refine (bywashref10_is.calls _ _ l0 a1 false _ ?side1 ?side2 A5.out).mono ?_); (case side1 => repeat (first | exact (Kd.C_below HR0.out HB.out) | (with_reducible refine Kd.C_alloc ?_ _) | (with_reducible refine Kd.C_drewN ?_ _) | (with_reducible refine Kd.C_drew ?_))); (case side2 => exact HC0.out); rintro e w23 ⟨rfl, hb⟩; refine ⟨_, rfl, ?_⟩; have n0_ := Aside0.mk (Kd.S_below (by (with_reducible repeat (first | apply Kd.S_alloc | apply Kd.S_drewN | apply Kd.S_drew)); exact HO278.out) hb); have n1_ := Aside0.mk (below_step (by repeat (first | (with_reducible first | exact HB.out | apply below_alloc | apply pw_below_drewN | apply below_drew1) | exact HB.out)) hb); clear HO278; clear HB; have HO278 := n0_; have HB := n1_; clear n0_ n1_; (try clear hb); (try clear hb2); (try clear hk); (try clear hi)))
  go_ret
  exact ⟨_, by first | rfl | (simp [errW_none, errW_some] <;> rfl) | (simp [*, errW_none, errW_some] <;> rfl) | (exfalso; (try simp_all); (try omega); done), by (with_reducible repeat (first | apply Kd.S_alloc | apply Kd.S_drewN | apply Kd.S_drew)); exact HO278.out, by repeat (first | (with_reducible first | exact HB.out | apply below_alloc | apply pw_below_drewN | apply below_drew1) | exact HB.out)⟩
def bywashref10_Same.l0 : Nat → List (List Int) → List (List Int) → Int → Option (Bool)
 | 0, _, _, _ => none
 | k + 1, x0, x1, x5 => if x5 < (x0.length : Int) then (if 0 ≤ x5 then (if x5 < (x1.length : Int) then ((bywashref01_Ints.f k (rd_L1 x0 x5) (rd_L1 x1 x5)).bind fun t312 => (if t312 = true then (bywashref10_Same.l0 k x0 x1 (wrap64 (x5 + 1))) else (some false))) else (none)) else (none)) else (some true)
def bywashref10_Same.f (k : Nat) (l0 : List (List Int)) (l1 : List (List Int)) : Option (Bool) := if (l0.length : Int) = (l1.length : Int) then (bywashref10_Same.l0 k l0 l1 0) else (some false)
set_option maxHeartbeats 8000000 in
set_option maxRecDepth 100000 in
theorem bywashref10_Same.calls (k : Nat) (A0 : Option Addr) (c0 : Nat) (l0 : List (List Int)) (A1 : Option Addr) (c1 : Nat) (l1 : List (List Int)) (r : Bool) (w : World) (hr0 : Kd.C (Kd.slice 3 (Kd.int .i64)) w A0 l0.length l0) (hc0 : l0.length ≤ c0) (hr1 : Kd.C (Kd.slice 3 (Kd.int .i64)) w A1 l1.length l1) (hc1 : l1.length ≤ c1) (h : bywashref10_Same.f k l0 l1 = some r) :
  Calls Tryz.prog 36 #[.slice A0 l0.length c0, .slice A1 l1.length c1] w fun e w' => e = .returned (.bool r) ∧ Drawn0 w w' := by
 have HR0 := Aside0.mk hr0
 have HC0 := Aside0.mk hc0
 clear hr0 hc0
 have HR1 := Aside0.mk hr1
 have HC1 := Aside0.mk hc1
 clear hr1 hc1
 have H : (if (l0.length : Int) = (l1.length : Int) then (bywashref10_Same.l0 k l0 l1 0) else (some false)) = some r := h
 clear h
 by_cases c3 : (l0.length : Int) = (l1.length : Int)
 ·rw [if_pos c3] at H
  have c3b0 : ((l0.length : Int) == (l1.length : Int)) = true := beq_iff_eq.mpr c3
  have c3b1 : ((l0.length : Int) != (l1.length : Int)) = false := bne_eq_false_iff_eq.mpr c3
  have c3b2 : (l0.length == l1.length) = true := by first | simpa using c3 | (simp at c3 ⊢; omega)
  clear c3
  have H' := Aside0.mk H
  clear H
  go_enter Tryz.func36, Tryz.ntmps36
  go_wp2
  repeat (go_quiet (fail); try go_wp2)
  go_loopg [5] k (fun kq v5 w' => ∃ (x5_1 : Int), v5 = .int .i64 x5_1 ∧ Aside0 (bywashref10_Same.l0 kq l0 l1 x5_1 = some r) ∧ Aside0 (kq ≤ k) ∧ Drawn0 w w')
  case atStart => exact ⟨(0), (by first | rfl | (simp; done) | (simp [*]; done)), H', ⟨Nat.le_refl _⟩, by repeat (first | exact Drawn0.refl _ | apply Drawn0.step)⟩
  case round =>
   clear H'
   try clear c1
   try clear p2
   try clear c3
   try clear c3b0
   try clear c3b1
   try clear c3b2
   obtain ⟨x5_1, rfl, HA, HK1, ⟨m1, rfl⟩⟩ := hrel
   cases gk with
   | zero => exact absurd HA.out (by simp [bywashref10_Same.l0])
   | succ k1 =>
    have H := HA.out
    clear HA
    simp only [bywashref10_Same.l0] at H
    by_cases c4 : x5_1 < (l0.length : Int)
    ·rw [if_pos c4] at H
     have c4b0 : decide (x5_1 < (l0.length : Int)) = true := decide_eq_true c4
     clear c4
     by_cases c5 : 0 ≤ x5_1
     ·rw [if_pos c5] at H
      have c5b0 : decide (0 ≤ x5_1) = true := decide_eq_true c5
      clear c5
      by_cases c6 : x5_1 < (l1.length : Int)
      ·rw [if_pos c6] at H
       have c6b0 : decide (x5_1 < (l1.length : Int)) = true := decide_eq_true c6
       clear c6
       replace H := Option.bind_eq_some_iff.mp H
       obtain ⟨t312, A70, H⟩ := H
       replace H : (if t312 = true then (bywashref10_Same.l0 k1 l0 l1 (wrap64 (x5_1 + 1))) else (some false)) = some r := H
       have A7 := Aside0.mk A70
       clear A70
       by_cases c8 : t312 = true
       ·subst c8
        have H1 : (bywashref10_Same.l0 k1 l0 l1 (wrap64 (x5_1 + 1))) = some r := by rw [if_pos rfl] at H; exact H
        clear H
        have H := H1
        clear H1
        have H' := Aside0.mk H
        clear H
        have p310 : 0 ≤ (x5_1 : Int) := of_decide_eq_true (by first | (with_reducible assumption) | assumption)
        have q310 : x5_1 < (l0.length : Int) := of_decide_eq_true (by first | (with_reducible assumption) | assumption)
        obtain ⟨ad310, A310_0, c310_0, e310, hx310_0, hl310_0, hi310_0⟩ := at_L1 HR0.out x5_1 p310 q310
        cases e310
        have HR310_0 := Aside0.mk hi310_0
        have HC310_0 := Aside0.mk hl310_0
        clear hi310_0 hl310_0
        replace p310 := eq_true p310
        replace q310 := eq_true q310
        have p311 : 0 ≤ (x5_1 : Int) := of_decide_eq_true (by first | (with_reducible assumption) | assumption)
        have q311 : x5_1 < (l1.length : Int) := of_decide_eq_true (by first | (with_reducible assumption) | assumption)
        obtain ⟨ad311, A311_0, c311_0, e311, hx311_0, hl311_0, hi311_0⟩ := at_L1 HR1.out x5_1 p311 q311
        cases e311
        have HR311_0 := Aside0.mk hi311_0
        have HC311_0 := Aside0.mk hl311_0
        clear hi311_0 hl311_0
        replace p311 := eq_true p311
        replace q311 := eq_true q311
        go_wp2_with (first | (go_at_call 13; (with_reducible refine (bywashref01_Ints.calls k1 _ _ (rd_L1 l0 x5_1) _ _ (rd_L1 l1 x5_1) true _ ?side1 ?side2 ?side3 ?side4 A7.out).mono ?_); (case side1 => repeat (first | exact HR310_0.out | (with_reducible refine Kd.C_alloc ?_ _) | (with_reducible refine Kd.C_drewN ?_ _) | (with_reducible refine Kd.C_drew ?_))); (case side2 => exact HC310_0.out); (case side3 => repeat (first | exact HR311_0.out | (with_reducible refine Kd.C_alloc ?_ _) | (with_reducible refine Kd.C_drewN ?_ _) | (with_reducible refine Kd.C_drew ?_))); (case side4 => exact HC311_0.out); rintro e w' ⟨rfl, ⟨nd, rfl⟩⟩; (try first | exact ⟨rfl, _, World.drewN_drewN _ _ _⟩ | exact ⟨rfl, _, Eq.trans (World.drewN_drewN _ _ _) (congrArg (World.drewN _) (Nat.add_assoc _ _ _))⟩)))
        repeat (go_quiet (first | (go_at_call 13; (with_reducible refine (bywashref01_Ints.calls k1 _ _ (rd_L1 l0 x5_1) _ _ (rd_L1 l1 x5_1) true _ ?side1 ?side2 ?side3 ?side4 A7.out).mono ?_); (case side1 => repeat (first | exact HR310_0.out | (with_reducible refine Kd.C_alloc ?_ _) | (with_reducible refine Kd.C_drewN ?_ _) | (with_reducible refine Kd.C_drew ?_))); (case side2 => exact HC310_0.out); (case side3 => repeat (first | exact HR311_0.out | (with_reducible refine Kd.C_alloc ?_ _) | (with_reducible refine Kd.C_drewN ?_ _) | (with_reducible refine Kd.C_drew ?_))); (case side4 => exact HC311_0.out); rintro e w' ⟨rfl, ⟨nd, rfl⟩⟩; (try first | exact ⟨rfl, _, World.drewN_drewN _ _ _⟩ | exact ⟨rfl, _, Eq.trans (World.drewN_drewN _ _ _) (congrArg (World.drewN _) (Nat.add_assoc _ _ _))⟩))); try go_wp2_with (first | (go_at_call 13; (with_reducible refine (bywashref01_Ints.calls k1 _ _ (rd_L1 l0 x5_1) _ _ (rd_L1 l1 x5_1) true _ ?side1 ?side2 ?side3 ?side4 A7.out).mono ?_); (case side1 => repeat (first | exact HR310_0.out | (with_reducible refine Kd.C_alloc ?_ _) | (with_reducible refine Kd.C_drewN ?_ _) | (with_reducible refine Kd.C_drew ?_))); (case side2 => exact HC310_0.out); (case side3 => repeat (first | exact HR311_0.out | (with_reducible refine Kd.C_alloc ?_ _) | (with_reducible refine Kd.C_drewN ?_ _) | (with_reducible refine Kd.C_drew ?_))); (case side4 => exact HC311_0.out); rintro e w' ⟨rfl, ⟨nd, rfl⟩⟩; (try first | exact ⟨rfl, _, World.drewN_drewN _ _ _⟩ | exact ⟨rfl, _, Eq.trans (World.drewN_drewN _ _ _) (congrArg (World.drewN _) (Nat.add_assoc _ _ _))⟩))))
        go_roundg k1
        case measure => have := HK1.out; omega
        case rel => exact ⟨(wrap64 (x5_1 + 1)), (by first | rfl | (simp; done) | (simp [*]; done)), H', ⟨by have := HK1.out; omega⟩, by repeat (first | exact Drawn0.refl _ | apply Drawn0.step)⟩
       ·replace c8 := Bool.eq_false_iff.mpr c8
        subst c8
        have H1 : (some false) = some r := by rw [if_neg (show ¬ (false = true) by decide)] at H; exact H
        clear H
        have H := H1
        clear H1
        obtain rfl := Option.some.inj H
        have p310 : 0 ≤ (x5_1 : Int) := of_decide_eq_true (by first | (with_reducible assumption) | assumption)
        have q310 : x5_1 < (l0.length : Int) := of_decide_eq_true (by first | (with_reducible assumption) | assumption)
        obtain ⟨ad310, A310_0, c310_0, e310, hx310_0, hl310_0, hi310_0⟩ := at_L1 HR0.out x5_1 p310 q310
        cases e310
        have HR310_0 := Aside0.mk hi310_0
        have HC310_0 := Aside0.mk hl310_0
        clear hi310_0 hl310_0
        replace p310 := eq_true p310
        replace q310 := eq_true q310
        have p311 : 0 ≤ (x5_1 : Int) := of_decide_eq_true (by first | (with_reducible assumption) | assumption)
        have q311 : x5_1 < (l1.length : Int) := of_decide_eq_true (by first | (with_reducible assumption) | assumption)
        obtain ⟨ad311, A311_0, c311_0, e311, hx311_0, hl311_0, hi311_0⟩ := at_L1 HR1.out x5_1 p311 q311
        cases e311
        have HR311_0 := Aside0.mk hi311_0
        have HC311_0 := Aside0.mk hl311_0
        clear hi311_0 hl311_0
        replace p311 := eq_true p311
        replace q311 := eq_true q311
        go_wp2_with (first | (go_at_call 13; (with_reducible refine (bywashref01_Ints.calls k1 _ _ (rd_L1 l0 x5_1) _ _ (rd_L1 l1 x5_1) false _ ?side1 ?side2 ?side3 ?side4 A7.out).mono ?_); (case side1 => repeat (first | exact HR310_0.out | (with_reducible refine Kd.C_alloc ?_ _) | (with_reducible refine Kd.C_drewN ?_ _) | (with_reducible refine Kd.C_drew ?_))); (case side2 => exact HC310_0.out); (case side3 => repeat (first | exact HR311_0.out | (with_reducible refine Kd.C_alloc ?_ _) | (with_reducible refine Kd.C_drewN ?_ _) | (with_reducible refine Kd.C_drew ?_))); (case side4 => exact HC311_0.out); rintro e w' ⟨rfl, ⟨nd, rfl⟩⟩; (try first | exact ⟨rfl, _, World.drewN_drewN _ _ _⟩ | exact ⟨rfl, _, Eq.trans (World.drewN_drewN _ _ _) (congrArg (World.drewN _) (Nat.add_assoc _ _ _))⟩)))
        repeat (go_quiet (first | (go_at_call 13; (with_reducible refine (bywashref01_Ints.calls k1 _ _ (rd_L1 l0 x5_1) _ _ (rd_L1 l1 x5_1) false _ ?side1 ?side2 ?side3 ?side4 A7.out).mono ?_); (case side1 => repeat (first | exact HR310_0.out | (with_reducible refine Kd.C_alloc ?_ _) | (with_reducible refine Kd.C_drewN ?_ _) | (with_reducible refine Kd.C_drew ?_))); (case side2 => exact HC310_0.out); (case side3 => repeat (first | exact HR311_0.out | (with_reducible refine Kd.C_alloc ?_ _) | (with_reducible refine Kd.C_drewN ?_ _) | (with_reducible refine Kd.C_drew ?_))); (case side4 => exact HC311_0.out); rintro e w' ⟨rfl, ⟨nd, rfl⟩⟩; (try first | exact ⟨rfl, _, World.drewN_drewN _ _ _⟩ | exact ⟨rfl, _, Eq.trans (World.drewN_drewN _ _ _) (congrArg (World.drewN _) (Nat.add_assoc _ _ _))⟩))); try go_wp2_with (first | (go_at_call 13; (with_reducible refine (bywashref01_Ints.calls k1 _ _ (rd_L1 l0 x5_1) _ _ (rd_L1 l1 x5_1) false _ ?side1 ?side2 ?side3 ?side4 A7.out).mono ?_); (case side1 => repeat (first | exact HR310_0.out | (with_reducible refine Kd.C_alloc ?_ _) | (with_reducible refine Kd.C_drewN ?_ _) | (with_reducible refine Kd.C_drew ?_))); (case side2 => exact HC310_0.out); (case side3 => repeat (first | exact HR311_0.out | (with_reducible refine Kd.C_alloc ?_ _) | (with_reducible refine Kd.C_drewN ?_ _) | (with_reducible refine Kd.C_drew ?_))); (case side4 => exact HC311_0.out); rintro e w' ⟨rfl, ⟨nd, rfl⟩⟩; (try first | exact ⟨rfl, _, World.drewN_drewN _ _ _⟩ | exact ⟨rfl, _, Eq.trans (World.drewN_drewN _ _ _) (congrArg (World.drewN _) (Nat.add_assoc _ _ _))⟩))))
        go_ret
        exact ⟨by first | rfl | (simp; done) | (simp [*]; done), by repeat (first | exact Drawn0.refl _ | apply Drawn0.step)⟩
      ·rw [if_neg c6] at H
       exact absurd H (by simp)
     ·rw [if_neg c5] at H
      exact absurd H (by simp)
    ·rw [if_neg c4] at H
     have c4b0 : decide (x5_1 < (l0.length : Int)) = false := decide_eq_false c4
     clear c4
     obtain rfl := Option.some.inj H
     go_wp2
     repeat (go_quiet (fail); try go_wp2)
     go_ret
     exact ⟨by first | rfl | (simp; done) | (simp [*]; done), by repeat (first | exact Drawn0.refl _ | apply Drawn0.step)⟩
 ·rw [if_neg c3] at H
  have c3b0 : ((l0.length : Int) == (l1.length : Int)) = false := beq_eq_false_iff_ne.mpr c3
  have c3b1 : ((l0.length : Int) != (l1.length : Int)) = true := bne_iff_ne.mpr c3
  have c3b2 : (l0.length == l1.length) = false := by first | simpa using c3 | (simp at c3 ⊢; omega)
  obtain rfl := Option.some.inj H
  go_enter Tryz.func36, Tryz.ntmps36
  go_wp2
  repeat (go_quiet (fail); try go_wp2)
  go_ret
  exact ⟨by first | rfl | (simp; done) | (simp [*]; done), by repeat (first | exact Drawn0.refl _ | apply Drawn0.step)⟩
end Go.Proofs.YtemcmcnhpdkdfaaGreat.P
namespace Go.Proofs.YtemcmcnhpdkdfaaGreat.P
open Go.RowKit Go.Lib Go.Proofs.YtemcmcnhpdkdfaaGreatW.PrintWords
theorem wrap_succ {i : Nat} (h : i + 1 ≤ 9223372036854775807) : wrap64 ((i : Int) + 1) = ((i + 1 : Nat) : Int) := by
 unfold wrap64
 omega
theorem rd_nat' {xs : List Int} {i : Nat} (h : i < xs.length) : rd xs (i : Int) = xs[i] := by
 unfold rd
 rw [Int.toNat_natCast, List.getD_eq_getElem?_getD, List.getElem?_eq_getElem h]
 rfl
theorem rdOf_nat {α : Type} {d : α} {xs : List α} {i : Nat} (h : i < xs.length) : rdOf d xs (i : Int) = xs[i] := by
 unfold rdOf
 rw [Int.toNat_natCast, List.getD_eq_getElem?_getD, List.getElem?_eq_getElem h]
 rfl
theorem rdL1_nat {xs : List (List Int)} {i : Nat} (h : i < xs.length) : rd_L1 xs (i : Int) = xs[i] := by
 unfold rd_L1
 rw [Int.toNat_natCast, List.getD_eq_getElem?_getD, List.getElem?_eq_getElem h]
 rfl
def few (l : List (List Int)) : Bool := l.all (fun r => decide (r.length ≤ 60)) && decide (l.length ≤ 40)
theorem few_l0 (l : List (List Int)) (hb : l.length ≤ 9223372036854775807) : ∀ d i : Nat, i + d = l.length → Ev (fun k => bywashref10_Few.l0 k l (i : Int)) ((l.drop i).all (fun r => decide (r.length ≤ 60)) && decide (l.length ≤ 40))
 | 0, i, h => by
  refine Ev.step (f := fun _ => some (decide ((l.length : Int) ≤ 40))) (fun k => by rw [bywashref10_Few.l0, if_neg (by omega)]) ?_
  rw [List.drop_eq_nil_of_le (by omega), List.all_nil, Bool.true_and, show decide (l.length ≤ 40) = decide ((l.length : Int) ≤ 40) from by simp only [decide_eq_decide]; omega]
  exact Ev.now _
 | d + 1, i, h => by
  have hi : i < l.length := by omega
  rw [List.drop_eq_getElem_cons hi, List.all_cons]
  by_cases hs : l[i].length ≤ 60
  ·refine Ev.step (f := fun k => bywashref10_Few.l0 k l ((i + 1 : Nat) : Int)) (fun k => by rw [bywashref10_Few.l0, if_pos (by omega), if_pos (by omega), rdL1_nat hi, if_neg (by omega), wrap_succ (by omega)]) ?_
   rw [decide_eq_true hs, Bool.true_and]
   exact few_l0 l hb d (i + 1) (by omega)
  ·refine Ev.step (f := fun _ => some false) (fun k => by rw [bywashref10_Few.l0, if_pos (by omega), if_pos (by omega), rdL1_nat hi, if_pos (by omega)]) ?_
   rw [decide_eq_false hs, Bool.false_and, Bool.false_and]
   exact Ev.now _
theorem few_ev (l : List (List Int)) (hb : l.length ≤ 9223372036854775807) : Ev (fun k => bywashref10_Few.f k l) (few l) := few_l0 l hb l.length 0 (by omega)
theorem few_iff {l : List (List Int)} : few l = true ↔ (∀ r ∈ l, r.length ≤ 60) ∧ l.length ≤ 40 := by
 unfold few
 simp
theorem few_fits {l : List (List Int)} (h : few l = true) : fits l = true := by
 rw [few_iff] at h
 unfold fits
 simp only [Bool.and_eq_true, decide_eq_true_eq, List.all_eq_true]
 exact ⟨by omega, fun r hr => by have := h.1 r hr; omega⟩
theorem ints_l0 (a b : List Int) (hl : a.length = b.length) (hb : a.length ≤ 9223372036854775807) : ∀ d i : Nat, i + d = a.length → Ev (fun k => bywashref01_Ints.l0 k a b (i : Int)) (decide (a.drop i = b.drop i))
 | 0, i, h => by
  refine Ev.step (f := fun _ => some true) (fun k => by rw [bywashref01_Ints.l0, if_neg (by omega)]) ?_
  rw [List.drop_eq_nil_of_le (by omega), List.drop_eq_nil_of_le (by omega), decide_eq_true rfl]
  exact Ev.now _
 | d + 1, i, h => by
  have hi : i < a.length := by omega
  have hj : i < b.length := by omega
  rw [List.drop_eq_getElem_cons hi, List.drop_eq_getElem_cons hj]
  by_cases hs : a[i] = b[i]
  ·refine Ev.step (f := fun k => bywashref01_Ints.l0 k a b ((i + 1 : Nat) : Int)) (fun k => by rw [bywashref01_Ints.l0, if_pos (by omega), if_pos (by omega), if_pos (by omega), rd_nat' hi, rd_nat' hj, if_pos hs, wrap_succ (by omega)]) ?_
   rw [show decide (a[i] :: a.drop (i + 1) = b[i] :: b.drop (i + 1)) = decide (a.drop (i + 1) = b.drop (i + 1)) from by rw [hs]; exact decide_eq_decide.2 ⟨fun e => (List.cons.inj e).2, fun e => by rw [e]⟩]
   exact ints_l0 a b hl hb d (i + 1) (by omega)
  ·refine Ev.step (f := fun _ => some false) (fun k => by rw [bywashref01_Ints.l0, if_pos (by omega), if_pos (by omega), if_pos (by omega), rd_nat' hi, rd_nat' hj, if_neg hs]) ?_
   rw [show decide (a[i] :: a.drop (i + 1) = b[i] :: b.drop (i + 1)) = false from decide_eq_false (fun e => hs (by injection e))]
   exact Ev.now _
theorem ints_ev (a b : List Int) (hb : a.length ≤ 9223372036854775807) : Ev (fun k => bywashref01_Ints.f k a b) (decide (a = b)) := by
 by_cases h : a.length = b.length
 ·refine Ev.congr (f := fun k => bywashref01_Ints.l0 k a b ((0 : Nat) : Int)) (fun k => by unfold bywashref01_Ints.f; rw [if_pos (by omega)]; rfl) ?_
  have := ints_l0 a b h hb a.length 0 (by omega)
  rwa [List.drop_zero, List.drop_zero] at this
 ·refine Ev.congr (f := fun _ => some false) (fun k => by unfold bywashref01_Ints.f; rw [if_neg (by omega)]) ?_
  rw [decide_eq_false (fun e => h (by rw [e]))]
  exact Ev.now _
theorem has_l0 (a : List Int) (x : Int) (hb : a.length ≤ 9223372036854775807) : ∀ d i : Nat, i + d = a.length → Ev (fun k => bywashref10_Has.l0 k a x (i : Int)) (decide (x ∈ a.drop i))
 | 0, i, h => by
  refine Ev.step (f := fun _ => some false) (fun k => by rw [bywashref10_Has.l0, if_neg (by omega)]) ?_
  rw [List.drop_eq_nil_of_le (by omega), decide_eq_false (by simp)]
  exact Ev.now _
 | d + 1, i, h => by
  have hi : i < a.length := by omega
  rw [List.drop_eq_getElem_cons hi]
  by_cases hs : a[i] = x
  ·refine Ev.step (f := fun _ => some true) (fun k => by rw [bywashref10_Has.l0, if_pos (by omega), if_pos (by omega), rd_nat' hi, if_pos hs]) ?_
   rw [decide_eq_true (by rw [← hs]; exact List.mem_cons_self)]
   exact Ev.now _
  ·refine Ev.step (f := fun k => bywashref10_Has.l0 k a x ((i + 1 : Nat) : Int)) (fun k => by rw [bywashref10_Has.l0, if_pos (by omega), if_pos (by omega), rd_nat' hi, if_neg hs, wrap_succ (by omega)]) ?_
   rw [show decide (x ∈ a[i] :: a.drop (i + 1)) = decide (x ∈ a.drop (i + 1)) from by
    rw [decide_eq_decide, List.mem_cons]
    exact ⟨fun e => e.resolve_left (fun e => hs e.symm), .inr⟩]
   exact has_l0 a x hb d (i + 1) (by omega)
theorem has_ev (a : List Int) (x : Int) (hb : a.length ≤ 9223372036854775807) : Ev (fun k => bywashref10_Has.f k a x) (decide (x ∈ a)) := has_l0 a x hb a.length 0 (by omega)
theorem clean_Valid (g : List (List Int)) : Valid (clean g) := fun l hl b hb => by rw [clean_len]; exact clean_valid l hl b hb
theorem clean_row_le {g : List (List Int)} : ∀ l ∈ clean g, l.length ≤ g.length := by
 intro l hl
 obtain ⟨r, _, rfl⟩ := List.mem_map.1 hl
 exact few_nodes ((cleanRow_rises _ _).imp (fun h => by omega)) (fun x hx => (mem_cleanRow.1 hx).2)
theorem clean_node {g : List (List Int)} {a : Int} : Node (clean g) a ↔ 0 ≤ a ∧ a < (g.length : Int) := by
 unfold Node
 rw [clean_len]
theorem clean_now {g : List (List Int)} (h : fits g = true) : graph_Clean.f g = some (clean g) := by unfold graph_Clean.f; rw [if_pos h]
theorem marks_foldl (l : List Int) : ∀ (m : List Bool), (∀ x ∈ l, 0 ≤ x ∧ x < (m.length : Int)) → ∀ i : Nat, i < m.length → (l.foldl (fun m a => m.set a.toNat true) m).getD i false = (m.getD i false || decide ((i : Int) ∈ l)) := by
 induction l with
 | nil => intro m _ i _; simp
 | cons a l ih =>
  intro m hl i hi
  have ha := hl a List.mem_cons_self
  rw [List.foldl_cons, ih _ (fun x hx => by rw [List.length_set]; exact hl x (List.mem_cons_of_mem _ hx)) i (by rw [List.length_set]; exact hi)]
  rw [List.getD_eq_getElem?_getD, List.getElem?_set]
  by_cases e : a.toNat = i
  ·rw [if_pos e, if_pos (by omega)]
   have : (i : Int) = a := by omega
   simp [this]
  ·rw [if_neg e, ← List.getD_eq_getElem?_getD]
   have : ¬ (i : Int) = a := by omega
   simp [this]
theorem marks_get {n : Nat} {l : List Int} (hl : ∀ x ∈ l, 0 ≤ x ∧ x < (n : Int)) {i : Nat} (hi : i < n) : (marks n l).getD i false = decide ((i : Int) ∈ l) := by
 unfold marks
 rw [marks_foldl l _ (fun x hx => by rw [List.length_replicate]; exact hl x hx) i (by rw [List.length_replicate]; exact hi)]
 simp [List.getD_eq_getElem?_getD, hi]
def Small (g : List (List Int)) : Prop := fits g = true ∧ g.length ≤ 900
theorem few_small {g : List (List Int)} (h : few g = true) : Small g := ⟨few_fits h, by have := (few_iff.1 h).2; omega⟩
theorem told_small {g : List (List Int)} (h : Small g) {a : Int} (ha : 0 ≤ a ∧ a < (g.length : Int)) :
  ∃ t, toldOf (clean g) a = some (t ++ [a]) ∧ (∀ x, x ∈ t ++ [a] ↔ Way (clean g) a x) ∧ (t ++ [a]).Nodup ∧ (∀ x ∈ t ++ [a], 0 ≤ x ∧ x < (g.length : Int)) ∧
   (∀ t1 x t2, t ++ [a] = t1 ++ x :: t2 → ∀ y ∈ row (clean g) x, y = x ∨ y ∈ t2 → Way (clean g) y x) := by
 obtain ⟨t, h1, h2, h3, h4, h5, _⟩ := told_spec (clean_Valid g) (by rw [clean_len]; exact h.2) (fun l hl => Nat.le_trans (clean_row_le l hl) h.2) (clean_node.2 ha)
 exact ⟨t, h1, h2, h3, fun x hx => clean_node.1 (h4 x hx), h5⟩
theorem reach_now {g : List (List Int)} (h : Small g) (a : Int) :
  ∃ r, graph_Reach.f g a = some r ∧ r.length = g.length ∧ ∀ x, 0 ≤ x → x < (g.length : Int) → (rdOf false r x = true ↔ (0 ≤ a ∧ a < (g.length : Int)) ∧ Way (clean g) a x) := by
 unfold graph_Reach.f
 rw [if_pos h.1]
 by_cases ha : 0 ≤ a ∧ a < (g.length : Int)
 ·obtain ⟨t, h1, h2, _, h4, _⟩ := told_small h ha
  refine ⟨marks g.length (t ++ [a]), by rw [h1]; rfl, marks_len _ _, fun x hx0 hx1 => ?_⟩
  unfold rdOf
  rw [marks_get h4 (by omega), decide_eq_true_iff, show ((x.toNat : Nat) : Int) = x by omega, h2]
  exact ⟨fun hw => ⟨ha, hw⟩, fun hw => hw.2⟩
 ·refine ⟨marks g.length [], by rw [told_none (fun hn => ha (clean_node.1 hn))]; rfl, marks_len _ _, fun x hx0 hx1 => ?_⟩
  unfold rdOf
  rw [marks_get (by simp) (by omega)]
  simp only [List.not_mem_nil, decide_false, Bool.false_eq_true, false_iff]
  exact fun hw => ha hw.1
theorem clean_self {g : List (List Int)} (hv : Valid g) (hr : ∀ l ∈ g, l.Pairwise (· < ·)) : clean g = g := by
 unfold clean
 conv => rhs; rw [← List.map_id g]
 refine List.map_congr_left fun l hl => ?_
 exact cleanRow_eq (hr l hl) (fun x => ⟨fun hx => ⟨hx, hv l hl x hx⟩, fun h => h.1⟩)
end Go.Proofs.YtemcmcnhpdkdfaaGreat.P
namespace Go.Proofs.YtemcmcnhpdkdfaaGreat.P
open Go.RowKit Go.Lib Go.Proofs.YtemcmcnhpdkdfaaGreatW.PrintWords
theorem clean_rises (g : List (List Int)) : ∀ l ∈ clean g, l.Pairwise (· < ·) := by
 intro l hl
 obtain ⟨r, _, rfl⟩ := List.mem_map.1 hl
 exact cleanRow_rises _ _
theorem clean_clean (g : List (List Int)) : clean (clean g) = clean g := clean_self (clean_Valid g) (clean_rises g)
theorem fits_clean {g : List (List Int)} (h : fits g = true) : fits (clean g) = true := by
 have h1 := clean_small h
 unfold fits at h ⊢
 simp only [Bool.and_eq_true, decide_eq_true_eq, List.all_eq_true] at h ⊢
 exact ⟨by rw [clean_len]; exact h.1, h1⟩
theorem turnStep_get (a : Int) (o : List (List Int)) (b : Int) (j : Nat) (hb : 0 ≤ b ∧ b < (o.length : Int)) : (turnStep a o b).getD j [] = if (j : Int) = b then o.getD j [] ++ [a] else o.getD j [] := by
 unfold turnStep
 rw [List.getD_eq_getElem?_getD, List.getElem?_set]
 by_cases e : b.toNat = j
 ·rw [if_pos e, if_pos (by omega), if_pos (by omega), Option.getD_some, e]
 ·rw [if_neg e, if_neg (by omega), ← List.getD_eq_getElem?_getD]
theorem turnRow_get (a : Int) (j : Nat) : ∀ (l : List Int) (o : List (List Int)), (∀ b ∈ l, 0 ≤ b ∧ b < (o.length : Int)) → l.Pairwise (· < ·) → (l.foldl (turnStep a) o).getD j [] = o.getD j [] ++ if (j : Int) ∈ l then [a] else []
 | [], o, _, _ => by simp
 | b :: l, o, hl, hp => by
  rw [List.pairwise_cons] at hp
  have hb := hl b List.mem_cons_self
  have hlen : (turnStep a o b).length = o.length := by simp [turnStep]
  rw [List.foldl_cons, turnRow_get a j l _ (fun c hc => by rw [hlen]; exact hl c (List.mem_cons_of_mem _ hc)) hp.2, turnStep_get a o b j hb]
  by_cases e : (j : Int) = b
  ·rw [if_pos e, if_neg (fun hm => by have := hp.1 _ hm; omega), List.append_nil, if_pos (by rw [e]; exact List.mem_cons_self)]
  ·rw [if_neg e]
   simp only [List.mem_cons, e, false_or]
theorem turnSo_get {c : List (List Int)} (hv : Valid c) (hr : ∀ l ∈ c, l.Pairwise (· < ·)) (j : Nat) : ∀ k, k ≤ c.length → (turnSo c k).getD j [] = (nodes k).filter fun a => decide ((j : Int) ∈ row c a)
 | 0, _ => by
  unfold turnSo nodes
  simp only [List.range_zero, List.map_nil, List.filter_nil]
  rw [List.getD_eq_getElem?_getD, List.getElem?_replicate]
  split <;> rfl
 | k + 1, hk => by
  have hm : c.getD k [] ∈ c := by
   rw [List.getD_eq_getElem?_getD, List.getElem?_eq_getElem (by omega)]
   exact List.getElem_mem _
  rw [turnSo, turnRow_get _ j _ _ (fun b hb => by rw [turnSo_len]; exact hv _ hm b hb) (hr _ hm), turnSo_get hv hr j k (by omega)]
  unfold nodes
  rw [List.range_succ, List.map_append, List.filter_append]
  congr 1
  simp only [List.map_cons, List.map_nil, List.filter_cons, List.filter_nil]
  have : row c (k : Int) = c.getD k [] := by unfold row; rw [Int.toNat_natCast]
  rw [this]
  simp only [decide_eq_true_eq]
theorem mem_turn {c : List (List Int)} (hv : Valid c) (hr : ∀ l ∈ c, l.Pairwise (· < ·)) {a b : Int} (hb : 0 ≤ b) : a ∈ row (turn c) b ↔ (0 ≤ a ∧ a < (c.length : Int)) ∧ b ∈ row c a := by
 unfold row turn
 rw [turnSo_get hv hr b.toNat c.length (Nat.le_refl _), List.mem_filter, mem_nodes]
 simp only [decide_eq_true_eq]
 rw [show ((b.toNat : Nat) : Int) = b by omega]
 rfl
theorem nodes_rise (n : Nat) : (nodes n).Pairwise (· < ·) := by
 unfold nodes
 rw [List.pairwise_map]
 exact List.pairwise_lt_range.imp (fun h => by omega)
theorem turn_len (c : List (List Int)) : (turn c).length = c.length := turnSo_len c _
theorem turn_row (c : List (List Int)) (hv : Valid c) (hr : ∀ l ∈ c, l.Pairwise (· < ·)) : ∀ l ∈ turn c, l.Pairwise (· < ·) ∧ ∀ x ∈ l, 0 ≤ x ∧ x < (c.length : Int) := by
 intro l hl
 obtain ⟨j, hj, e⟩ := List.getElem_of_mem hl
 have h1 : l = (turnSo c c.length).getD j [] := by
  rw [List.getD_eq_getElem?_getD]
  show l = ((turn c)[j]?).getD []
  rw [List.getElem?_eq_getElem hj, e]
  rfl
 rw [h1, turnSo_get hv hr j _ (Nat.le_refl _)]
 exact ⟨(nodes_rise _).filter _, fun x hx => mem_nodes.1 (List.mem_filter.1 hx).1⟩
theorem turn_Valid {c : List (List Int)} (hv : Valid c) (hr : ∀ l ∈ c, l.Pairwise (· < ·)) : Valid (turn c) := fun l hl b hb => by rw [turn_len]; exact (turn_row c hv hr l hl).2 b hb
theorem turn_rises {c : List (List Int)} (hv : Valid c) (hr : ∀ l ∈ c, l.Pairwise (· < ·)) : ∀ l ∈ turn c, l.Pairwise (· < ·) := fun l hl => (turn_row c hv hr l hl).1
theorem graph_ext {c d : List (List Int)} (hl : c.length = d.length) (hc : ∀ l ∈ c, l.Pairwise (· < ·)) (hd : ∀ l ∈ d, l.Pairwise (· < ·)) (h : ∀ a b, 0 ≤ a → a < (c.length : Int) → (b ∈ row c a ↔ b ∈ row d a)) : c = d := by
 apply List.ext_getElem hl
 intro i h1 h2
 refine eq_of_rising _ _ (hc _ (List.getElem_mem h1)) (hd _ (List.getElem_mem h2)) (fun x => ?_)
 have := h (i : Int) x (by omega) (by omega)
 unfold row at this
 rwa [Int.toNat_natCast, List.getD_eq_getElem?_getD, List.getD_eq_getElem?_getD, List.getElem?_eq_getElem h1, List.getElem?_eq_getElem h2] at this
end Go.Proofs.YtemcmcnhpdkdfaaGreat.P
namespace Go.Proofs.YtemcmcnhpdkdfaaGreat.P
open Go.RowKit Go.Lib Go.Proofs.YtemcmcnhpdkdfaaGreatW.PrintWords
theorem nodes_snoc (n : Nat) : nodes (n + 1) = nodes n ++ [(n : Int)] := by simp [nodes, List.range_succ]
theorem cleanRow_filter (n : Nat) (l : List Int) : cleanRow n l = (nodes n).filter fun b => decide (b ∈ l) := by
 refine cleanRow_eq ((nodes_rise n).filter _) (fun x => ?_)
 rw [List.mem_filter, mem_nodes, decide_eq_true_iff]
 exact and_comm
theorem refclean_l1 (g : List (List Int)) (hn : g.length ≤ 900) (hr : ∀ r ∈ g, r.length ≤ 900) (out : List (List Int)) (ho : out.length ≤ 900) (a : Nat) (ha : a < g.length) (r : List (List Int))
  (hk : Ev (fun k => bywashref10_Clean.l0 k g (out ++ [cleanRow g.length g[a]]) ((a + 1 : Nat) : Int)) r) : ∀ d i : Nat, i + d = g.length → Ev (fun k => bywashref10_Clean.l1 k g out (a : Int) ((nodes i).filter fun b => decide (b ∈ g[a])) (i : Int)) r := by
 have hw : wrap64 ((a : Int) + 1) = ((a + 1 : Nat) : Int) := wrap_succ (by omega)
 intro d
 induction d with
 | zero =>
  intro i hd
  obtain rfl : i = g.length := by omega
  rw [cleanRow_filter] at hk
  exact Ev.step (fun k => by rw [bywashref10_Clean.l1, if_neg (by omega), if_pos (by omega), hw]) hk
 | succ d ih =>
  intro i hd
  have hi : i < g.length := by omega
  have next := ih (i + 1) (by omega)
  have hf := List.length_filter_le (fun b => decide (b ∈ g[a])) (nodes i)
  rw [nodes_len] at hf
  refine Ev.step (f := fun k => (bywashref10_Has.f k g[a] (i : Int)).bind fun t => if t = true then (if ((nodes i).filter fun b => decide (b ∈ g[a])).length < 17592186044416 then bywashref10_Clean.l1 k g out (a : Int) (((nodes i).filter fun b => decide (b ∈ g[a])) ++ [(i : Int)]) ((i + 1 : Nat) : Int) else none) else bywashref10_Clean.l1 k g out (a : Int) ((nodes i).filter fun b => decide (b ∈ g[a])) ((i + 1 : Nat) : Int)) (fun k => by rw [bywashref10_Clean.l1, if_pos (by omega), if_pos (by omega), if_pos (by omega), rdL1_nat ha, wrap_succ (by omega)]) ?_
  refine Ev.bind (has_ev g[a] (i : Int) (by have := hr g[a] (List.getElem_mem ha); omega)) ?_
  rw [nodes_snoc, List.filter_append] at next
  by_cases e : (i : Int) ∈ g[a]
  ·simp only [decide_eq_true e, if_true, if_pos (show ((nodes i).filter fun b => decide (b ∈ g[a])).length < 17592186044416 by omega)]
   rw [List.filter_cons_of_pos (by exact decide_eq_true e), List.filter_nil] at next
   exact next
  ·simp only [decide_eq_false e, Bool.false_eq_true, if_false]
   rw [List.filter_cons_of_neg (by simpa using e), List.filter_nil, List.append_nil] at next
   exact next
theorem refclean_l0 (g : List (List Int)) (hn : g.length ≤ 900) (hr : ∀ r ∈ g, r.length ≤ 900) : ∀ d i : Nat, i + d = g.length → Ev (fun k => bywashref10_Clean.l0 k g ((clean g).take i) (i : Int)) (clean g) := by
 intro d
 induction d with
 | zero =>
  intro i hd
  rw [List.take_of_length_le (by rw [clean_len]; omega)]
  exact Ev.step (f := fun _ => some (clean g)) (fun k => by rw [bywashref10_Clean.l0, if_neg (by omega)]) (Ev.now _)
 | succ d ih =>
  intro i hd
  have hi : i < g.length := by omega
  have next := ih (i + 1) (by omega)
  rw [List.take_succ_eq_append_getElem (by rw [clean_len]; exact hi)] at next
  have e : (clean g)[i]'(by rw [clean_len]; exact hi) = cleanRow g.length g[i] := by simp [clean]
  rw [e] at next
  have h1 := refclean_l1 g hn hr ((clean g).take i) (by rw [List.length_take]; omega) i hi (clean g) next g.length 0 (by omega)
  refine Ev.step (f := fun k => bywashref10_Clean.l1 k g ((clean g).take i) (i : Int) ((nodes 0).filter fun b => decide (b ∈ g[i])) ((0 : Nat) : Int)) (fun k => by rw [bywashref10_Clean.l0, if_pos (by omega)]; rfl) h1
theorem refclean_ev (g : List (List Int)) (hn : g.length ≤ 900) (hr : ∀ r ∈ g, r.length ≤ 900) : Ev (fun k => bywashref10_Clean.f k g) (clean g) := by
 have := refclean_l0 g hn hr g.length 0 (by omega)
 rw [List.take_zero] at this
 exact this
def stepN (c : List (List Int)) (m : List Bool) (a : Nat) : List Bool := if m.getD a false = true then (row c (a : Int)).foldl (fun m b => m.set b.toNat true) m else m
def passN (c : List (List Int)) (n : Nat) (m : List Bool) : List Bool := (List.range n).foldl (stepN c) m
def itN (c : List (List Int)) (n : Nat) : Nat → List Bool → List Bool
 | 0, m => m
 | k + 1, m => itN c n k (passN c n m)
theorem stepN_len (c : List (List Int)) (m : List Bool) (a : Nat) : (stepN c m a).length = m.length := by
 unfold stepN
 split
 ·exact foldl_set_len _ _
 ·rfl
theorem foldl_stepN_len (c : List (List Int)) : ∀ (l : List Nat) (m : List Bool), (l.foldl (stepN c) m).length = m.length
 | [], _ => rfl
 | a :: l, m => by rw [List.foldl_cons, foldl_stepN_len c l, stepN_len]
theorem getD_set_true (m : List Bool) (i j : Nat) : (m.set i true).getD j false = true ↔ m.getD j false = true ∨ (i = j ∧ j < m.length) := by
 rw [List.getD_eq_getElem?_getD, List.getElem?_set, List.getD_eq_getElem?_getD]
 by_cases e : i = j
 ·subst e
  rw [if_pos rfl]
  by_cases h : i < m.length
  ·simp [h]
  ·rw [if_neg h, List.getElem?_eq_none (by omega)]
   simp [h]
 ·rw [if_neg e]
  simp [e]
theorem foldl_set_getD : ∀ (l : List Int) (m : List Bool) (j : Nat), (l.foldl (fun m b => m.set b.toNat true) m).getD j false = true ↔ m.getD j false = true ∨ (j < m.length ∧ ∃ b ∈ l, b.toNat = j)
 | [], m, j => by simp
 | b :: l, m, j => by
  rw [List.foldl_cons, foldl_set_getD l, getD_set_true, List.length_set]
  constructor
  ·rintro ((h | ⟨h1, h2⟩) | ⟨h1, b', h2, h3⟩)
   ·exact .inl h
   ·exact .inr ⟨h2, b, List.mem_cons_self, h1⟩
   ·exact .inr ⟨h1, b', List.mem_cons_of_mem _ h2, h3⟩
  ·rintro (h | ⟨h1, b', h2, h3⟩)
   ·exact .inl (.inl h)
   ·rcases List.mem_cons.1 h2 with rfl | h2
    ·exact .inl (.inr ⟨h3, h1⟩)
    ·exact .inr ⟨h1, b', h2, h3⟩
theorem stepN_mono (c : List (List Int)) (m : List Bool) (a j : Nat) (h : m.getD j false = true) : (stepN c m a).getD j false = true := by
 unfold stepN
 split
 ·exact (foldl_set_getD _ _ _).2 (.inl h)
 ·exact h
theorem foldl_stepN_mono (c : List (List Int)) : ∀ (l : List Nat) (m : List Bool) (j : Nat), m.getD j false = true → (l.foldl (stepN c) m).getD j false = true
 | [], _, _, h => h
 | a :: l, m, j, h => by rw [List.foldl_cons]; exact foldl_stepN_mono c l _ j (stepN_mono c m a j h)
theorem foldl_stepN_does (c : List (List Int)) : ∀ (l : List Nat) (m : List Bool) (a j : Nat), a ∈ l → m.getD a false = true → j < m.length → (∃ b ∈ row c (a : Int), b.toNat = j) → (l.foldl (stepN c) m).getD j false = true
 | [], _, _, _, h, _, _, _ => by simp at h
 | x :: l, m, a, j, h, hm, hj, hb => by
  rw [List.foldl_cons]
  by_cases e : a = x
  ·subst e
   refine foldl_stepN_mono c l _ j ?_
   unfold stepN
   rw [if_pos hm]
   exact (foldl_set_getD _ _ _).2 (.inr ⟨hj, hb⟩)
  ·refine foldl_stepN_does c l _ a j ?_ (stepN_mono c m x a hm) (by rw [stepN_len]; exact hj) hb
   rcases List.mem_cons.1 h with h | h
   ·exact absurd h e
   ·exact h
theorem foldl_stepN_sound {c : List (List Int)} {P : Int → Prop} (hc : ∀ a b, P a → b ∈ row c a → P b) (hv : ∀ a b, b ∈ row c a → 0 ≤ b) : ∀ (l : List Nat) (m : List Bool), (∀ j : Nat, m.getD j false = true → P (j : Int)) → ∀ j : Nat, (l.foldl (stepN c) m).getD j false = true → P (j : Int)
 | [], _, h => h
 | a :: l, m, h => by
  rw [List.foldl_cons]
  refine foldl_stepN_sound hc hv l _ (fun j hj => ?_)
  unfold stepN at hj
  split at hj
  ·rename_i ha
   rcases (foldl_set_getD _ _ _).1 hj with k | ⟨_, b, hb, e⟩
   ·exact h j k
   ·have := hv _ _ hb
    rw [show (j : Int) = b by omega]
    exact hc _ _ (h a ha) hb
  ·exact h j hj
def ClosedN (c : List (List Int)) (n : Nat) (m : List Bool) : Prop := ∀ a j : Nat, a < n → j < n → m.getD a false = true → (∃ b ∈ row c (a : Int), b.toNat = j) → m.getD j false = true
theorem bools_eq {m m' : List Bool} (hl : m.length = m'.length) (h : ∀ j, j < m.length → (m.getD j false = true ↔ m'.getD j false = true)) : m = m' := by
 refine List.ext_getElem hl (fun i h1 h2 => ?_)
 have := h i h1
 rw [List.getD_eq_getElem?_getD, List.getElem?_eq_getElem h1, List.getD_eq_getElem?_getD, List.getElem?_eq_getElem h2] at this
 simp only [Option.getD_some] at this
 rw [Bool.eq_iff_iff]
 exact this
theorem foldl_stepN_closed {c : List (List Int)} {n : Nat} {m : List Bool} (hl : m.length = n) (hc : ClosedN c n m) : ∀ l : List Nat, (∀ a ∈ l, a < n) → l.foldl (stepN c) m = m
 | [], _ => rfl
 | a :: l, h => by
  have e : stepN c m a = m := by
   refine bools_eq (stepN_len _ _ _) (fun j hj => ⟨fun k => ?_, stepN_mono c m a j⟩)
   rw [stepN_len] at hj
   unfold stepN at k
   split at k
   ·rename_i ha
    rcases (foldl_set_getD _ _ _).1 k with k | ⟨_, hb⟩
    ·exact k
    ·exact hc a j (h a List.mem_cons_self) (by omega) ha hb
   ·exact k
  rw [List.foldl_cons, e]
  exact foldl_stepN_closed hl hc l (fun x hx => h x (List.mem_cons_of_mem _ hx))
theorem count_lt {m m' : List Bool} (hl : m.length = m'.length) (h : ∀ j, m.getD j false = true → m'.getD j false = true) : m.count true ≤ m'.count true ∧ (m.count true = m'.count true → m = m') := by
 induction m generalizing m' with
 | nil =>
  cases m' with
  | nil => exact ⟨Nat.le_refl _, fun _ => rfl⟩
  | cons b m' => simp at hl
 | cons a m ih =>
  cases m' with
  | nil => simp at hl
  | cons b m' =>
   have i := ih (m' := m') (by simpa using hl) (fun j hj => by have := h (j + 1); simp only [List.getD_cons_succ] at this; exact this hj)
   have h0 := h 0
   simp only [List.getD_cons_zero] at h0
   rw [List.count_cons, List.count_cons]
   cases a <;> cases b <;> simp at h0 ⊢
   ·exact ⟨i.1, i.2⟩
   ·have := i.1; omega
   ·exact ⟨i.1, i.2⟩
theorem passN_or {c : List (List Int)} {n : Nat} {m : List Bool} (hl : m.length = n) : ClosedN c n m ∨ m.count true < (passN c n m).count true := by
 have hlen : (passN c n m).length = m.length := foldl_stepN_len c _ m
 have k := count_lt hlen.symm (foldl_stepN_mono c (List.range n) m)
 by_cases e : m.count true = (passN c n m).count true
 ·refine .inl (fun a j ha hj hm hb => ?_)
  have e2 := k.2 e
  have := foldl_stepN_does c (List.range n) m a j (List.mem_range.2 ha) hm (by omega) hb
  rw [e2]
  exact this
 ·have := k.1
  exact .inr (by unfold passN at *; omega)
theorem itN_closed {c : List (List Int)} {n : Nat} : ∀ (k : Nat) (m : List Bool), m.length = n → (ClosedN c n m ∨ n < k + m.count true) → ClosedN c n (itN c n k m)
 | 0, m, hl, h => by
  rcases h with h | h
  ·exact h
  ·have := List.count_le_length (a := true) (l := m)
   omega
 | k + 1, m, hl, h => by
  have hlen : (passN c n m).length = n := (foldl_stepN_len c _ m).trans hl
  rw [itN]
  refine itN_closed k _ hlen ?_
  rcases h with h | h
  ·left
   have e : passN c n m = m := foldl_stepN_closed hl h _ (fun a ha => List.mem_range.1 ha)
   rw [e]
   exact h
  ·rcases passN_or (c := c) hl with q | q
   ·left
    have e : passN c n m = m := foldl_stepN_closed hl q _ (fun a ha => List.mem_range.1 ha)
    rw [e]
    exact q
   ·right; omega
theorem itN_len (c : List (List Int)) (n : Nat) : ∀ (k : Nat) (m : List Bool), (itN c n k m).length = m.length
 | 0, _ => rfl
 | k + 1, m => by rw [itN, itN_len c n k]; exact foldl_stepN_len c _ m
theorem itN_mono (c : List (List Int)) (n : Nat) : ∀ (k : Nat) (m : List Bool) (j : Nat), m.getD j false = true → (itN c n k m).getD j false = true
 | 0, _, _, h => h
 | k + 1, m, j, h => by rw [itN]; exact itN_mono c n k _ j (foldl_stepN_mono c _ m j h)
theorem itN_sound {c : List (List Int)} {n : Nat} {P : Int → Prop} (hc : ∀ a b, P a → b ∈ row c a → P b) (hv : ∀ a b, b ∈ row c a → 0 ≤ b) : ∀ (k : Nat) (m : List Bool), (∀ j : Nat, m.getD j false = true → P (j : Int)) → ∀ j : Nat, (itN c n k m).getD j false = true → P (j : Int)
 | 0, _, h => h
 | k + 1, m, h => by rw [itN]; exact itN_sound hc hv k _ (foldl_stepN_sound hc hv _ m h)
def startN (n : Nat) (a : Int) : List Bool := if isN n a = true then (List.replicate n false).set a.toNat true else List.replicate n false
theorem startN_len (n : Nat) (a : Int) : (startN n a).length = n := by
 unfold startN
 split <;> simp
theorem startN_get (n : Nat) (a : Int) (j : Nat) : (startN n a).getD j false = true ↔ isN n a = true ∧ a = (j : Int) := by
 have e0 : (List.replicate n false).getD j false = true ↔ False := by
  rw [List.getD_eq_getElem?_getD, List.getElem?_replicate]
  split <;> simp
 unfold startN
 by_cases h : isN n a = true
 ·rw [if_pos h, getD_set_true, e0, List.length_replicate]
  have := isN_iff.1 h
  constructor
  ·rintro (k | ⟨k1, _⟩)
   ·exact k.elim
   ·exact ⟨h, by omega⟩
  ·rintro ⟨_, k⟩
   exact .inr ⟨by omega, by omega⟩
 ·rw [if_neg h, e0]
  exact ⟨fun k => k.elim, fun k => h k.1⟩
def reachN (c : List (List Int)) (n : Nat) (a : Int) : List Bool := itN c n n (startN n a)
theorem reachN_len (c : List (List Int)) (n : Nat) (a : Int) : (reachN c n a).length = n := by unfold reachN; rw [itN_len, startN_len]
theorem reachN_get {c : List (List Int)} (hv : Valid c) {a : Int} {j : Nat} : (reachN c c.length a).getD j false = true ↔ Node c a ∧ Way c a (j : Int) := by
 have hn : ∀ a, isN c.length a = true ↔ Node c a := fun a => isN_iff
 constructor
 ·intro h
  exact itN_sound (P := fun x => Node c a ∧ Way c a x) (fun x y hx he => ⟨hx.1, hx.2.trans (.edge he)⟩) (fun x y he => (row_node hv he).1) c.length _ (fun j hj => by
   obtain ⟨h1, h2⟩ := (startN_get c.length a j).1 hj
   exact ⟨(hn a).1 h1, by rw [h2]; exact .refl _⟩) j h
 ·rintro ⟨h1, h2⟩
  have hcl : ClosedN c c.length (reachN c c.length a) := by
   refine itN_closed c.length _ (startN_len _ _) (.inr ?_)
   have : 0 < (startN c.length a).count true := by
    rw [List.count_pos_iff]
    have := (startN_get c.length a a.toNat).2 ⟨(hn a).2 h1, by have := h1.1; omega⟩
    rw [List.getD_eq_getElem?_getD] at this
    cases hx : (startN c.length a)[a.toNat]? with
    | none => rw [hx] at this; simp at this
    | some b =>
     rw [hx] at this
     simp only [Option.getD_some] at this
     rw [← this]
     exact List.mem_of_getElem? hx
   omega
  have key : ∀ x, Way c a x → Node c x ∧ (reachN c c.length a).getD x.toNat false = true := by
   intro x hx
   have := hx.closed (P := fun x => Node c x ∧ (reachN c c.length a).getD x.toNat false = true) (fun x y hx he => by
    have hy := row_node hv he
    refine ⟨hy, hcl x.toNat y.toNat ?_ ?_ hx.2 ⟨y, ?_, rfl⟩⟩
    ·have := hx.1.1; have := hx.1.2; omega
    ·have := hy.1; have := hy.2; omega
    ·rw [show ((x.toNat : Nat) : Int) = x from by have := hx.1.1; omega]; exact he) ⟨h1, itN_mono c _ _ _ _ ((startN_get c.length a a.toNat).2 ⟨(hn a).2 h1, by have := h1.1; omega⟩)⟩
   exact this
  have := (key _ h2).2
  rwa [Int.toNat_natCast] at this
theorem refreach_l2 {x0 c : List (List Int)} (hn : x0.length ≤ 900) (hcl : c.length = x0.length) (hv : Valid c) (hr : ∀ r ∈ c, r.length ≤ 900) (nr a : Nat) (ha : a < c.length) (m : List Bool) (hml : m.length = c.length) (r : List Bool)
  (hk : Ev (fun k => bywashref10_Reach.l1 k x0 (stepN c m a) c (nr : Int) ((a + 1 : Nat) : Int)) r) : ∀ d i : Nat, i + d = (row c (a : Int)).length → ∀ m' : List Bool, m' = (if m.getD a false = true then ((row c (a : Int)).take i).foldl (fun m b => m.set b.toNat true) m else m) → Ev (fun k => bywashref10_Reach.l2 k x0 m' c (nr : Int) (a : Int) (i : Int)) r := by
 have hrow : rd_L1 c (a : Int) = row c (a : Int) := rfl
 have hrl : (row c (a : Int)).length ≤ 900 := by
  unfold row
  rw [Int.toNat_natCast, List.getD_eq_getElem?_getD, List.getElem?_eq_getElem ha]
  exact hr _ (List.getElem_mem ha)
 intro d
 induction d with
 | zero =>
  intro i hd m' hm'
  rw [List.take_of_length_le (by omega)] at hm'
  have e : m' = stepN c m a := by rw [hm']; rfl
  rw [e]
  exact Ev.step (fun k => by rw [bywashref10_Reach.l2, if_pos (by omega), if_pos (by omega), if_neg (by rw [hrow]; omega), wrap_succ (by omega)]) hk
 | succ d ih =>
  intro i hd m' hm'
  have hi : i < (row c (a : Int)).length := by omega
  have hml' : m'.length = c.length := by
   rw [hm']
   split
   ·rw [foldl_set_len, hml]
   ·exact hml
  have hrd : rdOf false m' (a : Int) = m'.getD a false := by
   rw [rdOf_nat (by omega), List.getD_eq_getElem?_getD, List.getElem?_eq_getElem (by omega)]
   rfl
  by_cases hma : m.getD a false = true
  ·have hma' : m'.getD a false = true := by
    rw [hm', if_pos hma]
    exact (foldl_set_getD _ _ _).2 (.inl hma)
   have hnode := row_node hv (List.getElem_mem hi)
   refine Ev.step (f := fun k => bywashref10_Reach.l2 k x0 (m'.set ((row c (a : Int))[i]).toNat true) c (nr : Int) (a : Int) ((i + 1 : Nat) : Int)) (fun k => by rw [bywashref10_Reach.l2, if_pos (by omega), if_pos (by omega), hrow, if_pos (by omega), if_pos (by omega), hrd, if_pos hma', if_pos (by omega), rd_nat' hi, if_pos hnode.1, if_pos (by rw [hml']; exact hnode.2), wrap_succ (by omega)]) ?_
   refine ih (i + 1) (by omega) _ ?_
   rw [if_pos hma] at hm' ⊢
   rw [hm', List.take_succ_eq_append_getElem hi, List.foldl_append]
   rfl
  ·rw [if_neg hma] at hm'
   subst hm'
   have e : m' = stepN c m' a := by unfold stepN; rw [if_neg hma]
   rw [← e] at hk
   exact Ev.step (fun k => by rw [bywashref10_Reach.l2, if_pos (by omega), if_pos (by omega), hrow, if_pos (by omega), if_pos (by omega), hrd, if_neg hma, wrap_succ (by omega)]) hk
theorem refreach_l1 {x0 c : List (List Int)} (hn : x0.length ≤ 900) (hcl : c.length = x0.length) (hv : Valid c) (hr : ∀ r ∈ c, r.length ≤ 900) (nr : Nat) (hnr : nr ≤ 900) (r : List Bool) : ∀ d i : Nat, i + d = c.length → ∀ m : List Bool, m.length = c.length →
  Ev (fun k => bywashref10_Reach.l0 k x0 (((List.range c.length).drop i).foldl (stepN c) m) c ((nr + 1 : Nat) : Int)) r → Ev (fun k => bywashref10_Reach.l1 k x0 m c (nr : Int) (i : Int)) r := by
 intro d
 induction d with
 | zero =>
  intro i hd m hm hk
  rw [List.drop_eq_nil_of_le (by simp; omega), List.foldl_nil] at hk
  exact Ev.step (fun k => by rw [bywashref10_Reach.l1, if_neg (by omega), wrap_succ (by omega)]) hk
 | succ d ih =>
  intro i hd m hm hk
  have hi : i < c.length := by omega
  rw [List.drop_eq_getElem_cons (by simpa using hi), List.foldl_cons] at hk
  simp only [List.getElem_range] at hk
  have next := ih (i + 1) (by omega) (stepN c m i) (by rw [stepN_len, hm]) hk
  have h2 := refreach_l2 hn hcl hv hr nr i hi m hm r next (row c (i : Int)).length 0 (by omega) m (by split <;> rfl)
  exact Ev.step (f := fun k => bywashref10_Reach.l2 k x0 m c (nr : Int) (i : Int) ((0 : Nat) : Int)) (fun k => by rw [bywashref10_Reach.l1, if_pos (by omega)]; rfl) h2
theorem refreach_l0 {x0 c : List (List Int)} (hn : x0.length ≤ 900) (hcl : c.length = x0.length) (hv : Valid c) (hr : ∀ r ∈ c, r.length ≤ 900) : ∀ d i : Nat, i + d = c.length → ∀ m : List Bool, m.length = c.length → Ev (fun k => bywashref10_Reach.l0 k x0 m c (i : Int)) (itN c c.length d m) := by
 intro d
 induction d with
 | zero =>
  intro i hd m hm
  exact Ev.step (f := fun _ => some m) (fun k => by rw [bywashref10_Reach.l0, if_neg (by omega)]) (Ev.now _)
 | succ d ih =>
  intro i hd m hm
  have next := ih (i + 1) (by omega) (passN c c.length m) ((foldl_stepN_len c _ m).trans hm)
  have h1 := refreach_l1 hn hcl hv hr i (by omega) _ c.length 0 (by omega) m hm (by rw [List.drop_zero]; exact next)
  exact Ev.step (f := fun k => bywashref10_Reach.l1 k x0 m c (i : Int) ((0 : Nat) : Int)) (fun k => by rw [bywashref10_Reach.l0, if_pos (by omega)]; rfl) h1
theorem refreach_ev (g : List (List Int)) (hn : g.length ≤ 900) (hr : ∀ r ∈ g, r.length ≤ 900) (a : Int) : Ev (fun k => bywashref10_Reach.f k g a) (reachN (clean g) g.length a) := by
 have hcl := clean_len g
 have h0 := refreach_l0 hn hcl (clean_Valid g) (fun r hr => Nat.le_trans (clean_row_le r hr) hn) g.length 0 (by omega) (startN g.length a) (by rw [startN_len, hcl])
 rw [hcl] at h0
 have hj : Ev (fun k => bywashref10_Reach.j0 k g (startN g.length a)) (reachN (clean g) g.length a) := by
  refine Ev.step (f := fun k => (bywashref10_Clean.f k g).bind fun t => bywashref10_Reach.l0 k g (startN g.length a) t ((0 : Nat) : Int)) (fun k => by rw [bywashref10_Reach.j0]; rfl) ?_
  exact Ev.bind (refclean_ev g hn hr) h0
 have e1 : ((g.length : Int) : Int).toNat = g.length := Int.toNat_natCast _
 unfold bywashref10_Reach.f bywashref10_is.f
 rw [e1]
 simp only [if_pos (show (0 : Int) ≤ (g.length : Int) by omega), if_pos (show g.length ≤ 281474976710656 by omega), Option.bind_some, List.length_replicate]
 unfold startN at hj
 by_cases h1 : a ≥ 0
 ·simp only [if_pos h1, Option.bind_some]
  by_cases h2 : a < (g.length : Int)
  ·rw [if_pos (isN_yes h1 h2)] at hj
   simp only [decide_eq_true h2, if_true, if_pos h2]
   exact hj
  ·rw [if_neg (by rw [isN_no (fun h => h2 h.2)]; simp)] at hj
   simp only [decide_eq_false h2, Bool.false_eq_true, if_false]
   exact hj
 ·rw [if_neg (by rw [isN_no (fun h => h1 h.1)]; simp)] at hj
  simp only [if_neg h1, Option.bind_some, Bool.false_eq_true, if_false]
  exact hj
end Go.Proofs.YtemcmcnhpdkdfaaGreat.P
namespace Go.Proofs.YtemcmcnhpdkdfaaGreat.P
inductive Av (g : List (List Int)) (x : Int) : Int → Int → Prop where
 | refl {a : Int} : a ≠ x → Av g x a a
 | step {a b c : Int} : a ≠ x → b ∈ row g a → Av g x b c → Av g x a c
theorem Av.right {g : List (List Int)} {x a b : Int} (h : Av g x a b) : b ≠ x := by
 induction h with
 | refl h => exact h
 | step _ _ _ ih => exact ih
theorem Av.left {g : List (List Int)} {x a b : Int} (h : Av g x a b) : a ≠ x := by
 cases h with
 | refl h => exact h
 | step h _ _ => exact h
theorem Av.trans {g : List (List Int)} {x a b c : Int} (h : Av g x a b) (k : Av g x b c) : Av g x a c := by
 induction h with
 | refl => exact k
 | step h1 h2 _ ih => exact .step h1 h2 (ih k)
theorem Av.snoc {g : List (List Int)} {x a b c : Int} (h : Av g x a b) (he : c ∈ row g b) (hc : c ≠ x) : Av g x a c := h.trans (.step h.right he (.refl hc))
theorem Av.way {g : List (List Int)} {x a b : Int} (h : Av g x a b) : Way g a b := by
 induction h with
 | refl => exact .refl _
 | step _ he _ ih => exact .step he ih
theorem Av.closed {g : List (List Int)} {x : Int} {P : Int → Prop} (hc : ∀ a b, P a → b ∈ row g a → b ≠ x → P b) {a b : Int} (h : Av g x a b) (ha : P a) : P b := by
 induction h with
 | refl => exact ha
 | step _ he hb ih => exact ih (hc _ _ ha he hb.left)
theorem Way.av {g : List (List Int)} {x a b : Int} (h : Way g a b) (hx : ¬ Way g a x) : Av g x a b := by
 induction h with
 | refl a => exact .refl (fun e => hx (by rw [← e]; exact .refl _))
 | step he _ ih => exact .step (fun e => hx (by rw [← e]; exact .refl _)) he (ih (fun h => hx (.step he h)))
inductive Up (T : Int → Option Int) : Int → Int → Prop where
 | refl (b : Int) : Up T b b
 | step {b p x : Int} : T b = some p → Up T p x → Up T b x
theorem Up.trans {T : Int → Option Int} {a b c : Int} (h : Up T a b) (k : Up T b c) : Up T a c := by
 induction h with
 | refl => exact k
 | step h1 _ ih => exact .step h1 (ih k)
theorem Up.cases {T : Int → Option Int} {a x : Int} (h : Up T a x) : x = a ∨ ∃ p, T a = some p ∧ Up T p x := by
 cases h with
 | refl => exact .inl rfl
 | step h1 h2 => exact .inr ⟨_, h1, h2⟩
theorem Up.line {T : Int → Option Int} {a x y : Int} (h : Up T a x) (k : Up T a y) : Up T x y ∨ Up T y x := by
 induction h with
 | refl => exact .inl k
 | step h1 h2 ih =>
  rcases k.cases with rfl | ⟨p, hp, k2⟩
  ·exact .inr (.step h1 h2)
  ·rw [h1] at hp
   obtain rfl := Option.some.inj hp
   exact ih k2
structure Dfs (g : List (List Int)) (o : List Int) (par : Int → Option Int) : Prop where
 zero : 0 ∈ o
 mem : ∀ x, x ∈ o ↔ Way g 0 x
 has : ∀ x, x ∈ o → x ≠ 0 → ∃ u, par x = some u
 ok : ∀ x u, par x = some u → x ∈ o ∧ x ≠ 0 ∧ x ∈ row g u ∧ u ∈ o ∧ o.idxOf u < o.idxOf x
theorem idx_inj {o : List Int} {x y : Int} (hx : x ∈ o) (hy : y ∈ o) (h : o.idxOf x = o.idxOf y) : x = y := by
 have h1 := List.getElem_idxOf (List.idxOf_lt_length_of_mem hx)
 have h2 := List.getElem_idxOf (List.idxOf_lt_length_of_mem hy)
 rw [← h1, ← h2]
 simp only [h]
def Kn (T : Int → Option Int) (b : Int) : Prop := b = 0 ∨ ∃ p, T b = some p
structure DI (g : List (List Int)) (o : List Int) (par : Int → Option Int) (T : Int → Option Int) : Prop where
 t1 : ∀ b p, T b = some p → b ∈ o ∧ b ≠ 0 ∧ p ∈ o ∧ o.idxOf p < o.idxOf b ∧ Kn T p
 t2 : ∀ b x, Kn T b → Up T b x → Up par b x
 t3 : ∀ b x, Kn T b → ¬ Av g x 0 b → Up T b x
 t4 : ∀ b p, T b = some p → ∀ x, x ∈ o → (∀ a, Kn T a → b ∈ row g a → Up T a x) → o.idxOf x ≤ o.idxOf p
section
variable {g : List (List Int)} {o : List Int} {par T : Int → Option Int}
theorem Dfs.up (hd : Dfs g o par) {b x : Int} (h : Up par b x) (hb : b ∈ o) : x ∈ o ∧ o.idxOf x ≤ o.idxOf b := by
 induction h with
 | refl => exact ⟨hb, Nat.le_refl _⟩
 | step h1 _ ih =>
  have h2 := hd.ok _ _ h1
  have := ih h2.2.2.2.1
  exact ⟨this.1, by have := this.2; have := h2.2.2.2.2; omega⟩
theorem Dfs.around (hd : Dfs g o par) {b c x : Int} (h : Up par b c) (hb : b ∈ o) (hlt : o.idxOf x < o.idxOf c) : Av g x c b := by
 induction h with
 | refl b => exact .refl (fun e => by rw [e] at hlt; omega)
 | step h1 h2 ih =>
  have h3 := hd.ok _ _ h1
  have h4 := (hd.up h2 h3.2.2.2.1).2
  exact (ih h3.2.2.2.1 hlt).snoc h3.2.2.1 (fun e => by rw [e] at h3; omega)
theorem zero_first (hd : Dfs g o par) : ∀ {b : Int}, b ∈ o → b ≠ 0 → o.idxOf 0 < o.idxOf b := by
 have key : ∀ (m : Nat) (b : Int), o.idxOf b ≤ m → b ∈ o → b ≠ 0 → o.idxOf 0 < o.idxOf b := by
  intro m
  induction m with
  | zero =>
   intro b hm hb h0
   obtain ⟨u, hu⟩ := hd.has b hb h0
   have := (hd.ok _ _ hu).2.2.2.2
   omega
  | succ m ih =>
   intro b hm hb h0
   obtain ⟨u, hu⟩ := hd.has b hb h0
   have h1 := hd.ok _ _ hu
   by_cases e : u = 0
   ·rw [← e]; exact h1.2.2.2.2
   ·have := ih u (by omega) h1.2.2.2.1 e
    omega
 intro b hb h0
 exact key _ b (Nat.le_refl _) hb h0
theorem DI.kn_mem (hd : Dfs g o par) (h : DI g o par T) {b : Int} (hb : Kn T b) : b ∈ o := by
 rcases hb with rfl | ⟨p, hp⟩
 ·exact hd.zero
 ·exact (h.t1 b p hp).1
theorem DI.up (h : DI g o par T) {b x : Int} (hu : Up T b x) (hb : b ∈ o) : x ∈ o ∧ o.idxOf x ≤ o.idxOf b := by
 induction hu with
 | refl => exact ⟨hb, Nat.le_refl _⟩
 | step h1 _ ih =>
  have h2 := h.t1 _ _ h1
  have := ih h2.2.2.1
  exact ⟨this.1, by have := this.2; have := h2.2.2.2.1; omega⟩
theorem DI.up_kn (h : DI g o par T) {b x : Int} (hu : Up T b x) (hb : Kn T b) : Kn T x := by
 induction hu with
 | refl => exact hb
 | step h1 _ ih => exact ih (h.t1 _ _ h1).2.2.2.2
theorem DI.line (h : DI g o par T) {a x y : Int} (ha : a ∈ o) (hx : Up T a x) (hy : Up T a y) (hle : o.idxOf x ≤ o.idxOf y) : Up T y x := by
 rcases hx.line hy with k | k
 ·have hxo := h.up hx ha
  have := h.up k hxo.1
  obtain rfl : x = y := idx_inj hxo.1 this.1 (by omega)
  exact .refl _
 ·exact k
structure StepOk (g : List (List Int)) (T : Int → Option Int) (c N : Int) : Prop where
 all : ∀ a, Kn T a → c ∈ row g a → Up T a N
 best : ∀ x, (∀ a, Kn T a → c ∈ row g a → Up T a x) → Up T N x
def upd (T : Int → Option Int) (c N : Int) : Int → Option Int := fun b => if b = c then some N else T b
theorem upd_at (T : Int → Option Int) (c N : Int) : upd T c N c = some N := by unfold upd; rw [if_pos rfl]
theorem upd_ne (T : Int → Option Int) {c N b : Int} (h : b ≠ c) : upd T c N b = T b := by unfold upd; rw [if_neg h]
theorem upd_off {c N : Int} {b x : Int} (h : Up T b x) (hn : ¬ Up T b c) : Up (upd T c N) b x := by
 induction h with
 | refl => exact .refl _
 | @step b p x h1 h2 ih =>
  have hbc : b ≠ c := fun e => hn (by rw [e]; exact .refl _)
  exact .step (by rw [upd_ne _ hbc]; exact h1) (ih (fun k => hn (.step h1 k)))
theorem upd_to {c N : Int} {b : Int} (h : Up T b c) : Up (upd T c N) b c := by
 induction h with
 | refl => exact .refl _
 | @step b p x h1 h2 ih =>
  by_cases e : b = x
  ·rw [e]; exact .refl _
  ·exact .step (by rw [upd_ne _ e]; exact h1) ih
theorem upd_back {c N : Int} {b x : Int} (h : Up (upd T c N) b x) : Up T b x ∨ (Up T b c ∧ Up (upd T c N) N x) := by
 induction h with
 | refl => exact .inl (.refl _)
 | @step b p x h1 h2 ih =>
  by_cases e : b = c
  ·subst e
   rw [upd_at] at h1
   obtain rfl := Option.some.inj h1
   exact .inr ⟨.refl _, h2⟩
  ·rw [upd_ne _ e] at h1
   rcases ih with k | ⟨k1, k2⟩
   ·exact .inl (.step h1 k)
   ·exact .inr ⟨.step h1 k1, k2⟩
def Eq0 (o : List Int) (par T : Int → Option Int) (i : Nat) : Prop := ∀ v, v ∈ o → v ≠ 0 → o.idxOf v < i → Kn T v ∧ ∀ x, Up T v x → x = v ∨ ∃ u, par v = some u ∧ Up T u x
variable {c N : Int}
theorem DI.kn_par (hd : Dfs g o par) (he : Eq0 o par T (o.idxOf c)) {u : Int} (hu : par c = some u) : Kn T u := by
 have h := hd.ok _ _ hu
 by_cases e : u = 0
 ·exact .inl e
 ·exact (he u h.2.2.2.1 e h.2.2.2.2).1
theorem DI.above (hd : Dfs g o par) (h : DI g o par T) (he : Eq0 o par T (o.idxOf c)) (hs : StepOk g T c N) {u : Int} (hu : par c = some u) : Up T u N ∧ N ∈ o ∧ o.idxOf N < o.idxOf c ∧ Kn T N := by
 have hp := hd.ok _ _ hu
 have hk := DI.kn_par hd he hu
 have h1 := hs.all u hk hp.2.2.1
 have h2 := h.up h1 hp.2.2.2.1
 exact ⟨h1, h2.1, by have := h2.2; have := hp.2.2.2.2; omega, h.up_kn h1 hk⟩
theorem DI.higher (hd : Dfs g o par) (h : DI g o par T) (he : Eq0 o par T (o.idxOf c)) (hs : StepOk g T c N) {p : Int} (hp : T c = some p) : Up T p N := by
 have h1 := h.t1 c p hp
 obtain ⟨u, hu⟩ := hd.has c h1.1 h1.2.1
 obtain ⟨a1, a2, a3, a4⟩ := h.above hd he hs hu
 have hle := h.t4 c p hp N a2 hs.all
 have hup := h.t2 c p (.inr ⟨p, hp⟩) (.step hp (.refl _))
 have hpu : Up par u p := by
  rcases hup.cases with e | ⟨q, hq, k⟩
  ·rw [e] at h1; omega
  ·rw [hu] at hq
   obtain rfl := Option.some.inj hq
   exact k
 have go : ∀ v w, Up par v w → w = p → o.idxOf v < o.idxOf c → v ∈ o → Up T v N → Up T p N := by
  intro v w hvw
  induction hvw with
  | refl b => intro e _ _ k; rw [← e]; exact k
  | @step b q x h2 h3 ih =>
   intro e hb hbo k
   have h4 := hd.ok _ _ h2
   have hx := (hd.up h3 h4.2.2.2.1).2
   rcases (he b h4.1 h4.2.1 hb).2 N k with e2 | ⟨q', hq', k2⟩
   ·rw [e2, ← e] at hle
    omega
   ·rw [h2] at hq'
    obtain rfl := Option.some.inj hq'
    exact ih e (by omega) h4.2.2.2.1 k2
 exact go u p hpu rfl (hd.ok _ _ hu).2.2.2.2 (hd.ok _ _ hu).2.2.2.1 a1
theorem upd_part (h : DI g o par T) {b x : Int} (hb : b ∈ o) (h1 : Up T b x) (h2 : Up T x c) : Up (upd T c N) b x := by
 induction h1 with
 | refl => exact .refl _
 | @step b p x h3 h4 ih =>
  have h5 := h.t1 _ _ h3
  have hbc : b ≠ c := fun e => by
   have h6 := h.up h4 h5.2.2.1
   have h7 := h.up h2 h6.1
   rw [e] at h5
   omega
  exact .step (by rw [upd_ne _ hbc]; exact h3) (ih h5.2.2.1 h2)
theorem DI.step (hd : Dfs g o par) (h : DI g o par T) (he : Eq0 o par T (o.idxOf c)) (hs : StepOk g T c N) (hc : c ∈ o) (hc0 : c ≠ 0) : DI g o par (upd T c N) ∧ Eq0 o par (upd T c N) (o.idxOf c + 1) := by
 obtain ⟨u, hu⟩ := hd.has c hc hc0
 obtain ⟨a1, a2, a3, a4⟩ := h.above hd he hs hu
 have hup := hd.ok _ _ hu
 have hku := DI.kn_par hd he hu
 have nN : ¬ Up T N c := fun k => by have := (h.up k a2).2; omega
 have toN : ∀ x, Up (upd T c N) N x → Up T N x := fun x k => by
  rcases upd_back k with k | ⟨k, _⟩
  ·exact k
  ·exact absurd k nN
 have kmono : ∀ b, Kn T b → Kn (upd T c N) b := fun b hb => by
  rcases hb with hb | ⟨p, hp⟩
  ·exact .inl hb
  ·by_cases e : b = c
   ·exact .inr ⟨N, by rw [e]; exact upd_at ..⟩
   ·exact .inr ⟨p, by rw [upd_ne _ e]; exact hp⟩
 have kback : ∀ b, Kn (upd T c N) b → b = c ∨ Kn T b := fun b hb => by
  by_cases e : b = c
  ·exact .inl e
  ·rcases hb with hb | ⟨p, hp⟩
   ·exact .inr (.inl hb)
   ·rw [upd_ne _ e] at hp
    exact .inr (.inr ⟨p, hp⟩)
 have shrink : ∀ b x, Kn T b → Up (upd T c N) b x → Up T b x := fun b x hb k => by
  rcases upd_back k with k | ⟨k1, k2⟩
  ·exact k
  ·rcases h.up_kn k1 hb with e | ⟨p, hp⟩
   ·exact absurd e hc0
   ·exact k1.trans (.step hp ((h.higher hd he hs hp).trans (toN x k2)))
 have parN : ∀ x, Up T N x → Up par c x := fun x k => .step hu (h.t2 u x hku (a1.trans k))
 have hcx : ∀ x, ¬ Av g x 0 c → Up (upd T c N) c x := fun x hx => by
  by_cases e : x = c
  ·rw [e]; exact .refl _
  ·refine .step (upd_at ..) (upd_off (hs.best x (fun a ha hrow => h.t3 a x ha (fun k => hx (k.snoc hrow (fun e2 => e e2.symm))))) nN)
 refine ⟨⟨?_, ?_, ?_, ?_⟩, ?_⟩
 ·intro b p hp
  by_cases e : b = c
  ·subst e
   rw [upd_at] at hp
   obtain rfl := Option.some.inj hp
   exact ⟨hc, hc0, a2, a3, kmono _ a4⟩
  ·rw [upd_ne _ e] at hp
   have := h.t1 b p hp
   exact ⟨this.1, this.2.1, this.2.2.1, this.2.2.2.1, kmono _ this.2.2.2.2⟩
 ·intro b x hb k
  rcases kback b hb with e | hb
  ·subst e
   rcases k.cases with e | ⟨p, hp, k2⟩
   ·rw [e]; exact .refl _
   ·rw [upd_at] at hp
    obtain rfl := Option.some.inj hp
    exact parN x (toN x k2)
  ·rcases upd_back k with k | ⟨k1, k2⟩
   ·exact h.t2 b x hb k
   ·exact (h.t2 b c hb k1).trans (parN x (toN x k2))
 ·intro b x hb hx
  rcases kback b hb with e | hb
  ·subst e
   exact hcx x hx
  ·have k := h.t3 b x hb hx
   have hbo := h.kn_mem hd hb
   by_cases hbc : Up T b c
   ·rcases Nat.lt_or_ge (o.idxOf x) (o.idxOf c) with hlt | hge
    ·have hxo := (h.up k hbo).1
     exact (upd_to hbc).trans (hcx x (fun k2 => hx (k2.trans (hd.around (h.t2 b c hb hbc) hbo hlt))))
    ·exact upd_part h hbo k (h.line hbo hbc k hge)
   ·exact upd_off k hbc
 ·intro b p hp x hx hall
  have hall' : ∀ a, Kn T a → b ∈ row g a → Up T a x := fun a ha hr => shrink a x ha (hall a (kmono a ha) hr)
  by_cases e : b = c
  ·subst e
   rw [upd_at] at hp
   obtain rfl := Option.some.inj hp
   exact (h.up (hs.best x hall') a2).2
  ·rw [upd_ne _ e] at hp
   exact h.t4 b p hp x hx hall'
 ·intro v hv hv0 hlt
  by_cases e : v = c
  ·subst e
   refine ⟨.inr ⟨N, upd_at ..⟩, fun x k => ?_⟩
   rcases k.cases with e | ⟨p, hp, k2⟩
   ·exact .inl e
   ·rw [upd_at] at hp
    obtain rfl := Option.some.inj hp
    refine .inr ⟨u, hu, upd_off (a1.trans (toN x k2)) (fun k => ?_)⟩
    have := (h.up k hup.2.2.2.1).2
    omega
  ·have hlt' : o.idxOf v < o.idxOf c := by
    have : o.idxOf v ≠ o.idxOf c := fun e2 => e (idx_inj hv hc e2)
    omega
   obtain ⟨h1, h2⟩ := he v hv hv0 hlt'
   refine ⟨kmono v h1, fun x k => ?_⟩
   rcases upd_back k with k | ⟨k, _⟩
   ·rcases h2 x k with e2 | ⟨u', hu', k2⟩
    ·exact .inl e2
    ·have h3 := hd.ok _ _ hu'
     refine .inr ⟨u', hu', upd_off k2 (fun k3 => ?_)⟩
     have := (h.up k3 h3.2.2.2.1).2
     omega
   ·have := (h.up k hv).2
    omega
theorem DI.done (hd : Dfs g o par) (h : DI g o par T) (hf : ∀ c, c ∈ o → c ≠ 0 → ∃ p, T c = some p ∧ StepOk g T c p) {b x : Int} (hb : b ∈ o) : Up T b x ↔ ¬ Av g x 0 b := by
 have hk : ∀ c, c ∈ o → Kn T c := fun c hc => by
  by_cases e : c = 0
  ·exact .inl e
  ·obtain ⟨p, hp, _⟩ := hf c hc e
   exact .inr ⟨p, hp⟩
 refine ⟨fun hu ha => ?_, h.t3 b x (hk b hb)⟩
 have := ha.closed (P := fun b => b ∈ o ∧ ¬ Up T b x) (fun a b ⟨h1, h2⟩ hr hne => by
  have hbo : b ∈ o := (hd.mem b).2 (((hd.mem a).1 h1).trans (.edge hr))
  refine ⟨hbo, fun k => ?_⟩
  rcases k.cases with e | ⟨p, hp, k2⟩
  ·exact hne e.symm
  ·obtain ⟨p', hp', hs⟩ := hf b hbo (h.t1 b p hp).2.1
   rw [hp] at hp'
   obtain rfl := Option.some.inj hp'
   exact h2 ((hs.all a (hk a h1) hr).trans k2)) ⟨hd.zero, fun k => by
  rcases k.cases with e | ⟨p, hp, _⟩
  ·exact ha.left e.symm
  ·exact (h.t1 0 p hp).2.1 rfl⟩
 exact this.2 hu
end
end Go.Proofs.YtemcmcnhpdkdfaaGreat.P
namespace Go.Proofs.YtemcmcnhpdkdfaaGreat.P
theorem Vs.parent {g : List (List Int)} {l t : List Int} {m m' : List Bool} (h : Vs g l m m' t) : ∀ x ∈ t, x ∈ l ∨ ∃ a s1 s2 s3, x ∈ row g a ∧ t = s1 ++ x :: (s2 ++ a :: s3) := by
 induction h with
 | nil => intro x hx; simp at hx
 | skip _ _ ih =>
  intro x hx
  rcases ih x hx with k | k
  ·exact .inl (List.mem_cons_of_mem _ k)
  ·exact .inr k
 | @go b l m m1 m2 t1 t2 _ _ _ ih1 ih2 =>
  intro x hx
  rcases List.mem_append.1 hx with k | k
  ·rcases ih1 x k with k2 | ⟨a, s1, s2, s3, hr, e⟩
   ·obtain ⟨s1, s2, e⟩ := List.append_of_mem k
    exact .inr ⟨b, s1, s2, t2, k2, by rw [e]; simp⟩
   ·exact .inr ⟨a, s1, s2, s3 ++ b :: t2, hr, by rw [e]; simp⟩
  ·rcases List.mem_cons.1 k with e | k
   ·exact .inl (by rw [e]; exact List.mem_cons_self ..)
   ·rcases ih2 x k with k2 | ⟨a, s1, s2, s3, hr, e⟩
    ·exact .inl (List.mem_cons_of_mem _ k2)
    ·exact .inr ⟨a, t1 ++ b :: s1, s2, s3, hr, by rw [e]; simp⟩
theorem idx_ne2 {x a : Int} (xs : List Int) (h : x ≠ a) : (x :: xs).idxOf a = xs.idxOf a + 1 := by
 rw [List.idxOf_cons, show (x == a) = false from by simpa using h]
 rfl
theorem idx_before {s1 s2 s3 : List Int} {a x : Int} (h : (s1 ++ a :: (s2 ++ x :: s3)).Nodup) : (s1 ++ a :: (s2 ++ x :: s3)).idxOf a < (s1 ++ a :: (s2 ++ x :: s3)).idxOf x := by
 have h' := h
 rw [List.nodup_append] at h'
 obtain ⟨_, h2, h3⟩ := h'
 rw [List.nodup_cons] at h2
 have ha : ¬ a ∈ s1 := fun k => h3 a k a (by simp) rfl
 have hx : ¬ x ∈ s1 := fun k => h3 x k x (by simp) rfl
 have hax : a ≠ x := fun e => h2.1 (by rw [e]; simp)
 rw [List.idxOf_append, if_neg ha, List.idxOf_append, if_neg hx, List.idxOf_cons_self, idx_ne2 _ hax]
 omega
theorem dfs_ctx {g : List (List Int)} (hs : Small g) (h0 : 0 < g.length) : ∃ o par, graph_Order.f g 0 = some (0 :: o) ∧ Dfs (clean g) (0 :: o) par ∧ (0 :: o).Nodup ∧ ∀ x ∈ 0 :: o, 0 ≤ x ∧ x < (g.length : Int) := by
 obtain ⟨t, h1, h2, h3, h4, h5, m', hV⟩ := told_spec (clean_Valid g) (by rw [clean_len]; exact hs.2) (fun l hl => Nat.le_trans (clean_row_le l hl) hs.2) (a := 0) (clean_node.2 (by omega))
 have e : (t ++ [0]).reverse = 0 :: t.reverse := by simp
 have hnd : (0 :: t.reverse : List Int).Nodup := by rw [← e]; exact List.pairwise_reverse.2 (h3.imp Ne.symm)
 have hm : ∀ x, x ∈ (0 :: t.reverse : List Int) ↔ x ∈ t ++ [0] := fun x => by rw [← e, List.mem_reverse]
 have hex : ∀ x, x ∈ (0 :: t.reverse : List Int) → x ≠ 0 → ∃ u, x ∈ row (clean g) u ∧ u ∈ (0 :: t.reverse : List Int) ∧ (0 :: t.reverse : List Int).idxOf u < (0 :: t.reverse : List Int).idxOf x := by
  intro x hx hx0
  rcases hV.parent x ((hm x).1 hx) with k | ⟨a, s1, s2, s3, hr, e2⟩
  ·exact absurd (List.mem_singleton.1 k) hx0
  ·have e3 : (0 :: t.reverse : List Int) = s3.reverse ++ a :: (s2.reverse ++ x :: s1.reverse) := by
    rw [← e, e2]
    simp
   refine ⟨a, hr, by rw [e3]; simp, ?_⟩
   have hnd' := hnd
   rw [e3] at hnd'
   rw [e3]
   exact idx_before hnd'
 refine ⟨t.reverse, fun x => if h : x ∈ (0 :: t.reverse : List Int) ∧ x ≠ 0 then some (Classical.choose (hex x h.1 h.2)) else none, ?_, ⟨by simp, fun x => by rw [hm, h2], fun x hx hx0 => ?_, fun x u hu => ?_⟩, hnd, fun x hx => clean_node.1 (h4 x ((hm x).1 hx))⟩
 ·unfold graph_Order.f
  rw [if_pos hs.1, h1, Option.map_some, e]
 ·exact ⟨_, dif_pos ⟨hx, hx0⟩⟩
 ·by_cases h : x ∈ (0 :: t.reverse : List Int) ∧ x ≠ 0
  ·rw [dif_pos h] at hu
   have := Classical.choose_spec (hex x h.1 h.2)
   rw [Option.some.inj hu] at this
   exact ⟨h.1, h.2, this.1, this.2.1, this.2.2⟩
  ·rw [dif_neg h] at hu
   cases hu
end Go.Proofs.YtemcmcnhpdkdfaaGreat.P
namespace Go.Proofs.YtemcmcnhpdkdfaaGreat.P
open Go.RowKit Go.Proofs.YtemcmcnhpdkdfaaGreatW.PrintWords Go.Proofs.YtemcmcnhpdkdfaaGreatW.PrintLast Go.Proofs.YtemcmcnhpdkdfaaGreatW.PrintMore
attribute [local go_sem] max2_int min2_int max_two min_two max_three min_three max_four min_four
set_option linter.unusedVariables false
set_option linter.unusedSimpArgs false
def bits_Mul64.f (a0 : Int) (a1 : Int) : Option (Int × Int) := some (IntKind.u64.wrap ((IntKind.u64.wrap ((IntKind.u64.wrap ((a0 / 4294967296) * (a1 / 4294967296))) + ((IntKind.u64.wrap ((IntKind.u64.wrap ((a0 / 4294967296) * (Go.bits .and .u64 a1 4294967295))) + ((IntKind.u64.wrap ((Go.bits .and .u64 a0 4294967295) * (Go.bits .and .u64 a1 4294967295))) / 4294967296))) / 4294967296))) + ((IntKind.u64.wrap ((Go.bits .and .u64 (IntKind.u64.wrap ((IntKind.u64.wrap ((a0 / 4294967296) * (Go.bits .and .u64 a1 4294967295))) + ((IntKind.u64.wrap ((Go.bits .and .u64 a0 4294967295) * (Go.bits .and .u64 a1 4294967295))) / 4294967296))) 4294967295) + (IntKind.u64.wrap ((Go.bits .and .u64 a0 4294967295) * (a1 / 4294967296))))) / 4294967296)), IntKind.u64.wrap (a0 * a1))
set_option maxHeartbeats 8000000 in
set_option maxRecDepth 100000 in
theorem bits_Mul64.calls (a0 : Int) (a1 : Int) (r1 : Int) (r2 : Int) (w : World) (h : bits_Mul64.f a0 a1 = some (r1, r2)) :
  Calls Tryz.prog 90 #[.int .u64 a0, .int .u64 a1] w fun e w' => e = .returned (.tuple #[.int .u64 r1, .int .u64 r2]) ∧ Drawn0 w w' := by
 have H : (some (IntKind.u64.wrap ((IntKind.u64.wrap ((IntKind.u64.wrap ((a0 / 4294967296) * (a1 / 4294967296))) + ((IntKind.u64.wrap ((IntKind.u64.wrap ((a0 / 4294967296) * (Go.bits .and .u64 a1 4294967295))) + ((IntKind.u64.wrap ((Go.bits .and .u64 a0 4294967295) * (Go.bits .and .u64 a1 4294967295))) / 4294967296))) / 4294967296))) + ((IntKind.u64.wrap ((Go.bits .and .u64 (IntKind.u64.wrap ((IntKind.u64.wrap ((a0 / 4294967296) * (Go.bits .and .u64 a1 4294967295))) + ((IntKind.u64.wrap ((Go.bits .and .u64 a0 4294967295) * (Go.bits .and .u64 a1 4294967295))) / 4294967296))) 4294967295) + (IntKind.u64.wrap ((Go.bits .and .u64 a0 4294967295) * (a1 / 4294967296))))) / 4294967296)), IntKind.u64.wrap (a0 * a1))) = some (r1, r2) := h
 clear h
 simp only [Option.some.injEq, Prod.mk.injEq] at H
 obtain ⟨rfl, rfl⟩ := H
 go_enter Tryz.func90, Tryz.ntmps90
 go_wp2
 go_ret2
 exact ⟨by first | rfl | (simp; done) | (simp [*]; done), by repeat (first | exact Drawn0.refl _ | apply Drawn0.step)⟩
def bits_Mul.f (a0 : Int) (a1 : Int) : Option (Int × Int) := (bits_Mul64.f a0 a1).bind fun bt474 => (some (bt474.1, bt474.2))
set_option maxHeartbeats 8000000 in
set_option maxRecDepth 100000 in
theorem bits_Mul.calls (a0 : Int) (a1 : Int) (r1 : Int) (r2 : Int) (w : World) (h : bits_Mul.f a0 a1 = some (r1, r2)) :
  Calls Tryz.prog 74 #[.int .u64 a0, .int .u64 a1] w fun e w' => e = .returned (.tuple #[.int .u64 r1, .int .u64 r2]) ∧ Drawn0 w w' := by
 have H : ((bits_Mul64.f a0 a1).bind fun bt474 => (some (bt474.1, bt474.2))) = some (r1, r2) := h
 clear h
 replace H := Option.bind_eq_some_iff.mp H
 obtain ⟨⟨t474, t475⟩, A30, H⟩ := H
 replace H : (some (t474, t475)) = some (r1, r2) := H
 have A3 := Aside0.mk A30
 clear A30
 simp only [Option.some.injEq, Prod.mk.injEq] at H
 obtain ⟨rfl, rfl⟩ := H
 go_enter Tryz.func74, Tryz.ntmps74
 go_wp2_with (first | ((with_reducible refine gate_callee (f := 90) rfl ?_); refine goesL_ (some 25) rfl rfl Tryz.func90 (by kernel_rfl) rfl #[.int .u64 a0, .int .u64 a1] rfl (by (try simp only [List.map_toArray, List.map_cons, List.map_nil]); first | done | rfl | (simp only [List.length_drop, List.length_take]; rfl)) ?_; (with_reducible refine (bits_Mul64.calls a0 a1 t474 t475 _ A3.out).mono ?_); rintro e w' ⟨rfl, ⟨nd, rfl⟩⟩; refine ⟨_, rfl, ?_⟩))
 go_ret2
 exact ⟨by first | rfl | (simp; done) | (simp [*]; done), by repeat (first | exact Drawn0.refl _ | apply Drawn0.step)⟩
end Go.Proofs.YtemcmcnhpdkdfaaGreat.P
namespace Go.Proofs.YtemcmcnhpdkdfaaGreat.P
open Go.RowKit Go.Proofs.YtemcmcnhpdkdfaaGreatW.PrintWords Go.Proofs.YtemcmcnhpdkdfaaGreatW.PrintLast Go.Proofs.YtemcmcnhpdkdfaaGreatW.PrintMore
attribute [local go_sem] max2_int min2_int max_two min_two max_three min_three max_four min_four
set_option linter.unusedVariables false
set_option linter.unusedSimpArgs false
def slices_Index_int_int.l0 : Nat → List Int → Int → Int → Int → Option (Int)
 | 0, _, _, _, _ => none
 | k + 1, x0, x1, x7, x8 => if x8 < x7 then (if 0 ≤ x8 then (if x8 < (x0.length : Int) then (if x1 = (rd x0 x8) then (some x8) else (slices_Index_int_int.l0 k x0 x1 x7 (wrap64 (x8 + 1)))) else (none)) else (none)) else (some (-1))
def slices_Index_int_int.f (k : Nat) (l0 : List Int) (a1 : Int) : Option (Int) := slices_Index_int_int.l0 k l0 a1 (l0.length : Int) 0
set_option maxHeartbeats 8000000 in
set_option maxRecDepth 100000 in
theorem slices_Index_int_int.calls (k : Nat) (A0 : Option Addr) (c0 : Nat) (l0 : List Int) (a1 : Int) (r : Int) (w : World) (hr0 : Kd.C (Kd.int .i64) w A0 l0.length l0) (hc0 : l0.length ≤ c0) (h : slices_Index_int_int.f k l0 a1 = some r) :
  Calls Tryz.prog 78 #[.slice A0 l0.length c0, .int .i64 a1] w fun e w' => e = .returned (.int .i64 r) ∧ Drawn0 w w' := by
 have HR0 := Aside0.mk hr0
 have HC0 := Aside0.mk hc0
 clear hr0 hc0
 have H : (slices_Index_int_int.l0 k l0 a1 (l0.length : Int) 0) = some r := h
 clear h
 have H' := Aside0.mk H
 clear H
 go_enter Tryz.func78, Tryz.ntmps78
 go_wp2
 go_loopg [8] k (fun kq v8 w' => ∃ (x8_1 : Int), v8 = .int .i64 x8_1 ∧ Aside0 (slices_Index_int_int.l0 kq l0 a1 (l0.length : Int) x8_1 = some r) ∧ Aside0 (kq ≤ k) ∧ Drawn0 w w')
 case atStart => exact ⟨(0), (by first | rfl | (simp; done) | (simp [*]; done)), H', ⟨Nat.le_refl _⟩, by repeat (first | exact Drawn0.refl _ | apply Drawn0.step)⟩
 case round =>
  clear H'
  try clear p2
  obtain ⟨x8_1, rfl, HA, HK1, ⟨m1, rfl⟩⟩ := hrel
  cases gk with
  | zero => exact absurd HA.out (by simp [slices_Index_int_int.l0])
  | succ k1 =>
   have H := HA.out
   clear HA
   simp only [slices_Index_int_int.l0] at H
   by_cases c3 : x8_1 < (l0.length : Int)
   ·rw [if_pos c3] at H
    have c3b0 : decide (x8_1 < (l0.length : Int)) = true := decide_eq_true c3
    clear c3
    by_cases c4 : 0 ≤ x8_1
    ·rw [if_pos c4] at H
     have c4b0 : decide (0 ≤ x8_1) = true := decide_eq_true c4
     clear c4
     by_cases c5 : x8_1 < (l0.length : Int)
     ·rw [if_pos c5] at H
      have c5b0 : decide (x8_1 < (l0.length : Int)) = true := decide_eq_true c5
      clear c5
      by_cases c6 : a1 = (rd l0 x8_1)
      ·rw [if_pos c6] at H
       have c6b0 : (a1 == (rd l0 x8_1)) = true := beq_iff_eq.mpr c6
       have c6b1 : (a1 != (rd l0 x8_1)) = false := bne_eq_false_iff_eq.mpr c6
       clear c6
       obtain rfl := Option.some.inj H
       have p452 : 0 ≤ (x8_1 : Int) := of_decide_eq_true (by first | (with_reducible assumption) | assumption)
       have q452 : x8_1 < (l0.length : Int) := of_decide_eq_true (by first | (with_reducible assumption) | assumption)
       obtain ⟨ad452, e452, hx452_0⟩ := Kd.at_int HR0.out x8_1 p452 q452
       cases e452
       replace p452 := eq_true p452
       replace q452 := eq_true q452
       go_wp2
       go_ret
       exact ⟨by first | rfl | (simp; done) | (simp [*]; done), by repeat (first | exact Drawn0.refl _ | apply Drawn0.step)⟩
      ·rw [if_neg c6] at H
       have c6b0 : (a1 == (rd l0 x8_1)) = false := beq_eq_false_iff_ne.mpr c6
       have c6b1 : (a1 != (rd l0 x8_1)) = true := bne_iff_ne.mpr c6
       have H' := Aside0.mk H
       clear H
       have p452 : 0 ≤ (x8_1 : Int) := of_decide_eq_true (by first | (with_reducible assumption) | assumption)
       have q452 : x8_1 < (l0.length : Int) := of_decide_eq_true (by first | (with_reducible assumption) | assumption)
       obtain ⟨ad452, e452, hx452_0⟩ := Kd.at_int HR0.out x8_1 p452 q452
       cases e452
       replace p452 := eq_true p452
       replace q452 := eq_true q452
       go_wp2
       go_roundg k1
       case measure => have := HK1.out; omega
       case rel => exact ⟨(wrap64 (x8_1 + 1)), (by first | rfl | (simp; done) | (simp [*]; done)), H', ⟨by have := HK1.out; omega⟩, by repeat (first | exact Drawn0.refl _ | apply Drawn0.step)⟩
     ·rw [if_neg c5] at H
      exact absurd H (by simp)
    ·rw [if_neg c4] at H
     exact absurd H (by simp)
   ·rw [if_neg c3] at H
    have c3b0 : decide (x8_1 < (l0.length : Int)) = false := decide_eq_false c3
    clear c3
    obtain rfl := Option.some.inj H
    go_wp2
    go_ret
    exact ⟨by first | rfl | (simp; done) | (simp [*]; done), by repeat (first | exact Drawn0.refl _ | apply Drawn0.step)⟩
def slices_Contains_int_int.f (k : Nat) (l0 : List Int) (a1 : Int) : Option (Bool) := (slices_Index_int_int.f k l0 a1).bind fun t453 => (some (decide (t453 ≥ 0)))
set_option maxHeartbeats 8000000 in
set_option maxRecDepth 100000 in
theorem slices_Contains_int_int.calls (k : Nat) (A0 : Option Addr) (c0 : Nat) (l0 : List Int) (a1 : Int) (r : Bool) (w : World) (hr0 : Kd.C (Kd.int .i64) w A0 l0.length l0) (hc0 : l0.length ≤ c0) (h : slices_Contains_int_int.f k l0 a1 = some r) :
  Calls Tryz.prog 53 #[.slice A0 l0.length c0, .int .i64 a1] w fun e w' => e = .returned (.bool r) ∧ Drawn0 w w' := by
 have HR0 := Aside0.mk hr0
 have HC0 := Aside0.mk hc0
 clear hr0 hc0
 have H : ((slices_Index_int_int.f k l0 a1).bind fun t453 => (some (decide (t453 ≥ 0)))) = some r := h
 clear h
 replace H := Option.bind_eq_some_iff.mp H
 obtain ⟨t453, A30, H⟩ := H
 replace H : (some (decide (t453 ≥ 0))) = some r := H
 have A3 := Aside0.mk A30
 clear A30
 obtain rfl := Option.some.inj H
 go_enter Tryz.func53, Tryz.ntmps53
 go_wp2_with (first | ((with_reducible refine gate_callee (f := 78) rfl ?_); refine goesL_ (some 7) rfl rfl Tryz.func78 (by kernel_rfl) rfl #[.slice A0 l0.length c0, .int .i64 a1] rfl (by (try simp only [List.map_toArray, List.map_cons, List.map_nil]); first | done | rfl | (simp only [List.length_drop, List.length_take]; rfl)) ?_; (with_reducible refine (slices_Index_int_int.calls k _ _ l0 a1 t453 _ ?side1 ?side2 A3.out).mono ?_); (case side1 => repeat (first | exact HR0.out | (with_reducible refine Kd.C_alloc ?_ _) | (with_reducible refine Kd.C_drewN ?_ _) | (with_reducible refine Kd.C_drew ?_))); (case side2 => exact HC0.out); rintro e w' ⟨rfl, ⟨nd, rfl⟩⟩; refine ⟨_, rfl, ?_⟩))
 go_ret
 exact ⟨by first | rfl | (simp; done) | (simp [*]; done), by repeat (first | exact Drawn0.refl _ | apply Drawn0.step)⟩
end Go.Proofs.YtemcmcnhpdkdfaaGreat.P
