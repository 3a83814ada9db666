/- What the claim uses of: Gdefs P0 Pbywashref01 Pbywashref10 Grefs Gref10 Gscc Gscc2 Gshr Gscc5 Gshr2 Grank Gkahn Pbits Gscc3 Gscc4 Gedges -/
import Derived.Lib.SlicesCompact
import Derived.Lib.RowBridge
import Derived.Below
import Derived.Deep.Draws
import Derived.Deep.AppendLies
import Derived.Maps.AppendAt
import Derived.OwnWalk
import Derived.Laws.BytesArg
import Derived.Laws.MakeOwn
import Derived.Laws.OwnMore
import Derived.Deep.OwnRows
import Derived.Tactics
import Derived.Lib.ConvBytes
import Derived.Laws.Slices
import Derived.WalkKit
import Derived.KernelRfl
import Derived.RowKit3
import Derived.Deep.LoopGhost
import Derived.Deep.QuietTactic
import Derived.BigQuiet
import Derived.WideLaws
import Derived.Deep.DeepCutAuto
import Derived.Deep.CutBlock
import Derived.Deep.RegionHeld3
import Derived.Laws.Rows
import Derived.Lib.AppendStr
import Derived.ArgAppend
import Derived.Laws.IdiomCopy
import Derived.OrdersHeld
import Derived.Laws.BitsLemmas
import Derived.RowKit
import Derived.Test.YtdknhgbjgdmfkaaProg
import Derived.Test.YtdknhgbjgdmfkaaQH0
namespace Go.Proofs.Ytdknhgbjgdmfkaa.P
def isN (n : Nat) (b : Int) : Bool := decide (0 ≤ b ∧ b < (n : Int))
def cleanRow (n : Nat) (l : List Int) : List Int := Lib.compact ((l.filter fun b => isN n b).mergeSort fun x y => decide (x ≤ y))
def clean (g : List (List Int)) : List (List Int) := g.map (cleanRow g.length)
def fits (g : List (List Int)) : Bool := decide (g.length ≤ 100000) && g.all fun l => decide (l.length ≤ 100000)
def cleanSo (g : List (List Int)) (k : Nat) : List (List Int) := (clean g).take k ++ List.replicate (g.length - k) []
theorem cleanSo_zero (g : List (List Int)) : cleanSo g 0 = List.replicate g.length [] := by simp [cleanSo]
theorem cleanSo_all (g : List (List Int)) : cleanSo g g.length = clean g := by
  unfold cleanSo
  rw [List.take_of_length_le (by simp [clean]), Nat.sub_self, List.replicate_zero, List.append_nil]
theorem cleanSo_len (g : List (List Int)) (k : Nat) (h : k ≤ g.length) : (cleanSo g k).length = g.length := by
  simp [cleanSo, clean]; omega
theorem cleanSo_succ (g : List (List Int)) (k : Nat) (h : k < g.length) : (cleanSo g k).set k (cleanRow g.length g[k]) = cleanSo g (k + 1) := by
  have hl : ((clean g).take k).length = k := by simp [clean]; omega
  unfold cleanSo
  rw [List.set_append_right _ _ (by omega), hl, Nat.sub_self, show g.length - k = (g.length - (k + 1)) + 1 by omega, List.replicate_succ, List.set_cons_zero, List.take_succ_eq_append_getElem (by simp [clean]; omega), List.append_assoc]
  simp [clean]
theorem isN_yes {n : Nat} {x : Int} (h0 : 0 ≤ x) (h1 : x < (n : Int)) : isN n x = true := by unfold isN; simp [h0, h1]
theorem isN_iff {n : Nat} {x : Int} : isN n x = true ↔ 0 ≤ x ∧ x < (n : Int) := by unfold isN; exact decide_eq_true_iff
theorem fits_row {g : List (List Int)} (h : fits g = true) {k : Nat} (hk : k < g.length) : g[k].length ≤ 100000 := by
  unfold fits at h
  simp only [Bool.and_eq_true, decide_eq_true_eq, List.all_eq_true] at h
  exact h.2 _ (List.getElem_mem hk)
def dfs (g : List (List Int)) : Nat → List Bool → List (Int × Int) → List Int → Option (List Int)
  | 0, _, _, _ => none
  | _ + 1, _, [], told => some told
  | k + 1, met, (a, i) :: st, told =>
    if i < ((g.getD a.toNat []).length : Int) then
      (if met.getD ((g.getD a.toNat []).getD i.toNat 0).toNat true = true then dfs g k met ((a, i + 1) :: st) told
       else dfs g k (met.set ((g.getD a.toNat []).getD i.toNat 0).toNat true) (((g.getD a.toNat []).getD i.toNat 0, 0) :: (a, i) :: st) told)
    else dfs g k met st (told ++ [a])
section
variable {g : List (List Int)} {told : List Int} {kq : Nat} {met : List Bool} {st : List (Int × Int)} {tl : List Int} {a ii b : Int}
theorem dfs_len : ∀ (k : Nat) (met : List Bool) (st : List (Int × Int)) (tl : List Int), dfs g k met st tl = some told → told.length ≤ tl.length + k
  | 0, _, _, _, h => by simp [dfs] at h
  | k + 1, met, [], tl, h => by
    rw [dfs] at h
    obtain rfl := Option.some.inj h
    omega
  | k + 1, met, (a, i) :: st, tl, h => by
    rw [dfs] at h
    split at h
    · split at h
      · have := dfs_len k _ _ _ h; omega
      · have := dfs_len k _ _ _ h; omega
    · have := dfs_len k _ _ _ h
      rw [List.length_append, List.length_singleton] at this
      omega
theorem dfs_push (h : dfs g (kq + 1) met ((a, ii) :: st) tl = some told) (hl : ii < ((g.getD a.toNat []).length : Int)) (hb : b = (g.getD a.toNat []).getD ii.toNat 0) (hm : met.getD b.toNat true = false) : dfs g kq (met.set b.toNat true) ((b, 0) :: (a, ii) :: st) tl = some told := by
  rw [dfs, if_pos hl, ← hb, if_neg (by rw [hm]; simp)] at h
  exact h
theorem dfs_skip (h : dfs g (kq + 1) met ((a, ii) :: st) tl = some told) (hl : ii < ((g.getD a.toNat []).length : Int)) (hb : b = (g.getD a.toNat []).getD ii.toNat 0) (hm : met.getD b.toNat true = true) : dfs g kq met ((a, ii + 1) :: st) tl = some told := by
  rw [dfs, if_pos hl, ← hb, if_pos hm] at h
  exact h
theorem dfs_pop (h : dfs g (kq + 1) met ((a, ii) :: st) tl = some told) (hl : ¬ ii < ((g.getD a.toNat []).length : Int)) : dfs g kq met st (tl ++ [a]) = some told := by
  rw [dfs, if_neg hl] at h
  exact h
end
def marks (n : Nat) (l : List Int) : List Bool := l.foldl (fun m a => m.set a.toNat true) (List.replicate n false)
theorem foldl_set_len (l : List Int) (m : List Bool) : (l.foldl (fun m a => m.set a.toNat true) m).length = m.length := by
  induction l generalizing m with
  | nil => rfl
  | cons a l ih => rw [List.foldl_cons, ih, List.length_set]
theorem marks_len (n : Nat) (l : List Int) : (marks n l).length = n := by
  unfold marks
  rw [foldl_set_len, List.length_replicate]
theorem eq_of_rising : ∀ (a b : List Int), a.Pairwise (· < ·) → b.Pairwise (· < ·) → (∀ x, x ∈ a ↔ x ∈ b) → a = b
  | [], [], _, _, _ => rfl
  | [], y :: b, _, _, h => absurd ((h y).2 List.mem_cons_self) (by simp)
  | x :: a, [], _, _, h => absurd ((h x).1 List.mem_cons_self) (by simp)
  | x :: a, y :: b, ha, hb, h => by
    rw [List.pairwise_cons] at ha hb
    have hxy : x = y := by
      rcases List.mem_cons.1 ((h x).1 List.mem_cons_self) with e | e
      · exact e
      · rcases List.mem_cons.1 ((h y).2 List.mem_cons_self) with e' | e'
        · exact e'.symm
        · have := hb.1 x e
          have := ha.1 y e'
          omega
    subst hxy
    congr 1
    refine eq_of_rising a b ha.2 hb.2 (fun z => ⟨fun hz => ?_, fun hz => ?_⟩)
    · rcases List.mem_cons.1 ((h z).1 (List.mem_cons_of_mem _ hz)) with e | e
      · subst e
        exact absurd (ha.1 _ hz) (by omega)
      · exact e
    · rcases List.mem_cons.1 ((h z).2 (List.mem_cons_of_mem _ hz)) with e | e
      · subst e
        exact absurd (hb.1 _ hz) (by omega)
      · exact e
theorem compactUpTo_rises (d : Array Int) (hs : ∀ i j, i ≤ j → j < d.size → d[i]! ≤ d[j]!) : ∀ m, m ≤ d.size →
    (Lib.compactUpTo d m).Pairwise (· < ·) ∧ (∀ x, x ∈ Lib.compactUpTo d m ↔ ∃ j, j < m ∧ d[j]! = x)
  | 0, _ => ⟨by simp [Lib.compactUpTo], fun x => ⟨fun h => by simp [Lib.compactUpTo] at h, fun ⟨j, h, _⟩ => by omega⟩⟩
  | m + 1, hm => by
    obtain ⟨h1, h2⟩ := compactUpTo_rises d hs m (by omega)
    rw [Lib.compactUpTo_succ]
    by_cases hk : Lib.keeps d m = true
    · rw [if_pos hk]
      have hk' : m = 0 ∨ d[m]! ≠ d[m - 1]! := by simpa [Lib.keeps] using hk
      refine ⟨List.pairwise_append.2 ⟨h1, by simp, fun x hx y hy => ?_⟩, fun x => ?_⟩
      · obtain rfl := List.mem_singleton.1 hy
        obtain ⟨j, hj, rfl⟩ := (h2 x).1 hx
        have a1 := hs j (m - 1) (by omega) (by omega)
        have a2 := hs (m - 1) m (by omega) (by omega)
        rcases hk' with e | e
        · omega
        · omega
      · rw [List.mem_append, List.mem_singleton, h2]
        constructor
        · rintro (⟨j, hj, e⟩ | e)
          · exact ⟨j, by omega, e⟩
          · exact ⟨m, by omega, e.symm⟩
        · rintro ⟨j, hj, e⟩
          rcases Nat.lt_or_ge j m with h | h
          · exact .inl ⟨j, h, e⟩
          · exact .inr (by rw [← e, show j = m by omega])
    · rw [if_neg hk, List.append_nil]
      have hk' : m ≠ 0 ∧ d[m]! = d[m - 1]! := by
        have : ¬ (m = 0 ∨ d[m]! ≠ d[m - 1]!) := by simpa [Lib.keeps] using hk
        omega
      refine ⟨h1, fun x => ?_⟩
      rw [h2]
      constructor
      · rintro ⟨j, hj, e⟩
        exact ⟨j, by omega, e⟩
      · rintro ⟨j, hj, e⟩
        rcases Nat.lt_or_ge j m with h | h
        · exact ⟨j, h, e⟩
        · exact ⟨m - 1, by omega, by rw [← hk'.2, ← e, show j = m by omega]⟩
theorem compact_sorted (zs : List Int) : (Lib.compact (zs.mergeSort fun x y => decide (x ≤ y))).Pairwise (· < ·) ∧ ∀ x, x ∈ Lib.compact (zs.mergeSort fun x y => decide (x ≤ y)) ↔ x ∈ zs := by
  obtain ⟨ys, hy⟩ : ∃ ys, ys = zs.mergeSort fun x y => decide (x ≤ y) := ⟨_, rfl⟩
  have hp : ys.Pairwise (· ≤ ·) := by
    rw [hy]
    have := List.pairwise_mergeSort (le := fun x y : Int => decide (x ≤ y)) (fun a b c => by simp; omega) (fun a b => by simp; omega) zs
    exact this.imp (by simp)
  have hm : ∀ x, x ∈ ys ↔ x ∈ zs := fun x => by rw [hy, List.mem_mergeSort]
  rw [← hy]
  have hs : ∀ i j, i ≤ j → j < ys.toArray.size → ys.toArray[i]! ≤ ys.toArray[j]! := by
    intro i j hij hj
    have hj' : j < ys.length := by simpa using hj
    rw [getElem!_pos _ i (by simp; omega), getElem!_pos _ j hj]
    simp only [List.getElem_toArray]
    rcases Nat.lt_or_ge i j with h | h
    · exact List.pairwise_iff_getElem.1 hp i j (by omega) hj' h
    · obtain rfl : i = j := by omega
      exact Int.le_refl _
  obtain ⟨h1, h2⟩ := compactUpTo_rises ys.toArray hs ys.length (by simp)
  refine ⟨h1, fun x => ?_⟩
  unfold Lib.compact
  rw [h2, ← hm]
  constructor
  · rintro ⟨j, hj, e⟩
    rw [← e, getElem!_pos _ j (by simpa using hj)]
    simp
  · intro hx
    obtain ⟨j, hj, e⟩ := List.getElem_of_mem hx
    exact ⟨j, hj, by rw [getElem!_pos _ j (by simpa using hj)]; simpa using e⟩
theorem mem_cleanRow {n : Nat} {l : List Int} {x : Int} : x ∈ cleanRow n l ↔ x ∈ l ∧ 0 ≤ x ∧ x < (n : Int) := by
  unfold cleanRow
  rw [(compact_sorted _).2, List.mem_filter, isN_iff]
theorem cleanRow_rises (n : Nat) (l : List Int) : (cleanRow n l).Pairwise (· < ·) := (compact_sorted _).1
theorem cleanRow_len (n : Nat) (l : List Int) : (cleanRow n l).length ≤ l.length := by
  unfold cleanRow
  refine Nat.le_trans (Lib.compact_length_le _) ?_
  rw [List.length_mergeSort]
  exact List.length_filter_le _ _
theorem cleanRow_eq {n : Nat} {l m : List Int} (h : m.Pairwise (· < ·)) (hm : ∀ x, x ∈ m ↔ x ∈ l ∧ 0 ≤ x ∧ x < (n : Int)) : cleanRow n l = m :=
  eq_of_rising _ _ (cleanRow_rises n l) h (fun x => by rw [mem_cleanRow, hm])
theorem clean_len (g : List (List Int)) : (clean g).length = g.length := by simp [clean]
theorem clean_valid {g : List (List Int)} : ∀ l ∈ clean g, ∀ b ∈ l, 0 ≤ b ∧ b < (g.length : Int) := by
  intro l hl b hb
  obtain ⟨r, _, rfl⟩ := List.mem_map.1 hl
  exact (mem_cleanRow.1 hb).2
theorem clean_small {g : List (List Int)} (h : fits g = true) : ∀ l ∈ clean g, l.length ≤ 100000 := by
  intro l hl
  obtain ⟨r, hr, rfl⟩ := List.mem_map.1 hl
  unfold fits at h
  simp only [Bool.and_eq_true, decide_eq_true_eq, List.all_eq_true] at h
  exact Nat.le_trans (cleanRow_len _ _) (h.2 r hr)
def toldOf (g : List (List Int)) (a : Int) : Option (List Int) := if isN g.length a = true then dfs g 1000000 ((List.replicate g.length false).set a.toNat true) [(a, 0)] [] else some []
theorem toldOf_len {g : List (List Int)} {a : Int} {t : List Int} (h : toldOf g a = some t) : t.length ≤ 1000000 := by
  unfold toldOf at h
  split at h
  · have := dfs_len _ _ _ _ h
    simpa using this
  · obtain rfl := Option.some.inj h
    simp
def turnStep (a : Int) (o : List (List Int)) (b : Int) : List (List Int) := o.set b.toNat (o.getD b.toNat [] ++ [a])
def NoLonger (o : List (List Int)) (m : Nat) : Prop := ∀ j : Nat, (o.getD j []).length ≤ m
theorem NoLonger.step {a b : Int} {o : List (List Int)} {m : Nat} (h : NoLonger o m) : NoLonger (turnStep a o b) (m + 1) := by
  intro j
  unfold turnStep
  rw [List.getD_eq_getElem?_getD, List.getElem?_set]
  have hj := h j
  have hb := h b.toNat
  split
  · split
    · rw [Option.getD_some, List.length_append, List.length_singleton]; omega
    · simp
  · rw [← List.getD_eq_getElem?_getD]; omega
def graph_Clean.f (l0 : List (List Int)) : Option (List (List Int)) := if fits l0 = true then some (clean l0) else none
def graph_Order.f (l0 : List (List Int)) (a1 : Int) : Option (List Int) := if fits l0 = true then (toldOf (clean l0) a1).map List.reverse else none
def graph_Reach.f (l0 : List (List Int)) (a1 : Int) : Option (List Bool) := if fits l0 = true then (toldOf (clean l0) a1).map (marks l0.length) else none
def reachB (l0 : List (List Int)) (c b : Int) : Bool := ((graph_Reach.f l0 c).getD []).getD b.toNat false
def graph_Path.f (l0 : List (List Int)) (a1 a2 : Int) : Option Bool :=
  if fits l0 = true then
    (if isN l0.length a1 = true ∧ isN l0.length a2 = true then
      (if ((clean l0).getD a1.toNat []).all (fun c => decide ((graph_Reach.f l0 c).isSome = true ∧ ((graph_Reach.f l0 c).getD []).length = l0.length)) = true then some (((clean l0).getD a1.toNat []).any fun c => reachB l0 c a2) else none)
    else some false)
  else none
end Go.Proofs.Ytdknhgbjgdmfkaa.P
namespace Go.Proofs.Ytdknhgbjgdmfkaa.P
def row (g : List (List Int)) (a : Int) : List Int := g.getD a.toNat []
def Valid (g : List (List Int)) : Prop := ∀ l ∈ g, ∀ b ∈ l, 0 ≤ b ∧ b < (g.length : Int)
def Node (g : List (List Int)) (a : Int) : Prop := 0 ≤ a ∧ a < (g.length : Int)
theorem row_mem {g : List (List Int)} {a b : Int} (h : b ∈ row g a) : row g a ∈ g := by
  unfold row at h ⊢
  rw [List.getD_eq_getElem?_getD] at h ⊢
  cases hx : g[a.toNat]? with
  | none => rw [hx] at h; simp at h
  | some l => rw [Option.getD_some]; exact List.mem_of_getElem? hx
theorem row_node {g : List (List Int)} (hg : Valid g) {a b : Int} (h : b ∈ row g a) : Node g b := hg _ (row_mem h) _ h
inductive Way (g : List (List Int)) : Int → Int → Prop where
  | refl (a : Int) : Way g a a
  | step {a b c : Int} : b ∈ row g a → Way g b c → Way g a c
theorem Way.trans {g : List (List Int)} {a b c : Int} (h : Way g a b) (k : Way g b c) : Way g a c := by
  induction h with
  | refl => exact k
  | step hb _ ih => exact .step hb (ih k)
theorem Way.edge {g : List (List Int)} {a b : Int} (h : b ∈ row g a) : Way g a b := .step h (.refl _)
theorem Way.node {g : List (List Int)} (hg : Valid g) {a b : Int} (h : Way g a b) (ha : Node g a) : Node g b := by
  induction h with
  | refl => exact ha
  | step hb _ ih => exact ih (row_node hg hb)
theorem Way.closed {g : List (List Int)} {P : Int → Prop} (hc : ∀ x y, P x → y ∈ row g x → P y) {a b : Int} (h : Way g a b) (ha : P a) : P b := by
  induction h with
  | refl => exact ha
  | step hb _ ih => exact ih (hc _ _ ha hb)
def metB (m : List Bool) (a : Int) : Bool := m.getD a.toNat true
theorem metB_set {m : List Bool} {a b : Int} (hb : 0 ≤ b) (ha : 0 ≤ a) (hl : a < (m.length : Int)) : metB (m.set a.toNat true) b = (metB m b || decide (b = a)) := by
  unfold metB
  rw [List.getD_eq_getElem?_getD, List.getD_eq_getElem?_getD, List.getElem?_set]
  by_cases e : b = a
  · subst e
    rw [if_pos rfl, if_pos (by omega)]
    simp
  · rw [if_neg (by omega)]
    simp [e]
inductive Vs (g : List (List Int)) : List Int → List Bool → List Bool → List Int → Prop where
  | nil (m : List Bool) : Vs g [] m m []
  | skip {b : Int} {l : List Int} {m m' : List Bool} {t : List Int} : metB m b = true → Vs g l m m' t → Vs g (b :: l) m m' t
  | go {b : Int} {l : List Int} {m m1 m2 : List Bool} {t1 t2 : List Int} : metB m b = false → Vs g (row g b) (m.set b.toNat true) m1 t1 → Vs g l m1 m2 t2 → Vs g (b :: l) m m2 (t1 ++ b :: t2)
section
variable {g : List (List Int)} {l t : List Int} {m m' : List Bool}
theorem Vs.len (h : Vs g l m m' t) : m'.length = m.length := by
  induction h with
  | nil => rfl
  | skip _ _ ih => exact ih
  | go _ _ _ ih1 ih2 => rw [ih2, ih1, List.length_set]
theorem Vs.met (hg : Valid g) (h : Vs g l m m' t) (hm : m.length = g.length) (hl : ∀ b ∈ l, Node g b) :
    (∀ x, 0 ≤ x → metB m' x = (metB m x || decide (x ∈ t))) ∧ (∀ x ∈ t, metB m x = false ∧ Node g x) ∧ t.Nodup := by
  induction h with
  | nil m => exact ⟨fun x _ => by simp, fun x hx => by simp at hx, List.nodup_nil⟩
  | skip _ _ ih => exact ih hm (fun b hb => hl b (List.mem_cons_of_mem _ hb))
  | @go b l m m1 m2 t1 t2 hb h1 h2 ih1 ih2 =>
    have hbn := hl b List.mem_cons_self
    obtain ⟨a1, a2, a3⟩ := ih1 (by rw [List.length_set]; exact hm) (fun c hc => row_node hg hc)
    obtain ⟨b1, b2, b3⟩ := ih2 (by rw [h1.len, List.length_set]; exact hm) (fun c hc => hl c (List.mem_cons_of_mem _ hc))
    have hset : ∀ x, 0 ≤ x → metB (m.set b.toNat true) x = (metB m x || decide (x = b)) := fun x hx => metB_set hx hbn.1 (by rw [hm]; exact hbn.2)
    have hb1 : ∀ x ∈ t1, metB m x = false ∧ x ≠ b := by
      intro x hx
      have := (a2 x hx).1
      rw [hset x (a2 x hx).2.1] at this
      simpa using this
    have hb2 : ∀ x ∈ t2, metB m x = false ∧ x ≠ b ∧ x ∉ t1 := by
      intro x hx
      have := (b2 x hx).1
      rw [a1 x (b2 x hx).2.1, hset x (b2 x hx).2.1] at this
      simp only [Bool.or_eq_false_iff, decide_eq_false_iff_not] at this
      exact ⟨this.1.1, this.1.2, this.2⟩
    refine ⟨fun x hx => ?_, fun x hx => ?_, ?_⟩
    · rw [b1 x hx, a1 x hx, hset x hx]
      simp only [List.mem_append, List.mem_cons]
      by_cases e1 : x ∈ t1 <;> by_cases e2 : x = b <;> by_cases e3 : x ∈ t2 <;> simp [e1, e2, e3]
    · rw [List.mem_append, List.mem_cons] at hx
      rcases hx with hx | rfl | hx
      · exact ⟨(hb1 x hx).1, (a2 x hx).2⟩
      · exact ⟨hb, hbn⟩
      · exact ⟨(hb2 x hx).1, (b2 x hx).2⟩
    · rw [List.nodup_append]
      refine ⟨a3, List.nodup_cons.2 ⟨fun hx => (hb2 b hx).2.1 rfl, b3⟩, fun x hx y hy => ?_⟩
      rcases List.mem_cons.1 hy with rfl | hy
      · exact (hb1 x hx).2
      · rintro rfl
        exact (hb2 x hy).2.2 hx
theorem Vs.all (hg : Valid g) (h : Vs g l m m' t) (hm : m.length = g.length) (hl : ∀ b ∈ l, Node g b) :
    (∀ b ∈ l, metB m' b = true) ∧ ∀ x ∈ t, ∀ y ∈ row g x, metB m' y = true := by
  induction h with
  | nil m => exact ⟨fun b hb => by simp at hb, fun x hx => by simp at hx⟩
  | @skip b l m m' t hb h1 ih =>
    obtain ⟨a1, a2⟩ := ih hm (fun b hb => hl b (List.mem_cons_of_mem _ hb))
    refine ⟨fun c hc => ?_, a2⟩
    rcases List.mem_cons.1 hc with rfl | hc
    · rw [(h1.met hg hm (fun b hb => hl b (List.mem_cons_of_mem _ hb))).1 c (hl c List.mem_cons_self).1, hb]
      rfl
    · exact a1 c hc
  | @go b l m m1 m2 t1 t2 hb h1 h2 ih1 ih2 =>
    have hbn := hl b List.mem_cons_self
    have hm1 : m1.length = g.length := by rw [h1.len, List.length_set]; exact hm
    have hms : (m.set b.toNat true).length = g.length := by rw [List.length_set]; exact hm
    have hl2 : ∀ c ∈ l, Node g c := fun c hc => hl c (List.mem_cons_of_mem _ hc)
    obtain ⟨a1, a2⟩ := ih1 hms (fun c hc => row_node hg hc)
    obtain ⟨b1, b2⟩ := ih2 hm1 hl2
    have k1 := (h1.met hg hms (fun c hc => row_node hg hc)).1
    have k2 := (h2.met hg hm1 hl2).1
    have up : ∀ y, 0 ≤ y → metB m1 y = true → metB m2 y = true := fun y hy e => by rw [k2 y hy, e]; rfl
    have hbm : metB m1 b = true := by
      rw [k1 b hbn.1, metB_set hbn.1 hbn.1 (by rw [hm]; exact hbn.2)]
      simp
    refine ⟨fun c hc => ?_, fun x hx y hy => ?_⟩
    · rcases List.mem_cons.1 hc with rfl | hc
      · exact up c hbn.1 hbm
      · exact b1 c hc
    · rw [List.mem_append, List.mem_cons] at hx
      rcases hx with hx | rfl | hx
      · exact up y (row_node hg hy).1 (a2 x hx y hy)
      · exact up y (row_node hg hy).1 (a1 y hy)
      · exact b2 x hx y hy
theorem Vs.way (h : Vs g l m m' t) : ∀ x ∈ t, ∃ b ∈ l, Way g b x := by
  induction h with
  | nil m => intro x hx; simp at hx
  | skip _ _ ih =>
    intro x hx
    obtain ⟨b, hb, hw⟩ := ih x hx
    exact ⟨b, List.mem_cons_of_mem _ hb, hw⟩
  | @go b l m m1 m2 t1 t2 hb h1 h2 ih1 ih2 =>
    intro x hx
    rw [List.mem_append, List.mem_cons] at hx
    rcases hx with hx | rfl | hx
    · obtain ⟨c, hc, hw⟩ := ih1 x hx
      exact ⟨b, List.mem_cons_self, .step hc hw⟩
    · exact ⟨x, List.mem_cons_self, .refl _⟩
    · obtain ⟨c, hc, hw⟩ := ih2 x hx
      exact ⟨c, List.mem_cons_of_mem _ hc, hw⟩
theorem Vs.back (hg : Valid g) (h : Vs g l m m' t) (hm : m.length = g.length) (hl : ∀ b ∈ l, Node g b) : ∀ t1 x t2, t = t1 ++ x :: t2 → ∀ y ∈ row g x, y = x ∨ y ∈ t2 → Way g y x := by
  induction h with
  | nil m => intro t1 x t2 e; simp at e
  | skip _ _ ih => exact ih hm (fun b hb => hl b (List.mem_cons_of_mem _ hb))
  | @go b l m m1 m2 s1 s2 hb h1 h2 ih1 ih2 =>
    intro t1 x t2 e y hy hxy
    have hbn := hl b List.mem_cons_self
    have hms : (m.set b.toNat true).length = g.length := by rw [List.length_set]; exact hm
    have hm1 : m1.length = g.length := by rw [h1.len]; exact hms
    have hl2 : ∀ c ∈ l, Node g c := fun c hc => hl c (List.mem_cons_of_mem _ hc)
    rcases hxy with rfl | hxy
    · exact .refl _

    rcases List.append_eq_append_iff.1 e with ⟨a', e1, e2⟩ | ⟨c', e1, e2⟩
    ·
      cases a' with
      | nil =>
        simp only [List.nil_append, List.cons.injEq] at e2
        obtain ⟨rfl, rfl⟩ := e2

        have hy1 : metB m1 y = true := (h1.all hg hms (fun c hc => row_node hg hc)).1 y hy
        have := ((h2.met hg hm1 hl2).2.1 y hxy).1
        rw [hy1] at this
        cases this
      | cons z a' =>
        simp only [List.cons_append, List.cons.injEq] at e2
        obtain ⟨rfl, e2⟩ := e2
        exact ih2 hm1 hl2 a' x t2 e2 y hy (.inr hxy)
    ·
      cases c' with
      | nil =>
        simp only [List.nil_append, List.cons.injEq] at e2
        obtain ⟨rfl, rfl⟩ := e2
        have hy1 : metB m1 y = true := (h1.all hg hms (fun c hc => row_node hg hc)).1 y hy
        have := ((h2.met hg hm1 hl2).2.1 y hxy).1
        rw [hy1] at this
        cases this
      | cons z c' =>
        simp only [List.cons_append, List.cons.injEq] at e2
        obtain ⟨rfl, rfl⟩ := e2
        rw [List.mem_append, List.mem_cons] at hxy
        have hxs : x ∈ s1 := by rw [e1]; simp
        rcases hxy with hxy | rfl | hxy
        · exact ih1 hms (fun c hc => row_node hg hc) t1 x c' e1 y hy (.inr hxy)
        · obtain ⟨c, hc, hw⟩ := h1.way x hxs
          exact .step hc hw
        · have hy1 : metB m1 y = true := (h1.all hg hms (fun c hc => row_node hg hc)).2 x hxs y hy
          have := ((h2.met hg hm1 hl2).2.1 y hxy).1
          rw [hy1] at this
          cases this
end
theorem metB_set_self (m : List Bool) (b : Int) : metB (m.set b.toNat true) b = true := by
  unfold metB
  rw [List.getD_eq_getElem?_getD, List.getElem?_set, if_pos rfl]
  split <;> rfl
theorem metB_set_of {m : List Bool} {b x : Int} (h : metB m x = true) : metB (m.set b.toNat true) x = true := by
  unfold metB at *
  rw [List.getD_eq_getElem?_getD, List.getElem?_set]
  split
  · split <;> rfl
  · rw [← List.getD_eq_getElem?_getD]
    exact h
theorem Vs.keeps {g : List (List Int)} {l t : List Int} {m m' : List Bool} (h : Vs g l m m' t) {x : Int} (hx : metB m x = true) : metB m' x = true := by
  induction h with
  | nil => exact hx
  | skip _ _ ih => exact ih hx
  | go _ _ _ ih1 ih2 => exact ih2 (ih1 (metB_set_of hx))
def cost (g : List (List Int)) (t : List Int) : Nat := (t.map fun b => (row g b).length + 2).sum
theorem cost_app (g : List (List Int)) (s t : List Int) : cost g (s ++ t) = cost g s + cost g t := by simp [cost]
theorem cost_cons (g : List (List Int)) (b : Int) (t : List Int) : cost g (b :: t) = (row g b).length + 2 + cost g t := by simp [cost]
theorem Vs.dfs {g : List (List Int)} {l t : List Int} {m m' : List Bool} (h : Vs g l m m' t) : ∀ (a : Int) (i : Nat) (st : List (Int × Int)) (tl : List Int), (row g a).drop i = l → ∀ k, dfs g (k + (l.length + 1 + cost g t)) m ((a, (i : Int)) :: st) tl = dfs g k m' st (tl ++ t ++ [a]) := by
  induction h with
  | nil m =>
    intro a i st tl hl k
    have hi : (row g a).length ≤ i := by
      have := congrArg List.length hl
      rw [List.length_drop, List.length_nil] at this
      omega
    rw [show k + (([] : List Int).length + 1 + cost g []) = k + 1 by simp [cost], P.dfs, if_neg (by show ¬ (i : Int) < ((row g a).length : Int); omega), List.append_nil]
  | @skip b l m m' t hb h1 ih =>
    intro a i st tl hl k
    have hi : i < (row g a).length := by
      rcases Nat.lt_or_ge i (row g a).length with h | h
      · exact h
      · rw [List.drop_eq_nil_of_le h] at hl; cases hl
    have hd := List.drop_eq_getElem_cons hi
    rw [hl] at hd
    injection hd with hd1 hd2
    have hg : (row g a).getD (i : Int).toNat 0 = b := by
      rw [Int.toNat_natCast, List.getD_eq_getElem?_getD, List.getElem?_eq_getElem hi, hd1]
      rfl
    rw [show k + ((b :: l).length + 1 + cost g t) = (k + (l.length + 1 + cost g t)) + 1 by simp; omega, P.dfs, if_pos (by show (i : Int) < ((row g a).length : Int); omega)]
    show (if metB m ((row g a).getD (i : Int).toNat 0) = true then _ else _) = _
    rw [hg, if_pos hb]
    exact ih a (i + 1) st tl hd2.symm k
  | @go b l m m1 m2 t1 t2 hb h1 h2 ih1 ih2 =>
    intro a i st tl hl k
    have hi : i < (row g a).length := by
      rcases Nat.lt_or_ge i (row g a).length with h | h
      · exact h
      · rw [List.drop_eq_nil_of_le h] at hl; cases hl
    have hd := List.drop_eq_getElem_cons hi
    rw [hl] at hd
    injection hd with hd1 hd2
    have hg : (row g a).getD (i : Int).toNat 0 = b := by
      rw [Int.toNat_natCast, List.getD_eq_getElem?_getD, List.getElem?_eq_getElem hi, hd1]
      rfl
    have hbm : metB m1 b = true := h1.keeps (metB_set_self m b)
    rw [show k + ((b :: l).length + 1 + cost g (t1 ++ b :: t2)) = ((k + (l.length + 1 + cost g t2)) + 1 + ((row g b).length + 1 + cost g t1)) + 1 by rw [cost_app, cost_cons]; simp; omega, P.dfs, if_pos (by show (i : Int) < ((row g a).length : Int); omega)]
    show (if metB m ((row g a).getD (i : Int).toNat 0) = true then _ else P.dfs g _ (m.set ((row g a).getD (i : Int).toNat 0).toNat true) (((row g a).getD (i : Int).toNat 0, 0) :: (a, (i : Int)) :: st) tl) = _
    rw [hg, if_neg (by rw [hb]; simp)]
    have e1 := ih1 b 0 ((a, (i : Int)) :: st) tl (by simp) ((k + (l.length + 1 + cost g t2)) + 1)
    rw [show ((0 : Nat) : Int) = 0 from rfl] at e1
    rw [e1, P.dfs, if_pos (by show (i : Int) < ((row g a).length : Int); omega)]
    show (if metB m1 ((row g a).getD (i : Int).toNat 0) = true then _ else _) = _
    rw [hg, if_pos hbm]
    have e2 := ih2 a (i + 1) st (tl ++ t1 ++ [b]) hd2.symm k
    rw [show ((i : Int) + 1) = ((i + 1 : Nat) : Int) by omega, e2]
    simp
theorem count_set {m : List Bool} {b : Int} (h : metB m b = false) : (m.set b.toNat true).count false + 1 = m.count false := by
  unfold metB at h
  rw [List.getD_eq_getElem?_getD] at h
  have hlt : b.toNat < m.length := by
    rcases Nat.lt_or_ge b.toNat m.length with h1 | h1
    · exact h1
    · rw [List.getElem?_eq_none h1] at h; simp at h
  rw [List.getElem?_eq_getElem hlt, Option.getD_some] at h
  rw [List.count_set hlt, h]
  have : 0 < m.count false := List.count_pos_iff.2 (by rw [← h]; exact List.getElem_mem hlt)
  simp
  omega
theorem Vs.count {g : List (List Int)} {l t : List Int} {m m' : List Bool} (h : Vs g l m m' t) : m'.count false ≤ m.count false := by
  induction h with
  | nil => exact Nat.le_refl _
  | skip _ _ ih => exact ih
  | go hb _ _ ih1 ih2 => have := count_set hb; omega
theorem Vs.exists {g : List (List Int)} : ∀ (n : Nat) (l : List Int) (m : List Bool), m.count false ≤ n → ∃ m' t, Vs g l m m' t := by
  intro n
  induction n with
  | zero =>
    intro l
    induction l with
    | nil => intro m _; exact ⟨m, [], .nil m⟩
    | cons b l ih =>
      intro m hm
      have hb : metB m b = true := by
        rcases Bool.eq_false_or_eq_true (metB m b) with h | h
        · exact h
        · have := count_set h; omega
      obtain ⟨m', t, h⟩ := ih m hm
      exact ⟨m', t, .skip hb h⟩
  | succ n ihn =>
    intro l
    induction l with
    | nil => intro m _; exact ⟨m, [], .nil m⟩
    | cons b l ih =>
      intro m hm
      rcases Bool.eq_false_or_eq_true (metB m b) with hb | hb
      · obtain ⟨m', t, h⟩ := ih m hm
        exact ⟨m', t, .skip hb h⟩
      · have hc := count_set hb
        obtain ⟨m1, t1, h1⟩ := ihn (row g b) (m.set b.toNat true) (by omega)
        have := h1.count
        obtain ⟨m2, t2, h2⟩ := ih m1 (by omega)
        exact ⟨m2, _, .go hb h1 h2⟩
theorem length_le_of_subset {α : Type} [DecidableEq α] : ∀ (t l : List α), t.Nodup → (∀ x ∈ t, x ∈ l) → t.length ≤ l.length
  | [], _, _, _ => Nat.zero_le _
  | x :: t, l, hn, hs => by
    rw [List.nodup_cons] at hn
    have hx := hs x List.mem_cons_self
    have := length_le_of_subset t (l.erase x) hn.2 (fun y hy => by
      rw [List.mem_erase_of_ne (by rintro rfl; exact hn.1 hy)]
      exact hs y (List.mem_cons_of_mem _ hy))
    rw [List.length_erase_of_mem hx] at this
    have : 0 < l.length := List.length_pos_of_mem hx
    simp only [List.length_cons]
    omega
def nodes (n : Nat) : List Int := (List.range n).map fun i : Nat => (i : Int)
theorem mem_nodes {n : Nat} {x : Int} : x ∈ nodes n ↔ 0 ≤ x ∧ x < (n : Int) := by
  unfold nodes
  rw [List.mem_map]
  constructor
  · rintro ⟨i, hi, rfl⟩
    rw [List.mem_range] at hi
    omega
  · intro h
    exact ⟨x.toNat, List.mem_range.2 (by omega), by omega⟩
theorem nodes_len (n : Nat) : (nodes n).length = n := by simp [nodes]
theorem few_nodes {n : Nat} {t : List Int} (hn : t.Nodup) (ht : ∀ x ∈ t, 0 ≤ x ∧ x < (n : Int)) : t.length ≤ n := by
  have := length_le_of_subset t (nodes n) hn (fun x hx => mem_nodes.2 (ht x hx))
  rwa [nodes_len] at this
theorem cost_le (g : List (List Int)) (L : Nat) (hL : ∀ l ∈ g, l.length ≤ L) : ∀ t : List Int, cost g t ≤ t.length * (L + 2)
  | [] => by simp [cost]
  | b :: t => by
    have h := cost_le g L hL t
    rw [cost_cons, List.length_cons, Nat.succ_mul]
    have : (row g b).length ≤ L := by
      unfold row
      rw [List.getD_eq_getElem?_getD]
      cases hx : g[b.toNat]? with
      | none => simp
      | some l => rw [Option.getD_some]; exact hL l (List.mem_of_getElem? hx)
    omega
theorem told_spec {g : List (List Int)} (hg : Valid g) (hn : g.length ≤ 900) (hL : ∀ l ∈ g, l.length ≤ 900) {a : Int} (ha : Node g a) :
    ∃ t, toldOf g a = some (t ++ [a]) ∧ (∀ x, x ∈ t ++ [a] ↔ Way g a x) ∧ (t ++ [a]).Nodup ∧ (∀ x ∈ t ++ [a], Node g x) ∧
      (∀ t1 x t2, t ++ [a] = t1 ++ x :: t2 → ∀ y ∈ row g x, y = x ∨ y ∈ t2 → Way g y x) ∧ ∃ m', Vs g [a] (List.replicate g.length false) m' (t ++ [a]) := by
  obtain ⟨m0, hm0⟩ : ∃ m0, m0 = List.replicate g.length false := ⟨_, rfl⟩
  have hl0 : m0.length = g.length := by rw [hm0, List.length_replicate]
  have hun : ∀ x, Node g x → metB m0 x = false := by
    intro x hx
    unfold metB
    rw [hm0, List.getD_eq_getElem?_getD, List.getElem?_replicate, if_pos (by have := hx.1; have := hx.2; omega)]
    rfl
  obtain ⟨m1, t, h⟩ := Vs.exists (g := g) _ (row g a) (m0.set a.toNat true) (Nat.le_refl _)
  have hV : Vs g [a] m0 m1 (t ++ [a]) := .go (hun a ha) h (.nil _)
  have hls : ∀ b ∈ [a], Node g b := fun b hb => by obtain rfl := List.mem_singleton.1 hb; exact ha
  obtain ⟨p1, p2, p3⟩ := hV.met hg hl0 hls
  obtain ⟨q1, q2⟩ := hV.all hg hl0 hls
  have hmem : ∀ x, x ∈ t ++ [a] ↔ Way g a x := by
    intro x
    constructor
    · intro hx
      obtain ⟨b, hb, hw⟩ := hV.way x hx
      obtain rfl := List.mem_singleton.1 hb
      exact hw
    · intro hw
      refine (hw.closed (P := fun x => x ∈ t ++ [a]) (fun x y hx hy => ?_) (by simp))
      have h1 := q2 x hx y hy
      have hyn := row_node hg hy
      rw [p1 y hyn.1, hun y hyn] at h1
      simpa using h1
  refine ⟨t, ?_, hmem, p3, fun x hx => (p2 x hx).2, hV.back hg hl0 hls, m1, by rw [← hm0]; exact hV⟩
  unfold toldOf
  rw [if_pos (isN_yes ha.1 ha.2), ← hm0]
  have hc : (row g a).length + 1 + cost g t ≤ 999999 := by
    have h1 := cost_le g 900 hL t
    have h2 : t.length ≤ g.length := few_nodes (List.nodup_append.1 p3).1 (fun x hx => (p2 x (by simp [hx])).2)
    have h3 : t.length * (900 + 2) ≤ 900 * (900 + 2) := Nat.mul_le_mul_right _ (by omega)
    have h4 : (row g a).length ≤ 900 := by
      unfold row
      rw [List.getD_eq_getElem?_getD]
      cases hx : g[a.toNat]? with
      | none => simp
      | some l => rw [Option.getD_some]; exact hL l (List.mem_of_getElem? hx)
    omega
  obtain ⟨k, hk⟩ : ∃ k, 1000000 = (k + 1) + ((row g a).length + 1 + cost g t) := ⟨999999 - ((row g a).length + 1 + cost g t), by omega⟩
  have e := h.dfs a 0 [] [] (by simp) (k + 1)
  rw [← hk, show ((0 : Nat) : Int) = 0 from rfl] at e
  rw [e, P.dfs]
  rfl
theorem told_none {g : List (List Int)} {a : Int} (ha : ¬ Node g a) : toldOf g a = some [] := by
  unfold toldOf
  rw [if_neg (by rw [isN_iff]; exact ha)]
end Go.Proofs.Ytdknhgbjgdmfkaa.P
namespace Go.Proofs.Ytdknhgbjgdmfkaa.P
open Go.RowKit Go.Proofs.YtdknhgbjgdmfkaaW.PrintWords Go.Proofs.YtdknhgbjgdmfkaaW.PrintLast Go.Proofs.YtdknhgbjgdmfkaaW.PrintMore
attribute [local go_sem] max2_int min2_int max_two min_two max_three min_three max_four min_four
set_option linter.unusedVariables false
set_option linter.unusedSimpArgs false
def errW : Option Int → Value
  | none => .nilIface
  | some c => .iface 0 (.int .i64 c)
theorem errW_none : errW none = .nilIface := rfl
theorem errW_some (c : Int) : errW (some c) = .iface 0 (.int .i64 c) := rfl
theorem info3 : (Try.prog.info? 3).map (fun i => (i.zero, i.size, i.bytes)) = some (some (.int .i64 0), 1, 8) := by kernel_rfl
theorem info4 : (Try.prog.info? 4).map (fun i => (i.zero, i.size, i.bytes)) = some (some (.bool false), 1, 1) := by kernel_rfl
theorem info32 : (Try.prog.info? 32).map (fun i => (i.zero, i.size, i.bytes)) = some (some (.slice none 0 0), 1, 24) := by kernel_rfl
def rd_L1 (xs : List (List Int)) (i : Int) : (List Int) := xs.getD i.toNat ([] : List Int)
theorem at_L1 {w : World} {A : Option Addr} {n : Nat} {xs : List (List Int)} (h : Kd.C (Kd.slice 3 (Kd.int .i64)) w A n xs) (i : Int) (h0 : 0 ≤ i) (h1 : i < n) : ∃ ad A0 c0, A = some ad ∧ w.cell? (ad.add i.toNat) = some (.slice A0 (rd_L1 xs i).length c0) ∧ (rd_L1 xs i).length ≤ c0 ∧ (Kd.int .i64).C w A0 (rd_L1 xs i).length (rd_L1 xs i) := by
  obtain ⟨ad, c, e, _, hK, hc0⟩ := Kd.C_get h ([] : List Int) i h0 h1
  have hc : ∀ j u, c[j]? = some u → w.cell? (ad.add (i.toNat * 1 + j)) = some u := hc0
  obtain ⟨A0, c0, rfl, l0, g0⟩ := hK
  exact ⟨ad, A0, c0, e, by have hq := hc 0 _ rfl; rwa [Nat.mul_one, Nat.add_zero] at hq, l0, g0⟩
end Go.Proofs.Ytdknhgbjgdmfkaa.P
namespace Go.Proofs.Ytdknhgbjgdmfkaa.P
open Go.RowKit Go.Proofs.YtdknhgbjgdmfkaaW.PrintWords Go.Proofs.YtdknhgbjgdmfkaaW.PrintLast Go.Proofs.YtdknhgbjgdmfkaaW.PrintMore
attribute [local go_sem] max2_int min2_int max_two min_two max_three min_three max_four min_four
set_option linter.unusedVariables false
set_option linter.unusedSimpArgs false
def bywashref01_Ints.l0 : Nat → List Int → List Int → Int → Option (Bool)
  | 0, _, _, _ => none
  | k + 1, x0, x1, x5 => if x5 < (x0.length : Int) then (if 0 ≤ x5 then (if x5 < (x1.length : Int) then (if (rd x0 x5) = (rd x1 x5) then (bywashref01_Ints.l0 k x0 x1 (wrap64 (x5 + 1))) else (some false)) else (none)) else (none)) else (some true)
def bywashref01_Ints.f (k : Nat) (l0 : List Int) (l1 : List Int) : Option (Bool) := if (l0.length : Int) = (l1.length : Int) then (bywashref01_Ints.l0 k l0 l1 0) else (some false)
theorem bywashref01_Ints.mono_l : ∀ k, (∀ y0 y1 y2, LeO (bywashref01_Ints.l0 k y0 y1 y2) (bywashref01_Ints.l0 (k + 1) y0 y1 y2))
  | 0 => fun _ _ _ r h => by simp [bywashref01_Ints.l0] at h
  | k + 1 => by
    have ih0 := bywashref01_Ints.mono_l k
    · intro y0 y1 y2
      unfold bywashref01_Ints.l0
      repeat' first
      | (with_reducible exact ih0 _ _ _)
      | (with_reducible exact LeO.refl _)
      | (with_reducible exact LeO.none _)
      | (with_reducible refine LeO.ite ?_ ?_)
      | (with_reducible refine LeO.bind ?_ (fun _ => ?_))
      | exact ih0 _ _ _
      | exact LeO.none _
      | refine LeO.ite ?_ ?_
      | refine LeO.bind ?_ (fun _ => ?_)
theorem bywashref01_Ints.mono : ∀ a0 a1 k, LeO (bywashref01_Ints.f k a0 a1) (bywashref01_Ints.f (k + 1) a0 a1) := by
  intro a0 a1 k
  have ih0 := bywashref01_Ints.mono_l k
  unfold bywashref01_Ints.f
  repeat' first
      | (with_reducible exact ih0 _ _ _)
      | (with_reducible exact LeO.refl _)
      | (with_reducible exact LeO.none _)
      | (with_reducible refine LeO.ite ?_ ?_)
      | (with_reducible refine LeO.bind ?_ (fun _ => ?_))
      | exact ih0 _ _ _
      | exact LeO.none _
      | refine LeO.ite ?_ ?_
      | refine LeO.bind ?_ (fun _ => ?_)
set_option maxHeartbeats 8000000 in
set_option maxRecDepth 100000 in
theorem bywashref01_Ints.calls (k : Nat) (A0 : Option Addr) (c0 : Nat) (l0 : List Int) (A1 : Option Addr) (c1 : Nat) (l1 : List Int) (r : Bool) (w : World) (hr0 : Kd.C (Kd.int .i64) w A0 l0.length l0) (hc0 : l0.length ≤ c0) (hr1 : Kd.C (Kd.int .i64) w A1 l1.length l1) (hc1 : l1.length ≤ c1) (h : bywashref01_Ints.f k l0 l1 = some r) :
    Calls Try.prog 23 #[.slice A0 l0.length c0, .slice A1 l1.length c1] w fun e w' => e = .returned (.bool r) ∧ Drawn0 w w' := by
  have HR0 := Aside0.mk hr0
  have HC0 := Aside0.mk hc0
  clear hr0 hc0
  have HR1 := Aside0.mk hr1
  have HC1 := Aside0.mk hc1
  clear hr1 hc1
  have H : (if (l0.length : Int) = (l1.length : Int) then (bywashref01_Ints.l0 k l0 l1 0) else (some false)) = some r := h
  clear h
  by_cases c3 : (l0.length : Int) = (l1.length : Int)
  · rw [if_pos c3] at H
    have c3b0 : ((l0.length : Int) == (l1.length : Int)) = true := beq_iff_eq.mpr c3
    have c3b1 : ((l0.length : Int) != (l1.length : Int)) = false := bne_eq_false_iff_eq.mpr c3
    have c3b2 : (l0.length == l1.length) = true := by first | simpa using c3 | (simp at c3 ⊢; omega)
    clear c3
    have H' := Aside0.mk H
    clear H
    go_enter Try.func23, Try.ntmps23
    go_wp2
    repeat (go_quiet (fail); try go_wp2)
    go_loopg [5] k (fun kq v5 w' => ∃ (x5_1 : Int), v5 = .int .i64 x5_1 ∧ Aside0 (bywashref01_Ints.l0 kq l0 l1 x5_1 = some r) ∧ Aside0 (kq ≤ k) ∧ Drawn0 w w')
    case atStart => exact ⟨(0), (by first | rfl | (simp; done) | (simp [*]; done)), H', ⟨Nat.le_refl _⟩, by repeat (first | exact Drawn0.refl _ | apply Drawn0.step)⟩
    case round =>
      clear H'
      try clear c1
      try clear c2
      try clear p2
      try clear c3
      try clear c3b0
      try clear c3b1
      try clear c3b2
      obtain ⟨x5_1, rfl, HA, HK1, ⟨m1, rfl⟩⟩ := hrel
      cases gk with
      | zero => exact absurd HA.out (by simp [bywashref01_Ints.l0])
      | succ k1 =>
        have H := HA.out
        clear HA
        simp only [bywashref01_Ints.l0] at H
        by_cases c4 : x5_1 < (l0.length : Int)
        · rw [if_pos c4] at H
          have c4b0 : decide (x5_1 < (l0.length : Int)) = true := decide_eq_true c4
          clear c4
          by_cases c5 : 0 ≤ x5_1
          · rw [if_pos c5] at H
            have c5b0 : decide (0 ≤ x5_1) = true := decide_eq_true c5
            clear c5
            by_cases c6 : x5_1 < (l1.length : Int)
            · rw [if_pos c6] at H
              have c6b0 : decide (x5_1 < (l1.length : Int)) = true := decide_eq_true c6
              clear c6
              by_cases c7 : (rd l0 x5_1) = (rd l1 x5_1)
              · rw [if_pos c7] at H
                have c7b0 : ((rd l0 x5_1) == (rd l1 x5_1)) = true := beq_iff_eq.mpr c7
                have c7b1 : ((rd l0 x5_1) != (rd l1 x5_1)) = false := bne_eq_false_iff_eq.mpr c7
                clear c7
                have H' := Aside0.mk H
                clear H
                have p102 : 0 ≤ (x5_1 : Int) := of_decide_eq_true (by first | (with_reducible assumption) | assumption)
                have q102 : x5_1 < (l0.length : Int) := of_decide_eq_true (by first | (with_reducible assumption) | assumption)
                obtain ⟨ad102, e102, hx102_0⟩ := Kd.at_int HR0.out x5_1 p102 q102
                cases e102
                replace p102 := eq_true p102
                replace q102 := eq_true q102
                have p103 : 0 ≤ (x5_1 : Int) := of_decide_eq_true (by first | (with_reducible assumption) | assumption)
                have q103 : x5_1 < (l1.length : Int) := of_decide_eq_true (by first | (with_reducible assumption) | assumption)
                obtain ⟨ad103, e103, hx103_0⟩ := Kd.at_int HR1.out x5_1 p103 q103
                cases e103
                replace p103 := eq_true p103
                replace q103 := eq_true q103
                go_wp2
                repeat (go_quiet (fail); try go_wp2)
                go_roundg k1
                case measure => have := HK1.out; omega
                case rel => exact ⟨(wrap64 (x5_1 + 1)), (by first | rfl | (simp; done) | (simp [*]; done)), H', ⟨by have := HK1.out; omega⟩, by repeat (first | exact Drawn0.refl _ | apply Drawn0.step)⟩
              · rw [if_neg c7] at H
                have c7b0 : ((rd l0 x5_1) == (rd l1 x5_1)) = false := beq_eq_false_iff_ne.mpr c7
                have c7b1 : ((rd l0 x5_1) != (rd l1 x5_1)) = true := bne_iff_ne.mpr c7
                obtain rfl := Option.some.inj H
                have p102 : 0 ≤ (x5_1 : Int) := of_decide_eq_true (by first | (with_reducible assumption) | assumption)
                have q102 : x5_1 < (l0.length : Int) := of_decide_eq_true (by first | (with_reducible assumption) | assumption)
                obtain ⟨ad102, e102, hx102_0⟩ := Kd.at_int HR0.out x5_1 p102 q102
                cases e102
                replace p102 := eq_true p102
                replace q102 := eq_true q102
                have p103 : 0 ≤ (x5_1 : Int) := of_decide_eq_true (by first | (with_reducible assumption) | assumption)
                have q103 : x5_1 < (l1.length : Int) := of_decide_eq_true (by first | (with_reducible assumption) | assumption)
                obtain ⟨ad103, e103, hx103_0⟩ := Kd.at_int HR1.out x5_1 p103 q103
                cases e103
                replace p103 := eq_true p103
                replace q103 := eq_true q103
                go_wp2
                repeat (go_quiet (fail); try go_wp2)
                go_ret
                exact ⟨by first | rfl | (simp; done) | (simp [*]; done), by repeat (first | exact Drawn0.refl _ | apply Drawn0.step)⟩
            · rw [if_neg c6] at H
              exact absurd H (by simp)
          · rw [if_neg c5] at H
            exact absurd H (by simp)
        · rw [if_neg c4] at H
          have c4b0 : decide (x5_1 < (l0.length : Int)) = false := decide_eq_false c4
          clear c4
          obtain rfl := Option.some.inj H
          go_wp2
          repeat (go_quiet (fail); try go_wp2)
          go_ret
          exact ⟨by first | rfl | (simp; done) | (simp [*]; done), by repeat (first | exact Drawn0.refl _ | apply Drawn0.step)⟩
  · rw [if_neg c3] at H
    have c3b0 : ((l0.length : Int) == (l1.length : Int)) = false := beq_eq_false_iff_ne.mpr c3
    have c3b1 : ((l0.length : Int) != (l1.length : Int)) = true := bne_iff_ne.mpr c3
    have c3b2 : (l0.length == l1.length) = false := by first | simpa using c3 | (simp at c3 ⊢; omega)
    obtain rfl := Option.some.inj H
    go_enter Try.func23, Try.ntmps23
    go_wp2
    repeat (go_quiet (fail); try go_wp2)
    go_ret
    exact ⟨by first | rfl | (simp; done) | (simp [*]; done), by repeat (first | exact Drawn0.refl _ | apply Drawn0.step)⟩
end Go.Proofs.Ytdknhgbjgdmfkaa.P
namespace Go.Proofs.Ytdknhgbjgdmfkaa.P
open Go.RowKit Go.Proofs.YtdknhgbjgdmfkaaW.PrintWords Go.Proofs.YtdknhgbjgdmfkaaW.PrintLast Go.Proofs.YtdknhgbjgdmfkaaW.PrintMore
attribute [local go_sem] max2_int min2_int max_two min_two max_three min_three max_four min_four
set_option linter.unusedVariables false
set_option linter.unusedSimpArgs false
def bywashref10_Few.l0 : Nat → List (List Int) → Int → Option (Bool)
  | 0, _, _ => none
  | k + 1, x0, x3 => if x3 < (x0.length : Int) then (if 0 ≤ x3 then (if ((rd_L1 x0 x3).length : Int) > 60 then (some false) else (bywashref10_Few.l0 k x0 (wrap64 (x3 + 1)))) else (none)) else (some (decide ((x0.length : Int) ≤ 40)))
def bywashref10_Few.f (k : Nat) (l0 : List (List Int)) : Option (Bool) := bywashref10_Few.l0 k l0 0
theorem bywashref10_Few.mono_l : ∀ k, (∀ y0 y1, LeO (bywashref10_Few.l0 k y0 y1) (bywashref10_Few.l0 (k + 1) y0 y1))
  | 0 => fun _ _ r h => by simp [bywashref10_Few.l0] at h
  | k + 1 => by
    have ih0 := bywashref10_Few.mono_l k
    · intro y0 y1
      unfold bywashref10_Few.l0
      repeat' first
      | (with_reducible exact ih0 _ _)
      | (with_reducible exact LeO.refl _)
      | (with_reducible exact LeO.none _)
      | (with_reducible refine LeO.ite ?_ ?_)
      | (with_reducible refine LeO.bind ?_ (fun _ => ?_))
      | exact ih0 _ _
      | exact LeO.none _
      | refine LeO.ite ?_ ?_
      | refine LeO.bind ?_ (fun _ => ?_)
theorem bywashref10_Few.mono : ∀ a0 k, LeO (bywashref10_Few.f k a0) (bywashref10_Few.f (k + 1) a0) := by
  intro a0 k
  have ih0 := bywashref10_Few.mono_l k
  unfold bywashref10_Few.f
  repeat' first
      | (with_reducible exact ih0 _ _)
      | (with_reducible exact LeO.refl _)
      | (with_reducible exact LeO.none _)
      | (with_reducible refine LeO.ite ?_ ?_)
      | (with_reducible refine LeO.bind ?_ (fun _ => ?_))
      | exact ih0 _ _
      | exact LeO.none _
      | refine LeO.ite ?_ ?_
      | refine LeO.bind ?_ (fun _ => ?_)
set_option maxHeartbeats 8000000 in
set_option maxRecDepth 100000 in
theorem bywashref10_Few.calls (k : Nat) (A0 : Option Addr) (c0 : Nat) (l0 : List (List Int)) (r : Bool) (w : World) (hr0 : Kd.C (Kd.slice 3 (Kd.int .i64)) w A0 l0.length l0) (hc0 : l0.length ≤ c0) (h : bywashref10_Few.f k l0 = some r) :
    Calls Try.prog 14 #[.slice A0 l0.length c0] w fun e w' => e = .returned (.bool r) ∧ Drawn0 w w' := by
  have HR0 := Aside0.mk hr0
  have HC0 := Aside0.mk hc0
  clear hr0 hc0
  have H : (bywashref10_Few.l0 k l0 0) = some r := h
  clear h
  have H' := Aside0.mk H
  clear H
  go_enter Try.func14, Try.ntmps14
  go_wp2
  go_loopg [3] k (fun kq v3 w' => ∃ (x3_1 : Int), v3 = .int .i64 x3_1 ∧ Aside0 (bywashref10_Few.l0 kq l0 x3_1 = some r) ∧ Aside0 (kq ≤ k) ∧ Drawn0 w w')
  case atStart => exact ⟨(0), (by first | rfl | (simp; done) | (simp [*]; done)), H', ⟨Nat.le_refl _⟩, by repeat (first | exact Drawn0.refl _ | apply Drawn0.step)⟩
  case round =>
    clear H'
    try clear c1
    obtain ⟨x3_1, rfl, HA, HK1, ⟨m1, rfl⟩⟩ := hrel
    cases gk with
    | zero => exact absurd HA.out (by simp [bywashref10_Few.l0])
    | succ k1 =>
      have H := HA.out
      clear HA
      simp only [bywashref10_Few.l0] at H
      by_cases c2 : x3_1 < (l0.length : Int)
      · rw [if_pos c2] at H
        have c2b0 : decide (x3_1 < (l0.length : Int)) = true := decide_eq_true c2
        clear c2
        by_cases c3 : 0 ≤ x3_1
        · rw [if_pos c3] at H
          have c3b0 : decide (0 ≤ x3_1) = true := decide_eq_true c3
          clear c3
          by_cases c4 : ((rd_L1 l0 x3_1).length : Int) > 60
          · rw [if_pos c4] at H
            have c4b0 : decide (60 < ((rd_L1 l0 x3_1).length : Int)) = true := decide_eq_true c4
            have c4b1 : decide (60 < (rd_L1 l0 x3_1).length) = true := decide_eq_true (by omega)
            clear c4
            obtain rfl := Option.some.inj H
            have p101 : 0 ≤ (x3_1 : Int) := of_decide_eq_true (by first | (with_reducible assumption) | assumption)
            have q101 : x3_1 < (l0.length : Int) := of_decide_eq_true (by first | (with_reducible assumption) | assumption)
            obtain ⟨ad101, A101_0, c101_0, e101, hx101_0, hl101_0, hi101_0⟩ := at_L1 HR0.out x3_1 p101 q101
            cases e101
            have HR101_0 := Aside0.mk hi101_0
            have HC101_0 := Aside0.mk hl101_0
            clear hi101_0 hl101_0
            replace p101 := eq_true p101
            replace q101 := eq_true q101
            go_wp2
            go_ret
            exact ⟨by first | rfl | (simp; done) | (simp [*]; done), by repeat (first | exact Drawn0.refl _ | apply Drawn0.step)⟩
          · rw [if_neg c4] at H
            have c4b0 : decide (60 < ((rd_L1 l0 x3_1).length : Int)) = false := decide_eq_false c4
            have c4b1 : decide (60 < (rd_L1 l0 x3_1).length) = false := decide_eq_false (by omega)
            clear c4
            have H' := Aside0.mk H
            clear H
            have p101 : 0 ≤ (x3_1 : Int) := of_decide_eq_true (by first | (with_reducible assumption) | assumption)
            have q101 : x3_1 < (l0.length : Int) := of_decide_eq_true (by first | (with_reducible assumption) | assumption)
            obtain ⟨ad101, A101_0, c101_0, e101, hx101_0, hl101_0, hi101_0⟩ := at_L1 HR0.out x3_1 p101 q101
            cases e101
            have HR101_0 := Aside0.mk hi101_0
            have HC101_0 := Aside0.mk hl101_0
            clear hi101_0 hl101_0
            replace p101 := eq_true p101
            replace q101 := eq_true q101
            go_wp2
            go_roundg k1
            case measure => have := HK1.out; omega
            case rel => exact ⟨(wrap64 (x3_1 + 1)), (by first | rfl | (simp; done) | (simp [*]; done)), H', ⟨by have := HK1.out; omega⟩, by repeat (first | exact Drawn0.refl _ | apply Drawn0.step)⟩
        · rw [if_neg c3] at H
          exact absurd H (by simp)
      · rw [if_neg c2] at H
        have c2b0 : decide (x3_1 < (l0.length : Int)) = false := decide_eq_false c2
        clear c2
        obtain rfl := Option.some.inj H
        go_wp2
        go_ret
        exact ⟨by first | rfl | (simp; done) | (simp [*]; done), by repeat (first | exact Drawn0.refl _ | apply Drawn0.step)⟩
end Go.Proofs.Ytdknhgbjgdmfkaa.P
namespace Go.Proofs.Ytdknhgbjgdmfkaa.P
open Go.RowKit Go.Lib Go.Proofs.YtdknhgbjgdmfkaaW.PrintWords
theorem wrap_succ {i : Nat} (h : i + 1 ≤ 9223372036854775807) : wrap64 ((i : Int) + 1) = ((i + 1 : Nat) : Int) := by
  unfold wrap64
  omega
theorem rd_nat' {xs : List Int} {i : Nat} (h : i < xs.length) : rd xs (i : Int) = xs[i] := by
  unfold rd
  rw [Int.toNat_natCast, List.getD_eq_getElem?_getD, List.getElem?_eq_getElem h]
  rfl
theorem rdOf_nat {α : Type} {d : α} {xs : List α} {i : Nat} (h : i < xs.length) : rdOf d xs (i : Int) = xs[i] := by
  unfold rdOf
  rw [Int.toNat_natCast, List.getD_eq_getElem?_getD, List.getElem?_eq_getElem h]
  rfl
theorem rdL1_nat {xs : List (List Int)} {i : Nat} (h : i < xs.length) : rd_L1 xs (i : Int) = xs[i] := by
  unfold rd_L1
  rw [Int.toNat_natCast, List.getD_eq_getElem?_getD, List.getElem?_eq_getElem h]
  rfl
def few (l : List (List Int)) : Bool := l.all (fun r => decide (r.length ≤ 60)) && decide (l.length ≤ 40)
theorem few_l0 (l : List (List Int)) (hb : l.length ≤ 9223372036854775807) : ∀ d i : Nat, i + d = l.length → Ev (fun k => bywashref10_Few.l0 k l (i : Int)) ((l.drop i).all (fun r => decide (r.length ≤ 60)) && decide (l.length ≤ 40))
  | 0, i, h => by
    refine Ev.step (f := fun _ => some (decide ((l.length : Int) ≤ 40))) (fun k => by rw [bywashref10_Few.l0, if_neg (by omega)]) ?_
    rw [List.drop_eq_nil_of_le (by omega), List.all_nil, Bool.true_and, show decide (l.length ≤ 40) = decide ((l.length : Int) ≤ 40) from by simp only [decide_eq_decide]; omega]
    exact Ev.now _
  | d + 1, i, h => by
    have hi : i < l.length := by omega
    rw [List.drop_eq_getElem_cons hi, List.all_cons]
    by_cases hs : l[i].length ≤ 60
    · refine Ev.step (f := fun k => bywashref10_Few.l0 k l ((i + 1 : Nat) : Int)) (fun k => by rw [bywashref10_Few.l0, if_pos (by omega), if_pos (by omega), rdL1_nat hi, if_neg (by omega), wrap_succ (by omega)]) ?_
      rw [decide_eq_true hs, Bool.true_and]
      exact few_l0 l hb d (i + 1) (by omega)
    · refine Ev.step (f := fun _ => some false) (fun k => by rw [bywashref10_Few.l0, if_pos (by omega), if_pos (by omega), rdL1_nat hi, if_pos (by omega)]) ?_
      rw [decide_eq_false hs, Bool.false_and, Bool.false_and]
      exact Ev.now _
theorem few_ev (l : List (List Int)) (hb : l.length ≤ 9223372036854775807) : Ev (fun k => bywashref10_Few.f k l) (few l) := few_l0 l hb l.length 0 (by omega)
theorem few_iff {l : List (List Int)} : few l = true ↔ (∀ r ∈ l, r.length ≤ 60) ∧ l.length ≤ 40 := by
  unfold few
  simp
theorem few_fits {l : List (List Int)} (h : few l = true) : fits l = true := by
  rw [few_iff] at h
  unfold fits
  simp only [Bool.and_eq_true, decide_eq_true_eq, List.all_eq_true]
  exact ⟨by omega, fun r hr => by have := h.1 r hr; omega⟩
theorem ints_l0 (a b : List Int) (hl : a.length = b.length) (hb : a.length ≤ 9223372036854775807) : ∀ d i : Nat, i + d = a.length → Ev (fun k => bywashref01_Ints.l0 k a b (i : Int)) (decide (a.drop i = b.drop i))
  | 0, i, h => by
    refine Ev.step (f := fun _ => some true) (fun k => by rw [bywashref01_Ints.l0, if_neg (by omega)]) ?_
    rw [List.drop_eq_nil_of_le (by omega), List.drop_eq_nil_of_le (by omega), decide_eq_true rfl]
    exact Ev.now _
  | d + 1, i, h => by
    have hi : i < a.length := by omega
    have hj : i < b.length := by omega
    rw [List.drop_eq_getElem_cons hi, List.drop_eq_getElem_cons hj]
    by_cases hs : a[i] = b[i]
    · refine Ev.step (f := fun k => bywashref01_Ints.l0 k a b ((i + 1 : Nat) : Int)) (fun k => by rw [bywashref01_Ints.l0, if_pos (by omega), if_pos (by omega), if_pos (by omega), rd_nat' hi, rd_nat' hj, if_pos hs, wrap_succ (by omega)]) ?_
      rw [show decide (a[i] :: a.drop (i + 1) = b[i] :: b.drop (i + 1)) = decide (a.drop (i + 1) = b.drop (i + 1)) from by rw [hs]; exact decide_eq_decide.2 ⟨fun e => (List.cons.inj e).2, fun e => by rw [e]⟩]
      exact ints_l0 a b hl hb d (i + 1) (by omega)
    · refine Ev.step (f := fun _ => some false) (fun k => by rw [bywashref01_Ints.l0, if_pos (by omega), if_pos (by omega), if_pos (by omega), rd_nat' hi, rd_nat' hj, if_neg hs]) ?_
      rw [show decide (a[i] :: a.drop (i + 1) = b[i] :: b.drop (i + 1)) = false from decide_eq_false (fun e => hs (by injection e))]
      exact Ev.now _
theorem ints_ev (a b : List Int) (hb : a.length ≤ 9223372036854775807) : Ev (fun k => bywashref01_Ints.f k a b) (decide (a = b)) := by
  by_cases h : a.length = b.length
  · refine Ev.congr (f := fun k => bywashref01_Ints.l0 k a b ((0 : Nat) : Int)) (fun k => by unfold bywashref01_Ints.f; rw [if_pos (by omega)]; rfl) ?_
    have := ints_l0 a b h hb a.length 0 (by omega)
    rwa [List.drop_zero, List.drop_zero] at this
  · refine Ev.congr (f := fun _ => some false) (fun k => by unfold bywashref01_Ints.f; rw [if_neg (by omega)]) ?_
    rw [decide_eq_false (fun e => h (by rw [e]))]
    exact Ev.now _
theorem clean_Valid (g : List (List Int)) : Valid (clean g) := fun l hl b hb => by rw [clean_len]; exact clean_valid l hl b hb
theorem clean_row_le {g : List (List Int)} : ∀ l ∈ clean g, l.length ≤ g.length := by
  intro l hl
  obtain ⟨r, _, rfl⟩ := List.mem_map.1 hl
  exact few_nodes ((cleanRow_rises _ _).imp (fun h => by omega)) (fun x hx => (mem_cleanRow.1 hx).2)
theorem clean_node {g : List (List Int)} {a : Int} : Node (clean g) a ↔ 0 ≤ a ∧ a < (g.length : Int) := by
  unfold Node
  rw [clean_len]
theorem clean_now {g : List (List Int)} (h : fits g = true) : graph_Clean.f g = some (clean g) := by unfold graph_Clean.f; rw [if_pos h]
theorem marks_foldl (l : List Int) : ∀ (m : List Bool), (∀ x ∈ l, 0 ≤ x ∧ x < (m.length : Int)) → ∀ i : Nat, i < m.length → (l.foldl (fun m a => m.set a.toNat true) m).getD i false = (m.getD i false || decide ((i : Int) ∈ l)) := by
  induction l with
  | nil => intro m _ i _; simp
  | cons a l ih =>
    intro m hl i hi
    have ha := hl a List.mem_cons_self
    rw [List.foldl_cons, ih _ (fun x hx => by rw [List.length_set]; exact hl x (List.mem_cons_of_mem _ hx)) i (by rw [List.length_set]; exact hi)]
    rw [List.getD_eq_getElem?_getD, List.getElem?_set]
    by_cases e : a.toNat = i
    · rw [if_pos e, if_pos (by omega)]
      have : (i : Int) = a := by omega
      simp [this]
    · rw [if_neg e, ← List.getD_eq_getElem?_getD]
      have : ¬ (i : Int) = a := by omega
      simp [this]
theorem marks_get {n : Nat} {l : List Int} (hl : ∀ x ∈ l, 0 ≤ x ∧ x < (n : Int)) {i : Nat} (hi : i < n) : (marks n l).getD i false = decide ((i : Int) ∈ l) := by
  unfold marks
  rw [marks_foldl l _ (fun x hx => by rw [List.length_replicate]; exact hl x hx) i (by rw [List.length_replicate]; exact hi)]
  simp [List.getD_eq_getElem?_getD, hi]
def Small (g : List (List Int)) : Prop := fits g = true ∧ g.length ≤ 900
theorem few_small {g : List (List Int)} (h : few g = true) : Small g := ⟨few_fits h, by have := (few_iff.1 h).2; omega⟩
theorem told_small {g : List (List Int)} (h : Small g) {a : Int} (ha : 0 ≤ a ∧ a < (g.length : Int)) :
    ∃ t, toldOf (clean g) a = some (t ++ [a]) ∧ (∀ x, x ∈ t ++ [a] ↔ Way (clean g) a x) ∧ (t ++ [a]).Nodup ∧ (∀ x ∈ t ++ [a], 0 ≤ x ∧ x < (g.length : Int)) ∧
      (∀ t1 x t2, t ++ [a] = t1 ++ x :: t2 → ∀ y ∈ row (clean g) x, y = x ∨ y ∈ t2 → Way (clean g) y x) := by
  obtain ⟨t, h1, h2, h3, h4, h5, _⟩ := told_spec (clean_Valid g) (by rw [clean_len]; exact h.2) (fun l hl => Nat.le_trans (clean_row_le l hl) h.2) (clean_node.2 ha)
  exact ⟨t, h1, h2, h3, fun x hx => clean_node.1 (h4 x hx), h5⟩
theorem reach_now {g : List (List Int)} (h : Small g) (a : Int) :
    ∃ r, graph_Reach.f g a = some r ∧ r.length = g.length ∧ ∀ x, 0 ≤ x → x < (g.length : Int) → (rdOf false r x = true ↔ (0 ≤ a ∧ a < (g.length : Int)) ∧ Way (clean g) a x) := by
  unfold graph_Reach.f
  rw [if_pos h.1]
  by_cases ha : 0 ≤ a ∧ a < (g.length : Int)
  · obtain ⟨t, h1, h2, _, h4, _⟩ := told_small h ha
    refine ⟨marks g.length (t ++ [a]), by rw [h1]; rfl, marks_len _ _, fun x hx0 hx1 => ?_⟩
    unfold rdOf
    rw [marks_get h4 (by omega), decide_eq_true_iff, show ((x.toNat : Nat) : Int) = x by omega, h2]
    exact ⟨fun hw => ⟨ha, hw⟩, fun hw => hw.2⟩
  · refine ⟨marks g.length [], by rw [told_none (fun hn => ha (clean_node.1 hn))]; rfl, marks_len _ _, fun x hx0 hx1 => ?_⟩
    unfold rdOf
    rw [marks_get (by simp) (by omega)]
    simp only [List.not_mem_nil, decide_false, Bool.false_eq_true, false_iff]
    exact fun hw => ha hw.1
theorem order_now {g : List (List Int)} (h : Small g) {a : Int} (ha : 0 ≤ a ∧ a < (g.length : Int)) :
    ∃ o, graph_Order.f g a = some (a :: o) ∧ (∀ x, x ∈ a :: o ↔ Way (clean g) a x) ∧ (a :: o).Nodup ∧ (∀ x ∈ a :: o, 0 ≤ x ∧ x < (g.length : Int)) ∧
      (∀ o1 x o2, a :: o = o1 ++ x :: o2 → ∀ y ∈ row (clean g) x, y = x ∨ y ∈ o1 → Way (clean g) y x) := by
  obtain ⟨t, h1, h2, h3, h4, h5⟩ := told_small h ha
  have e : (t ++ [a]).reverse = a :: t.reverse := by simp
  refine ⟨t.reverse, ?_, ?_, ?_, ?_, ?_⟩
  · unfold graph_Order.f
    rw [if_pos h.1, h1, Option.map_some, e]
  · intro x
    rw [← e, List.mem_reverse, h2]
  · rw [← e]
    exact List.pairwise_reverse.2 (h3.imp Ne.symm)
  · intro x hx
    rw [← e, List.mem_reverse] at hx
    exact h4 x hx
  · intro o1 x o2 ho y hy hxy
    refine h5 o2.reverse x o1.reverse ?_ y hy (by rw [List.mem_reverse]; exact hxy)
    have := congrArg List.reverse (e.trans ho)
    rw [List.reverse_reverse] at this
    rw [this]
    simp
theorem clean_self {g : List (List Int)} (hv : Valid g) (hr : ∀ l ∈ g, l.Pairwise (· < ·)) : clean g = g := by
  unfold clean
  conv => rhs; rw [← List.map_id g]
  refine List.map_congr_left fun l hl => ?_
  exact cleanRow_eq (hr l hl) (fun x => ⟨fun hx => ⟨hx, hv l hl x hx⟩, fun h => h.1⟩)
end Go.Proofs.Ytdknhgbjgdmfkaa.P
namespace Go.Proofs.Ytdknhgbjgdmfkaa.P
open Go.RowKit Go.Lib Go.Proofs.YtdknhgbjgdmfkaaW.PrintWords
theorem clean_rises (g : List (List Int)) : ∀ l ∈ clean g, l.Pairwise (· < ·) := by
  intro l hl
  obtain ⟨r, _, rfl⟩ := List.mem_map.1 hl
  exact cleanRow_rises _ _
theorem path_now {g : List (List Int)} (hs : Small g) (a b : Int) : ∃ p, graph_Path.f g a b = some p ∧ (p = true ↔ (0 ≤ a ∧ a < (g.length : Int)) ∧ (0 ≤ b ∧ b < (g.length : Int)) ∧ ∃ c ∈ row (clean g) a, Way (clean g) c b) := by
  unfold graph_Path.f
  rw [if_pos hs.1]
  by_cases h : isN g.length a = true ∧ isN g.length b = true
  · rw [if_pos h]
    have ha := isN_iff.1 h.1
    have hb := isN_iff.1 h.2
    have hall : ((clean g).getD a.toNat []).all (fun c => decide ((graph_Reach.f g c).isSome = true ∧ ((graph_Reach.f g c).getD []).length = g.length)) = true := by
      rw [List.all_eq_true]
      intro c _
      obtain ⟨r, hr, hl, _⟩ := reach_now hs c
      rw [hr]
      simpa using hl
    rw [if_pos hall]
    refine ⟨_, rfl, ?_⟩
    rw [List.any_eq_true]
    constructor
    · rintro ⟨c, hc, hr⟩
      obtain ⟨r, hr', _, hw⟩ := reach_now hs c
      refine ⟨ha, hb, c, hc, ((hw b hb.1 hb.2).1 ?_).2⟩
      unfold reachB at hr
      rw [hr'] at hr
      exact hr
    · rintro ⟨_, _, c, hc, hw⟩
      obtain ⟨r, hr', _, hw'⟩ := reach_now hs c
      refine ⟨c, hc, ?_⟩
      unfold reachB
      rw [hr']
      exact (hw' b hb.1 hb.2).2 ⟨clean_node.1 (row_node (clean_Valid g) hc), hw⟩
  · rw [if_neg h]
    refine ⟨false, rfl, ?_⟩
    simp only [Bool.false_eq_true, false_iff]
    rintro ⟨h1, h2, _⟩
    exact h ⟨isN_iff.2 h1, isN_iff.2 h2⟩
theorem turnStep_get (a : Int) (o : List (List Int)) (b : Int) (j : Nat) (hb : 0 ≤ b ∧ b < (o.length : Int)) : (turnStep a o b).getD j [] = if (j : Int) = b then o.getD j [] ++ [a] else o.getD j [] := by
  unfold turnStep
  rw [List.getD_eq_getElem?_getD, List.getElem?_set]
  by_cases e : b.toNat = j
  · rw [if_pos e, if_pos (by omega), if_pos (by omega), Option.getD_some, e]
  · rw [if_neg e, if_neg (by omega), ← List.getD_eq_getElem?_getD]
theorem nodes_rise (n : Nat) : (nodes n).Pairwise (· < ·) := by
  unfold nodes
  rw [List.pairwise_map]
  exact List.pairwise_lt_range.imp (fun h => by omega)
end Go.Proofs.Ytdknhgbjgdmfkaa.P
namespace Go.Proofs.Ytdknhgbjgdmfkaa.P
open Go.RowKit Go.Lib Go.Proofs.YtdknhgbjgdmfkaaW.PrintWords
theorem nodes_snoc (n : Nat) : nodes (n + 1) = nodes n ++ [(n : Int)] := by simp [nodes, List.range_succ]
def stepN (c : List (List Int)) (m : List Bool) (a : Nat) : List Bool := if m.getD a false = true then (row c (a : Int)).foldl (fun m b => m.set b.toNat true) m else m
def passN (c : List (List Int)) (n : Nat) (m : List Bool) : List Bool := (List.range n).foldl (stepN c) m
def itN (c : List (List Int)) (n : Nat) : Nat → List Bool → List Bool
  | 0, m => m
  | k + 1, m => itN c n k (passN c n m)
theorem stepN_len (c : List (List Int)) (m : List Bool) (a : Nat) : (stepN c m a).length = m.length := by
  unfold stepN
  split
  · exact foldl_set_len _ _
  · rfl
theorem foldl_stepN_len (c : List (List Int)) : ∀ (l : List Nat) (m : List Bool), (l.foldl (stepN c) m).length = m.length
  | [], _ => rfl
  | a :: l, m => by rw [List.foldl_cons, foldl_stepN_len c l, stepN_len]
theorem getD_set_true (m : List Bool) (i j : Nat) : (m.set i true).getD j false = true ↔ m.getD j false = true ∨ (i = j ∧ j < m.length) := by
  rw [List.getD_eq_getElem?_getD, List.getElem?_set, List.getD_eq_getElem?_getD]
  by_cases e : i = j
  · subst e
    rw [if_pos rfl]
    by_cases h : i < m.length
    · simp [h]
    · rw [if_neg h, List.getElem?_eq_none (by omega)]
      simp [h]
  · rw [if_neg e]
    simp [e]
theorem foldl_set_getD : ∀ (l : List Int) (m : List Bool) (j : Nat), (l.foldl (fun m b => m.set b.toNat true) m).getD j false = true ↔ m.getD j false = true ∨ (j < m.length ∧ ∃ b ∈ l, b.toNat = j)
  | [], m, j => by simp
  | b :: l, m, j => by
    rw [List.foldl_cons, foldl_set_getD l, getD_set_true, List.length_set]
    constructor
    · rintro ((h | ⟨h1, h2⟩) | ⟨h1, b', h2, h3⟩)
      · exact .inl h
      · exact .inr ⟨h2, b, List.mem_cons_self, h1⟩
      · exact .inr ⟨h1, b', List.mem_cons_of_mem _ h2, h3⟩
    · rintro (h | ⟨h1, b', h2, h3⟩)
      · exact .inl (.inl h)
      · rcases List.mem_cons.1 h2 with rfl | h2
        · exact .inl (.inr ⟨h3, h1⟩)
        · exact .inr ⟨h1, b', h2, h3⟩
theorem stepN_mono (c : List (List Int)) (m : List Bool) (a j : Nat) (h : m.getD j false = true) : (stepN c m a).getD j false = true := by
  unfold stepN
  split
  · exact (foldl_set_getD _ _ _).2 (.inl h)
  · exact h
theorem foldl_stepN_mono (c : List (List Int)) : ∀ (l : List Nat) (m : List Bool) (j : Nat), m.getD j false = true → (l.foldl (stepN c) m).getD j false = true
  | [], _, _, h => h
  | a :: l, m, j, h => by rw [List.foldl_cons]; exact foldl_stepN_mono c l _ j (stepN_mono c m a j h)
theorem foldl_stepN_does (c : List (List Int)) : ∀ (l : List Nat) (m : List Bool) (a j : Nat), a ∈ l → m.getD a false = true → j < m.length → (∃ b ∈ row c (a : Int), b.toNat = j) → (l.foldl (stepN c) m).getD j false = true
  | [], _, _, _, h, _, _, _ => by simp at h
  | x :: l, m, a, j, h, hm, hj, hb => by
    rw [List.foldl_cons]
    by_cases e : a = x
    · subst e
      refine foldl_stepN_mono c l _ j ?_
      unfold stepN
      rw [if_pos hm]
      exact (foldl_set_getD _ _ _).2 (.inr ⟨hj, hb⟩)
    · refine foldl_stepN_does c l _ a j ?_ (stepN_mono c m x a hm) (by rw [stepN_len]; exact hj) hb
      rcases List.mem_cons.1 h with h | h
      · exact absurd h e
      · exact h
theorem foldl_stepN_sound {c : List (List Int)} {P : Int → Prop} (hc : ∀ a b, P a → b ∈ row c a → P b) (hv : ∀ a b, b ∈ row c a → 0 ≤ b) : ∀ (l : List Nat) (m : List Bool), (∀ j : Nat, m.getD j false = true → P (j : Int)) → ∀ j : Nat, (l.foldl (stepN c) m).getD j false = true → P (j : Int)
  | [], _, h => h
  | a :: l, m, h => by
    rw [List.foldl_cons]
    refine foldl_stepN_sound hc hv l _ (fun j hj => ?_)
    unfold stepN at hj
    split at hj
    · rename_i ha
      rcases (foldl_set_getD _ _ _).1 hj with k | ⟨_, b, hb, e⟩
      · exact h j k
      · have := hv _ _ hb
        rw [show (j : Int) = b by omega]
        exact hc _ _ (h a ha) hb
    · exact h j hj
def ClosedN (c : List (List Int)) (n : Nat) (m : List Bool) : Prop := ∀ a j : Nat, a < n → j < n → m.getD a false = true → (∃ b ∈ row c (a : Int), b.toNat = j) → m.getD j false = true
theorem bools_eq {m m' : List Bool} (hl : m.length = m'.length) (h : ∀ j, j < m.length → (m.getD j false = true ↔ m'.getD j false = true)) : m = m' := by
  refine List.ext_getElem hl (fun i h1 h2 => ?_)
  have := h i h1
  rw [List.getD_eq_getElem?_getD, List.getElem?_eq_getElem h1, List.getD_eq_getElem?_getD, List.getElem?_eq_getElem h2] at this
  simp only [Option.getD_some] at this
  rw [Bool.eq_iff_iff]
  exact this
theorem foldl_stepN_closed {c : List (List Int)} {n : Nat} {m : List Bool} (hl : m.length = n) (hc : ClosedN c n m) : ∀ l : List Nat, (∀ a ∈ l, a < n) → l.foldl (stepN c) m = m
  | [], _ => rfl
  | a :: l, h => by
    have e : stepN c m a = m := by
      refine bools_eq (stepN_len _ _ _) (fun j hj => ⟨fun k => ?_, stepN_mono c m a j⟩)
      rw [stepN_len] at hj
      unfold stepN at k
      split at k
      · rename_i ha
        rcases (foldl_set_getD _ _ _).1 k with k | ⟨_, hb⟩
        · exact k
        · exact hc a j (h a List.mem_cons_self) (by omega) ha hb
      · exact k
    rw [List.foldl_cons, e]
    exact foldl_stepN_closed hl hc l (fun x hx => h x (List.mem_cons_of_mem _ hx))
theorem count_lt {m m' : List Bool} (hl : m.length = m'.length) (h : ∀ j, m.getD j false = true → m'.getD j false = true) : m.count true ≤ m'.count true ∧ (m.count true = m'.count true → m = m') := by
  induction m generalizing m' with
  | nil =>
    cases m' with
    | nil => exact ⟨Nat.le_refl _, fun _ => rfl⟩
    | cons b m' => simp at hl
  | cons a m ih =>
    cases m' with
    | nil => simp at hl
    | cons b m' =>
      have i := ih (m' := m') (by simpa using hl) (fun j hj => by have := h (j + 1); simp only [List.getD_cons_succ] at this; exact this hj)
      have h0 := h 0
      simp only [List.getD_cons_zero] at h0
      rw [List.count_cons, List.count_cons]
      cases a <;> cases b <;> simp at h0 ⊢
      · exact ⟨i.1, i.2⟩
      · have := i.1; omega
      · exact ⟨i.1, i.2⟩
theorem passN_or {c : List (List Int)} {n : Nat} {m : List Bool} (hl : m.length = n) : ClosedN c n m ∨ m.count true < (passN c n m).count true := by
  have hlen : (passN c n m).length = m.length := foldl_stepN_len c _ m
  have k := count_lt hlen.symm (foldl_stepN_mono c (List.range n) m)
  by_cases e : m.count true = (passN c n m).count true
  · refine .inl (fun a j ha hj hm hb => ?_)
    have e2 := k.2 e
    have := foldl_stepN_does c (List.range n) m a j (List.mem_range.2 ha) hm (by omega) hb
    rw [e2]
    exact this
  · have := k.1
    exact .inr (by unfold passN at *; omega)
theorem itN_closed {c : List (List Int)} {n : Nat} : ∀ (k : Nat) (m : List Bool), m.length = n → (ClosedN c n m ∨ n < k + m.count true) → ClosedN c n (itN c n k m)
  | 0, m, hl, h => by
    rcases h with h | h
    · exact h
    · have := List.count_le_length (a := true) (l := m)
      omega
  | k + 1, m, hl, h => by
    have hlen : (passN c n m).length = n := (foldl_stepN_len c _ m).trans hl
    rw [itN]
    refine itN_closed k _ hlen ?_
    rcases h with h | h
    · left
      have e : passN c n m = m := foldl_stepN_closed hl h _ (fun a ha => List.mem_range.1 ha)
      rw [e]
      exact h
    · rcases passN_or (c := c) hl with q | q
      · left
        have e : passN c n m = m := foldl_stepN_closed hl q _ (fun a ha => List.mem_range.1 ha)
        rw [e]
        exact q
      · right; omega
theorem itN_mono (c : List (List Int)) (n : Nat) : ∀ (k : Nat) (m : List Bool) (j : Nat), m.getD j false = true → (itN c n k m).getD j false = true
  | 0, _, _, h => h
  | k + 1, m, j, h => by rw [itN]; exact itN_mono c n k _ j (foldl_stepN_mono c _ m j h)
theorem itN_sound {c : List (List Int)} {n : Nat} {P : Int → Prop} (hc : ∀ a b, P a → b ∈ row c a → P b) (hv : ∀ a b, b ∈ row c a → 0 ≤ b) : ∀ (k : Nat) (m : List Bool), (∀ j : Nat, m.getD j false = true → P (j : Int)) → ∀ j : Nat, (itN c n k m).getD j false = true → P (j : Int)
  | 0, _, h => h
  | k + 1, m, h => by rw [itN]; exact itN_sound hc hv k _ (foldl_stepN_sound hc hv _ m h)
def startN (n : Nat) (a : Int) : List Bool := if isN n a = true then (List.replicate n false).set a.toNat true else List.replicate n false
theorem startN_len (n : Nat) (a : Int) : (startN n a).length = n := by
  unfold startN
  split <;> simp
theorem startN_get (n : Nat) (a : Int) (j : Nat) : (startN n a).getD j false = true ↔ isN n a = true ∧ a = (j : Int) := by
  have e0 : (List.replicate n false).getD j false = true ↔ False := by
    rw [List.getD_eq_getElem?_getD, List.getElem?_replicate]
    split <;> simp
  unfold startN
  by_cases h : isN n a = true
  · rw [if_pos h, getD_set_true, e0, List.length_replicate]
    have := isN_iff.1 h
    constructor
    · rintro (k | ⟨k1, _⟩)
      · exact k.elim
      · exact ⟨h, by omega⟩
    · rintro ⟨_, k⟩
      exact .inr ⟨by omega, by omega⟩
  · rw [if_neg h, e0]
    exact ⟨fun k => k.elim, fun k => h k.1⟩
def reachN (c : List (List Int)) (n : Nat) (a : Int) : List Bool := itN c n n (startN n a)
theorem reachN_get {c : List (List Int)} (hv : Valid c) {a : Int} {j : Nat} : (reachN c c.length a).getD j false = true ↔ Node c a ∧ Way c a (j : Int) := by
  have hn : ∀ a, isN c.length a = true ↔ Node c a := fun a => isN_iff
  constructor
  · intro h
    exact itN_sound (P := fun x => Node c a ∧ Way c a x) (fun x y hx he => ⟨hx.1, hx.2.trans (.edge he)⟩) (fun x y he => (row_node hv he).1) c.length _ (fun j hj => by
      obtain ⟨h1, h2⟩ := (startN_get c.length a j).1 hj
      exact ⟨(hn a).1 h1, by rw [h2]; exact .refl _⟩) j h
  · rintro ⟨h1, h2⟩
    have hcl : ClosedN c c.length (reachN c c.length a) := by
      refine itN_closed c.length _ (startN_len _ _) (.inr ?_)
      have : 0 < (startN c.length a).count true := by
        rw [List.count_pos_iff]
        have := (startN_get c.length a a.toNat).2 ⟨(hn a).2 h1, by have := h1.1; omega⟩
        rw [List.getD_eq_getElem?_getD] at this
        cases hx : (startN c.length a)[a.toNat]? with
        | none => rw [hx] at this; simp at this
        | some b =>
          rw [hx] at this
          simp only [Option.getD_some] at this
          rw [← this]
          exact List.mem_of_getElem? hx
      omega
    have key : ∀ x, Way c a x → Node c x ∧ (reachN c c.length a).getD x.toNat false = true := by
      intro x hx
      have := hx.closed (P := fun x => Node c x ∧ (reachN c c.length a).getD x.toNat false = true) (fun x y hx he => by
        have hy := row_node hv he
        refine ⟨hy, hcl x.toNat y.toNat ?_ ?_ hx.2 ⟨y, ?_, rfl⟩⟩
        · have := hx.1.1; have := hx.1.2; omega
        · have := hy.1; have := hy.2; omega
        · rw [show ((x.toNat : Nat) : Int) = x from by have := hx.1.1; omega]; exact he) ⟨h1, itN_mono c _ _ _ _ ((startN_get c.length a a.toNat).2 ⟨(hn a).2 h1, by have := h1.1; omega⟩)⟩
      exact this
    have := (key _ h2).2
    rwa [Int.toNat_natCast] at this
end Go.Proofs.Ytdknhgbjgdmfkaa.P
namespace Go.Proofs.Ytdknhgbjgdmfkaa.P
open Go.RowKit Go.Lib Go.Proofs.YtdknhgbjgdmfkaaW.PrintWords
def upd (f : Int → Int) (b v : Int) : Int → Int := fun x => if x = b then v else f x
theorem upd_self (f : Int → Int) (b v : Int) : upd f b v b = v := if_pos rfl
theorem upd_ne {f : Int → Int} {b v x : Int} (h : x ≠ b) : upd f b v x = f x := if_neg h
def Ch (c : List (List Int)) : List (Int × Int) → Prop
  | [] => True
  | [_] => True
  | q :: r :: l => (0 < r.2 ∧ (row c r.1).getD (r.2 - 1).toNat 0 = q.1) ∧ Ch c (r :: l)
theorem Ch.tail {c : List (List Int)} {q : Int × Int} {l : List (Int × Int)} (h : Ch c (q :: l)) : Ch c l := by
  cases l with
  | nil => trivial
  | cons r l => exact h.2
theorem Ch.swap {c : List (List Int)} {a k k' : Int} {l : List (Int × Int)} (h : Ch c ((a, k) :: l)) : Ch c ((a, k') :: l) := by
  cases l with
  | nil => trivial
  | cons r l => exact h
structure TI (c : List (List Int)) (m lo : Int → Int) (O : List Int) (clk : Int) (W : List (Int × Int)) (P : List (List Int)) : Prop where
  on : ∀ a ∈ O, Node c a ∧ 0 < m a
  od : O.Pairwise (fun a b => m b < m a)
  ck : 0 ≤ clk
  mc : ∀ a, Node c a → 0 ≤ m a ∧ m a ≤ clk
  vis : ∀ a, Node c a → 0 < m a → a ∈ O ∨ ∃ p ∈ P, a ∈ p
  pn : ∀ p ∈ P, ∀ a ∈ p, Node c a ∧ 0 < m a ∧ ¬ a ∈ O
  pc : ∀ p ∈ P, ∀ a ∈ p, ∀ b ∈ row c a, ∃ q ∈ P, b ∈ q
  ps : ∀ p ∈ P, p ≠ [] ∧ p.Pairwise (· < ·) ∧ ∀ a ∈ p, ∀ b, b ∈ p ↔ Way c a b ∧ Way c b a
  pd : P.Pairwise (fun p q => ∀ a ∈ p, ¬ a ∈ q)
  wg : ∀ q ∈ W, q.1 ∈ O
  wp : W.Pairwise (fun q r => m r.1 < m q.1)
  wk : ∀ q ∈ W, 0 ≤ q.2 ∧ q.2 ≤ (row c q.1).length
  we : Ch c W
  wx : ∀ q ∈ W, ∀ j : Nat, (j : Int) < q.2 → 0 < m ((row c q.1).getD j 0)
  bx : ∀ a ∈ O, (∀ q ∈ W, q.1 ≠ a) → ∀ b ∈ row c a, 0 < m b
  r1 : ∀ x ∈ O, ∀ y ∈ O, m x ≤ m y → Way c x y
  r2 : ∀ y ∈ O, ∃ q ∈ W, m q.1 ≤ m y ∧ Way c y q.1
  l0 : ∀ q ∈ W, lo q.1 ≤ m q.1
  l1 : ∀ q ∈ W, ∃ x ∈ O, m x = lo q.1 ∧ Way c q.1 x
  l2 : ∀ y ∈ O, (∀ q ∈ W, q.1 ≠ y) → ∀ q ∈ W, m q.1 ≤ m y → (∀ r ∈ W, m q.1 < m r.1 → m y < m r.1) → ∀ z ∈ row c y, z ∈ O → lo q.1 ≤ m z
  l3 : ∀ q l, W = q :: l → ∀ j : Nat, (j : Int) < q.2 → (row c q.1).getD j 0 ∈ O → lo q.1 ≤ m ((row c q.1).getD j 0)
  l4 : ∀ s l, W = s :: l → ∀ q ∈ l, ∀ j : Nat, (j : Int) + 1 < q.2 → (row c q.1).getD j 0 ∈ O → lo q.1 ≤ m ((row c q.1).getD j 0)
section
variable {c : List (List Int)} {m lo : Int → Int} {O : List Int} {clk : Int} {W : List (Int × Int)} {P : List (List Int)}
theorem TI.open_nil (h : TI c m lo O clk [] P) : O = [] := by
  cases O with
  | nil => rfl
  | cons a O =>
    obtain ⟨q, hq, _⟩ := h.r2 a List.mem_cons_self
    cases hq
theorem TI.top {q : Int × Int} {l : List (Int × Int)} (h : TI c m lo O clk (q :: l) P) {r : Int × Int} (hr : r ∈ q :: l) : m r.1 ≤ m q.1 ∧ (r ∈ l → m r.1 < m q.1) := by
  have hp := (List.pairwise_cons.1 h.wp).1
  rcases List.mem_cons.1 hr with e | e
  · rw [e]
    exact ⟨Int.le_refl _, fun k => hp _ k⟩
  · have := hp _ e
    exact ⟨by omega, fun _ => this⟩
theorem TI.enter {W' : List (Int × Int)} {b : Int} (h : TI c m lo O clk W P) (hb : Node c b) (hb0 : m b = 0)
    (hW : (W = [] ∧ W' = []) ∨ ∃ a k l, W = (a, k) :: l ∧ W' = (a, k + 1) :: l ∧ k < ((row c a).length : Int) ∧ (row c a).getD k.toNat 0 = b) :
    TI c (upd m b (clk + 1)) (upd lo b (clk + 1)) (b :: O) (clk + 1) ((b, 0) :: W') P := by
  have hck := h.ck
  have hOb : ∀ x ∈ O, x ≠ b := fun x hx e => by have := (h.on x hx).2; rw [e] at this; omega
  have hmO : ∀ x ∈ O, upd m b (clk + 1) x = m x := fun x hx => upd_ne (hOb x hx)
  have hmN : ∀ x, Node c x → m x ≤ upd m b (clk + 1) x := fun x hx => by
    unfold upd
    split
    · rename_i e; subst e; omega
    · exact Int.le_refl _
  have hpos : ∀ x, 0 < m x → 0 < upd m b (clk + 1) x := fun x hx => by
    unfold upd
    split
    · omega
    · exact hx
  have hself : upd m b (clk + 1) b = clk + 1 := upd_self _ _ _
  have hfst : ∀ q' ∈ W', ∃ q ∈ W, q.1 = q'.1 := fun q' hq' => by
    rcases hW with ⟨e1, e2⟩ | ⟨a, k, l, e1, e2, _⟩
    · rw [e2] at hq'; cases hq'
    · rw [e2] at hq'
      rcases List.mem_cons.1 hq' with e | e
      · exact ⟨(a, k), by rw [e1]; exact List.mem_cons_self, by rw [e]⟩
      · exact ⟨q', by rw [e1]; exact List.mem_cons_of_mem _ e, rfl⟩
  have hsnd : ∀ q ∈ W, ∃ q' ∈ W', q.1 = q'.1 := fun q hq => by
    rcases hW with ⟨e1, e2⟩ | ⟨a, k, l, e1, e2, _⟩
    · rw [e1] at hq; cases hq
    · rw [e1] at hq
      rcases List.mem_cons.1 hq with e | e
      · exact ⟨(a, k + 1), by rw [e2]; exact List.mem_cons_self, by rw [e]⟩
      · exact ⟨q, by rw [e2]; exact List.mem_cons_of_mem _ e, rfl⟩
  have hWO : ∀ q' ∈ W', q'.1 ∈ O := fun q' hq' => by
    obtain ⟨q, hq, e⟩ := hfst q' hq'
    rw [← e]
    exact h.wg q hq
  have hcl : ∀ x ∈ O, m x ≤ clk := fun x hx => (h.mc x (h.on x hx).1).2

  have hway : ∀ x ∈ O, Way c x b := fun x hx => by
    obtain ⟨q, hq, _, hw⟩ := h.r2 x hx
    rcases hW with ⟨e1, e2⟩ | ⟨a, k, l, e1, e2, hk, hbk⟩
    · rw [e1] at hq; cases hq
    · subst e1
      have ha : (a, k) ∈ (a, k) :: l := List.mem_cons_self
      have hk0 := (h.wk _ ha).1
      have hm := (h.top hq).1
      refine hw.trans ((h.r1 _ (h.wg q hq) _ (h.wg _ ha) hm).trans (.edge ?_))
      have hkl : k.toNat < (row c a).length := by omega
      rw [List.getD_eq_getElem?_getD, List.getElem?_eq_getElem hkl, Option.getD_some] at hbk
      rw [← hbk]
      exact List.getElem_mem _
  refine ⟨?_, ?_, by omega, ?_, ?_, ?_, h.pc, h.ps, h.pd, ?_, ?_, ?_, ?_, ?_, ?_, ?_, ?_, ?_, ?_, ?_, ?_, ?_⟩
  · intro a ha
    rcases List.mem_cons.1 ha with e | e
    · rw [e, hself]; exact ⟨hb, by omega⟩
    · rw [hmO a e]; exact h.on a e
  · refine List.pairwise_cons.2 ⟨fun y hy => ?_, ?_⟩
    · rw [hself, hmO y hy]
      have := hcl y hy
      omega
    · refine h.od.imp_of_mem (fun hx hy k => ?_)
      rw [hmO _ hx, hmO _ hy]
      exact k
  · intro a ha
    have := h.mc a ha
    unfold upd
    split <;> omega
  · intro a ha hma
    by_cases e : a = b
    · exact .inl (by rw [e]; exact List.mem_cons_self)
    · rw [upd_ne e] at hma
      rcases h.vis a ha hma with k | k
      · exact .inl (List.mem_cons_of_mem _ k)
      · exact .inr k
  · intro p hp a ha
    obtain ⟨h1, h2, h3⟩ := h.pn p hp a ha
    have e : a ≠ b := fun e => by rw [e] at h2; omega
    refine ⟨h1, hpos a h2, fun k => ?_⟩
    rcases List.mem_cons.1 k with k | k
    · exact e k
    · exact h3 k
  · intro q hq
    rcases List.mem_cons.1 hq with e | e
    · rw [e]; exact List.mem_cons_self
    · exact List.mem_cons_of_mem _ (hWO q e)
  · refine List.pairwise_cons.2 ⟨fun q hq => ?_, ?_⟩
    · rw [hself, hmO _ (hWO q hq)]
      have := hcl _ (hWO q hq)
      omega
    · rcases hW with ⟨e1, e2⟩ | ⟨a, k, l, e1, e2, _⟩
      · rw [e2]; exact List.Pairwise.nil
      · have hp := h.wp
        rw [e1, List.pairwise_cons] at hp
        have hl : ∀ q ∈ l, q.1 ∈ O := fun q hq => h.wg q (by rw [e1]; exact List.mem_cons_of_mem _ hq)
        have haO : a ∈ O := h.wg (a, k) (by rw [e1]; exact List.mem_cons_self)
        rw [e2]
        refine List.pairwise_cons.2 ⟨fun q hq => ?_, hp.2.imp_of_mem (fun hx hy k => ?_)⟩
        · rw [hmO _ (hl q hq), hmO _ haO]; exact hp.1 q hq
        · rw [hmO _ (hl _ hx), hmO _ (hl _ hy)]; exact k
  · intro q hq
    rcases List.mem_cons.1 hq with e | e
    · rw [e]; exact ⟨Int.le_refl _, by simp⟩
    · rcases hW with ⟨e1, e2⟩ | ⟨a, k, l, e1, e2, hk, _⟩
      · rw [e2] at e; cases e
      · rw [e2] at e
        rcases List.mem_cons.1 e with e | e
        · have := (h.wk (a, k) (by rw [e1]; exact List.mem_cons_self)).1
          rw [e]
          exact ⟨by show 0 ≤ k + 1; simp only at this; omega, by show k + 1 ≤ ((row c a).length : Int); omega⟩
        · exact h.wk q (by rw [e1]; exact List.mem_cons_of_mem _ e)
  · rcases hW with ⟨e1, e2⟩ | ⟨a, k, l, e1, e2, hk, hbk⟩
    · rw [e2]; trivial
    · rw [e2]
      have := (h.wk (a, k) (by rw [e1]; exact List.mem_cons_self)).1
      have hwe := h.we
      rw [e1] at hwe
      refine ⟨⟨by show 0 < k + 1; simp only at this; omega, ?_⟩, hwe.swap⟩
      show (row c a).getD (k + 1 - 1).toNat 0 = b
      rw [show k + 1 - 1 = k by omega]
      exact hbk
  · intro q hq j hj
    rcases List.mem_cons.1 hq with e | e
    · rw [e] at hj; simp only at hj; omega
    · rcases hW with ⟨e1, e2⟩ | ⟨a, k, l, e1, e2, hk, hbk⟩
      · rw [e2] at e; cases e
      · rw [e2] at e
        rcases List.mem_cons.1 e with e | e
        · rw [e] at hj ⊢
          simp only at hj ⊢
          by_cases hjk : (j : Int) < k
          · exact hpos _ (h.wx (a, k) (by rw [e1]; exact List.mem_cons_self) j hjk)
          · rw [show j = k.toNat by omega, hbk, hself]; omega
        · exact hpos _ (h.wx q (by rw [e1]; exact List.mem_cons_of_mem _ e) j hj)
  · intro a ha hg x hx
    have hne : a ≠ b := fun e => hg (b, 0) List.mem_cons_self e.symm
    have haO : a ∈ O := (List.mem_cons.1 ha).resolve_left hne
    refine hpos x (h.bx a haO (fun q hq e => ?_) x hx)
    obtain ⟨q', hq', e'⟩ := hsnd q hq
    exact hg q' (List.mem_cons_of_mem _ hq') (e'.symm.trans e)
  · intro x hx y hy hxy
    rcases List.mem_cons.1 hx with ex | ex <;> rcases List.mem_cons.1 hy with ey | ey
    · rw [ex, ey]; exact .refl _
    · rw [ex, hself, hmO y ey] at hxy
      have := hcl y ey
      omega
    · rw [ey]; exact hway x ex
    · rw [hmO x ex, hmO y ey] at hxy
      exact h.r1 x ex y ey hxy
  · intro y hy
    rcases List.mem_cons.1 hy with e | e
    · exact ⟨(b, 0), List.mem_cons_self, by rw [e]; exact Int.le_refl _, by rw [e]; exact .refl _⟩
    · obtain ⟨q, hq, h1, h2⟩ := h.r2 y e
      obtain ⟨q', hq', e'⟩ := hsnd q hq
      refine ⟨q', List.mem_cons_of_mem _ hq', ?_, by rw [← e']; exact h2⟩
      rw [← e', hmO _ (h.wg q hq), hmO y e]
      exact h1
  · intro q hq
    rcases List.mem_cons.1 hq with e | e
    · rw [e]
      show upd lo b (clk + 1) b ≤ upd m b (clk + 1) b
      rw [upd_self, upd_self]; exact Int.le_refl _
    · obtain ⟨q', hq', e'⟩ := hfst q e
      have hne := hOb _ (hWO q e)
      rw [upd_ne hne, upd_ne hne, ← e']
      exact h.l0 q' hq'
  · intro q hq
    rcases List.mem_cons.1 hq with e | e
    · refine ⟨b, List.mem_cons_self, ?_, by rw [e]; exact .refl _⟩
      rw [e]
      show upd m b (clk + 1) b = upd lo b (clk + 1) b
      rw [upd_self, upd_self]
    · obtain ⟨q', hq', e'⟩ := hfst q e
      obtain ⟨x, hx, h1, h2⟩ := h.l1 q' hq'
      refine ⟨x, List.mem_cons_of_mem _ hx, ?_, by rw [← e']; exact h2⟩
      rw [hmO x hx, upd_ne (hOb _ (hWO q e)), ← e']
      exact h1
  · intro y hy hg q hq hqy hbet z hz hzO
    have hne : y ≠ b := fun e => hg (b, 0) List.mem_cons_self e.symm
    have hyO : y ∈ O := (List.mem_cons.1 hy).resolve_left hne
    have hgo : ∀ r ∈ W, r.1 ≠ y := fun r hr e => by
      obtain ⟨r', hr', e'⟩ := hsnd r hr
      exact hg r' (List.mem_cons_of_mem _ hr') (e'.symm.trans e)
    have hzb : z ≠ b := fun e => by
      have := h.bx y hyO hgo z hz
      rw [e] at this; omega
    have hzO' : z ∈ O := (List.mem_cons.1 hzO).resolve_left hzb
    rcases List.mem_cons.1 hq with e | e
    · rw [e, hself, hmO y hyO] at hqy
      have := hcl y hyO
      omega
    · obtain ⟨q', hq', e'⟩ := hfst q e
      rw [upd_ne (hOb _ (hWO q e)), hmO z hzO', ← e']
      rw [hmO _ (hWO q e), hmO y hyO, ← e'] at hqy
      refine h.l2 y hyO hgo q' hq' hqy (fun r hr hlt => ?_) z hz hzO'
      obtain ⟨r', hr', e2⟩ := hsnd r hr
      have := hbet r' (List.mem_cons_of_mem _ hr') (by rw [hmO _ (hWO q e), hmO _ (hWO r' hr'), ← e', ← e2]; exact hlt)
      rwa [hmO y hyO, hmO _ (hWO r' hr'), ← e2] at this
  · intro q l e j hj
    simp only [List.cons.injEq] at e
    rw [← e.1] at hj
    simp only at hj
    omega
  · intro s l e q hq j hj hz
    simp only [List.cons.injEq] at e
    rw [← e.2] at hq
    have hne := hOb _ (hWO q hq)
    rcases hW with ⟨e1, e2⟩ | ⟨a, k, l', e1, e2, hk, hbk⟩
    · rw [e2] at hq; cases hq
    · rw [e2] at hq
      rcases List.mem_cons.1 hq with eq | eq
      · rw [eq] at hj hz hne ⊢
        simp only at hj hz hne ⊢
        have hx := h.wx (a, k) (by rw [e1]; exact List.mem_cons_self) j (by show (j : Int) < k; omega)
        simp only at hx
        have hzb : (row c a).getD j 0 ≠ b := fun e => by rw [e] at hx; omega
        rw [upd_ne hne, upd_ne hzb]
        exact h.l3 (a, k) l' e1 j (by show (j : Int) < k; omega) ((List.mem_cons.1 hz).resolve_left hzb)
      · have hx := h.wx q (by rw [e1]; exact List.mem_cons_of_mem _ eq) j (by omega)
        have hzb : (row c q.1).getD j 0 ≠ b := fun e => by rw [e] at hx; omega
        rw [upd_ne hne, upd_ne hzb]
        exact h.l4 (a, k) l' e1 q eq j hj ((List.mem_cons.1 hz).resolve_left hzb)
theorem TI.seen {a k b : Int} {l : List (Int × Int)} (h : TI c m lo O clk ((a, k) :: l) P) (hk : k < ((row c a).length : Int)) (hb : (row c a).getD k.toNat 0 = b) (hm : 0 < m b) {lo' : Int → Int}
    (hlo : (b ∈ O ∧ lo' = upd lo a (min (lo a) (m b))) ∨ (¬ b ∈ O ∧ lo' = lo)) : TI c m lo' O clk ((a, k + 1) :: l) P := by
  have ha : (a, k) ∈ (a, k) :: l := List.mem_cons_self
  have haO : a ∈ O := h.wg _ ha
  have hk0 : 0 ≤ k := (h.wk _ ha).1
  have hfst : ∀ q' ∈ (a, k + 1) :: l, ∃ q ∈ (a, k) :: l, q.1 = q'.1 := fun q' hq' => by
    rcases List.mem_cons.1 hq' with e | e
    · exact ⟨(a, k), ha, by rw [e]⟩
    · exact ⟨q', List.mem_cons_of_mem _ e, rfl⟩
  have hsnd : ∀ q ∈ (a, k) :: l, ∃ q' ∈ (a, k + 1) :: l, q.1 = q'.1 := fun q hq => by
    rcases List.mem_cons.1 hq with e | e
    · exact ⟨(a, k + 1), List.mem_cons_self, by rw [e]⟩
    · exact ⟨q, List.mem_cons_of_mem _ e, rfl⟩
  have hle : ∀ x, lo' x ≤ lo x := fun x => by
    rcases hlo with ⟨_, e⟩ | ⟨_, e⟩
    · rw [e]
      unfold upd
      split
      · rename_i e; rw [e]; omega
      · exact Int.le_refl _
    · rw [e]; exact Int.le_refl _
  have hoth : ∀ q ∈ l, lo' q.1 = lo q.1 := fun q hq => by
    have hne : q.1 ≠ a := fun e => by
      have := (h.top (List.mem_cons_of_mem _ hq)).2 hq
      simp only [e] at this
      omega
    rcases hlo with ⟨_, e⟩ | ⟨_, e⟩
    · rw [e, upd_ne hne]
    · rw [e]
  have hedge : Way c a b := by
    have hkl : k.toNat < (row c a).length := by omega
    rw [List.getD_eq_getElem?_getD, List.getElem?_eq_getElem hkl, Option.getD_some] at hb
    refine .edge ?_
    rw [← hb]
    exact List.getElem_mem _
  refine ⟨h.on, h.od, h.ck, h.mc, h.vis, h.pn, h.pc, h.ps, h.pd, ?_, ?_, ?_, h.we.swap, ?_, ?_, h.r1, ?_, ?_, ?_, ?_, ?_, ?_⟩
  · intro q hq
    obtain ⟨q', hq', e⟩ := hfst q hq
    rw [← e]
    exact h.wg q' hq'
  · exact List.pairwise_cons.2 (List.pairwise_cons.1 h.wp)
  · intro q hq
    rcases List.mem_cons.1 hq with e | e
    · rw [e]
      exact ⟨by show 0 ≤ k + 1; omega, by show k + 1 ≤ ((row c a).length : Int); omega⟩
    · exact h.wk q (List.mem_cons_of_mem _ e)
  · intro q hq j hj
    rcases List.mem_cons.1 hq with e | e
    · rw [e] at hj ⊢
      simp only at hj ⊢
      by_cases hjk : (j : Int) < k
      · exact h.wx (a, k) ha j hjk
      · rw [show j = k.toNat by omega, hb]; exact hm
    · exact h.wx q (List.mem_cons_of_mem _ e) j hj
  · intro x hx hg
    refine h.bx x hx (fun q hq e => ?_)
    obtain ⟨q', hq', e'⟩ := hsnd q hq
    exact hg q' hq' (e'.symm.trans e)
  · intro y hy
    obtain ⟨q, hq, h1, h2⟩ := h.r2 y hy
    obtain ⟨q', hq', e⟩ := hsnd q hq
    exact ⟨q', hq', by rw [← e]; exact h1, by rw [← e]; exact h2⟩
  · intro q hq
    obtain ⟨q', hq', e⟩ := hfst q hq
    rw [← e]
    exact Int.le_trans (hle _) (h.l0 q' hq')
  · intro q hq
    rcases List.mem_cons.1 hq with e | e
    · rw [e]
      show ∃ x ∈ O, m x = lo' a ∧ Way c a x
      obtain ⟨x, hx, h1, h2⟩ := h.l1 (a, k) ha
      simp only at h1 h2
      rcases hlo with ⟨hbO, e⟩ | ⟨_, e⟩
      · rw [e, upd_self]
        rcases Int.le_total (lo a) (m b) with hh | hh
        · exact ⟨x, hx, by rw [h1]; omega, h2⟩
        · exact ⟨b, hbO, by omega, hedge⟩
      · rw [e]
        exact ⟨x, hx, h1, h2⟩
    · rw [hoth q e]
      exact h.l1 q (List.mem_cons_of_mem _ e)
  · intro y hy hg q hq hqy hbet z hz hzO
    obtain ⟨q', hq', e⟩ := hfst q hq
    rw [← e] at hqy hbet ⊢
    refine Int.le_trans (hle _) (h.l2 y hy (fun r hr e => ?_) q' hq' hqy (fun r hr hlt => ?_) z hz hzO)
    · obtain ⟨r', hr', e'⟩ := hsnd r hr
      exact hg r' hr' (e'.symm.trans e)
    · obtain ⟨r', hr', e'⟩ := hsnd r hr
      rw [e']
      exact hbet r' hr' (by rw [← e']; exact hlt)
  · intro q l' e j hj hz
    simp only [List.cons.injEq] at e
    rw [← e.1] at hj hz ⊢
    simp only at hj hz ⊢
    by_cases hjk : (j : Int) < k
    · exact Int.le_trans (hle _) (h.l3 (a, k) l rfl j hjk hz)
    · rw [show j = k.toNat by omega, hb] at hz ⊢
      rcases hlo with ⟨_, e⟩ | ⟨hbO, _⟩
      · rw [e, upd_self]; omega
      · exact absurd hz hbO
  · intro s l' e q hq j hj hz
    simp only [List.cons.injEq] at e
    rw [← e.2] at hq
    rw [hoth q hq]
    exact h.l4 (a, k) l rfl q hq j hj hz
theorem TI.allmet {a k : Int} {l : List (Int × Int)} (h : TI c m lo O clk ((a, k) :: l) P) (hk : k = ((row c a).length : Int)) {b : Int} (hb : b ∈ row c a) : 0 < m b ∧ (b ∈ O → lo a ≤ m b) := by
  obtain ⟨j, hj, e⟩ := List.mem_iff_getElem.1 hb
  have hg : (row c a).getD j 0 = b := by rw [List.getD_eq_getElem?_getD, List.getElem?_eq_getElem hj, Option.getD_some, e]
  have h1 := h.wx (a, k) List.mem_cons_self j (by show (j : Int) < k; omega)
  have h2 := h.l3 (a, k) l rfl j (by show (j : Int) < k; omega)
  simp only at h1 h2
  rw [hg] at h1 h2
  exact ⟨h1, h2⟩
theorem TI.leave {a k : Int} {l : List (Int × Int)} (h : TI c m lo O clk ((a, k) :: l) P) (hk : k = ((row c a).length : Int)) (hne : lo a ≠ m a) :
    ∃ u ku l', l = (u, ku) :: l' ∧ TI c m (upd lo u (min (lo u) (lo a))) O clk l P := by
  have hA : (a, k) ∈ (a, k) :: l := List.mem_cons_self
  have haO : a ∈ O := h.wg _ hA
  have hlt : lo a < m a := by have := h.l0 _ hA; simp only at this; omega
  obtain ⟨x, hx, hxa, hax⟩ := h.l1 _ hA
  simp only at hxa hax
  obtain ⟨qx, hqx, hqxm, hqxw⟩ := h.r2 x hx
  have hqxl : qx ∈ l := by
    rcases List.mem_cons.1 hqx with e | e
    · rw [e] at hqxm; simp only at hqxm; omega
    · exact e
  cases l with
  | nil => cases hqxl
  | cons s l' =>
    obtain ⟨u, ku⟩ := s
    refine ⟨u, ku, l', rfl, ?_⟩
    have hU : (u, ku) ∈ (a, k) :: (u, ku) :: l' := List.mem_cons_of_mem _ List.mem_cons_self
    have hua : m u < m a := (h.top hU).2 List.mem_cons_self
    have hwp := (List.pairwise_cons.1 h.wp).2
    have htop : ∀ r ∈ (u, ku) :: l', m r.1 ≤ m u := fun r hr => by
      rcases List.mem_cons.1 hr with e | e
      · rw [e]; exact Int.le_refl _
      · have := (List.pairwise_cons.1 hwp).1 r e
        simp only at this
        omega
    have hrest : ∀ r ∈ (u, ku) :: l', m r.1 < m a := fun r hr => (h.top (List.mem_cons_of_mem _ hr)).2 hr
    have hunq : ∀ r ∈ (u, ku) :: l', m r.1 = m u → r.1 = u := fun r hr e => by
      rcases List.mem_cons.1 hr with e' | e'
      · rw [e']
      · have := (List.pairwise_cons.1 hwp).1 r e'
        simp only at this
        omega
    have hle : ∀ y, upd lo u (min (lo u) (lo a)) y ≤ lo y := fun y => by
      unfold upd
      split
      · rename_i e; rw [e]; omega
      · exact Int.le_refl _
    have hulo : upd lo u (min (lo u) (lo a)) u ≤ lo a := by rw [upd_self]; omega
    have hedge : Way c u a := by
      have he := h.we.1
      simp only at he
      have hku := (h.wk _ hU)
      simp only at hku
      have hkl : (ku - 1).toNat < (row c u).length := by omega
      rw [List.getD_eq_getElem?_getD, List.getElem?_eq_getElem hkl, Option.getD_some] at he
      refine .edge ?_
      rw [← he.2]
      exact List.getElem_mem _
    have hup : ∀ q ∈ (u, ku) :: l', m q.1 < m a → ∀ y ∈ O, m a ≤ m y → (∀ r ∈ (u, ku) :: l', m q.1 < m r.1 → m y < m r.1) → q.1 = u := fun q hq h1 y hy h2 h3 => by
      have h4 := htop q hq
      rcases Int.lt_or_le (m q.1) (m u) with h5 | h5
      · have := h3 (u, ku) List.mem_cons_self h5
        simp only at this
        omega
      · exact hunq q hq (by omega)
    refine ⟨h.on, h.od, h.ck, h.mc, h.vis, h.pn, h.pc, h.ps, h.pd, fun q hq => h.wg q (List.mem_cons_of_mem _ hq), hwp, fun q hq => h.wk q (List.mem_cons_of_mem _ hq), h.we.tail, fun q hq => h.wx q (List.mem_cons_of_mem _ hq), ?_, h.r1, ?_, ?_, ?_, ?_, ?_, ?_⟩
    · intro y hy hg b hb
      by_cases e : y = a
      · rw [e] at hb
        exact (h.allmet hk hb).1
      · refine h.bx y hy (fun q hq e' => ?_) b hb
        rcases List.mem_cons.1 hq with e2 | e2
        · rw [e2] at e'; exact e e'.symm
        · exact hg q e2 e'
    · intro y hy
      obtain ⟨q, hq, h1, h2⟩ := h.r2 y hy
      rcases List.mem_cons.1 hq with e | e
      · rw [e] at h1 h2
        simp only at h1 h2
        exact ⟨qx, hqxl, by omega, h2.trans (hax.trans hqxw)⟩
      · exact ⟨q, e, h1, h2⟩
    · intro q hq
      exact Int.le_trans (hle _) (h.l0 q (List.mem_cons_of_mem _ hq))
    · intro q hq
      obtain ⟨z, hz, h1, h2⟩ := h.l1 q (List.mem_cons_of_mem _ hq)
      by_cases e : q.1 = u
      · rw [e] at h1 h2 ⊢
        rw [upd_self]
        rcases Int.le_total (lo u) (lo a) with hh | hh
        · exact ⟨z, hz, by rw [h1]; omega, h2⟩
        · exact ⟨x, hx, by rw [hxa]; omega, hedge.trans hax⟩
      · rw [upd_ne e]
        exact ⟨z, hz, h1, h2⟩
    · intro y hy hg q hq hqy hbet z hz hzO
      have hqa := hrest q hq
      by_cases e : y = a
      · rw [e] at hz hqy hbet
        have := hup q hq hqa a haO (Int.le_refl _) hbet
        rw [this]
        exact Int.le_trans hulo ((h.allmet hk hz).2 hzO)
      · have hgo : ∀ r ∈ (a, k) :: (u, ku) :: l', r.1 ≠ y := fun r hr e' => by
          rcases List.mem_cons.1 hr with e2 | e2
          · rw [e2] at e'; exact e e'.symm
          · exact hg r e2 e'
        rcases Int.lt_or_le (m y) (m a) with hya | hya
        · refine Int.le_trans (hle _) (h.l2 y hy hgo q (List.mem_cons_of_mem _ hq) hqy (fun r hr hlt => ?_) z hz hzO)
          rcases List.mem_cons.1 hr with e2 | e2
          · rw [e2]; exact hya
          · exact hbet r e2 hlt
        · have := hup q hq hqa y hy hya hbet
          rw [this]
          refine Int.le_trans hulo (h.l2 y hy hgo (a, k) hA hya (fun r hr hlt => ?_) z hz hzO)
          rcases List.mem_cons.1 hr with e2 | e2
          · rw [e2] at hlt; simp only at hlt; omega
          · have := hrest r e2
            simp only at hlt
            omega
    · intro q l2 e j hj hz
      simp only [List.cons.injEq] at e
      rw [← e.1] at hj hz ⊢
      simp only at hj hz ⊢
      by_cases hjk : (j : Int) + 1 < ku
      · exact Int.le_trans (hle _) (h.l4 (a, k) _ rfl (u, ku) List.mem_cons_self j hjk hz)
      · have he := h.we.1
        simp only at he
        rw [show j = (ku - 1).toNat by omega, he.2] at hz ⊢
        exact Int.le_trans hulo (by omega)
    · intro s l2 e q hq j hj hz
      simp only [List.cons.injEq] at e
      rw [← e.2] at hq
      exact Int.le_trans (hle _) (h.l4 (a, k) _ rfl q (List.mem_cons_of_mem _ hq) j hj hz)
theorem TI.part {a k : Int} {l : List (Int × Int)} (h : TI c m lo O clk ((a, k) :: l) P) (hv : Valid c) (hk : k = ((row c a).length : Int)) (he : lo a = m a) {seg pre p : List Int} (hO : O = seg ++ a :: pre)
    (hp : p.Pairwise (· < ·)) (hpm : ∀ x, x ∈ p ↔ x ∈ seg ∨ x = a) : TI c m lo pre clk l (P ++ [p]) := by
  have hA : (a, k) ∈ (a, k) :: l := List.mem_cons_self
  have haO : a ∈ O := h.wg _ hA
  have hod := h.od
  rw [hO, List.pairwise_append, List.pairwise_cons] at hod
  obtain ⟨_, ⟨hapre, hodp⟩, hsa⟩ := hod
  have hpre : ∀ y ∈ pre, y ∈ O ∧ m y < m a := fun y hy => ⟨by rw [hO]; exact List.mem_append_right _ (List.mem_cons_of_mem _ hy), hapre y hy⟩
  have hseg : ∀ y ∈ seg, y ∈ O ∧ m a < m y := fun y hy => ⟨by rw [hO]; exact List.mem_append_left _ hy, hsa y hy a List.mem_cons_self⟩
  have hS : ∀ y ∈ p, y ∈ O ∧ m a ≤ m y := fun y hy => by
    rcases (hpm y).1 hy with e | e
    · exact ⟨(hseg y e).1, by have := (hseg y e).2; omega⟩
    · rw [e]; exact ⟨haO, Int.le_refl _⟩
  have hin : ∀ y ∈ O, m a ≤ m y → y ∈ p := fun y hy hm => by
    rw [hO] at hy
    rcases List.mem_append.1 hy with e | e
    · exact (hpm y).2 (.inl e)
    · rcases List.mem_cons.1 e with e | e
      · exact (hpm y).2 (.inr e)
      · have := hapre y e; omega
  have hrest : ∀ r ∈ l, m r.1 < m a := fun r hr => (h.top (List.mem_cons_of_mem _ hr)).2 hr

  have hclo : ∀ x y, (x ∈ p ∨ ∃ q ∈ P, x ∈ q) → y ∈ row c x → (y ∈ p ∨ ∃ q ∈ P, y ∈ q) := fun x y hx hy => by
    rcases hx with hx | ⟨q, hq, hx⟩
    · obtain ⟨hxO, hxm⟩ := hS x hx
      have hyN := row_node hv hy
      have key : 0 < m y ∧ (y ∈ O → m a ≤ m y) := by
        rcases (hpm x).1 hx with e | e
        · have hgo : ∀ q ∈ (a, k) :: l, q.1 ≠ x := fun q hq e' => by
            have := (hseg x e).2
            rcases List.mem_cons.1 hq with e2 | e2
            · rw [e2] at e'; simp only at e'; rw [e'] at this; omega
            · have := hrest q e2; rw [e'] at this; omega
          refine ⟨h.bx x hxO hgo y hy, fun hyO => ?_⟩
          rw [← he]
          refine h.l2 x hxO hgo (a, k) hA hxm (fun r hr hlt => ?_) y hy hyO
          rcases List.mem_cons.1 hr with e2 | e2
          · rw [e2] at hlt; simp only at hlt; omega
          · have := hrest r e2
            simp only at hlt
            omega
        · rw [e] at hy
          rw [← he]
          exact h.allmet hk hy
      rcases h.vis y hyN key.1 with hyO | hyP
      · exact .inl (hin y hyO (key.2 hyO))
      · exact .inr hyP
    · exact .inr (h.pc q hq x hx y hy)
  have hap : a ∈ p := (hpm a).2 (.inr rfl)
  have hnd : ∀ y ∈ p, ¬ ∃ q ∈ P, y ∈ q := fun y hy ⟨q, hq, hyq⟩ => (h.pn q hq y hyq).2.2 (hS y hy).1
  have hto : ∀ y ∈ p, Way c a y := fun y hy => h.r1 a haO y (hS y hy).1 (hS y hy).2
  have hback : ∀ y ∈ p, Way c y a := fun y hy => by
    obtain ⟨q, hq, h1, h2⟩ := h.r2 y (hS y hy).1
    rcases List.mem_cons.1 hq with e | e
    · rw [e] at h2; exact h2
    · have hqS := h2.closed (P := fun x => x ∈ p ∨ ∃ q ∈ P, x ∈ q) hclo (.inl hy)
      have := hrest q e
      rcases hqS with k | ⟨q2, hq2, k⟩
      · have := (hS _ k).2; omega
      · exact absurd (h.wg q hq) (h.pn q2 hq2 _ k).2.2
  refine ⟨fun y hy => h.on y (hpre y hy).1, hodp, h.ck, h.mc, ?_, ?_, ?_, ?_, ?_, ?_, (List.pairwise_cons.1 h.wp).2, fun q hq => h.wk q (List.mem_cons_of_mem _ hq), h.we.tail, fun q hq => h.wx q (List.mem_cons_of_mem _ hq), ?_, fun x hx y hy => h.r1 x (hpre x hx).1 y (hpre y hy).1, ?_, fun q hq => h.l0 q (List.mem_cons_of_mem _ hq), ?_, ?_, ?_, ?_⟩
  · intro y hy hm
    rcases h.vis y hy hm with k | ⟨q, hq, k⟩
    · rw [hO] at k
      rcases List.mem_append.1 k with e | e
      · exact .inr ⟨p, by simp, (hpm y).2 (.inl e)⟩
      · rcases List.mem_cons.1 e with e | e
        · exact .inr ⟨p, by simp, (hpm y).2 (.inr e)⟩
        · exact .inl e
    · exact .inr ⟨q, List.mem_append_left _ hq, k⟩
  · intro q hq y hy
    rcases List.mem_append.1 hq with e | e
    · obtain ⟨h1, h2, h3⟩ := h.pn q e y hy
      exact ⟨h1, h2, fun k => h3 (hpre y k).1⟩
    · rw [List.mem_singleton] at e
      rw [e] at hy
      obtain ⟨h1, h2⟩ := hS y hy
      exact ⟨(h.on y h1).1, (h.on y h1).2, fun k => by have := (hpre y k).2; omega⟩
  · intro q hq x hx b hb
    rcases List.mem_append.1 hq with e | e
    · obtain ⟨q', hq', k⟩ := h.pc q e x hx b hb
      exact ⟨q', List.mem_append_left _ hq', k⟩
    · rw [List.mem_singleton] at e
      rw [e] at hx
      rcases hclo x b (.inl hx) hb with k | ⟨q', hq', k⟩
      · exact ⟨p, by simp, k⟩
      · exact ⟨q', List.mem_append_left _ hq', k⟩
  · intro q hq
    rcases List.mem_append.1 hq with e | e
    · exact h.ps q e
    · rw [List.mem_singleton] at e
      rw [e]
      refine ⟨fun k => (by rw [k] at hap; cases hap), hp, fun x hx b => ⟨fun hb => ⟨(hback x hx).trans (hto b hb), (hback b hb).trans (hto x hx)⟩, fun hb => ?_⟩⟩
      have := hb.1.closed (P := fun x => x ∈ p ∨ ∃ q ∈ P, x ∈ q) hclo (.inl hx)
      rcases this with k | ⟨q2, hq2, k⟩
      · exact k
      · have := hb.2.closed (P := fun x => ∃ q ∈ P, x ∈ q) (fun x y hx hy => by obtain ⟨q3, hq3, hx3⟩ := hx; exact h.pc q3 hq3 x hx3 y hy) ⟨q2, hq2, k⟩
        exact absurd this (hnd x hx)
  · rw [List.pairwise_append]
    refine ⟨h.pd, List.pairwise_singleton _ _, fun q hq q' hq' y hy hy' => ?_⟩
    rw [List.mem_singleton] at hq'
    rw [hq'] at hy'
    exact hnd y hy' ⟨q, hq, hy⟩
  · intro q hq
    have h1 := h.wg q (List.mem_cons_of_mem _ hq)
    have h2 := hrest q hq
    rw [hO] at h1
    rcases List.mem_append.1 h1 with e | e
    · have := (hseg _ e).2; omega
    · rcases List.mem_cons.1 e with e | e
      · rw [e] at h2; omega
      · exact e
  · intro y hy hg b hb
    refine h.bx y (hpre y hy).1 (fun q hq e => ?_) b hb
    rcases List.mem_cons.1 hq with e2 | e2
    · rw [e2] at e; simp only at e; have := (hpre y hy).2; rw [e] at this; omega
    · exact hg q e2 e
  · intro y hy
    obtain ⟨q, hq, h1, h2⟩ := h.r2 y (hpre y hy).1
    rcases List.mem_cons.1 hq with e | e
    · rw [e] at h1; simp only at h1; have := (hpre y hy).2; omega
    · exact ⟨q, e, h1, h2⟩
  · intro q hq
    obtain ⟨x, hx, h1, h2⟩ := h.l1 q (List.mem_cons_of_mem _ hq)
    refine ⟨x, ?_, h1, h2⟩
    have h3 := h.l0 q (List.mem_cons_of_mem _ hq)
    have h4 := hrest q hq
    rw [hO] at hx
    rcases List.mem_append.1 hx with e | e
    · have := (hseg _ e).2; omega
    · rcases List.mem_cons.1 e with e | e
      · rw [e] at h1; omega
      · exact e
  · intro y hy hg q hq hqy hbet z hz hzO
    refine h.l2 y (hpre y hy).1 (fun r hr e => ?_) q (List.mem_cons_of_mem _ hq) hqy (fun r hr hlt => ?_) z hz (hpre z hzO).1
    · rcases List.mem_cons.1 hr with e2 | e2
      · rw [e2] at e; simp only at e; have := (hpre y hy).2; rw [e] at this; omega
      · exact hg r e2 e
    · rcases List.mem_cons.1 hr with e2 | e2
      · rw [e2]; exact (hpre y hy).2
      · exact hbet r e2 hlt
  · intro q l2 e j hj hz
    rw [e] at h
    by_cases hjk : (j : Int) + 1 < q.2
    · exact h.l4 (a, k) _ rfl q List.mem_cons_self j hjk (hpre _ hz).1
    · have he := h.we.1
      simp only at he
      rw [show j = (q.2 - 1).toNat by omega, he.2] at hz
      have := (hpre _ hz).2
      omega
  · intro s l2 e q hq j hj hz
    rw [e] at h
    exact h.l4 (a, k) _ rfl q (List.mem_cons_of_mem _ hq) j hj (hpre _ hz).1
end
end Go.Proofs.Ytdknhgbjgdmfkaa.P
namespace Go.Proofs.Ytdknhgbjgdmfkaa.P
open Go.RowKit Go.Lib Go.Proofs.YtdknhgbjgdmfkaaW.PrintWords
def wayB (c : List (List Int)) (a b : Int) : Bool := (reachN c c.length a).getD b.toNat false
theorem wayB_iff {c : List (List Int)} (hv : Valid c) {a b : Int} (hb : Node c b) : wayB c a b = true ↔ Node c a ∧ Way c a b := by
  unfold wayB
  rw [reachN_get hv, show ((b.toNat : Nat) : Int) = b by have := hb.1; omega]
def eqvB (c : List (List Int)) (a b : Int) : Bool := wayB c a b && wayB c b a
theorem eqvB_iff {c : List (List Int)} (hv : Valid c) {a b : Int} (ha : Node c a) (hb : Node c b) : eqvB c a b = true ↔ Way c a b ∧ Way c b a := by
  unfold eqvB
  rw [Bool.and_eq_true, wayB_iff hv hb, wayB_iff hv ha]
  exact ⟨fun h => ⟨h.1.2, h.2.2⟩, fun h => ⟨⟨ha, h.1⟩, ⟨hb, h.2⟩⟩⟩
def partOf (c : List (List Int)) (a : Int) : List Int := (nodes c.length).filter (eqvB c a)
def isLead (c : List (List Int)) (a : Int) : Bool := (nodes c.length).all fun b => !(eqvB c a b) || decide (a ≤ b)
def partsB (c : List (List Int)) : List (List Int) := ((nodes c.length).filter (isLead c)).map (partOf c)
theorem mem_partOf {c : List (List Int)} (hv : Valid c) {a b : Int} (ha : Node c a) : b ∈ partOf c a ↔ Way c a b ∧ Way c b a := by
  unfold partOf
  rw [List.mem_filter]
  refine ⟨fun h => (eqvB_iff hv ha (mem_nodes.1 h.1)).1 h.2, fun h => ?_⟩
  have hb := h.1.node hv ha
  exact ⟨mem_nodes.2 hb, (eqvB_iff hv ha hb).2 h⟩
theorem partOf_rises (c : List (List Int)) (a : Int) : (partOf c a).Pairwise (· < ·) := (nodes_rise _).filter _
theorem isLead_iff {c : List (List Int)} (hv : Valid c) {a : Int} (ha : Node c a) : isLead c a = true ↔ ∀ b, Way c a b → Way c b a → a ≤ b := by
  unfold isLead
  rw [List.all_eq_true]
  constructor
  · intro h b h1 h2
    have hb := h1.node hv ha
    have := h b (mem_nodes.2 hb)
    rw [(eqvB_iff hv ha hb).2 ⟨h1, h2⟩] at this
    simpa using this
  · intro h b hb
    have hb := mem_nodes.1 hb
    by_cases e : eqvB c a b = true
    · have h2 := (eqvB_iff hv ha hb).1 e
      rw [e]
      simpa using h b h2.1 h2.2
    · simp [e]
theorem parts_unique {c : List (List Int)} (hv : Valid c) {P : List (List Int)} (hn : ∀ p ∈ P, ∀ a ∈ p, Node c a) (hcov : ∀ a, Node c a → ∃ p ∈ P, a ∈ p) (ps : ∀ p ∈ P, p ≠ [] ∧ p.Pairwise (· < ·) ∧ ∀ a ∈ p, ∀ b, b ∈ p ↔ Way c a b ∧ Way c b a)
    (hs : P.Pairwise (fun p q => p.headD 0 < q.headD 0)) : P = partsB c := by
  have hh : ∀ p ∈ P, p.headD 0 ∈ p ∧ ∀ b ∈ p, p.headD 0 ≤ b := fun p hp => by
    obtain ⟨h1, h2, _⟩ := ps p hp
    cases p with
    | nil => exact absurd rfl h1
    | cons x p =>
      rw [List.headD_cons]
      refine ⟨List.mem_cons_self, fun b hb => ?_⟩
      rcases List.mem_cons.1 hb with e | e
      · omega
      · have := (List.pairwise_cons.1 h2).1 b e; omega
  have hpart : ∀ p ∈ P, partOf c (p.headD 0) = p := fun p hp => by
    have ha := hn p hp _ (hh p hp).1
    refine eq_of_rising _ _ (partOf_rises _ _) (ps p hp).2.1 (fun x => ?_)
    rw [mem_partOf hv ha]
    exact ((ps p hp).2.2 _ (hh p hp).1 x).symm
  have hheads : P.map (fun p => p.headD 0) = (nodes c.length).filter (isLead c) := by
    refine eq_of_rising _ _ (List.pairwise_map.2 hs) ((nodes_rise _).filter _) (fun x => ?_)
    rw [List.mem_map, List.mem_filter]
    constructor
    · rintro ⟨p, hp, rfl⟩
      have ha := hn p hp _ (hh p hp).1
      refine ⟨mem_nodes.2 ha, (isLead_iff hv ha).2 (fun b h1 h2 => ?_)⟩
      exact (hh p hp).2 b (((ps p hp).2.2 _ (hh p hp).1 b).2 ⟨h1, h2⟩)
    · rintro ⟨hx, hl⟩
      have hx := mem_nodes.1 hx
      obtain ⟨p, hp, hxp⟩ := hcov x hx
      refine ⟨p, hp, ?_⟩
      have h1 := (hh p hp).2 x hxp
      have h2 := ((ps p hp).2.2 x hxp _).1 (hh p hp).1
      have := (isLead_iff hv hx).1 hl _ h2.1 h2.2
      omega
  unfold partsB
  rw [← hheads, List.map_map]
  conv => lhs; rw [← List.map_id P]
  exact List.map_congr_left (fun p hp => (hpart p hp).symm)
theorem partsB_facts {c : List (List Int)} (hv : Valid c) : (∀ p ∈ partsB c, ∀ a ∈ p, Node c a) ∧ (∀ a, Node c a → ∃ p ∈ partsB c, a ∈ p) ∧ (∀ p ∈ partsB c, p ≠ [] ∧ p.Pairwise (· < ·) ∧ ∀ a ∈ p, ∀ b, b ∈ p ↔ Way c a b ∧ Way c b a) := by
  have hp : ∀ p ∈ partsB c, ∃ a, Node c a ∧ isLead c a = true ∧ p = partOf c a := fun p h => by
    unfold partsB at h
    obtain ⟨a, ha, e⟩ := List.mem_map.1 h
    rw [List.mem_filter] at ha
    exact ⟨a, mem_nodes.1 ha.1, ha.2, e.symm⟩
  refine ⟨fun p h a ha => ?_, fun a ha => ?_, fun p h => ?_⟩
  · obtain ⟨x, hx, _, rfl⟩ := hp p h
    exact ((mem_partOf hv hx).1 ha).1.node hv hx
  ·
    have hne : a ∈ partOf c a := (mem_partOf hv ha).2 ⟨.refl _, .refl _⟩
    cases e : partOf c a with
    | nil => rw [e] at hne; cases hne
    | cons x l =>
      have hxm : x ∈ partOf c a := by rw [e]; exact List.mem_cons_self
      have hx := (mem_partOf hv ha).1 hxm
      have hxN := hx.1.node hv ha
      have hr := partOf_rises c a
      rw [e, List.pairwise_cons] at hr
      refine ⟨partOf c x, List.mem_map.2 ⟨x, List.mem_filter.2 ⟨mem_nodes.2 hxN, (isLead_iff hv hxN).2 (fun b h1 h2 => ?_)⟩, rfl⟩, (mem_partOf hv hxN).2 ⟨hx.2, hx.1⟩⟩
      have hb : b ∈ partOf c a := (mem_partOf hv ha).2 ⟨hx.1.trans h1, h2.trans hx.2⟩
      rw [e] at hb
      rcases List.mem_cons.1 hb with k | k
      · omega
      · have := hr.1 b k; omega
  · obtain ⟨x, hx, _, rfl⟩ := hp p h
    refine ⟨fun e => ?_, partOf_rises _ _, fun a ha b => ?_⟩
    · have : x ∈ partOf c x := (mem_partOf hv hx).2 ⟨.refl _, .refl _⟩
      rw [e] at this
      cases this
    · have h1 := (mem_partOf hv hx).1 ha
      rw [mem_partOf hv hx]
      exact ⟨fun h => ⟨h1.2.trans h.1, h.2.trans h1.1⟩, fun h => ⟨h1.1.trans h.1, h.2.trans h1.2⟩⟩
end Go.Proofs.Ytdknhgbjgdmfkaa.P
namespace Go.Proofs.Ytdknhgbjgdmfkaa.P
open Go.RowKit Go.Lib Go.Proofs.YtdknhgbjgdmfkaaW.PrintWords
def inRow (k : Int) (l : List Int) (o : List Int) : List Int := l.foldl (fun o a => o.set a.toNat k) o
def inSo (n : Nat) (P : List (List Int)) : Nat → List Int
  | 0 => List.replicate n 0
  | k + 1 => inRow (k : Int) (P.getD k []) (inSo n P k)
def shrStep (inn : List Int) (a : Int) (o : List (List Int)) (b : Int) : List (List Int) := if rd inn a = rd inn b then o else turnStep (rd inn b) o (rd inn a)
def shrSo (m : Nat) (inn : List Int) (c : List (List Int)) : Nat → List (List Int)
  | 0 => List.replicate m []
  | k + 1 => (c.getD k []).foldl (shrStep inn (k : Int)) (shrSo m inn c k)
def inB (c : List (List Int)) : List Int := inSo c.length (partsB c) (partsB c).length
def shrB (c : List (List Int)) : List (List Int) := shrSo (partsB c).length (inB c) c c.length
def scc_Shrink.f (l0 : List (List Int)) : Option (List (List Int) × List Int) :=
  if fits l0 = true then (if fits (shrB (clean l0)) = true then some (clean (shrB (clean l0)), inB (clean l0)) else none) else none
theorem inRow_len (k : Int) (l : List Int) : ∀ o : List Int, (inRow k l o).length = o.length := by
  unfold inRow
  induction l with
  | nil => intro o; rfl
  | cons a l ih => intro o; rw [List.foldl_cons, ih, List.length_set]
theorem inSo_len (n : Nat) (P : List (List Int)) : ∀ k, (inSo n P k).length = n
  | 0 => by simp [inSo]
  | k + 1 => by rw [inSo, inRow_len, inSo_len n P k]
theorem inRow_get (k : Int) (l : List Int) : ∀ (o : List Int), (∀ x ∈ l, 0 ≤ x ∧ x < (o.length : Int)) → ∀ a, 0 ≤ a → rd (inRow k l o) a = if a ∈ l then k else rd o a := by
  unfold inRow
  induction l with
  | nil => intro o _ a _; simp
  | cons x l ih =>
    intro o hl a ha
    have hx := hl x List.mem_cons_self
    rw [List.foldl_cons, ih _ (fun y hy => by rw [List.length_set]; exact hl y (List.mem_cons_of_mem _ hy)) a ha]
    have hs : rd (o.set x.toNat k) a = if a = x then k else rd o a := by
      show (o.set x.toNat k).getD a.toNat 0 = if a = x then k else o.getD a.toNat 0
      rw [List.getD_eq_getElem?_getD, List.getElem?_set]
      by_cases e : a = x
      · subst e; rw [if_pos rfl, if_pos (by omega), if_pos rfl]; rfl
      · rw [if_neg (by omega), if_neg e, List.getD_eq_getElem?_getD]
    by_cases e1 : a ∈ l
    · rw [if_pos e1, if_pos (List.mem_cons_of_mem _ e1)]
    · rw [if_neg e1, hs]
      by_cases e2 : a = x
      · subst e2; rw [if_pos rfl, if_pos List.mem_cons_self]
      · rw [if_neg e2, if_neg (fun h => (List.mem_cons.1 h).elim e2 e1)]
theorem inSo_get {n : Nat} {P : List (List Int)} (hn : ∀ p ∈ P, ∀ x ∈ p, 0 ≤ x ∧ x < (n : Int)) (a : Int) (ha : 0 ≤ a) : ∀ k, k ≤ P.length → 
    (∀ j, j < k → a ∈ P.getD j [] → (∀ i, j < i → i < k → ¬ a ∈ P.getD i []) → rd (inSo n P k) a = (j : Int)) ∧ ((∀ j, j < k → ¬ a ∈ P.getD j []) → rd (inSo n P k) a = 0) := by
  intro k
  induction k with
  | zero =>
    intro _
    refine ⟨fun j hj => by omega, fun _ => ?_⟩
    show (List.replicate n (0 : Int)).getD a.toNat 0 = 0
    rw [List.getD_eq_getElem?_getD, List.getElem?_replicate]
    split <;> rfl
  | succ k ih =>
    intro hk
    obtain ⟨h1, h2⟩ := ih (by omega)
    have hmem : P.getD k [] ∈ P := by
      rw [List.getD_eq_getElem?_getD, List.getElem?_eq_getElem (by omega)]
      exact List.getElem_mem _
    have hg := inRow_get (k : Int) (P.getD k []) (inSo n P k) (fun x hx => by rw [inSo_len]; exact hn _ hmem x hx) a ha
    refine ⟨fun j hj hjm hno => ?_, fun hno => ?_⟩
    · rw [inSo, hg]
      rcases Nat.lt_or_ge j k with h | h
      · rw [if_neg (hno k h (by omega))]
        exact h1 j h hjm (fun i hi hik => hno i hi (by omega))
      · obtain rfl : j = k := by omega
        rw [if_pos hjm]
    · rw [inSo, hg, if_neg (hno k (by omega))]
      exact h2 (fun j hj => hno j (by omega))
theorem shrStep_len (inn : List Int) (a b : Int) (o : List (List Int)) : (shrStep inn a o b).length = o.length := by
  unfold shrStep
  split
  · rfl
  · simp [turnStep]
theorem shrRow_len (inn : List Int) (a : Int) (l : List Int) : ∀ o : List (List Int), (l.foldl (shrStep inn a) o).length = o.length := by
  induction l with
  | nil => intro o; rfl
  | cons b l ih => intro o; rw [List.foldl_cons, ih, shrStep_len]
theorem shrSo_len (m : Nat) (inn : List Int) (c : List (List Int)) : ∀ k, (shrSo m inn c k).length = m
  | 0 => by simp [shrSo]
  | k + 1 => by rw [shrSo, shrRow_len, shrSo_len m inn c k]
theorem NoLonger.shr {inn : List Int} {a b : Int} {o : List (List Int)} {m : Nat} (h : NoLonger o m) : NoLonger (shrStep inn a o b) (m + 1) := by
  unfold shrStep
  split
  · exact fun j => Nat.le_trans (h j) (Nat.le_succ _)
  · exact h.step
theorem inB_spec {c : List (List Int)} (hv : Valid c) {a : Int} (ha : Node c a) : ∃ j : Nat, j < (partsB c).length ∧ rd (inB c) a = (j : Int) ∧ a ∈ (partsB c).getD j [] ∧ ∀ i, a ∈ (partsB c).getD i [] → i = j := by
  obtain ⟨f1, f2, f3⟩ := partsB_facts hv
  have hgm : ∀ i, ∀ x, x ∈ (partsB c).getD i [] → i < (partsB c).length ∧ (partsB c).getD i [] ∈ partsB c := fun i x hx => by
    by_cases hi : i < (partsB c).length
    · refine ⟨hi, ?_⟩
      rw [List.getD_eq_getElem?_getD, List.getElem?_eq_getElem hi]
      exact List.getElem_mem _
    · rw [List.getD_eq_getElem?_getD, List.getElem?_eq_none (by omega)] at hx
      cases hx
  obtain ⟨p, hp, hap⟩ := f2 a ha
  obtain ⟨j, hj, hjp⟩ := List.getElem_of_mem hp
  have hjm : a ∈ (partsB c).getD j [] := by rw [List.getD_eq_getElem?_getD, List.getElem?_eq_getElem hj, Option.getD_some, hjp]; exact hap
  have hone : ∀ i, a ∈ (partsB c).getD i [] → i = j := fun i hi => by
    obtain ⟨hil, hip⟩ := hgm i a hi
    obtain ⟨_, hjp'⟩ := hgm j a hjm
    have e : (partsB c).getD i [] = (partsB c).getD j [] := by
      refine eq_of_rising _ _ (f3 _ hip).2.1 (f3 _ hjp').2.1 (fun x => ?_)
      rw [(f3 _ hip).2.2 a hi x, (f3 _ hjp').2.2 a hjm x]
    rw [List.getD_eq_getElem?_getD, List.getElem?_eq_getElem hil, List.getD_eq_getElem?_getD, List.getElem?_eq_getElem hj] at e
    have hnd : (partsB c).Nodup := by
      unfold partsB
      refine List.Pairwise.map _ (R := fun x y => x ≠ y ∧ isLead c x = true ∧ isLead c y = true ∧ Node c x ∧ Node c y) (fun x y h e => ?_) ?_
      · obtain ⟨h0, h1, h2, h3, h4⟩ := h
        have hx : x ∈ partOf c y := by rw [← e]; exact (mem_partOf hv h3).2 ⟨.refl _, .refl _⟩
        have hw := (mem_partOf hv h4).1 hx
        have g1 := (isLead_iff hv h3).1 h1 y hw.2 hw.1
        have g2 := (isLead_iff hv h4).1 h2 x hw.1 hw.2
        omega
      · refine (((nodes_rise _).filter _).imp_of_mem (fun {x y} hx hy h => ?_))
        rw [List.mem_filter] at hx hy
        exact ⟨by omega, hx.2, hy.2, mem_nodes.1 hx.1, mem_nodes.1 hy.1⟩
    exact (List.getElem_inj hnd).1 (by simpa using e)
  refine ⟨j, hj, ?_, hjm, hone⟩
  exact (inSo_get (fun p hp x hx => f1 p hp x hx) a ha.1 _ (Nat.le_refl _)).1 j hj hjm (fun i hi _ h => by have := hone i h; omega)
end Go.Proofs.Ytdknhgbjgdmfkaa.P
namespace Go.Proofs.Ytdknhgbjgdmfkaa.P
open Go.RowKit Go.Lib Go.Proofs.YtdknhgbjgdmfkaaW.PrintWords
section
variable {α : Type} {d : α}
def putR (v : Int → α) (l : List Int) (o : List α) : List α := l.foldl (fun o a => o.set a.toNat (v a)) o
def putSo (d : α) (v : Nat → Int → α) (n : Nat) (P : List (List Int)) : Nat → List α
  | 0 => List.replicate n d
  | k + 1 => putR (v k) (P.getD k []) (putSo d v n P k)
theorem putR_len (v : Int → α) (l : List Int) : ∀ o : List α, (putR v l o).length = o.length := by
  unfold putR
  induction l with
  | nil => intro o; rfl
  | cons a l ih => intro o; rw [List.foldl_cons, ih, List.length_set]
theorem putSo_len (v : Nat → Int → α) (n : Nat) (P : List (List Int)) : ∀ k, (putSo d v n P k).length = n
  | 0 => by simp [putSo]
  | k + 1 => by rw [putSo, putR_len, putSo_len v n P k]
theorem putR_snoc (v : Int → α) (l : List Int) (x : Int) (o : List α) : putR v (l ++ [x]) o = (putR v l o).set x.toNat (v x) := by unfold putR; rw [List.foldl_append]; rfl
theorem putR_get (v : Int → α) (l : List Int) : ∀ (o : List α), (∀ x ∈ l, 0 ≤ x ∧ x < (o.length : Int)) → ∀ a, 0 ≤ a → rdOf d (putR v l o) a = if a ∈ l then v a else rdOf d o a := by
  unfold putR
  induction l with
  | nil => intro o _ a _; simp
  | cons x l ih =>
    intro o hl a ha
    have hx := hl x List.mem_cons_self
    rw [List.foldl_cons, ih _ (fun y hy => by rw [List.length_set]; exact hl y (List.mem_cons_of_mem _ hy)) a ha]
    have hs : rdOf d (o.set x.toNat (v x)) a = if a = x then v x else rdOf d o a := by
      show (o.set x.toNat (v x)).getD a.toNat d = if a = x then v x else o.getD a.toNat d
      rw [List.getD_eq_getElem?_getD, List.getElem?_set]
      by_cases e : a = x
      · subst e; rw [if_pos rfl, if_pos (by omega), if_pos rfl]; rfl
      · rw [if_neg (by omega), if_neg e, List.getD_eq_getElem?_getD]
    by_cases e1 : a ∈ l
    · rw [if_pos e1, if_pos (List.mem_cons_of_mem _ e1)]
    · rw [if_neg e1, hs]
      by_cases e2 : a = x
      · subst e2; rw [if_pos rfl, if_pos List.mem_cons_self]
      · rw [if_neg e2, if_neg (fun h => (List.mem_cons.1 h).elim e2 e1)]
theorem putSo_get {v : Nat → Int → α} {n : Nat} {P : List (List Int)} (hn : ∀ p ∈ P, ∀ x ∈ p, 0 ≤ x ∧ x < (n : Int)) (a : Int) (ha : 0 ≤ a) : ∀ k, k ≤ P.length →
    ∀ j, j < k → a ∈ P.getD j [] → (∀ i, i < k → a ∈ P.getD i [] → v i a = v j a) → rdOf d (putSo d v n P k) a = v j a := by
  intro k
  induction k with
  | zero => intro _ j hj; omega
  | succ k ih =>
    intro hk j hj hjm hun
    have hmem : P.getD k [] ∈ P := by
      rw [List.getD_eq_getElem?_getD, List.getElem?_eq_getElem (by omega)]
      exact List.getElem_mem _
    rw [putSo, putR_get (d := d) (v k) (P.getD k []) (putSo d v n P k) (fun x hx => by rw [putSo_len]; exact hn _ hmem x hx) a ha]
    by_cases e : a ∈ P.getD k []
    · rw [if_pos e]; exact hun k (by omega) e
    · rw [if_neg e]
      have hjk : j < k := by
        rcases Nat.lt_or_ge j k with h | h
        · exact h
        · obtain rfl : j = k := by omega
          exact absurd hjm e
      exact ih (by omega) j hjk hjm (fun i hi hm => hun i (by omega) hm)
theorem putSo_all {v : Nat → Int → α} {n : Nat} {P : List (List Int)} {f : Int → α} (hn : ∀ p ∈ P, ∀ x ∈ p, 0 ≤ x ∧ x < (n : Int)) (hc : ∀ a, 0 ≤ a → a < (n : Int) → ∃ p ∈ P, a ∈ p) (hf : ∀ j, j < P.length → ∀ a ∈ P.getD j [], v j a = f a) : putSo d v n P P.length = (nodes n).map f := by
  refine List.ext_getElem (by rw [putSo_len, List.length_map, nodes_len]) (fun i h1 h2 => ?_)
  rw [putSo_len] at h1
  obtain ⟨p, hp, hap⟩ := hc (i : Int) (by omega) (by omega)
  obtain ⟨j, hj, hjp⟩ := List.getElem_of_mem hp
  have hjm : (i : Int) ∈ P.getD j [] := by rw [List.getD_eq_getElem?_getD, List.getElem?_eq_getElem hj, Option.getD_some, hjp]; exact hap
  have h3 := putSo_get (d := d) (v := v) hn (i : Int) (by omega) P.length (Nat.le_refl _) j hj hjm (fun q hq hm => by rw [hf q hq _ hm, hf j hj _ hjm])
  rw [rdOf_nat (by rw [putSo_len]; exact h1), hf j hj _ hjm] at h3
  rw [h3, List.getElem_map]
  simp [nodes]
end
theorem nodes_map_get {α : Type} (d : α) (f : Int → α) {n i : Nat} (h : i < n) : ((nodes n).map f).getD i d = f (i : Int) := by
  rw [List.getD_eq_getElem?_getD, List.getElem?_map]
  unfold nodes
  rw [List.getElem?_map, List.getElem?_range h]
  rfl
def leadOf (c : List (List Int)) (a : Int) : Int := (partOf c a).headD 0
def leadB (c : List (List Int)) : List Int := (nodes c.length).map (leadOf c)
section
variable {c : List (List Int)}
theorem head_mem {p : List Int} (h : p ≠ []) (hr : p.Pairwise (· < ·)) : p.headD 0 ∈ p ∧ ∀ b ∈ p, p.headD 0 ≤ b := by
  cases p with
  | nil => exact absurd rfl h
  | cons x p =>
    rw [List.headD_cons]
    refine ⟨List.mem_cons_self, fun b hb => ?_⟩
    rcases List.mem_cons.1 hb with e | e
    · omega
    · have := (List.pairwise_cons.1 hr).1 b e; omega
theorem part_is (hv : Valid c) {p : List Int} (hp : p ∈ partsB c) {a : Int} (ha : a ∈ p) : p = partOf c a := by
  obtain ⟨f1, _, f3⟩ := partsB_facts hv
  refine eq_of_rising _ _ (f3 p hp).2.1 (partOf_rises _ _) (fun x => ?_)
  rw [(f3 p hp).2.2 a ha, mem_partOf hv (f1 p hp a ha)]
theorem lead_part (hv : Valid c) {p : List Int} (hp : p ∈ partsB c) {a : Int} (ha : a ∈ p) : leadOf c a = p.headD 0 := by unfold leadOf; rw [← part_is hv hp ha]
theorem lead_mem (hv : Valid c) {a : Int} (ha : Node c a) : leadOf c a ∈ partOf c a ∧ ∀ b ∈ partOf c a, leadOf c a ≤ b :=
  head_mem (fun e => by have : a ∈ partOf c a := (mem_partOf hv ha).2 ⟨.refl _, .refl _⟩; rw [e] at this; cases this) (partOf_rises _ _)
theorem lead_node (hv : Valid c) {a : Int} (ha : Node c a) : Node c (leadOf c a) := ((mem_partOf hv ha).1 (lead_mem hv ha).1).1.node hv ha
theorem lead_eq (hv : Valid c) {a b : Int} (ha : Node c a) (hb : Node c b) : leadOf c a = leadOf c b ↔ Way c a b ∧ Way c b a := by
  constructor
  · intro h
    have h1 := (mem_partOf hv ha).1 (lead_mem hv ha).1
    have h2 := (mem_partOf hv hb).1 (lead_mem hv hb).1
    rw [← h] at h2
    exact ⟨h1.1.trans h2.2, h2.1.trans h1.2⟩
  · intro h
    unfold leadOf
    congr 1
    refine eq_of_rising _ _ (partOf_rises _ _) (partOf_rises _ _) (fun x => ?_)
    rw [mem_partOf hv ha, mem_partOf hv hb]
    exact ⟨fun k => ⟨h.2.trans k.1, k.2.trans h.1⟩, fun k => ⟨h.1.trans k.1, k.2.trans h.2⟩⟩
theorem leadB_len : (leadB c).length = c.length := by unfold leadB; rw [List.length_map, nodes_len]
theorem leadB_get {a : Int} (ha : Node c a) : rd (leadB c) a = leadOf c a := by
  have h0 := ha.1
  have h1 := ha.2
  obtain ⟨i, rfl⟩ : ∃ i : Nat, a = (i : Int) := ⟨a.toNat, by omega⟩
  show (leadB c).getD (Int.toNat (i : Int)) 0 = _
  rw [Int.toNat_natCast]
  exact nodes_map_get 0 (leadOf c) (by omega)
end
theorem parts_small {g : List (List Int)} (hf : fits g = true) : (∀ p ∈ partsB (clean g), ∀ x ∈ p, 0 ≤ x ∧ x < (g.length : Int)) ∧ (∀ a, 0 ≤ a → a < (g.length : Int) → ∃ p ∈ partsB (clean g), a ∈ p) ∧ (∀ p ∈ partsB (clean g), p.length ≤ g.length ∧ p ≠ []) ∧ (partsB (clean g)).length ≤ g.length ∧ g.length ≤ 100000 := by
  have hv := clean_Valid g
  obtain ⟨f1, f2, f3⟩ := partsB_facts hv
  have hPn : ∀ p ∈ partsB (clean g), ∀ x ∈ p, 0 ≤ x ∧ x < (g.length : Int) := fun p hp x hx => clean_node.1 (f1 p hp x hx)
  refine ⟨hPn, fun a h0 h1 => f2 a (clean_node.2 ⟨h0, h1⟩), fun p hp => ⟨few_nodes ((f3 p hp).2.1.imp (fun h => by omega)) (hPn p hp), (f3 p hp).1⟩, ?_, ?_⟩
  · unfold partsB
    rw [List.length_map]
    have := List.length_filter_le (isLead (clean g)) (nodes (clean g).length)
    rw [nodes_len, clean_len] at this
    rw [clean_len]
    exact this
  · unfold fits at hf
    simp at hf
    exact hf.1
theorem leads_are {g : List (List Int)} (hf : fits g = true) : putSo 0 (fun j _ => ((partsB (clean g)).getD j []).getD 0 0) g.length (partsB (clean g)) (partsB (clean g)).length = leadB (clean g) := by
  have hv := clean_Valid g
  obtain ⟨hPn, hc, _⟩ := parts_small hf
  unfold leadB
  rw [clean_len]
  refine putSo_all hPn hc (fun j hj a ha => ?_)
  have hm : (partsB (clean g)).getD j [] ∈ partsB (clean g) := by
    rw [List.getD_eq_getElem?_getD, List.getElem?_eq_getElem hj]
    exact List.getElem_mem _
  rw [lead_part hv hm ha]
  cases (partsB (clean g)).getD j [] <;> rfl
def scc_Leads.f (l0 : List (List Int)) : Option (List Int) := if fits l0 = true then some (leadB (clean l0)) else none
end Go.Proofs.Ytdknhgbjgdmfkaa.P
namespace Go.Proofs.Ytdknhgbjgdmfkaa.P
open Go.RowKit Go.Lib Go.Proofs.YtdknhgbjgdmfkaaW.PrintWords
theorem turnStep_getD (a : Int) (o : List (List Int)) (b : Int) (j : Nat) (hb : 0 ≤ b ∧ b < (o.length : Int)) : (turnStep a o b).getD j [] = if (j : Int) = b then o.getD j [] ++ [a] else o.getD j [] := turnStep_get a o b j hb
section
variable {m : Nat} {inn : List Int} {c : List (List Int)}
theorem shrRow_mem (a : Int) (ha : 0 ≤ rd inn a ∧ rd inn a < (m : Int)) (l : List Int) : ∀ (o : List (List Int)), o.length = m → ∀ (i : Nat) (y : Int), y ∈ (l.foldl (shrStep inn a) o).getD i [] ↔ y ∈ o.getD i [] ∨ ∃ b ∈ l, rd inn a = (i : Int) ∧ rd inn b = y ∧ rd inn a ≠ rd inn b := by
  induction l with
  | nil => intro o _ i y; simp
  | cons b l ih =>
    intro o ho i y
    rw [List.foldl_cons, ih _ (by rw [shrStep_len, ho]) i y]
    unfold shrStep
    by_cases e : rd inn a = rd inn b
    · rw [if_pos e]
      constructor
      · rintro (h | ⟨b', hb', h⟩)
        · exact .inl h
        · exact .inr ⟨b', List.mem_cons_of_mem _ hb', h⟩
      · rintro (h | ⟨b', hb', h1, h2, h3⟩)
        · exact .inl h
        · rcases List.mem_cons.1 hb' with e' | e'
          · rw [e'] at h3; exact absurd e h3
          · exact .inr ⟨b', e', h1, h2, h3⟩
    · rw [if_neg e, turnStep_getD _ _ _ _ (by rw [ho]; exact ha)]
      by_cases ei : (i : Int) = rd inn a
      · rw [if_pos ei, List.mem_append, List.mem_singleton]
        constructor
        · rintro ((h | h) | ⟨b', hb', h⟩)
          · exact .inl h
          · exact .inr ⟨b, List.mem_cons_self, ei.symm, h.symm, e⟩
          · exact .inr ⟨b', List.mem_cons_of_mem _ hb', h⟩
        · rintro (h | ⟨b', hb', h1, h2, h3⟩)
          · exact .inl (.inl h)
          · rcases List.mem_cons.1 hb' with e' | e'
            · rw [e'] at h2; exact .inl (.inr h2.symm)
            · exact .inr ⟨b', e', h1, h2, h3⟩
      · rw [if_neg ei]
        constructor
        · rintro (h | ⟨b', hb', h⟩)
          · exact .inl h
          · exact .inr ⟨b', List.mem_cons_of_mem _ hb', h⟩
        · rintro (h | ⟨b', hb', h1, h2, h3⟩)
          · exact .inl h
          · exact absurd h1.symm ei
theorem shrSo_mem (hi : ∀ a, Node c a → 0 ≤ rd inn a ∧ rd inn a < (m : Int)) : ∀ k, k ≤ c.length → ∀ (i : Nat) (y : Int), y ∈ (shrSo m inn c k).getD i [] ↔ ∃ a : Nat, a < k ∧ ∃ b ∈ c.getD a [], rd inn (a : Int) = (i : Int) ∧ rd inn b = y ∧ rd inn (a : Int) ≠ rd inn b := by
  intro k
  induction k with
  | zero =>
    intro _ i y
    constructor
    · intro h
      rw [shrSo, List.getD_eq_getElem?_getD, List.getElem?_replicate] at h
      split at h <;> simp at h
    · rintro ⟨a, ha, _⟩; omega
  | succ k ih =>
    intro hk i y
    rw [shrSo, shrRow_mem (k : Int) (hi _ ⟨by omega, by omega⟩) _ _ (shrSo_len _ _ _ _) i y, ih (by omega) i y]
    constructor
    · rintro (⟨a, ha, h⟩ | h)
      · exact ⟨a, by omega, h⟩
      · exact ⟨k, by omega, h⟩
    · rintro ⟨a, ha, h⟩
      rcases Nat.lt_or_ge a k with e | e
      · exact .inl ⟨a, e, h⟩
      · obtain rfl : a = k := by omega
        exact .inr h
end
section
variable {c : List (List Int)}
def shr (c : List (List Int)) : List (List Int) := clean (shrB c)
theorem shr_len : (shr c).length = (partsB c).length := by unfold shr shrB; rw [clean_len, shrSo_len]
theorem inB_range (hv : Valid c) {a : Int} (ha : Node c a) : 0 ≤ rd (inB c) a ∧ rd (inB c) a < ((partsB c).length : Int) := by
  obtain ⟨j, h1, h2, _⟩ := inB_spec hv ha
  omega
theorem inB_eq (hv : Valid c) {a b : Int} (ha : Node c a) (hb : Node c b) : rd (inB c) a = rd (inB c) b ↔ Way c a b ∧ Way c b a := by
  obtain ⟨j, h1, h2, h3, h4⟩ := inB_spec hv ha
  obtain ⟨i, g1, g2, g3, g4⟩ := inB_spec hv hb
  have hm : (partsB c).getD j [] ∈ partsB c := by
    rw [List.getD_eq_getElem?_getD, List.getElem?_eq_getElem h1]
    exact List.getElem_mem _
  have hp := (partsB_facts hv).2.2 _ hm
  constructor
  · intro e
    have e' : j = i := by omega
    rw [← e'] at g3
    exact (hp.2.2 a h3 b).1 g3
  · intro h
    have := g4 j ((hp.2.2 a h3 b).2 h)
    rw [h2, g2, this]
theorem mem_shr (hv : Valid c) {x y : Int} (hx : 0 ≤ x) : y ∈ row (shr c) x ↔ ∃ a, Node c a ∧ ∃ b ∈ row c a, rd (inB c) a = x ∧ rd (inB c) b = y ∧ x ≠ y := by
  have hrow : row (shr c) x = if x.toNat < (partsB c).length then cleanRow (partsB c).length ((shrB c).getD x.toNat []) else [] := by
    have hl : (shrB c).length = (partsB c).length := by unfold shrB; rw [shrSo_len]
    unfold row shr clean
    rw [List.getD_eq_getElem?_getD, List.getElem?_map]
    by_cases h : x.toNat < (partsB c).length
    · rw [if_pos h, List.getElem?_eq_getElem (by rw [hl]; exact h), List.getD_eq_getElem?_getD, List.getElem?_eq_getElem (by rw [hl]; exact h)]
      exact congrArg (fun n => cleanRow n (shrB c)[x.toNat]) hl
    · rw [if_neg h, List.getElem?_eq_none (by rw [hl]; omega)]
      rfl
  have hr : ∀ a, Node c a → 0 ≤ rd (inB c) a ∧ rd (inB c) a < ((partsB c).length : Int) := fun a ha => inB_range hv ha
  have hsm := shrSo_mem (m := (partsB c).length) (inn := inB c) hr c.length (Nat.le_refl _) x.toNat y
  have hxt : ((x.toNat : Nat) : Int) = x := by omega
  rw [hxt] at hsm
  rw [hrow]
  constructor
  · intro h
    split at h
    · rw [mem_cleanRow] at h
      obtain ⟨a, ha, b, hb, h1, h2, h3⟩ := hsm.1 h.1
      refine ⟨(a : Int), ⟨by omega, by omega⟩, b, ?_, h1, h2, fun e => h3 (by rw [h1, h2, e])⟩
      show b ∈ c.getD (Int.toNat (a : Int)) []
      rw [Int.toNat_natCast]
      exact hb
    · cases h
  · rintro ⟨a, ha, b, hb, h1, h2, h3⟩
    have hbN := row_node hv hb
    have ra := hr a ha
    have rb := hr b hbN
    rw [if_pos (by omega), mem_cleanRow]
    refine ⟨hsm.2 ⟨a.toNat, by have := ha.1; have := ha.2; omega, b, hb, ?_, h2, fun e => h3 ?_⟩, by omega, by omega⟩
    · rw [show ((a.toNat : Nat) : Int) = a by have := ha.1; omega]; exact h1
    · rw [show ((a.toNat : Nat) : Int) = a by have := ha.1; omega] at e
      rw [← h1, ← h2, e]
theorem shr_Valid : Valid (shr c) := clean_Valid _
theorem shr_rises : ∀ l ∈ shr c, l.Pairwise (· < ·) := clean_rises _
theorem node_shr {x : Int} : Node (shr c) x ↔ 0 ≤ x ∧ x < ((partsB c).length : Int) := by unfold Node; rw [shr_len]
theorem way_of_shr (hv : Valid c) {i j : Int} (h : Way (shr c) i j) : ∀ a b, Node c a → Node c b → rd (inB c) a = i → rd (inB c) b = j → Way c a b := by
  induction h with
  | refl => exact fun a b ha hb e1 e2 => ((inB_eq hv ha hb).1 (e1.trans e2.symm)).1
  | @step i k j hk _ ih =>
    intro a b ha hb e1 e2
    obtain ⟨a', ha', b', hb', h1, h2, _⟩ := (mem_shr hv (by rw [← e1]; exact (inB_range hv ha).1)).1 hk
    have h3 := ((inB_eq hv ha ha').1 (e1.trans h1.symm)).1
    exact h3.trans (.step hb' (ih b' b (row_node hv hb') hb h2 e2))
theorem shr_none (hv : Valid c) {x y : Int} (hx : 0 ≤ x) (hy : y ∈ row (shr c) x) : ¬ Way (shr c) y x := by
  intro h
  obtain ⟨a, ha, b, hb, h1, h2, h3⟩ := (mem_shr hv hx).1 hy
  have hbN := row_node hv hb
  have h4 := way_of_shr hv h b a hbN ha h2 h1
  exact h3 (by rw [← h1, ← h2]; exact (inB_eq hv ha hbN).2 ⟨.edge hb, h4⟩)
end
end Go.Proofs.Ytdknhgbjgdmfkaa.P
namespace Go.Proofs.Ytdknhgbjgdmfkaa.P
open Go.RowKit Go.Lib Go.Proofs.YtdknhgbjgdmfkaaW.PrintWords
structure IsRank (c : List (List Int)) (r : Int → Int) : Prop where
  rise : ∀ a b, Node c a → b ∈ row c a → r a + 1 ≤ r b
  from_ : ∀ b, Node c b → r b = 0 ∨ ∃ a, Node c a ∧ b ∈ row c a ∧ r b = r a + 1
end Go.Proofs.Ytdknhgbjgdmfkaa.P
namespace Go.Proofs.Ytdknhgbjgdmfkaa.P
open Go.RowKit Go.Lib Go.Proofs.YtdknhgbjgdmfkaaW.PrintWords
theorem nodes_nodup' (n : Nat) : (nodes n).Nodup := by
  unfold nodes
  exact List.Pairwise.map _ (fun a b h e => h (by omega)) (List.nodup_range (n := n))
theorem countP_take_out (p : Int → Bool) (a : Int) : ∀ l : List Int, l.Nodup → a ∈ l → l.countP (fun x => decide (x ≠ a) && p x) + (if p a = true then 1 else 0) = l.countP p
  | [], _, h => by simp at h
  | x :: l, hn, ha => by
    rw [List.nodup_cons] at hn
    rw [List.countP_cons, List.countP_cons]
    by_cases e : x = a
    · subst e
      have : l.countP (fun y => decide (y ≠ x) && p y) = l.countP p := List.countP_congr (fun y hy => by
        have : y ≠ x := fun e => hn.1 (e ▸ hy)
        simp [this])
      rw [this]
      simp
    · have ha' : a ∈ l := (List.mem_cons.1 ha).resolve_left (fun h => e h.symm)
      have := countP_take_out p a l hn.2 ha'
      have he : (decide (x ≠ a) && p x) = p x := by simp [e]
      rw [he]
      omega
theorem countP_lt_of {p q : Int → Bool} : ∀ l : List Int, (∀ x ∈ l, p x = true → q x = true) → (∃ x ∈ l, q x = true ∧ p x = false) → l.countP p < l.countP q
  | [], _, ⟨x, hx, _⟩ => by simp at hx
  | y :: l, h, ⟨x, hx, hq, hp⟩ => by
    rw [List.countP_cons, List.countP_cons]
    have hle : l.countP p ≤ l.countP q := List.countP_mono_left (fun z hz => h z (List.mem_cons_of_mem _ hz))
    rcases List.mem_cons.1 hx with e | hx
    · subst e
      rw [hq, hp]
      simp
      omega
    · have ih := countP_lt_of l (fun z hz => h z (List.mem_cons_of_mem _ hz)) ⟨x, hx, hq, hp⟩
      have := h y List.mem_cons_self
      by_cases e : p y = true
      · rw [e, this e]
        omega
      · rw [if_neg e]
        omega
structure Dag (c : List (List Int)) : Prop where
  v : Valid c
  rows : ∀ l ∈ c, l.Pairwise (· < ·)
  none : ∀ x y, 0 ≤ x → y ∈ row c x → ¬ Way c y x
section
variable {c : List (List Int)}
theorem row_nodup (h : ∀ l ∈ c, l.Pairwise (· < ·)) (a : Int) : (row c a).Nodup := by
  unfold row
  by_cases e : a.toNat < c.length
  · rw [List.getD_eq_getElem?_getD, List.getElem?_eq_getElem e]
    exact (h _ (List.getElem_mem e)).imp (fun h => by omega)
  · rw [List.getD_eq_getElem?_getD, List.getElem?_eq_none (by omega)]
    exact List.nodup_nil
open Classical in
theorem Dag.wf (h : Dag c) : WellFounded (fun a b : Int => Node c a ∧ b ∈ row c a) := by
  have hm : ∀ a b : Int, (Node c a ∧ b ∈ row c a) → (nodes c.length).countP (fun x => decide (Way c x a)) < (nodes c.length).countP (fun x => decide (Way c x b)) := fun a b ⟨ha, hb⟩ =>
    countP_lt_of _ (fun x _ hx => decide_eq_true ((of_decide_eq_true hx).trans (.edge hb))) ⟨b, mem_nodes.2 (row_node h.v hb), decide_eq_true (.refl b), decide_eq_false (h.none a b ha.1 hb)⟩
  exact Subrelation.wf (fun {a b} hab => hm a b hab) (InvImage.wf (fun b => (nodes c.length).countP (fun x => decide (Way c x b))) Nat.lt_wfRel.wf)
def inC (c : List (List Int)) (D : List Int) (b : Int) : Nat := (nodes c.length).countP (fun a => decide (¬ a ∈ D) && decide (b ∈ row c a))
theorem inC_zero {D : List Int} {b : Int} : inC c D b = 0 ↔ ∀ a, Node c a → b ∈ row c a → a ∈ D := by
  unfold inC
  rw [List.countP_eq_zero]
  constructor
  · intro h a ha hb
    have := h a (mem_nodes.2 ha)
    simp only [Bool.and_eq_true, decide_eq_true_eq, not_and] at this
    exact Classical.byContradiction fun hn => this hn hb
  · intro h a ha
    simp only [Bool.and_eq_true, decide_eq_true_eq, not_and]
    exact fun hn hb => hn (h a (mem_nodes.1 ha) hb)
theorem inC_cons {D : List Int} {a : Int} (ha : Node c a) (hn : ¬ a ∈ D) (b : Int) : inC c (a :: D) b + (if b ∈ row c a then 1 else 0) = inC c D b := by
  unfold inC
  rw [← countP_take_out (fun x => decide (¬ x ∈ D) && decide (b ∈ row c x)) a (nodes c.length) (nodes_nodup' _) (mem_nodes.2 ha)]
  congr 1
  · exact List.countP_congr (fun x _ => by
      simp only [Bool.and_eq_true, decide_eq_true_eq, List.mem_cons, not_or]
      exact ⟨fun h => ⟨h.1.1, h.1.2, h.2⟩, fun h => ⟨⟨h.1, h.2.1⟩, h.2.2⟩⟩)
  · by_cases e : b ∈ row c a
    · simp [e, hn]
    · simp [e]
theorem inC_le (D : List Int) (b : Int) : inC c D b ≤ c.length := by
  unfold inC
  have := List.countP_le_length (p := fun a => decide (¬ a ∈ D) && decide (b ∈ row c a)) (l := nodes c.length)
  rwa [nodes_len] at this
structure KI (c : List (List Int)) (D o l f : List Int) : Prop where
  ol : o.length = c.length
  ll : l.length = c.length
  dn : D.Nodup
  dN : ∀ a ∈ D, Node c a
  d0 : ∀ a ∈ D, inC c D a = 0
  lv : ∀ b, Node c b → rd l b = (inC c D b : Int)
  fn : f.Nodup
  fm : ∀ b, b ∈ f ↔ Node c b ∧ ¬ b ∈ D ∧ inC c D b = 0
  rise : ∀ a ∈ D, ∀ b ∈ row c a, rd o a + 1 ≤ rd o b
  fr : ∀ b, Node c b → rd o b = 0 ∨ ∃ a ∈ D, b ∈ row c a ∧ rd o b = rd o a + 1
  ob : ∀ b, Node c b → 0 ≤ rd o b ∧ rd o b ≤ (D.length : Int)
structure KR (c : List (List Int)) (a : Int) (p o0 l0 f0 o l f : List Int) : Prop where
  ol : o.length = c.length
  ll : l.length = c.length
  ov : ∀ x, Node c x → rd o x = if x ∈ p then max (rd o0 x) (rd o0 a + 1) else rd o0 x
  lv : ∀ x, Node c x → rd l x = if x ∈ p then rd l0 x - 1 else rd l0 x
  fv : f = f0 ++ p.filter (fun b => decide (rd l0 b = 1))
variable {D o0 l0 f0 o l f : List Int} {a : Int}
theorem KI.len (h : KI c D o l f) : D.length ≤ c.length := few_nodes h.dn h.dN
theorem KI.step (hd : Dag c) (h : KI c D o0 l0 (a :: f0)) (k : KR c a (row c a) o0 l0 f0 o l f) : KI c (a :: D) o l f := by
  obtain ⟨ha, haD, ha0⟩ := (h.fm a).1 List.mem_cons_self
  have hpre : ∀ x, x ∈ a :: D → ∀ y, Node c y → x ∈ row c y → y ∈ D := fun x hx y hy hxy => by
    rcases List.mem_cons.1 hx with e | hx
    · exact inC_zero.1 (e ▸ ha0) y hy hxy
    · exact inC_zero.1 (h.d0 x hx) y hy hxy
  have hno : ∀ x, x ∈ a :: D → ¬ x ∈ row c a := fun x hx hxa => haD (hpre x hx a ha hxa)
  have hoD : ∀ x, x ∈ a :: D → rd o x = rd o0 x := fun x hx => by
    have hN : Node c x := by
      rcases List.mem_cons.1 hx with e | hx
      · exact e ▸ ha
      · exact h.dN x hx
    rw [k.ov x hN, if_neg (hno x hx)]
  have hcut := fun b => inC_cons ha haD (b := b)
  refine ⟨k.ol, k.ll, List.nodup_cons.2 ⟨haD, h.dn⟩, ?_, ?_, ?_, ?_, ?_, ?_, ?_, ?_⟩
  · exact fun x hx => (List.mem_cons.1 hx).elim (fun e => e ▸ ha) (h.dN x)
  · exact fun x hx => inC_zero.2 (fun y hy hxy => List.mem_cons_of_mem _ (hpre x hx y hy hxy))
  · intro b hb
    rw [k.lv b hb, h.lv b hb]
    have := hcut b
    by_cases e : b ∈ row c a
    · rw [if_pos e] at this ⊢
      omega
    · rw [if_neg e] at this ⊢
      omega
  · rw [k.fv]
    have hf := List.nodup_cons.1 h.fn
    refine List.nodup_append.2 ⟨hf.2, (row_nodup hd.rows a).filter _, fun x hx y hy e => ?_⟩
    subst e
    have h1 := ((h.fm x).1 (List.mem_cons_of_mem _ hx)).2.2
    exact absurd (inC_zero.1 h1 a ha (List.mem_filter.1 hy).1) haD
  · intro b
    rw [k.fv, List.mem_append, List.mem_filter, decide_eq_true_iff]
    have hf := List.nodup_cons.1 h.fn
    have hc := hcut b
    constructor
    · rintro (hb | ⟨hb, h1⟩)
      · obtain ⟨g1, g2, g3⟩ := (h.fm b).1 (List.mem_cons_of_mem _ hb)
        refine ⟨g1, fun hx => ?_, ?_⟩
        · rcases List.mem_cons.1 hx with e | hx
          · exact hf.1 (e ▸ hb)
          · exact g2 hx
        · omega
      · have hN := row_node hd.v hb
        rw [h.lv b hN] at h1
        rw [if_pos hb] at hc
        exact ⟨hN, fun hx => hno b hx hb, by omega⟩
    · rintro ⟨hN, hnD, h0⟩
      by_cases e : b ∈ row c a
      · rw [if_pos e] at hc
        exact .inr ⟨e, by rw [h.lv b hN]; omega⟩
      · rw [if_neg e] at hc
        have : b ∈ a :: f0 := (h.fm b).2 ⟨hN, fun hx => hnD (List.mem_cons_of_mem _ hx), by omega⟩
        rcases List.mem_cons.1 this with e | hb
        · exact absurd (e ▸ List.mem_cons_self) hnD
        · exact .inl hb
  · intro x hx b hb
    have hN := row_node hd.v hb
    rw [hoD x hx, k.ov b hN]
    rcases List.mem_cons.1 hx with e | hx
    · subst e
      rw [if_pos hb]
      omega
    · have := h.rise x hx b hb
      split <;> omega
  · intro b hb
    rw [k.ov b hb]
    have hold : rd o0 b = 0 ∨ ∃ x ∈ a :: D, b ∈ row c x ∧ rd o0 b = rd o x + 1 := by
      rcases h.fr b hb with e | ⟨x, hx, hbx, e⟩
      · exact .inl e
      · exact .inr ⟨x, List.mem_cons_of_mem _ hx, hbx, by rw [hoD x (List.mem_cons_of_mem _ hx)]; exact e⟩
    by_cases e : b ∈ row c a
    · rw [if_pos e]
      by_cases hm : rd o0 b ≤ rd o0 a + 1
      · rw [show max (rd o0 b) (rd o0 a + 1) = rd o0 a + 1 from by omega]
        exact .inr ⟨a, List.mem_cons_self, e, by rw [hoD a List.mem_cons_self]⟩
      · rw [show max (rd o0 b) (rd o0 a + 1) = rd o0 b from by omega]
        exact hold
    · rw [if_neg e]
      exact hold
  · intro b hb
    rw [k.ov b hb, List.length_cons]
    have h1 := h.ob b hb
    have h2 := h.ob a ha
    split <;> omega
theorem KI.done (hd : Dag c) (h : KI c D o l []) : IsRank c (rd o) ∧ ∀ b, Node c b → 0 ≤ rd o b ∧ rd o b ≤ (c.length : Int) := by
  have hall : ∀ b, Node c b → b ∈ D := fun b => by
    refine hd.wf.induction (C := fun b => Node c b → b ∈ D) b fun b ih hb => ?_
    refine Classical.byContradiction fun hn => ?_
    have : b ∈ ([] : List Int) := (h.fm b).2 ⟨hb, hn, inC_zero.2 (fun a ha hba => ih a ⟨ha, hba⟩ ha)⟩
    simp at this
  refine ⟨⟨fun a b ha hb => h.rise a (hall a ha) b hb, fun b hb => ?_⟩, fun b hb => ?_⟩
  · rcases h.fr b hb with e | ⟨a, ha, hba, e⟩
    · exact .inl e
    · exact .inr ⟨a, h.dN a ha, hba, e⟩
  · have := h.ob b hb
    have := h.len
    omega
theorem KI.start (ll : l.length = c.length) (hl : ∀ b, Node c b → rd l b = (inC c [] b : Int)) : KI c [] (List.replicate c.length 0) l ((nodes c.length).filter fun b => decide (rd l b = 0)) := by
  have hz : ∀ b, rd (List.replicate c.length 0) b = 0 := fun b => by
    unfold rd
    rw [List.getD_eq_getElem?_getD, List.getElem?_replicate]
    split <;> rfl
  refine ⟨by simp, ll, List.nodup_nil, by simp, by simp, hl, (nodes_nodup' _).filter _, fun b => ?_, by simp, fun b _ => .inl (hz b), fun b _ => by rw [hz b]; simp⟩
  rw [List.mem_filter, mem_nodes, decide_eq_true_iff]
  constructor
  · rintro ⟨h1, h2⟩
    have := hl b h1
    exact ⟨h1, by simp, by omega⟩
  · rintro ⟨h1, _, h2⟩
    exact ⟨h1, by rw [hl b h1, h2]; rfl⟩
end
end Go.Proofs.Ytdknhgbjgdmfkaa.P
namespace Go.Proofs.Ytdknhgbjgdmfkaa.P
open Go.RowKit Go.Proofs.YtdknhgbjgdmfkaaW.PrintWords Go.Proofs.YtdknhgbjgdmfkaaW.PrintLast Go.Proofs.YtdknhgbjgdmfkaaW.PrintMore
attribute [local go_sem] max2_int min2_int max_two min_two max_three min_three max_four min_four
set_option linter.unusedVariables false
set_option linter.unusedSimpArgs false
def bits_Mul64.f (a0 : Int) (a1 : Int) : Option (Int × Int) := some (IntKind.u64.wrap ((IntKind.u64.wrap ((IntKind.u64.wrap ((a0 / 4294967296) * (a1 / 4294967296))) + ((IntKind.u64.wrap ((IntKind.u64.wrap ((a0 / 4294967296) * (Go.bits .and .u64 a1 4294967295))) + ((IntKind.u64.wrap ((Go.bits .and .u64 a0 4294967295) * (Go.bits .and .u64 a1 4294967295))) / 4294967296))) / 4294967296))) + ((IntKind.u64.wrap ((Go.bits .and .u64 (IntKind.u64.wrap ((IntKind.u64.wrap ((a0 / 4294967296) * (Go.bits .and .u64 a1 4294967295))) + ((IntKind.u64.wrap ((Go.bits .and .u64 a0 4294967295) * (Go.bits .and .u64 a1 4294967295))) / 4294967296))) 4294967295) + (IntKind.u64.wrap ((Go.bits .and .u64 a0 4294967295) * (a1 / 4294967296))))) / 4294967296)), IntKind.u64.wrap (a0 * a1))
set_option maxHeartbeats 8000000 in
set_option maxRecDepth 100000 in
theorem bits_Mul64.calls (a0 : Int) (a1 : Int) (r1 : Int) (r2 : Int) (w : World) (h : bits_Mul64.f a0 a1 = some (r1, r2)) :
    Calls Try.prog 136 #[.int .u64 a0, .int .u64 a1] w fun e w' => e = .returned (.tuple #[.int .u64 r1, .int .u64 r2]) ∧ Drawn0 w w' := by
  have H : (some (IntKind.u64.wrap ((IntKind.u64.wrap ((IntKind.u64.wrap ((a0 / 4294967296) * (a1 / 4294967296))) + ((IntKind.u64.wrap ((IntKind.u64.wrap ((a0 / 4294967296) * (Go.bits .and .u64 a1 4294967295))) + ((IntKind.u64.wrap ((Go.bits .and .u64 a0 4294967295) * (Go.bits .and .u64 a1 4294967295))) / 4294967296))) / 4294967296))) + ((IntKind.u64.wrap ((Go.bits .and .u64 (IntKind.u64.wrap ((IntKind.u64.wrap ((a0 / 4294967296) * (Go.bits .and .u64 a1 4294967295))) + ((IntKind.u64.wrap ((Go.bits .and .u64 a0 4294967295) * (Go.bits .and .u64 a1 4294967295))) / 4294967296))) 4294967295) + (IntKind.u64.wrap ((Go.bits .and .u64 a0 4294967295) * (a1 / 4294967296))))) / 4294967296)), IntKind.u64.wrap (a0 * a1))) = some (r1, r2) := h
  clear h
  simp only [Option.some.injEq, Prod.mk.injEq] at H
  obtain ⟨rfl, rfl⟩ := H
  go_enter Try.func136, Try.ntmps136
  go_wp2
  go_ret2
  exact ⟨by first | rfl | (simp; done) | (simp [*]; done), by repeat (first | exact Drawn0.refl _ | apply Drawn0.step)⟩
def bits_Mul.f (a0 : Int) (a1 : Int) : Option (Int × Int) := (bits_Mul64.f a0 a1).bind fun bt681 => (some (bt681.1, bt681.2))
set_option maxHeartbeats 8000000 in
set_option maxRecDepth 100000 in
theorem bits_Mul.calls (a0 : Int) (a1 : Int) (r1 : Int) (r2 : Int) (w : World) (h : bits_Mul.f a0 a1 = some (r1, r2)) :
    Calls Try.prog 117 #[.int .u64 a0, .int .u64 a1] w fun e w' => e = .returned (.tuple #[.int .u64 r1, .int .u64 r2]) ∧ Drawn0 w w' := by
  have H : ((bits_Mul64.f a0 a1).bind fun bt681 => (some (bt681.1, bt681.2))) = some (r1, r2) := h
  clear h
  replace H := Option.bind_eq_some_iff.mp H
  obtain ⟨⟨t681, t682⟩, A30, H⟩ := H
  replace H : (some (t681, t682)) = some (r1, r2) := H
  have A3 := Aside0.mk A30
  clear A30
  simp only [Option.some.injEq, Prod.mk.injEq] at H
  obtain ⟨rfl, rfl⟩ := H
  go_enter Try.func117, Try.ntmps117
  go_wp2_with (first | ((with_reducible refine gate_callee (f := 136) rfl ?_); refine goesL_ (some 25) rfl rfl Try.func136 (by kernel_rfl) rfl #[.int .u64 a0, .int .u64 a1] rfl (by (try simp only [List.map_toArray, List.map_cons, List.map_nil]); first | done | rfl | (simp only [List.length_drop, List.length_take]; rfl)) ?_; (with_reducible refine (bits_Mul64.calls a0 a1 t681 t682 _ A3.out).mono ?_); rintro e w' ⟨rfl, ⟨nd, rfl⟩⟩; refine ⟨_, rfl, ?_⟩))
  go_ret2
  exact ⟨by first | rfl | (simp; done) | (simp [*]; done), by repeat (first | exact Drawn0.refl _ | apply Drawn0.step)⟩
end Go.Proofs.Ytdknhgbjgdmfkaa.P
namespace Go.Proofs.Ytdknhgbjgdmfkaa.P
open Go.RowKit Go.Lib Go.Proofs.YtdknhgbjgdmfkaaW.PrintWords
def at0 (l : List Int) (x : Int) : Int := if 0 ≤ x ∧ x < (l.length : Int) then rd l x else 0
theorem at0_node {l : List Int} {x : Int} (h : 0 ≤ x ∧ x < (l.length : Int)) : at0 l x = rd l x := if_pos h
theorem at0_set {l : List Int} {b : Int} (v : Int) (h : 0 ≤ b ∧ b < (l.length : Int)) : at0 (l.set b.toNat v) = upd (at0 l) b v := by
  funext x
  unfold at0 upd
  rw [List.length_set]
  by_cases hx : 0 ≤ x ∧ x < (l.length : Int)
  · rw [if_pos hx]
    show (l.set b.toNat v).getD x.toNat 0 = _
    rw [List.getD_eq_getElem?_getD, List.getElem?_set]
    by_cases e : x = b
    · subst e
      rw [if_pos rfl, if_pos (by omega), if_pos rfl]
      rfl
    · rw [if_neg (by omega), if_neg e]
      show _ = if 0 ≤ x ∧ x < (l.length : Int) then rd l x else 0
      rw [if_pos hx, show rd l x = l.getD x.toNat 0 from rfl, List.getD_eq_getElem?_getD]
  · rw [if_neg hx, if_neg (fun e => hx (by rw [e]; exact h))]
    exact (if_neg hx).symm
structure TS where
  met : List Int
  low : List Int
  inn : List Bool
  opn : List Int
  clk : Int
  way : List (Int × Int)
  prt : List (List Int)
def TS.enter (s : TS) (a : Int) : TS := { s with met := s.met.set a.toNat (s.clk + 1), low := s.low.set a.toNat (s.clk + 1), inn := s.inn.set a.toNat true, opn := a :: s.opn, clk := s.clk + 1, way := (a, 0) :: s.way }
def TS.adv (s : TS) (a k : Int) (l : List (Int × Int)) : TS := { s with way := (a, k + 1) :: l }
structure SI (c : List (List Int)) (s : TS) : Prop where
  ti : TI c (at0 s.met) (at0 s.low) s.opn s.clk s.way s.prt
  ml : s.met.length = c.length
  ll : s.low.length = c.length
  il : s.inn.length = c.length
  ino : ∀ a, Node c a → rdOf false s.inn a = decide (a ∈ s.opn)
  cn : s.clk = (s.met.countP (fun x => decide (x ≠ 0)) : Nat)
theorem rdOf_set {α : Type} {d : α} {l : List α} {b x : Int} (v : α) (hb : 0 ≤ b ∧ b < (l.length : Int)) (hx : 0 ≤ x) : rdOf d (l.set b.toNat v) x = if x = b then v else rdOf d l x := by
  show (l.set b.toNat v).getD x.toNat d = if x = b then v else l.getD x.toNat d
  rw [List.getD_eq_getElem?_getD, List.getElem?_set]
  by_cases e : x = b
  · subst e
    rw [if_pos rfl, if_pos (by omega), if_pos rfl]
    rfl
  · rw [if_neg (by omega), if_neg e, List.getD_eq_getElem?_getD]
section
variable {c : List (List Int)} {s : TS}
theorem SI.mnode (h : SI c s) {a : Int} (ha : Node c a) : at0 s.met a = rd s.met a := at0_node (by rw [h.ml]; exact ha)
theorem SI.lnode (h : SI c s) {a : Int} (ha : Node c a) : at0 s.low a = rd s.low a := at0_node (by rw [h.ll]; exact ha)
theorem SI.white (h : SI c s) {a : Int} (ha : Node c a) (h0 : rd s.met a = 0) : s.clk < (c.length : Int) := by
  have h1 := List.countP_le_length (p := fun x : Int => decide (x ≠ 0)) (l := s.met)
  rw [h.cn]
  rcases Nat.lt_or_ge (s.met.countP (fun x => decide (x ≠ 0))) c.length with h2 | h2
  · omega
  · exfalso
    have h3 : s.met.countP (fun x => decide (x ≠ 0)) = s.met.length := by rw [h.ml] at h1 ⊢; omega
    have hal : a.toNat < s.met.length := by rw [h.ml]; have := ha.1; have := ha.2; omega
    have h4 := (List.countP_eq_length.1 h3) s.met[a.toNat] (List.getElem_mem hal)
    have h5 : rd s.met a = s.met[a.toNat] := by
      show s.met.getD a.toNat 0 = _
      rw [List.getD_eq_getElem?_getD, List.getElem?_eq_getElem hal]; rfl
    rw [← h5, h0] at h4
    simp at h4
theorem SI.clk_le (h : SI c s) : 0 ≤ s.clk ∧ s.clk ≤ (c.length : Int) := by
  have h1 := List.countP_le_length (p := fun x : Int => decide (x ≠ 0)) (l := s.met)
  rw [h.ml] at h1
  rw [h.cn]
  omega
theorem SI.enter {s1 : TS} {b : Int} (h : SI c s) (hb : Node c b) (hb0 : rd s.met b = 0)
    (hs : (s.way = [] ∧ s1 = s) ∨ ∃ a k l, s.way = (a, k) :: l ∧ s1 = s.adv a k l ∧ k < ((row c a).length : Int) ∧ (row c a).getD k.toNat 0 = b) : SI c (s1.enter b) := by
  have hbm : 0 ≤ b ∧ b < (s.met.length : Int) := by rw [h.ml]; exact hb
  have hbl : 0 ≤ b ∧ b < (s.low.length : Int) := by rw [h.ll]; exact hb
  have hbi : 0 ≤ b ∧ b < (s.inn.length : Int) := by rw [h.il]; exact hb
  have e : s1.met = s.met ∧ s1.low = s.low ∧ s1.inn = s.inn ∧ s1.opn = s.opn ∧ s1.clk = s.clk ∧ s1.prt = s.prt := by
    rcases hs with ⟨_, rfl⟩ | ⟨a, k, l, _, rfl, _⟩
    · exact ⟨rfl, rfl, rfl, rfl, rfl, rfl⟩
    · exact ⟨rfl, rfl, rfl, rfl, rfl, rfl⟩
  have ht := h.ti.enter (W' := s1.way) hb (by rw [h.mnode hb]; exact hb0) (by
    rcases hs with ⟨e1, rfl⟩ | ⟨a, k, l, e1, rfl, h1, h2⟩
    · exact .inl ⟨e1, e1⟩
    · exact .inr ⟨a, k, l, e1, rfl, h1, h2⟩)
  have hc := h.cn
  refine ⟨?_, ?_, ?_, ?_, ?_, ?_⟩
  · show TI c (at0 (s1.met.set b.toNat (s1.clk + 1))) (at0 (s1.low.set b.toNat (s1.clk + 1))) (b :: s1.opn) (s1.clk + 1) ((b, 0) :: s1.way) s1.prt
    rw [e.1, e.2.1, e.2.2.2.1, e.2.2.2.2.1, e.2.2.2.2.2, at0_set _ hbm, at0_set _ hbl]
    exact ht
  · show (s1.met.set _ _).length = _
    rw [List.length_set, e.1, h.ml]
  · show (s1.low.set _ _).length = _
    rw [List.length_set, e.2.1, h.ll]
  · show (s1.inn.set _ _).length = _
    rw [List.length_set, e.2.2.1, h.il]
  · intro a ha
    show rdOf false (s1.inn.set b.toNat true) a = decide (a ∈ b :: s1.opn)
    rw [e.2.2.1, e.2.2.2.1, rdOf_set _ hbi ha.1]
    by_cases ee : a = b
    · rw [if_pos ee, ee]; simp
    · rw [if_neg ee, h.ino a ha]
      simp [ee]
  · show s1.clk + 1 = (((s1.met.set b.toNat (s1.clk + 1)).countP (fun x => decide (x ≠ 0)) : Nat) : Int)
    have hbt : b.toNat < s.met.length := by omega
    have hb0' : s.met[b.toNat] = 0 := by
      rw [show rd s.met b = s.met.getD b.toNat 0 from rfl, List.getD_eq_getElem?_getD, List.getElem?_eq_getElem hbt] at hb0
      exact hb0
    rw [e.1, e.2.2.2.2.1, List.countP_set hbt, hb0', hc]
    have : decide (((s.met.countP (fun x => decide (x ≠ 0)) : Nat) : Int) + 1 ≠ 0) = true := decide_eq_true (by omega)
    rw [this]
    simp
theorem SI.seen {a k b : Int} {l : List (Int × Int)} (h : SI c s) (hw : s.way = (a, k) :: l) (hk : k < ((row c a).length : Int)) (hb : (row c a).getD k.toNat 0 = b) (hbN : Node c b) (hm : rd s.met b ≠ 0) :
    SI c (if b ∈ s.opn then { s.adv a k l with low := s.low.set a.toNat (min (rd s.low a) (rd s.met b)) } else s.adv a k l) := by
  have ht := h.ti
  rw [hw] at ht
  have haN : Node c a := (ht.on a (ht.wg (a, k) List.mem_cons_self)).1
  have hmb : 0 < at0 s.met b := by
    have := (ht.mc b hbN).1
    rw [h.mnode hbN] at this ⊢
    omega
  by_cases hbo : b ∈ s.opn
  · rw [if_pos hbo]
    have hal : 0 ≤ a ∧ a < (s.low.length : Int) := by rw [h.ll]; exact haN
    refine ⟨?_, h.ml, (List.length_set ..).trans h.ll, h.il, h.ino, h.cn⟩
    refine ht.seen hk hb hmb (.inl ⟨hbo, ?_⟩)
    show at0 (s.low.set a.toNat (min (rd s.low a) (rd s.met b))) = _
    rw [at0_set _ hal, h.lnode haN, h.mnode hbN]
  · rw [if_neg hbo]
    exact ⟨ht.seen hk hb hmb (.inr ⟨hbo, rfl⟩), h.ml, h.ll, h.il, h.ino, h.cn⟩
theorem SI.leave {a k : Int} {l : List (Int × Int)} (h : SI c s) (hw : s.way = (a, k) :: l) (hk : k = ((row c a).length : Int)) (hne : rd s.low a ≠ rd s.met a) :
    ∃ u ku l', l = (u, ku) :: l' ∧ u ≠ a ∧ Node c u ∧ SI c { s with way := l, low := s.low.set u.toNat (min (rd s.low u) (rd s.low a)) } := by
  have ht := h.ti
  rw [hw] at ht
  have haN : Node c a := (ht.on a (ht.wg (a, k) List.mem_cons_self)).1
  obtain ⟨u, ku, l', e, h2⟩ := ht.leave hk (by rw [h.lnode haN, h.mnode haN]; exact hne)
  have huN : Node c u := (ht.on u (ht.wg (u, ku) (by rw [e]; exact List.mem_cons_of_mem _ List.mem_cons_self))).1
  have hul : 0 ≤ u ∧ u < (s.low.length : Int) := by rw [h.ll]; exact huN
  have hua : u ≠ a := fun ee => by
    have := (ht.top (r := (u, ku)) (by rw [e]; exact List.mem_cons_of_mem _ List.mem_cons_self)).2 (by rw [e]; exact List.mem_cons_self)
    simp only [ee] at this
    omega
  refine ⟨u, ku, l', e, hua, huN, ?_, h.ml, (List.length_set ..).trans h.ll, h.il, h.ino, h.cn⟩
  show TI c (at0 s.met) (at0 (s.low.set u.toNat (min (rd s.low u) (rd s.low a)))) s.opn s.clk l s.prt
  rw [at0_set _ hul]
  rw [h.lnode huN, h.lnode haN] at h2
  exact h2
def outs (m : List Bool) (q : List Int) : List Bool := q.foldl (fun m x => m.set x.toNat false) m
theorem outs_len (q : List Int) : ∀ m : List Bool, (outs m q).length = m.length := by
  unfold outs
  induction q with
  | nil => intro m; rfl
  | cons x q ih => intro m; rw [List.foldl_cons, ih, List.length_set]
theorem outs_get (q : List Int) : ∀ m : List Bool, (∀ x ∈ q, 0 ≤ x ∧ x < (m.length : Int)) → ∀ a, 0 ≤ a → rdOf false (outs m q) a = (rdOf false m a && !decide (a ∈ q)) := by
  unfold outs
  induction q with
  | nil => intro m _ a _; simp
  | cons x q ih =>
    intro m hq a ha
    rw [List.foldl_cons, ih _ (fun y hy => by rw [List.length_set]; exact hq y (List.mem_cons_of_mem _ hy)) a ha, rdOf_set _ (hq x List.mem_cons_self) ha]
    by_cases e : a = x
    · simp [e]
    · simp [e]
theorem outs_snoc (m : List Bool) (q : List Int) (x : Int) : outs m (q ++ [x]) = (outs m q).set x.toNat false := by unfold outs; rw [List.foldl_append]; rfl
theorem SI.part {a k : Int} {l : List (Int × Int)} (h : SI c s) (hv : Valid c) (hw : s.way = (a, k) :: l) (hk : k = ((row c a).length : Int)) (he : rd s.low a = rd s.met a) {seg pre p : List Int} (hO : s.opn = seg ++ a :: pre)
    (hp : p.Pairwise (· < ·)) (hpm : ∀ x, x ∈ p ↔ x ∈ seg ∨ x = a) :
    (∀ u ku l', l = (u, ku) :: l' → u ≠ a ∧ Node c u ∧ s.low.set u.toNat (min (rd s.low u) (rd s.low a)) = s.low) ∧ SI c { s with way := l, opn := pre, inn := outs s.inn (seg ++ [a]), prt := s.prt ++ [p] } := by
  have ht := h.ti
  rw [hw] at ht
  have haN : Node c a := (ht.on a (ht.wg (a, k) List.mem_cons_self)).1
  have hod := ht.od
  rw [hO, List.pairwise_append, List.pairwise_cons] at hod
  refine ⟨fun u ku l' e => ?_, ?_, h.ml, h.ll, (outs_len _ _).trans h.il, fun x hx => ?_, h.cn⟩
  · have hm : (u, ku) ∈ (a, k) :: l := by rw [e]; exact List.mem_cons_of_mem _ List.mem_cons_self
    have huN : Node c u := (ht.on u (ht.wg (u, ku) hm)).1
    have hlt := (ht.top hm).2 (by rw [e]; exact List.mem_cons_self)
    simp only at hlt
    have hua : u ≠ a := fun ee => by rw [ee] at hlt; omega
    refine ⟨hua, huN, ?_⟩
    have h0 := ht.l0 _ hm
    simp only at h0
    rw [h.lnode huN] at h0
    rw [h.mnode haN] at hlt
    have hmin : min (rd s.low u) (rd s.low a) = rd s.low u := by omega
    rw [hmin]
    have hul : u.toNat < s.low.length := by rw [h.ll]; have := huN.1; have := huN.2; omega
    have : rd s.low u = s.low[u.toNat] := by
      show s.low.getD u.toNat 0 = _
      rw [List.getD_eq_getElem?_getD, List.getElem?_eq_getElem hul]; rfl
    rw [this]
    exact List.set_getElem_self hul
  · exact ht.part hv hk (by rw [h.lnode haN, h.mnode haN]; exact he) hO hp hpm
  · show rdOf false (outs s.inn (seg ++ [a])) x = decide (x ∈ pre)
    have hN : ∀ y ∈ seg ++ [a], 0 ≤ y ∧ y < (s.inn.length : Int) := fun y hy => by
      rw [h.il]
      refine (ht.on y ?_).1
      rw [hO]
      rcases List.mem_append.1 hy with e | e
      · exact List.mem_append_left _ e
      · rw [List.mem_singleton] at e
        rw [e]
        exact List.mem_append_right _ List.mem_cons_self
    rw [outs_get _ _ hN x hx.1, h.ino x hx, hO]
    by_cases h1 : x ∈ pre
    · have h2 : ¬ x ∈ seg ++ [a] := fun k => by
        rcases List.mem_append.1 k with e | e
        · have := hod.2.2 x e x (List.mem_cons_of_mem _ h1); omega
        · rw [List.mem_singleton] at e
          have := hod.2.1.1 x h1
          rw [e] at this; omega
      rw [decide_eq_true (show x ∈ seg ++ a :: pre from List.mem_append_right _ (List.mem_cons_of_mem _ h1)), decide_eq_false h2, decide_eq_true h1]
      rfl
    · by_cases h2 : x ∈ seg ++ [a]
      · rw [decide_eq_true h2, decide_eq_false h1, Bool.not_true, Bool.and_false]
      · have h3 : ¬ x ∈ seg ++ a :: pre := fun k => by
          rcases List.mem_append.1 k with e | e
          · exact h2 (List.mem_append_left _ e)
          · rcases List.mem_cons.1 e with e | e
            · exact h2 (by rw [e]; simp)
            · exact h1 e
        rw [decide_eq_false h3, decide_eq_false h1]
        rfl
end
def TS.left (c : List (List Int)) (s : TS) : Nat := ((c.length : Int) - s.clk).toNat * (c.length + 2) + (s.way.map fun q => c.length + 1 - q.2.toNat).sum
end Go.Proofs.Ytdknhgbjgdmfkaa.P
namespace Go.Proofs.Ytdknhgbjgdmfkaa.P
open Go.RowKit Go.Lib Go.Proofs.YtdknhgbjgdmfkaaW.PrintWords
section
variable {c : List (List Int)} {s : TS}
theorem SI.small (h : SI c s) : s.opn.length ≤ c.length ∧ s.way.length ≤ c.length ∧ s.prt.length ≤ c.length := by
  have ht := h.ti
  refine ⟨?_, ?_, ?_⟩
  · refine few_nodes (ht.od.imp (fun {a b} hab e => ?_)) (fun x hx => (ht.on x hx).1)
    rw [e] at hab; omega
  · have h1 : (s.way.map fun q => q.1).length ≤ c.length := by
      refine few_nodes (List.pairwise_map.2 (ht.wp.imp (fun {a b} hab e => ?_))) (fun x hx => ?_)
      · rw [e] at hab; omega
      · obtain ⟨q, hq, rfl⟩ := List.mem_map.1 hx
        exact (ht.on _ (ht.wg q hq)).1
    rwa [List.length_map] at h1
  · have hh : ∀ p ∈ s.prt, p.headD 0 ∈ p := fun p hp => by
      have := (ht.ps p hp).1
      cases p with
      | nil => exact absurd rfl this
      | cons x p => exact List.mem_cons_self
    have h1 : (s.prt.map fun p => p.headD 0).length ≤ c.length := by
      refine few_nodes (List.pairwise_map.2 (ht.pd.imp_of_mem (fun {p q} hp hq hpq e => ?_))) (fun x hx => ?_)
      · exact hpq _ (hh p hp) (by rw [e]; exact hh q hq)
      · obtain ⟨p, hp, rfl⟩ := List.mem_map.1 hx
        exact (ht.pn p hp _ (hh p hp)).1
    rwa [List.length_map] at h1
def MetS (s s' : TS) : Prop := ∀ x, 0 ≤ x → rd s.met x ≠ 0 → rd s'.met x ≠ 0
theorem MetS.refl (s : TS) : MetS s s := fun _ _ h => h
theorem MetS.trans {s s' s'' : TS} (h : MetS s s') (k : MetS s' s'') : MetS s s'' := fun x hx h1 => k x hx (h x hx h1)
theorem MetS.same {s s' : TS} (h : s'.met = s.met) : MetS s s' := fun x _ h1 => by rw [h]; exact h1
theorem rd_set {l : List Int} {b x : Int} (v : Int) (hb : 0 ≤ b ∧ b < (l.length : Int)) (hx : 0 ≤ x) : rd (l.set b.toNat v) x = if x = b then v else rd l x := by
  show (l.set b.toNat v).getD x.toNat 0 = if x = b then v else l.getD x.toNat 0
  rw [List.getD_eq_getElem?_getD, List.getElem?_set]
  by_cases e : x = b
  · subst e
    rw [if_pos rfl, if_pos (by omega), if_pos rfl]
    rfl
  · rw [if_neg (by omega), if_neg e, List.getD_eq_getElem?_getD]
theorem MetS.enter {s : TS} {b : Int} (hb : 0 ≤ b ∧ b < (s.met.length : Int)) (hk : 0 ≤ s.clk) : MetS s (s.enter b) ∧ rd (s.enter b).met b ≠ 0 := by
  refine ⟨fun x hx h => ?_, ?_⟩
  · show rd (s.met.set b.toNat (s.clk + 1)) x ≠ 0
    rw [rd_set _ hb hx]
    split <;> omega
  · show rd (s.met.set b.toNat (s.clk + 1)) b ≠ 0
    rw [rd_set _ hb hb.1, if_pos rfl]
    omega
theorem SI.at_ {a k : Int} {l : List (Int × Int)} (h : SI c s) (hw : s.way = (a, k) :: l) : Node c a ∧ 0 ≤ k ∧ k ≤ ((row c a).length : Int) := by
  have ht := h.ti
  have hm : (a, k) ∈ s.way := by rw [hw]; exact List.mem_cons_self
  exact ⟨(ht.on a (ht.wg _ hm)).1, (ht.wk _ hm).1, (ht.wk _ hm).2⟩
theorem left_way {m : Nat} {c : List (List Int)} {q : Int × Int} {l : List (Int × Int)} (hw : s.way = q :: l) (hm : m = ((c.length : Int) - s.clk).toNat * (c.length + 2)) : s.left c = m + (c.length + 1 - q.2.toNat) + (l.map fun q => c.length + 1 - q.2.toNat).sum := by
  unfold TS.left
  rw [hw, List.map_cons, List.sum_cons, hm]
  omega
theorem left_adv {a k : Int} {l : List (Int × Int)} (hw : s.way = (a, k) :: l) (hk : 0 ≤ k) (hkl : k < (c.length : Int)) : (s.adv a k l).left c + 1 ≤ s.left c := by
  rw [left_way hw rfl, left_way (s := s.adv a k l) (q := (a, k + 1)) (l := l) rfl rfl]
  show _ + (c.length + 1 - (k + 1).toNat) + _ + 1 ≤ _ + (c.length + 1 - k.toNat) + _
  have : (s.adv a k l).clk = s.clk := rfl
  rw [this]
  omega
theorem left_enter {b : Int} (hk : 0 ≤ s.clk) (hkl : s.clk < (c.length : Int)) : (s.enter b).left c + 1 ≤ s.left c := by
  unfold TS.left
  show ((c.length : Int) - (s.clk + 1)).toNat * (c.length + 2) + (((b, (0 : Int)) :: s.way).map fun q => c.length + 1 - q.2.toNat).sum + 1 ≤ _
  rw [List.map_cons, List.sum_cons]
  have e : ((c.length : Int) - s.clk).toNat = ((c.length : Int) - (s.clk + 1)).toNat + 1 := by omega
  rw [e, Nat.succ_mul]
  show _ + (c.length + 1 - (0 : Int).toNat + _) + 1 ≤ _
  have : (0 : Int).toNat = 0 := rfl
  omega
theorem left_pop {a k : Int} {l : List (Int × Int)} {s' : TS} (hw : s.way = (a, k) :: l) (hk : k ≤ (c.length : Int)) (hs : s'.way = l ∧ s'.clk = s.clk) : s'.left c + 1 ≤ s.left c := by
  rw [left_way hw rfl]
  unfold TS.left
  rw [hs.1, hs.2]
  show _ + 1 ≤ _ + (c.length + 1 - k.toNat) + _
  omega
end
def TS.start (n : Nat) : TS := { met := List.replicate n 0, low := List.replicate n 0, inn := List.replicate n false, opn := [], clk := 0, way := [], prt := [] }
theorem at0_zeros (n : Nat) (x : Int) : at0 (List.replicate n 0) x = 0 := by
  unfold at0
  split
  · show (List.replicate n (0 : Int)).getD x.toNat 0 = 0
    rw [List.getD_eq_getElem?_getD, List.getElem?_replicate]
    split <;> rfl
  · rfl
theorem SI_start (c : List (List Int)) : SI c (TS.start c.length) := by
  have hm : ∀ x, at0 (TS.start c.length).met x = 0 := at0_zeros _
  refine ⟨⟨fun a h => (by cases h), List.Pairwise.nil, Int.le_refl _, fun a _ => by rw [hm]; exact ⟨Int.le_refl _, Int.le_refl _⟩, fun a _ h => by rw [hm] at h; omega, fun p h => (by cases h), fun p h => (by cases h), fun p h => (by cases h), List.Pairwise.nil, fun q h => (by cases h), List.Pairwise.nil, fun q h => (by cases h), trivial, fun q h => (by cases h), fun a h => (by cases h), fun x h => (by cases h), fun y h => (by cases h), fun q h => (by cases h), fun q h => (by cases h), fun y h => (by cases h), fun q l h => (by cases h), fun s l h => (by cases h)⟩, ?_, ?_, ?_, fun a ha => ?_, ?_⟩
  · exact List.length_replicate ..
  · exact List.length_replicate ..
  · exact List.length_replicate ..
  · show (List.replicate c.length false).getD a.toNat false = decide (a ∈ ([] : List Int))
    rw [List.getD_eq_getElem?_getD, List.getElem?_replicate]
    split <;> rfl
  · show (0 : Int) = (((List.replicate c.length (0 : Int)).countP (fun x => decide (x ≠ 0)) : Nat) : Int)
    rw [List.countP_replicate]
    rfl
theorem parts_found {c : List (List Int)} {s : TS} (hv : Valid c) (h : SI c s) (hw : s.way = []) (hm : ∀ x : Nat, x < c.length → rd s.met (x : Int) ≠ 0) {P : List (List Int)} (hP : P.Perm s.prt) (hs : P.Pairwise (fun p q => p.headD 0 ≤ q.headD 0)) : P = partsB c := by
  have ht := h.ti
  rw [hw] at ht
  have ho := ht.open_nil
  have hh : ∀ p ∈ s.prt, p.headD 0 ∈ p := fun p hp => by
    have := (ht.ps p hp).1
    cases p with
    | nil => exact absurd rfl this
    | cons x p => exact List.mem_cons_self
  refine parts_unique hv (fun p hp a ha => (ht.pn p (hP.mem_iff.1 hp) a ha).1) (fun a ha => ?_) (fun p hp => ht.ps p (hP.mem_iff.1 hp)) ?_
  · have h1 := hm a.toNat (by have := ha.1; have := ha.2; omega)
    have e : ((a.toNat : Nat) : Int) = a := by have := ha.1; omega
    rw [e] at h1
    have h2 := (ht.mc a ha).1
    have h3 := ht.vis a ha (by rw [h.mnode ha] at h2 ⊢; omega)
    rcases h3 with h3 | ⟨p, hp, hpa⟩
    · rw [ho] at h3; cases h3
    · exact ⟨p, hP.mem_iff.2 hp, hpa⟩
  · have h1 : P.Pairwise (fun p q => p.headD 0 ≠ q.headD 0) := by
      refine (hP.pairwise_iff (R := fun p q : List Int => p.headD 0 ≠ q.headD 0) (fun h => Ne.symm h)).2 ?_
      exact ht.pd.imp_of_mem (fun {p q} hp hq hpq e => hpq _ (hh p hp) (by rw [e]; exact hh q hq))
    exact hs.imp₂ (fun a b h k => by omega) h1
end Go.Proofs.Ytdknhgbjgdmfkaa.P
namespace Go.Proofs.Ytdknhgbjgdmfkaa.P
open Go.RowKit Go.Lib Go.Proofs.YtdknhgbjgdmfkaaW.PrintWords
section
variable {c : List (List Int)} {a b x y : Int}
end
theorem small_of {g : List (List Int)} (hv : Valid g) (hr : ∀ l ∈ g, l.Pairwise (· < ·)) (hn : g.length ≤ 900) : Small g := by
  refine ⟨?_, hn⟩
  unfold fits
  rw [Bool.and_eq_true, decide_eq_true_iff, List.all_eq_true]
  refine ⟨by omega, fun l hl => decide_eq_true ?_⟩
  have := few_nodes ((hr l hl).imp (fun h => by omega)) (hv l hl)
  omega
end Go.Proofs.Ytdknhgbjgdmfkaa.P
