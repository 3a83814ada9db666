/- Graphs as lists of lists: what is cleaned, and what a way down tells: the words that the contracts and the plain laws share. -/
import Derived.Lib.SlicesCompact
import Derived.Lib.RowBridge
namespace Go.Proofs.Ytemcmcnhpdkdfaa.P

/-- Is a number a node? -/
def isN (n : Nat) (b : Int) : Bool := decide (0 ≤ b ∧ b < (n : Int))
/-- A row, cleaned. -/
def cleanRow (n : Nat) (l : List Int) : List Int := Lib.compact ((l.filter fun b => isN n b).mergeSort fun x y => decide (x ≤ y))
/-- A graph, cleaned. -/
def clean (g : List (List Int)) : List (List Int) := g.map (cleanRow g.length)
/-- A graph that is no greater than this. -/
def fits (g : List (List Int)) : Bool := decide (g.length ≤ 100000) && g.all fun l => decide (l.length ≤ 100000)
/-- The rows cleaned so far; the others are nil still. -/
def cleanSo (g : List (List Int)) (k : Nat) : List (List Int) := (clean g).take k ++ List.replicate (g.length - k) []
theorem cleanSo_zero (g : List (List Int)) : cleanSo g 0 = List.replicate g.length [] := by simp [cleanSo]
theorem cleanSo_all (g : List (List Int)) : cleanSo g g.length = clean g := by
  unfold cleanSo
  rw [List.take_of_length_le (by simp [clean]), Nat.sub_self, List.replicate_zero, List.append_nil]
theorem cleanSo_len (g : List (List Int)) (k : Nat) (h : k ≤ g.length) : (cleanSo g k).length = g.length := by
  simp [cleanSo, clean]; omega
theorem cleanSo_succ (g : List (List Int)) (k : Nat) (h : k < g.length) : (cleanSo g k).set k (cleanRow g.length g[k]) = cleanSo g (k + 1) := by
  have hl : ((clean g).take k).length = k := by simp [clean]; omega
  unfold cleanSo
  rw [List.set_append_right _ _ (by omega), hl, Nat.sub_self, show g.length - k = (g.length - (k + 1)) + 1 by omega, List.replicate_succ, List.set_cons_zero, List.take_succ_eq_append_getElem (by simp [clean]; omega), List.append_assoc]
  simp [clean]

theorem isN_yes {n : Nat} {x : Int} (h0 : 0 ≤ x) (h1 : x < (n : Int)) : isN n x = true := by unfold isN; simp [h0, h1]
theorem isN_no {n : Nat} {x : Int} (h : ¬ (0 ≤ x ∧ x < (n : Int))) : isN n x = false := by unfold isN; exact decide_eq_false h
theorem isN_iff {n : Nat} {x : Int} : isN n x = true ↔ 0 ≤ x ∧ x < (n : Int) := by unfold isN; exact decide_eq_true_iff

theorem fits_row {g : List (List Int)} (h : fits g = true) {k : Nat} (hk : k < g.length) : g[k].length ≤ 100000 := by
  unfold fits at h
  simp only [Bool.and_eq_true, decide_eq_true_eq, List.all_eq_true] at h
  exact h.2 _ (List.getElem_mem hk)
/-- What is told: nodes met, those on the way down (the last one first) with the follower that is next, those told. -/
def dfs (g : List (List Int)) : Nat → List Bool → List (Int × Int) → List Int → Option (List Int)
  | 0, _, _, _ => none
  | _ + 1, _, [], told => some told
  | k + 1, met, (a, i) :: st, told =>
    if i < ((g.getD a.toNat []).length : Int) then
      (if met.getD ((g.getD a.toNat []).getD i.toNat 0).toNat true = true then dfs g k met ((a, i + 1) :: st) told
       else dfs g k (met.set ((g.getD a.toNat []).getD i.toNat 0).toNat true) (((g.getD a.toNat []).getD i.toNat 0, 0) :: (a, i) :: st) told)
    else dfs g k met st (told ++ [a])

section
variable {g : List (List Int)} {told : List Int} {kq : Nat} {met : List Bool} {st : List (Int × Int)} {tl : List Int} {a ii b : Int}
theorem dfs_len : ∀ (k : Nat) (met : List Bool) (st : List (Int × Int)) (tl : List Int), dfs g k met st tl = some told → told.length ≤ tl.length + k
  | 0, _, _, _, h => by simp [dfs] at h
  | k + 1, met, [], tl, h => by
    rw [dfs] at h
    obtain rfl := Option.some.inj h
    omega
  | k + 1, met, (a, i) :: st, tl, h => by
    rw [dfs] at h
    split at h
    · split at h
      · have := dfs_len k _ _ _ h; omega
      · have := dfs_len k _ _ _ h; omega
    · have := dfs_len k _ _ _ h
      rw [List.length_append, List.length_singleton] at this
      omega
theorem dfs_push (h : dfs g (kq + 1) met ((a, ii) :: st) tl = some told) (hl : ii < ((g.getD a.toNat []).length : Int)) (hb : b = (g.getD a.toNat []).getD ii.toNat 0) (hm : met.getD b.toNat true = false) : dfs g kq (met.set b.toNat true) ((b, 0) :: (a, ii) :: st) tl = some told := by
  rw [dfs, if_pos hl, ← hb, if_neg (by rw [hm]; simp)] at h
  exact h
theorem dfs_skip (h : dfs g (kq + 1) met ((a, ii) :: st) tl = some told) (hl : ii < ((g.getD a.toNat []).length : Int)) (hb : b = (g.getD a.toNat []).getD ii.toNat 0) (hm : met.getD b.toNat true = true) : dfs g kq met ((a, ii + 1) :: st) tl = some told := by
  rw [dfs, if_pos hl, ← hb, if_pos hm] at h
  exact h
theorem dfs_pop (h : dfs g (kq + 1) met ((a, ii) :: st) tl = some told) (hl : ¬ ii < ((g.getD a.toNat []).length : Int)) : dfs g kq met st (tl ++ [a]) = some told := by
  rw [dfs, if_neg hl] at h
  exact h

end

/-- The bools of those that are told. -/
def marks (n : Nat) (l : List Int) : List Bool := l.foldl (fun m a => m.set a.toNat true) (List.replicate n false)
theorem foldl_set_len (l : List Int) (m : List Bool) : (l.foldl (fun m a => m.set a.toNat true) m).length = m.length := by
  induction l generalizing m with
  | nil => rfl
  | cons a l ih => rw [List.foldl_cons, ih, List.length_set]
theorem marks_len (n : Nat) (l : List Int) : (marks n l).length = n := by
  unfold marks
  rw [foldl_set_len, List.length_replicate]

/-! #### a row that is cleaned: each node that is in it, once, in order -/
/-- Two lists that rise strictly and have the same numbers are one. -/
theorem eq_of_rising : ∀ (a b : List Int), a.Pairwise (· < ·) → b.Pairwise (· < ·) → (∀ x, x ∈ a ↔ x ∈ b) → a = b
  | [], [], _, _, _ => rfl
  | [], y :: b, _, _, h => absurd ((h y).2 List.mem_cons_self) (by simp)
  | x :: a, [], _, _, h => absurd ((h x).1 List.mem_cons_self) (by simp)
  | x :: a, y :: b, ha, hb, h => by
    rw [List.pairwise_cons] at ha hb
    have hxy : x = y := by
      rcases List.mem_cons.1 ((h x).1 List.mem_cons_self) with e | e
      · exact e
      · rcases List.mem_cons.1 ((h y).2 List.mem_cons_self) with e' | e'
        · exact e'.symm
        · have := hb.1 x e
          have := ha.1 y e'
          omega
    subst hxy
    congr 1
    refine eq_of_rising a b ha.2 hb.2 (fun z => ⟨fun hz => ?_, fun hz => ?_⟩)
    · rcases List.mem_cons.1 ((h z).1 (List.mem_cons_of_mem _ hz)) with e | e
      · subst e
        exact absurd (ha.1 _ hz) (by omega)
      · exact e
    · rcases List.mem_cons.1 ((h z).2 (List.mem_cons_of_mem _ hz)) with e | e
      · subst e
        exact absurd (hb.1 _ hz) (by omega)
      · exact e

theorem compactUpTo_rises (d : Array Int) (hs : ∀ i j, i ≤ j → j < d.size → d[i]! ≤ d[j]!) : ∀ m, m ≤ d.size →
    (Lib.compactUpTo d m).Pairwise (· < ·) ∧ (∀ x, x ∈ Lib.compactUpTo d m ↔ ∃ j, j < m ∧ d[j]! = x)
  | 0, _ => ⟨by simp [Lib.compactUpTo], fun x => ⟨fun h => by simp [Lib.compactUpTo] at h, fun ⟨j, h, _⟩ => by omega⟩⟩
  | m + 1, hm => by
    obtain ⟨h1, h2⟩ := compactUpTo_rises d hs m (by omega)
    rw [Lib.compactUpTo_succ]
    by_cases hk : Lib.keeps d m = true
    · rw [if_pos hk]
      have hk' : m = 0 ∨ d[m]! ≠ d[m - 1]! := by simpa [Lib.keeps] using hk
      refine ⟨List.pairwise_append.2 ⟨h1, by simp, fun x hx y hy => ?_⟩, fun x => ?_⟩
      · obtain rfl := List.mem_singleton.1 hy
        obtain ⟨j, hj, rfl⟩ := (h2 x).1 hx
        have a1 := hs j (m - 1) (by omega) (by omega)
        have a2 := hs (m - 1) m (by omega) (by omega)
        rcases hk' with e | e
        · omega
        · omega
      · rw [List.mem_append, List.mem_singleton, h2]
        constructor
        · rintro (⟨j, hj, e⟩ | e)
          · exact ⟨j, by omega, e⟩
          · exact ⟨m, by omega, e.symm⟩
        · rintro ⟨j, hj, e⟩
          rcases Nat.lt_or_ge j m with h | h
          · exact .inl ⟨j, h, e⟩
          · exact .inr (by rw [← e, show j = m by omega])
    · rw [if_neg hk, List.append_nil]
      have hk' : m ≠ 0 ∧ d[m]! = d[m - 1]! := by
        have : ¬ (m = 0 ∨ d[m]! ≠ d[m - 1]!) := by simpa [Lib.keeps] using hk
        omega
      refine ⟨h1, fun x => ?_⟩
      rw [h2]
      constructor
      · rintro ⟨j, hj, e⟩
        exact ⟨j, by omega, e⟩
      · rintro ⟨j, hj, e⟩
        rcases Nat.lt_or_ge j m with h | h
        · exact ⟨j, h, e⟩
        · exact ⟨m - 1, by omega, by rw [← hk'.2, ← e, show j = m by omega]⟩

theorem compact_sorted (zs : List Int) : (Lib.compact (zs.mergeSort fun x y => decide (x ≤ y))).Pairwise (· < ·) ∧ ∀ x, x ∈ Lib.compact (zs.mergeSort fun x y => decide (x ≤ y)) ↔ x ∈ zs := by
  obtain ⟨ys, hy⟩ : ∃ ys, ys = zs.mergeSort fun x y => decide (x ≤ y) := ⟨_, rfl⟩
  have hp : ys.Pairwise (· ≤ ·) := by
    rw [hy]
    have := List.pairwise_mergeSort (le := fun x y : Int => decide (x ≤ y)) (fun a b c => by simp; omega) (fun a b => by simp; omega) zs
    exact this.imp (by simp)
  have hm : ∀ x, x ∈ ys ↔ x ∈ zs := fun x => by rw [hy, List.mem_mergeSort]
  rw [← hy]
  have hs : ∀ i j, i ≤ j → j < ys.toArray.size → ys.toArray[i]! ≤ ys.toArray[j]! := by
    intro i j hij hj
    have hj' : j < ys.length := by simpa using hj
    rw [getElem!_pos _ i (by simp; omega), getElem!_pos _ j hj]
    simp only [List.getElem_toArray]
    rcases Nat.lt_or_ge i j with h | h
    · exact List.pairwise_iff_getElem.1 hp i j (by omega) hj' h
    · obtain rfl : i = j := by omega
      exact Int.le_refl _
  obtain ⟨h1, h2⟩ := compactUpTo_rises ys.toArray hs ys.length (by simp)
  refine ⟨h1, fun x => ?_⟩
  unfold Lib.compact
  rw [h2, ← hm]
  constructor
  · rintro ⟨j, hj, e⟩
    rw [← e, getElem!_pos _ j (by simpa using hj)]
    simp
  · intro hx
    obtain ⟨j, hj, e⟩ := List.getElem_of_mem hx
    exact ⟨j, hj, by rw [getElem!_pos _ j (by simpa using hj)]; simpa using e⟩

theorem mem_cleanRow {n : Nat} {l : List Int} {x : Int} : x ∈ cleanRow n l ↔ x ∈ l ∧ 0 ≤ x ∧ x < (n : Int) := by
  unfold cleanRow
  rw [(compact_sorted _).2, List.mem_filter, isN_iff]
theorem cleanRow_rises (n : Nat) (l : List Int) : (cleanRow n l).Pairwise (· < ·) := (compact_sorted _).1
theorem cleanRow_len (n : Nat) (l : List Int) : (cleanRow n l).length ≤ l.length := by
  unfold cleanRow
  refine Nat.le_trans (Lib.compact_length_le _) ?_
  rw [List.length_mergeSort]
  exact List.length_filter_le _ _
/-- A row that rises and has nodes alone is clean. -/
theorem cleanRow_eq {n : Nat} {l m : List Int} (h : m.Pairwise (· < ·)) (hm : ∀ x, x ∈ m ↔ x ∈ l ∧ 0 ≤ x ∧ x < (n : Int)) : cleanRow n l = m :=
  eq_of_rising _ _ (cleanRow_rises n l) h (fun x => by rw [mem_cleanRow, hm])
theorem clean_len (g : List (List Int)) : (clean g).length = g.length := by simp [clean]
theorem clean_valid {g : List (List Int)} : ∀ l ∈ clean g, ∀ b ∈ l, 0 ≤ b ∧ b < (g.length : Int) := by
  intro l hl b hb
  obtain ⟨r, _, rfl⟩ := List.mem_map.1 hl
  exact (mem_cleanRow.1 hb).2
theorem clean_small {g : List (List Int)} (h : fits g = true) : ∀ l ∈ clean g, l.length ≤ 100000 := by
  intro l hl
  obtain ⟨r, hr, rfl⟩ := List.mem_map.1 hl
  unfold fits at h
  simp only [Bool.and_eq_true, decide_eq_true_eq, List.all_eq_true] at h
  exact Nat.le_trans (cleanRow_len _ _) (h.2 r hr)

/-- What is told from a node; with a bound on the steps. -/
def toldOf (g : List (List Int)) (a : Int) : Option (List Int) := if isN g.length a = true then dfs g 1000000 ((List.replicate g.length false).set a.toNat true) [(a, 0)] [] else some []
theorem toldOf_len {g : List (List Int)} {a : Int} {t : List Int} (h : toldOf g a = some t) : t.length ≤ 1000000 := by
  unfold toldOf at h
  split at h
  · have := dfs_len _ _ _ _ h
    simpa using this
  · obtain rfl := Option.some.inj h
    simp

/-! #### a graph that is turned around -/
def turnStep (a : Int) (o : List (List Int)) (b : Int) : List (List Int) := o.set b.toNat (o.getD b.toNat [] ++ [a])
/-- What is turned around of the first k rows. -/
def turnSo (c : List (List Int)) : Nat → List (List Int)
  | 0 => List.replicate c.length []
  | k + 1 => (c.getD k []).foldl (turnStep (k : Int)) (turnSo c k)
def turn (c : List (List Int)) : List (List Int) := turnSo c c.length
def graph_Turn.f (l0 : List (List Int)) : Option (List (List Int)) := if fits l0 = true then some (turn (clean l0)) else none
theorem turnRow_len (a : Int) (l : List Int) : ∀ o : List (List Int), (l.foldl (turnStep a) o).length = o.length := by
  induction l with
  | nil => intro o; rfl
  | cons b l ih => intro o; rw [List.foldl_cons, ih]; simp [turnStep]
theorem turnSo_len (c : List (List Int)) : ∀ k, (turnSo c k).length = c.length
  | 0 => by simp [turnSo]
  | k + 1 => by rw [turnSo, turnRow_len, turnSo_len c k]
/-- No row is longer than so many steps. -/
def NoLonger (o : List (List Int)) (m : Nat) : Prop := ∀ j : Nat, (o.getD j []).length ≤ m
theorem NoLonger.step {a b : Int} {o : List (List Int)} {m : Nat} (h : NoLonger o m) : NoLonger (turnStep a o b) (m + 1) := by
  intro j
  unfold turnStep
  rw [List.getD_eq_getElem?_getD, List.getElem?_set]
  have hj := h j
  have hb := h b.toNat
  split
  · split
    · rw [Option.getD_some, List.length_append, List.length_singleton]; omega
    · simp
  · rw [← List.getD_eq_getElem?_getD]; omega

/-! #### an edge more, an edge less -/
def insAt (l : List Int) (b : Int) : List Int := l.take (l.countP (fun x => decide (x < b))) ++ b :: l.drop (l.countP (fun x => decide (x < b)))
def withE (c : List (List Int)) (a b : Int) : List (List Int) := if isN c.length a = true ∧ isN c.length b = true ∧ ¬ b ∈ c.getD a.toNat [] then c.set a.toNat (insAt (c.getD a.toNat []) b) else c
def withoutE (c : List (List Int)) (a b : Int) : List (List Int) := if isN c.length a = true then c.set a.toNat ((c.getD a.toNat []).filter fun x => !decide (x = b)) else c
def graph_With.f (l0 : List (List Int)) (a1 a2 : Int) : Option (List (List Int)) := if fits l0 = true then some (withE (clean l0) a1 a2) else none
def graph_Without.f (l0 : List (List Int)) (a1 a2 : Int) : Option (List (List Int)) := if fits l0 = true then some (withoutE (clean l0) a1 a2) else none

def graph_Clean.f (l0 : List (List Int)) : Option (List (List Int)) := if fits l0 = true then some (clean l0) else none
def graph_Order.f (l0 : List (List Int)) (a1 : Int) : Option (List Int) := if fits l0 = true then (toldOf (clean l0) a1).map List.reverse else none
def graph_Reach.f (l0 : List (List Int)) (a1 : Int) : Option (List Bool) := if fits l0 = true then (toldOf (clean l0) a1).map (marks l0.length) else none

/-- Reach, as bools. -/
def reachB (l0 : List (List Int)) (c b : Int) : Bool := ((graph_Reach.f l0 c).getD []).getD b.toNat false
def graph_Path.f (l0 : List (List Int)) (a1 a2 : Int) : Option Bool :=
  if fits l0 = true then
    (if isN l0.length a1 = true ∧ isN l0.length a2 = true then
      (if ((clean l0).getD a1.toNat []).all (fun c => decide ((graph_Reach.f l0 c).isSome = true ∧ ((graph_Reach.f l0 c).getD []).length = l0.length)) = true then some (((clean l0).getD a1.toNat []).any fun c => reachB l0 c a2) else none)
    else some false)
  else none

end Go.Proofs.Ytemcmcnhpdkdfaa.P

/-! Ways in a graph, and what a way down tells: plain laws. -/
namespace Go.Proofs.Ytemcmcnhpdkdfaa.P

def row (g : List (List Int)) (a : Int) : List Int := g.getD a.toNat []
/-- Each follower is a node. -/
def Valid (g : List (List Int)) : Prop := ∀ l ∈ g, ∀ b ∈ l, 0 ≤ b ∧ b < (g.length : Int)
def Node (g : List (List Int)) (a : Int) : Prop := 0 ≤ a ∧ a < (g.length : Int)

theorem row_mem {g : List (List Int)} {a b : Int} (h : b ∈ row g a) : row g a ∈ g := by
  unfold row at h ⊢
  rw [List.getD_eq_getElem?_getD] at h ⊢
  cases hx : g[a.toNat]? with
  | none => rw [hx] at h; simp at h
  | some l => rw [Option.getD_some]; exact List.mem_of_getElem? hx
theorem row_node {g : List (List Int)} (hg : Valid g) {a b : Int} (h : b ∈ row g a) : Node g b := hg _ (row_mem h) _ h

inductive Way (g : List (List Int)) : Int → Int → Prop where
  | refl (a : Int) : Way g a a
  | step {a b c : Int} : b ∈ row g a → Way g b c → Way g a c

theorem Way.trans {g : List (List Int)} {a b c : Int} (h : Way g a b) (k : Way g b c) : Way g a c := by
  induction h with
  | refl => exact k
  | step hb _ ih => exact .step hb (ih k)
theorem Way.edge {g : List (List Int)} {a b : Int} (h : b ∈ row g a) : Way g a b := .step h (.refl _)
theorem Way.node {g : List (List Int)} (hg : Valid g) {a b : Int} (h : Way g a b) (ha : Node g a) : Node g b := by
  induction h with
  | refl => exact ha
  | step hb _ ih => exact ih (row_node hg hb)
/-- What has the first one and all that follow what it has, has all that there is a way to. -/
theorem Way.closed {g : List (List Int)} {P : Int → Prop} (hc : ∀ x y, P x → y ∈ row g x → P y) {a b : Int} (h : Way g a b) (ha : P a) : P b := by
  induction h with
  | refl => exact ha
  | step hb _ ih => exact ih (hc _ _ ha hb)
theorem Way.last {g : List (List Int)} {a c : Int} (h : Way g a c) : a = c ∨ ∃ b, Way g a b ∧ c ∈ row g b := by
  induction h with
  | refl => exact .inl rfl
  | step hb h1 ih =>
    rcases ih with rfl | ⟨d, h2, h3⟩
    · exact .inr ⟨_, .refl _, hb⟩
    · exact .inr ⟨d, .step hb h2, h3⟩

/-- Is a node met? -/
def metB (m : List Bool) (a : Int) : Bool := m.getD a.toNat true
theorem metB_set {m : List Bool} {a b : Int} (hb : 0 ≤ b) (ha : 0 ≤ a) (hl : a < (m.length : Int)) : metB (m.set a.toNat true) b = (metB m b || decide (b = a)) := by
  unfold metB
  rw [List.getD_eq_getElem?_getD, List.getD_eq_getElem?_getD, List.getElem?_set]
  by_cases e : b = a
  · subst e
    rw [if_pos rfl, if_pos (by omega)]
    simp
  · rw [if_neg (by omega)]
    simp [e]

/-- A way down along a list of nodes: what is met ahead of it, and behind it; what is told. -/
inductive Vs (g : List (List Int)) : List Int → List Bool → List Bool → List Int → Prop where
  | nil (m : List Bool) : Vs g [] m m []
  | skip {b : Int} {l : List Int} {m m' : List Bool} {t : List Int} : metB m b = true → Vs g l m m' t → Vs g (b :: l) m m' t
  | go {b : Int} {l : List Int} {m m1 m2 : List Bool} {t1 t2 : List Int} : metB m b = false → Vs g (row g b) (m.set b.toNat true) m1 t1 → Vs g l m1 m2 t2 → Vs g (b :: l) m m2 (t1 ++ b :: t2)

section
variable {g : List (List Int)} {l t : List Int} {m m' : List Bool}

theorem Vs.len (h : Vs g l m m' t) : m'.length = m.length := by
  induction h with
  | nil => rfl
  | skip _ _ ih => exact ih
  | go _ _ _ ih1 ih2 => rw [ih2, ih1, List.length_set]

/-- What is met behind it is what was, and what is told; nothing is told that was met. -/
theorem Vs.met (hg : Valid g) (h : Vs g l m m' t) (hm : m.length = g.length) (hl : ∀ b ∈ l, Node g b) :
    (∀ x, 0 ≤ x → metB m' x = (metB m x || decide (x ∈ t))) ∧ (∀ x ∈ t, metB m x = false ∧ Node g x) ∧ t.Nodup := by
  induction h with
  | nil m => exact ⟨fun x _ => by simp, fun x hx => by simp at hx, List.nodup_nil⟩
  | skip _ _ ih => exact ih hm (fun b hb => hl b (List.mem_cons_of_mem _ hb))
  | @go b l m m1 m2 t1 t2 hb h1 h2 ih1 ih2 =>
    have hbn := hl b List.mem_cons_self
    obtain ⟨a1, a2, a3⟩ := ih1 (by rw [List.length_set]; exact hm) (fun c hc => row_node hg hc)
    obtain ⟨b1, b2, b3⟩ := ih2 (by rw [h1.len, List.length_set]; exact hm) (fun c hc => hl c (List.mem_cons_of_mem _ hc))
    have hset : ∀ x, 0 ≤ x → metB (m.set b.toNat true) x = (metB m x || decide (x = b)) := fun x hx => metB_set hx hbn.1 (by rw [hm]; exact hbn.2)
    have hb1 : ∀ x ∈ t1, metB m x = false ∧ x ≠ b := by
      intro x hx
      have := (a2 x hx).1
      rw [hset x (a2 x hx).2.1] at this
      simpa using this
    have hb2 : ∀ x ∈ t2, metB m x = false ∧ x ≠ b ∧ x ∉ t1 := by
      intro x hx
      have := (b2 x hx).1
      rw [a1 x (b2 x hx).2.1, hset x (b2 x hx).2.1] at this
      simp only [Bool.or_eq_false_iff, decide_eq_false_iff_not] at this
      exact ⟨this.1.1, this.1.2, this.2⟩
    refine ⟨fun x hx => ?_, fun x hx => ?_, ?_⟩
    · rw [b1 x hx, a1 x hx, hset x hx]
      simp only [List.mem_append, List.mem_cons]
      by_cases e1 : x ∈ t1 <;> by_cases e2 : x = b <;> by_cases e3 : x ∈ t2 <;> simp [e1, e2, e3]
    · rw [List.mem_append, List.mem_cons] at hx
      rcases hx with hx | rfl | hx
      · exact ⟨(hb1 x hx).1, (a2 x hx).2⟩
      · exact ⟨hb, hbn⟩
      · exact ⟨(hb2 x hx).1, (b2 x hx).2⟩
    · rw [List.nodup_append]
      refine ⟨a3, List.nodup_cons.2 ⟨fun hx => (hb2 b hx).2.1 rfl, b3⟩, fun x hx y hy => ?_⟩
      rcases List.mem_cons.1 hy with rfl | hy
      · exact (hb1 x hx).2
      · rintro rfl
        exact (hb2 x hy).2.2 hx

/-- All of the list is met behind it; so is all that follows what is told. -/
theorem Vs.all (hg : Valid g) (h : Vs g l m m' t) (hm : m.length = g.length) (hl : ∀ b ∈ l, Node g b) :
    (∀ b ∈ l, metB m' b = true) ∧ ∀ x ∈ t, ∀ y ∈ row g x, metB m' y = true := by
  induction h with
  | nil m => exact ⟨fun b hb => by simp at hb, fun x hx => by simp at hx⟩
  | @skip b l m m' t hb h1 ih =>
    obtain ⟨a1, a2⟩ := ih hm (fun b hb => hl b (List.mem_cons_of_mem _ hb))
    refine ⟨fun c hc => ?_, a2⟩
    rcases List.mem_cons.1 hc with rfl | hc
    · rw [(h1.met hg hm (fun b hb => hl b (List.mem_cons_of_mem _ hb))).1 c (hl c List.mem_cons_self).1, hb]
      rfl
    · exact a1 c hc
  | @go b l m m1 m2 t1 t2 hb h1 h2 ih1 ih2 =>
    have hbn := hl b List.mem_cons_self
    have hm1 : m1.length = g.length := by rw [h1.len, List.length_set]; exact hm
    have hms : (m.set b.toNat true).length = g.length := by rw [List.length_set]; exact hm
    have hl2 : ∀ c ∈ l, Node g c := fun c hc => hl c (List.mem_cons_of_mem _ hc)
    obtain ⟨a1, a2⟩ := ih1 hms (fun c hc => row_node hg hc)
    obtain ⟨b1, b2⟩ := ih2 hm1 hl2
    have k1 := (h1.met hg hms (fun c hc => row_node hg hc)).1
    have k2 := (h2.met hg hm1 hl2).1
    have up : ∀ y, 0 ≤ y → metB m1 y = true → metB m2 y = true := fun y hy e => by rw [k2 y hy, e]; rfl
    have hbm : metB m1 b = true := by
      rw [k1 b hbn.1, metB_set hbn.1 hbn.1 (by rw [hm]; exact hbn.2)]
      simp
    refine ⟨fun c hc => ?_, fun x hx y hy => ?_⟩
    · rcases List.mem_cons.1 hc with rfl | hc
      · exact up c hbn.1 hbm
      · exact b1 c hc
    · rw [List.mem_append, List.mem_cons] at hx
      rcases hx with hx | rfl | hx
      · exact up y (row_node hg hy).1 (a2 x hx y hy)
      · exact up y (row_node hg hy).1 (a1 y hy)
      · exact b2 x hx y hy

/-- What is told there is a way to. -/
theorem Vs.way (h : Vs g l m m' t) : ∀ x ∈ t, ∃ b ∈ l, Way g b x := by
  induction h with
  | nil m => intro x hx; simp at hx
  | skip _ _ ih =>
    intro x hx
    obtain ⟨b, hb, hw⟩ := ih x hx
    exact ⟨b, List.mem_cons_of_mem _ hb, hw⟩
  | @go b l m m1 m2 t1 t2 hb h1 h2 ih1 ih2 =>
    intro x hx
    rw [List.mem_append, List.mem_cons] at hx
    rcases hx with hx | rfl | hx
    · obtain ⟨c, hc, hw⟩ := ih1 x hx
      exact ⟨b, List.mem_cons_self, .step hc hw⟩
    · exact ⟨x, List.mem_cons_self, .refl _⟩
    · obtain ⟨c, hc, hw⟩ := ih2 x hx
      exact ⟨c, List.mem_cons_of_mem _ hc, hw⟩

/-- Of what is told, what follows one and is told no earlier has a way to it. -/
theorem Vs.back (hg : Valid g) (h : Vs g l m m' t) (hm : m.length = g.length) (hl : ∀ b ∈ l, Node g b) : ∀ t1 x t2, t = t1 ++ x :: t2 → ∀ y ∈ row g x, y = x ∨ y ∈ t2 → Way g y x := by
  induction h with
  | nil m => intro t1 x t2 e; simp at e
  | skip _ _ ih => exact ih hm (fun b hb => hl b (List.mem_cons_of_mem _ hb))
  | @go b l m m1 m2 s1 s2 hb h1 h2 ih1 ih2 =>
    intro t1 x t2 e y hy hxy
    have hbn := hl b List.mem_cons_self
    have hms : (m.set b.toNat true).length = g.length := by rw [List.length_set]; exact hm
    have hm1 : m1.length = g.length := by rw [h1.len]; exact hms
    have hl2 : ∀ c ∈ l, Node g c := fun c hc => hl c (List.mem_cons_of_mem _ hc)
    rcases hxy with rfl | hxy
    · exact .refl _
    -- where x stands
    rcases List.append_eq_append_iff.1 e with ⟨a', e1, e2⟩ | ⟨c', e1, e2⟩
    · -- t1 = s1 ++ a'
      cases a' with
      | nil =>
        simp only [List.nil_append, List.cons.injEq] at e2
        obtain ⟨rfl, rfl⟩ := e2
        -- x = b: y ∈ s2, but y was met when s2 began
        have hy1 : metB m1 y = true := (h1.all hg hms (fun c hc => row_node hg hc)).1 y hy
        have := ((h2.met hg hm1 hl2).2.1 y hxy).1
        rw [hy1] at this
        cases this
      | cons z a' =>
        simp only [List.cons_append, List.cons.injEq] at e2
        obtain ⟨rfl, e2⟩ := e2
        exact ih2 hm1 hl2 a' x t2 e2 y hy (.inr hxy)
    · -- s1 = t1 ++ c'
      cases c' with
      | nil =>
        simp only [List.nil_append, List.cons.injEq] at e2
        obtain ⟨rfl, rfl⟩ := e2
        have hy1 : metB m1 y = true := (h1.all hg hms (fun c hc => row_node hg hc)).1 y hy
        have := ((h2.met hg hm1 hl2).2.1 y hxy).1
        rw [hy1] at this
        cases this
      | cons z c' =>
        simp only [List.cons_append, List.cons.injEq] at e2
        obtain ⟨rfl, rfl⟩ := e2
        rw [List.mem_append, List.mem_cons] at hxy
        have hxs : x ∈ s1 := by rw [e1]; simp
        rcases hxy with hxy | rfl | hxy
        · exact ih1 hms (fun c hc => row_node hg hc) t1 x c' e1 y hy (.inr hxy)
        · obtain ⟨c, hc, hw⟩ := h1.way x hxs
          exact .step hc hw
        · have hy1 : metB m1 y = true := (h1.all hg hms (fun c hc => row_node hg hc)).2 x hxs y hy
          have := ((h2.met hg hm1 hl2).2.1 y hxy).1
          rw [hy1] at this
          cases this
end

theorem metB_set_self (m : List Bool) (b : Int) : metB (m.set b.toNat true) b = true := by
  unfold metB
  rw [List.getD_eq_getElem?_getD, List.getElem?_set, if_pos rfl]
  split <;> rfl
theorem metB_set_of {m : List Bool} {b x : Int} (h : metB m x = true) : metB (m.set b.toNat true) x = true := by
  unfold metB at *
  rw [List.getD_eq_getElem?_getD, List.getElem?_set]
  split
  · split <;> rfl
  · rw [← List.getD_eq_getElem?_getD]
    exact h
theorem Vs.keeps {g : List (List Int)} {l t : List Int} {m m' : List Bool} (h : Vs g l m m' t) {x : Int} (hx : metB m x = true) : metB m' x = true := by
  induction h with
  | nil => exact hx
  | skip _ _ ih => exact ih hx
  | go _ _ _ ih1 ih2 => exact ih2 (ih1 (metB_set_of hx))

/-- How many steps it takes. -/
def cost (g : List (List Int)) (t : List Int) : Nat := (t.map fun b => (row g b).length + 2).sum
theorem cost_app (g : List (List Int)) (s t : List Int) : cost g (s ++ t) = cost g s + cost g t := by simp [cost]
theorem cost_cons (g : List (List Int)) (b : Int) (t : List Int) : cost g (b :: t) = (row g b).length + 2 + cost g t := by simp [cost]

theorem Vs.dfs {g : List (List Int)} {l t : List Int} {m m' : List Bool} (h : Vs g l m m' t) : ∀ (a : Int) (i : Nat) (st : List (Int × Int)) (tl : List Int), (row g a).drop i = l → ∀ k, dfs g (k + (l.length + 1 + cost g t)) m ((a, (i : Int)) :: st) tl = dfs g k m' st (tl ++ t ++ [a]) := by
  induction h with
  | nil m =>
    intro a i st tl hl k
    have hi : (row g a).length ≤ i := by
      have := congrArg List.length hl
      rw [List.length_drop, List.length_nil] at this
      omega
    rw [show k + (([] : List Int).length + 1 + cost g []) = k + 1 by simp [cost], P.dfs, if_neg (by show ¬ (i : Int) < ((row g a).length : Int); omega), List.append_nil]
  | @skip b l m m' t hb h1 ih =>
    intro a i st tl hl k
    have hi : i < (row g a).length := by
      rcases Nat.lt_or_ge i (row g a).length with h | h
      · exact h
      · rw [List.drop_eq_nil_of_le h] at hl; cases hl
    have hd := List.drop_eq_getElem_cons hi
    rw [hl] at hd
    injection hd with hd1 hd2
    have hg : (row g a).getD (i : Int).toNat 0 = b := by
      rw [Int.toNat_natCast, List.getD_eq_getElem?_getD, List.getElem?_eq_getElem hi, hd1]
      rfl
    rw [show k + ((b :: l).length + 1 + cost g t) = (k + (l.length + 1 + cost g t)) + 1 by simp; omega, P.dfs, if_pos (by show (i : Int) < ((row g a).length : Int); omega)]
    show (if metB m ((row g a).getD (i : Int).toNat 0) = true then _ else _) = _
    rw [hg, if_pos hb]
    exact ih a (i + 1) st tl hd2.symm k
  | @go b l m m1 m2 t1 t2 hb h1 h2 ih1 ih2 =>
    intro a i st tl hl k
    have hi : i < (row g a).length := by
      rcases Nat.lt_or_ge i (row g a).length with h | h
      · exact h
      · rw [List.drop_eq_nil_of_le h] at hl; cases hl
    have hd := List.drop_eq_getElem_cons hi
    rw [hl] at hd
    injection hd with hd1 hd2
    have hg : (row g a).getD (i : Int).toNat 0 = b := by
      rw [Int.toNat_natCast, List.getD_eq_getElem?_getD, List.getElem?_eq_getElem hi, hd1]
      rfl
    have hbm : metB m1 b = true := h1.keeps (metB_set_self m b)
    rw [show k + ((b :: l).length + 1 + cost g (t1 ++ b :: t2)) = ((k + (l.length + 1 + cost g t2)) + 1 + ((row g b).length + 1 + cost g t1)) + 1 by rw [cost_app, cost_cons]; simp; omega, P.dfs, if_pos (by show (i : Int) < ((row g a).length : Int); omega)]
    show (if metB m ((row g a).getD (i : Int).toNat 0) = true then _ else P.dfs g _ (m.set ((row g a).getD (i : Int).toNat 0).toNat true) (((row g a).getD (i : Int).toNat 0, 0) :: (a, (i : Int)) :: st) tl) = _
    rw [hg, if_neg (by rw [hb]; simp)]
    have e1 := ih1 b 0 ((a, (i : Int)) :: st) tl (by simp) ((k + (l.length + 1 + cost g t2)) + 1)
    rw [show ((0 : Nat) : Int) = 0 from rfl] at e1
    rw [e1, P.dfs, if_pos (by show (i : Int) < ((row g a).length : Int); omega)]
    show (if metB m1 ((row g a).getD (i : Int).toNat 0) = true then _ else _) = _
    rw [hg, if_pos hbm]
    have e2 := ih2 a (i + 1) st (tl ++ t1 ++ [b]) hd2.symm k
    rw [show ((i : Int) + 1) = ((i + 1 : Nat) : Int) by omega, e2]
    simp

theorem count_set {m : List Bool} {b : Int} (h : metB m b = false) : (m.set b.toNat true).count false + 1 = m.count false := by
  unfold metB at h
  rw [List.getD_eq_getElem?_getD] at h
  have hlt : b.toNat < m.length := by
    rcases Nat.lt_or_ge b.toNat m.length with h1 | h1
    · exact h1
    · rw [List.getElem?_eq_none h1] at h; simp at h
  rw [List.getElem?_eq_getElem hlt, Option.getD_some] at h
  rw [List.count_set hlt, h]
  have : 0 < m.count false := List.count_pos_iff.2 (by rw [← h]; exact List.getElem_mem hlt)
  simp
  omega
theorem Vs.count {g : List (List Int)} {l t : List Int} {m m' : List Bool} (h : Vs g l m m' t) : m'.count false ≤ m.count false := by
  induction h with
  | nil => exact Nat.le_refl _
  | skip _ _ ih => exact ih
  | go hb _ _ ih1 ih2 => have := count_set hb; omega

theorem Vs.exists {g : List (List Int)} : ∀ (n : Nat) (l : List Int) (m : List Bool), m.count false ≤ n → ∃ m' t, Vs g l m m' t := by
  intro n
  induction n with
  | zero =>
    intro l
    induction l with
    | nil => intro m _; exact ⟨m, [], .nil m⟩
    | cons b l ih =>
      intro m hm
      have hb : metB m b = true := by
        rcases Bool.eq_false_or_eq_true (metB m b) with h | h
        · exact h
        · have := count_set h; omega
      obtain ⟨m', t, h⟩ := ih m hm
      exact ⟨m', t, .skip hb h⟩
  | succ n ihn =>
    intro l
    induction l with
    | nil => intro m _; exact ⟨m, [], .nil m⟩
    | cons b l ih =>
      intro m hm
      rcases Bool.eq_false_or_eq_true (metB m b) with hb | hb
      · obtain ⟨m', t, h⟩ := ih m hm
        exact ⟨m', t, .skip hb h⟩
      · have hc := count_set hb
        obtain ⟨m1, t1, h1⟩ := ihn (row g b) (m.set b.toNat true) (by omega)
        have := h1.count
        obtain ⟨m2, t2, h2⟩ := ih m1 (by omega)
        exact ⟨m2, _, .go hb h1 h2⟩

/-- A list of nodes, each once, is no longer than the graph. -/
theorem length_le_of_subset {α : Type} [DecidableEq α] : ∀ (t l : List α), t.Nodup → (∀ x ∈ t, x ∈ l) → t.length ≤ l.length
  | [], _, _, _ => Nat.zero_le _
  | x :: t, l, hn, hs => by
    rw [List.nodup_cons] at hn
    have hx := hs x List.mem_cons_self
    have := length_le_of_subset t (l.erase x) hn.2 (fun y hy => by
      rw [List.mem_erase_of_ne (by rintro rfl; exact hn.1 hy)]
      exact hs y (List.mem_cons_of_mem _ hy))
    rw [List.length_erase_of_mem hx] at this
    have : 0 < l.length := List.length_pos_of_mem hx
    simp only [List.length_cons]
    omega
def nodes (n : Nat) : List Int := (List.range n).map fun i : Nat => (i : Int)
theorem mem_nodes {n : Nat} {x : Int} : x ∈ nodes n ↔ 0 ≤ x ∧ x < (n : Int) := by
  unfold nodes
  rw [List.mem_map]
  constructor
  · rintro ⟨i, hi, rfl⟩
    rw [List.mem_range] at hi
    omega
  · intro h
    exact ⟨x.toNat, List.mem_range.2 (by omega), by omega⟩
theorem nodes_len (n : Nat) : (nodes n).length = n := by simp [nodes]
theorem few_nodes {n : Nat} {t : List Int} (hn : t.Nodup) (ht : ∀ x ∈ t, 0 ≤ x ∧ x < (n : Int)) : t.length ≤ n := by
  have := length_le_of_subset t (nodes n) hn (fun x hx => mem_nodes.2 (ht x hx))
  rwa [nodes_len] at this
theorem cost_le (g : List (List Int)) (L : Nat) (hL : ∀ l ∈ g, l.length ≤ L) : ∀ t : List Int, cost g t ≤ t.length * (L + 2)
  | [] => by simp [cost]
  | b :: t => by
    have h := cost_le g L hL t
    rw [cost_cons, List.length_cons, Nat.succ_mul]
    have : (row g b).length ≤ L := by
      unfold row
      rw [List.getD_eq_getElem?_getD]
      cases hx : g[b.toNat]? with
      | none => simp
      | some l => rw [Option.getD_some]; exact hL l (List.mem_of_getElem? hx)
    omega

/-- WHAT IS TOLD FROM A NODE: just what there is a way to, each once; the last one is the node; what follows one and is told no earlier has a way to it. -/
theorem told_spec {g : List (List Int)} (hg : Valid g) (hn : g.length ≤ 900) (hL : ∀ l ∈ g, l.length ≤ 900) {a : Int} (ha : Node g a) :
    ∃ t, toldOf g a = some (t ++ [a]) ∧ (∀ x, x ∈ t ++ [a] ↔ Way g a x) ∧ (t ++ [a]).Nodup ∧ (∀ x ∈ t ++ [a], Node g x) ∧
      (∀ t1 x t2, t ++ [a] = t1 ++ x :: t2 → ∀ y ∈ row g x, y = x ∨ y ∈ t2 → Way g y x) ∧ ∃ m', Vs g [a] (List.replicate g.length false) m' (t ++ [a]) := by
  obtain ⟨m0, hm0⟩ : ∃ m0, m0 = List.replicate g.length false := ⟨_, rfl⟩
  have hl0 : m0.length = g.length := by rw [hm0, List.length_replicate]
  have hun : ∀ x, Node g x → metB m0 x = false := by
    intro x hx
    unfold metB
    rw [hm0, List.getD_eq_getElem?_getD, List.getElem?_replicate, if_pos (by have := hx.1; have := hx.2; omega)]
    rfl
  obtain ⟨m1, t, h⟩ := Vs.exists (g := g) _ (row g a) (m0.set a.toNat true) (Nat.le_refl _)
  have hV : Vs g [a] m0 m1 (t ++ [a]) := .go (hun a ha) h (.nil _)
  have hls : ∀ b ∈ [a], Node g b := fun b hb => by obtain rfl := List.mem_singleton.1 hb; exact ha
  obtain ⟨p1, p2, p3⟩ := hV.met hg hl0 hls
  obtain ⟨q1, q2⟩ := hV.all hg hl0 hls
  have hmem : ∀ x, x ∈ t ++ [a] ↔ Way g a x := by
    intro x
    constructor
    · intro hx
      obtain ⟨b, hb, hw⟩ := hV.way x hx
      obtain rfl := List.mem_singleton.1 hb
      exact hw
    · intro hw
      refine (hw.closed (P := fun x => x ∈ t ++ [a]) (fun x y hx hy => ?_) (by simp))
      have h1 := q2 x hx y hy
      have hyn := row_node hg hy
      rw [p1 y hyn.1, hun y hyn] at h1
      simpa using h1
  refine ⟨t, ?_, hmem, p3, fun x hx => (p2 x hx).2, hV.back hg hl0 hls, m1, by rw [← hm0]; exact hV⟩
  unfold toldOf
  rw [if_pos (isN_yes ha.1 ha.2), ← hm0]
  have hc : (row g a).length + 1 + cost g t ≤ 999999 := by
    have h1 := cost_le g 900 hL t
    have h2 : t.length ≤ g.length := few_nodes (List.nodup_append.1 p3).1 (fun x hx => (p2 x (by simp [hx])).2)
    have h3 : t.length * (900 + 2) ≤ 900 * (900 + 2) := Nat.mul_le_mul_right _ (by omega)
    have h4 : (row g a).length ≤ 900 := by
      unfold row
      rw [List.getD_eq_getElem?_getD]
      cases hx : g[a.toNat]? with
      | none => simp
      | some l => rw [Option.getD_some]; exact hL l (List.mem_of_getElem? hx)
    omega
  obtain ⟨k, hk⟩ : ∃ k, 1000000 = (k + 1) + ((row g a).length + 1 + cost g t) := ⟨999999 - ((row g a).length + 1 + cost g t), by omega⟩
  have e := h.dfs a 0 [] [] (by simp) (k + 1)
  rw [← hk, show ((0 : Nat) : Int) = 0 from rfl] at e
  rw [e, P.dfs]
  rfl

theorem told_none {g : List (List Int)} {a : Int} (ha : ¬ Node g a) : toldOf g a = some [] := by
  unfold toldOf
  rw [if_neg (by rw [isN_iff]; exact ha)]

end Go.Proofs.Ytemcmcnhpdkdfaa.P
