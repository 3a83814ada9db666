/- Graphs as lists of lists: what is cleaned, and what a way down tells: the words that the contracts and the plain laws share. -/
import Derived.Lib.SlicesCompact
import Derived.Lib.RowBridge
namespace Go.Proofs.Ytnhcimhdkdgccaa.P

/-- Is a number a node? -/
def isN (n : Nat) (b : Int) : Bool := decide (0 ≤ b ∧ b < (n : Int))
/-- A row, cleaned. -/
def cleanRow (n : Nat) (l : List Int) : List Int := Lib.compact ((l.filter fun b => isN n b).mergeSort fun x y => decide (x ≤ y))
/-- A graph, cleaned. -/
def clean (g : List (List Int)) : List (List Int) := g.map (cleanRow g.length)
/-- A graph that is no greater than this. -/
def fits (g : List (List Int)) : Bool := decide (g.length ≤ 100000) && g.all fun l => decide (l.length ≤ 100000)
/-- The rows cleaned so far; the others are nil still. -/
def cleanSo (g : List (List Int)) (k : Nat) : List (List Int) := (clean g).take k ++ List.replicate (g.length - k) []
theorem cleanSo_zero (g : List (List Int)) : cleanSo g 0 = List.replicate g.length [] := by simp [cleanSo]
theorem cleanSo_all (g : List (List Int)) : cleanSo g g.length = clean g := by
  unfold cleanSo
  rw [List.take_of_length_le (by simp [clean]), Nat.sub_self, List.replicate_zero, List.append_nil]
theorem cleanSo_len (g : List (List Int)) (k : Nat) (h : k ≤ g.length) : (cleanSo g k).length = g.length := by
  simp [cleanSo, clean]; omega
theorem cleanSo_succ (g : List (List Int)) (k : Nat) (h : k < g.length) : (cleanSo g k).set k (cleanRow g.length g[k]) = cleanSo g (k + 1) := by
  have hl : ((clean g).take k).length = k := by simp [clean]; omega
  unfold cleanSo
  rw [List.set_append_right _ _ (by omega), hl, Nat.sub_self, show g.length - k = (g.length - (k + 1)) + 1 by omega, List.replicate_succ, List.set_cons_zero, List.take_succ_eq_append_getElem (by simp [clean]; omega), List.append_assoc]
  simp [clean]

theorem isN_yes {n : Nat} {x : Int} (h0 : 0 ≤ x) (h1 : x < (n : Int)) : isN n x = true := by unfold isN; simp [h0, h1]
theorem isN_no {n : Nat} {x : Int} (h : ¬ (0 ≤ x ∧ x < (n : Int))) : isN n x = false := by unfold isN; exact decide_eq_false h
theorem isN_iff {n : Nat} {x : Int} : isN n x = true ↔ 0 ≤ x ∧ x < (n : Int) := by unfold isN; exact decide_eq_true_iff

theorem fits_row {g : List (List Int)} (h : fits g = true) {k : Nat} (hk : k < g.length) : g[k].length ≤ 100000 := by
  unfold fits at h
  simp only [Bool.and_eq_true, decide_eq_true_eq, List.all_eq_true] at h
  exact h.2 _ (List.getElem_mem hk)
/-- What is told: nodes met, those on the way down (the last one first) with the follower that is next, those told. -/
def dfs (g : List (List Int)) : Nat → List Bool → List (Int × Int) → List Int → Option (List Int)
  | 0, _, _, _ => none
  | _ + 1, _, [], told => some told
  | k + 1, met, (a, i) :: st, told =>
    if i < ((g.getD a.toNat []).length : Int) then
      (if met.getD ((g.getD a.toNat []).getD i.toNat 0).toNat true = true then dfs g k met ((a, i + 1) :: st) told
       else dfs g k (met.set ((g.getD a.toNat []).getD i.toNat 0).toNat true) (((g.getD a.toNat []).getD i.toNat 0, 0) :: (a, i) :: st) told)
    else dfs g k met st (told ++ [a])

section
variable {g : List (List Int)} {told : List Int} {kq : Nat} {met : List Bool} {st : List (Int × Int)} {tl : List Int} {a ii b : Int}
theorem dfs_len : ∀ (k : Nat) (met : List Bool) (st : List (Int × Int)) (tl : List Int), dfs g k met st tl = some told → told.length ≤ tl.length + k
  | 0, _, _, _, h => by simp [dfs] at h
  | k + 1, met, [], tl, h => by
    rw [dfs] at h
    obtain rfl := Option.some.inj h
    omega
  | k + 1, met, (a, i) :: st, tl, h => by
    rw [dfs] at h
    split at h
    · split at h
      · have := dfs_len k _ _ _ h; omega
      · have := dfs_len k _ _ _ h; omega
    · have := dfs_len k _ _ _ h
      rw [List.length_append, List.length_singleton] at this
      omega
theorem dfs_push (h : dfs g (kq + 1) met ((a, ii) :: st) tl = some told) (hl : ii < ((g.getD a.toNat []).length : Int)) (hb : b = (g.getD a.toNat []).getD ii.toNat 0) (hm : met.getD b.toNat true = false) : dfs g kq (met.set b.toNat true) ((b, 0) :: (a, ii) :: st) tl = some told := by
  rw [dfs, if_pos hl, ← hb, if_neg (by rw [hm]; simp)] at h
  exact h
theorem dfs_skip (h : dfs g (kq + 1) met ((a, ii) :: st) tl = some told) (hl : ii < ((g.getD a.toNat []).length : Int)) (hb : b = (g.getD a.toNat []).getD ii.toNat 0) (hm : met.getD b.toNat true = true) : dfs g kq met ((a, ii + 1) :: st) tl = some told := by
  rw [dfs, if_pos hl, ← hb, if_pos hm] at h
  exact h
theorem dfs_pop (h : dfs g (kq + 1) met ((a, ii) :: st) tl = some told) (hl : ¬ ii < ((g.getD a.toNat []).length : Int)) : dfs g kq met st (tl ++ [a]) = some told := by
  rw [dfs, if_neg hl] at h
  exact h

end

/-- The bools of those that are told. -/
def marks (n : Nat) (l : List Int) : List Bool := l.foldl (fun m a => m.set a.toNat true) (List.replicate n false)
theorem foldl_set_len (l : List Int) (m : List Bool) : (l.foldl (fun m a => m.set a.toNat true) m).length = m.length := by
  induction l generalizing m with
  | nil => rfl
  | cons a l ih => rw [List.foldl_cons, ih, List.length_set]
theorem marks_len (n : Nat) (l : List Int) : (marks n l).length = n := by
  unfold marks
  rw [foldl_set_len, List.length_replicate]

/-! #### a row that is cleaned: each node that is in it, once, in order -/
/-- Two lists that rise strictly and have the same numbers are one. -/
theorem eq_of_rising : ∀ (a b : List Int), a.Pairwise (· < ·) → b.Pairwise (· < ·) → (∀ x, x ∈ a ↔ x ∈ b) → a = b
  | [], [], _, _, _ => rfl
  | [], y :: b, _, _, h => absurd ((h y).2 List.mem_cons_self) (by simp)
  | x :: a, [], _, _, h => absurd ((h x).1 List.mem_cons_self) (by simp)
  | x :: a, y :: b, ha, hb, h => by
    rw [List.pairwise_cons] at ha hb
    have hxy : x = y := by
      rcases List.mem_cons.1 ((h x).1 List.mem_cons_self) with e | e
      · exact e
      · rcases List.mem_cons.1 ((h y).2 List.mem_cons_self) with e' | e'
        · exact e'.symm
        · have := hb.1 x e
          have := ha.1 y e'
          omega
    subst hxy
    congr 1
    refine eq_of_rising a b ha.2 hb.2 (fun z => ⟨fun hz => ?_, fun hz => ?_⟩)
    · rcases List.mem_cons.1 ((h z).1 (List.mem_cons_of_mem _ hz)) with e | e
      · subst e
        exact absurd (ha.1 _ hz) (by omega)
      · exact e
    · rcases List.mem_cons.1 ((h z).2 (List.mem_cons_of_mem _ hz)) with e | e
      · subst e
        exact absurd (hb.1 _ hz) (by omega)
      · exact e

theorem compactUpTo_rises (d : Array Int) (hs : ∀ i j, i ≤ j → j < d.size → d[i]! ≤ d[j]!) : ∀ m, m ≤ d.size →
    (Lib.compactUpTo d m).Pairwise (· < ·) ∧ (∀ x, x ∈ Lib.compactUpTo d m ↔ ∃ j, j < m ∧ d[j]! = x)
  | 0, _ => ⟨by simp [Lib.compactUpTo], fun x => ⟨fun h => by simp [Lib.compactUpTo] at h, fun ⟨j, h, _⟩ => by omega⟩⟩
  | m + 1, hm => by
    obtain ⟨h1, h2⟩ := compactUpTo_rises d hs m (by omega)
    rw [Lib.compactUpTo_succ]
    by_cases hk : Lib.keeps d m = true
    · rw [if_pos hk]
      have hk' : m = 0 ∨ d[m]! ≠ d[m - 1]! := by simpa [Lib.keeps] using hk
      refine ⟨List.pairwise_append.2 ⟨h1, by simp, fun x hx y hy => ?_⟩, fun x => ?_⟩
      · obtain rfl := List.mem_singleton.1 hy
        obtain ⟨j, hj, rfl⟩ := (h2 x).1 hx
        have a1 := hs j (m - 1) (by omega) (by omega)
        have a2 := hs (m - 1) m (by omega) (by omega)
        rcases hk' with e | e
        · omega
        · omega
      · rw [List.mem_append, List.mem_singleton, h2]
        constructor
        · rintro (⟨j, hj, e⟩ | e)
          · exact ⟨j, by omega, e⟩
          · exact ⟨m, by omega, e.symm⟩
        · rintro ⟨j, hj, e⟩
          rcases Nat.lt_or_ge j m with h | h
          · exact .inl ⟨j, h, e⟩
          · exact .inr (by rw [← e, show j = m by omega])
    · rw [if_neg hk, List.append_nil]
      have hk' : m ≠ 0 ∧ d[m]! = d[m - 1]! := by
        have : ¬ (m = 0 ∨ d[m]! ≠ d[m - 1]!) := by simpa [Lib.keeps] using hk
        omega
      refine ⟨h1, fun x => ?_⟩
      rw [h2]
      constructor
      · rintro ⟨j, hj, e⟩
        exact ⟨j, by omega, e⟩
      · rintro ⟨j, hj, e⟩
        rcases Nat.lt_or_ge j m with h | h
        · exact ⟨j, h, e⟩
        · exact ⟨m - 1, by omega, by rw [← hk'.2, ← e, show j = m by omega]⟩

theorem compact_sorted (zs : List Int) : (Lib.compact (zs.mergeSort fun x y => decide (x ≤ y))).Pairwise (· < ·) ∧ ∀ x, x ∈ Lib.compact (zs.mergeSort fun x y => decide (x ≤ y)) ↔ x ∈ zs := by
  obtain ⟨ys, hy⟩ : ∃ ys, ys = zs.mergeSort fun x y => decide (x ≤ y) := ⟨_, rfl⟩
  have hp : ys.Pairwise (· ≤ ·) := by
    rw [hy]
    have := List.pairwise_mergeSort (le := fun x y : Int => decide (x ≤ y)) (fun a b c => by simp; omega) (fun a b => by simp; omega) zs
    exact this.imp (by simp)
  have hm : ∀ x, x ∈ ys ↔ x ∈ zs := fun x => by rw [hy, List.mem_mergeSort]
  rw [← hy]
  have hs : ∀ i j, i ≤ j → j < ys.toArray.size → ys.toArray[i]! ≤ ys.toArray[j]! := by
    intro i j hij hj
    have hj' : j < ys.length := by simpa using hj
    rw [getElem!_pos _ i (by simp; omega), getElem!_pos _ j hj]
    simp only [List.getElem_toArray]
    rcases Nat.lt_or_ge i j with h | h
    · exact List.pairwise_iff_getElem.1 hp i j (by omega) hj' h
    · obtain rfl : i = j := by omega
      exact Int.le_refl _
  obtain ⟨h1, h2⟩ := compactUpTo_rises ys.toArray hs ys.length (by simp)
  refine ⟨h1, fun x => ?_⟩
  unfold Lib.compact
  rw [h2, ← hm]
  constructor
  · rintro ⟨j, hj, e⟩
    rw [← e, getElem!_pos _ j (by simpa using hj)]
    simp
  · intro hx
    obtain ⟨j, hj, e⟩ := List.getElem_of_mem hx
    exact ⟨j, hj, by rw [getElem!_pos _ j (by simpa using hj)]; simpa using e⟩

theorem mem_cleanRow {n : Nat} {l : List Int} {x : Int} : x ∈ cleanRow n l ↔ x ∈ l ∧ 0 ≤ x ∧ x < (n : Int) := by
  unfold cleanRow
  rw [(compact_sorted _).2, List.mem_filter, isN_iff]
theorem cleanRow_rises (n : Nat) (l : List Int) : (cleanRow n l).Pairwise (· < ·) := (compact_sorted _).1
theorem cleanRow_len (n : Nat) (l : List Int) : (cleanRow n l).length ≤ l.length := by
  unfold cleanRow
  refine Nat.le_trans (Lib.compact_length_le _) ?_
  rw [List.length_mergeSort]
  exact List.length_filter_le _ _
/-- A row that rises and has nodes alone is clean. -/
theorem cleanRow_eq {n : Nat} {l m : List Int} (h : m.Pairwise (· < ·)) (hm : ∀ x, x ∈ m ↔ x ∈ l ∧ 0 ≤ x ∧ x < (n : Int)) : cleanRow n l = m :=
  eq_of_rising _ _ (cleanRow_rises n l) h (fun x => by rw [mem_cleanRow, hm])
theorem clean_len (g : List (List Int)) : (clean g).length = g.length := by simp [clean]
theorem clean_valid {g : List (List Int)} : ∀ l ∈ clean g, ∀ b ∈ l, 0 ≤ b ∧ b < (g.length : Int) := by
  intro l hl b hb
  obtain ⟨r, _, rfl⟩ := List.mem_map.1 hl
  exact (mem_cleanRow.1 hb).2
theorem clean_small {g : List (List Int)} (h : fits g = true) : ∀ l ∈ clean g, l.length ≤ 100000 := by
  intro l hl
  obtain ⟨r, hr, rfl⟩ := List.mem_map.1 hl
  unfold fits at h
  simp only [Bool.and_eq_true, decide_eq_true_eq, List.all_eq_true] at h
  exact Nat.le_trans (cleanRow_len _ _) (h.2 r hr)

/-- What is told from a node; with a bound on the steps. -/
def toldOf (g : List (List Int)) (a : Int) : Option (List Int) := if isN g.length a = true then dfs g 1000000 ((List.replicate g.length false).set a.toNat true) [(a, 0)] [] else some []
theorem toldOf_len {g : List (List Int)} {a : Int} {t : List Int} (h : toldOf g a = some t) : t.length ≤ 1000000 := by
  unfold toldOf at h
  split at h
  · have := dfs_len _ _ _ _ h
    simpa using this
  · obtain rfl := Option.some.inj h
    simp

/-! #### a graph that is turned around -/
def turnStep (a : Int) (o : List (List Int)) (b : Int) : List (List Int) := o.set b.toNat (o.getD b.toNat [] ++ [a])
/-- What is turned around of the first k rows. -/
def turnSo (c : List (List Int)) : Nat → List (List Int)
  | 0 => List.replicate c.length []
  | k + 1 => (c.getD k []).foldl (turnStep (k : Int)) (turnSo c k)
def turn (c : List (List Int)) : List (List Int) := turnSo c c.length
def graph_Turn.f (l0 : List (List Int)) : Option (List (List Int)) := if fits l0 = true then some (turn (clean l0)) else none
theorem turnRow_len (a : Int) (l : List Int) : ∀ o : List (List Int), (l.foldl (turnStep a) o).length = o.length := by
  induction l with
  | nil => intro o; rfl
  | cons b l ih => intro o; rw [List.foldl_cons, ih]; simp [turnStep]
theorem turnSo_len (c : List (List Int)) : ∀ k, (turnSo c k).length = c.length
  | 0 => by simp [turnSo]
  | k + 1 => by rw [turnSo, turnRow_len, turnSo_len c k]
/-- No row is longer than so many steps. -/
def NoLonger (o : List (List Int)) (m : Nat) : Prop := ∀ j : Nat, (o.getD j []).length ≤ m
theorem NoLonger.step {a b : Int} {o : List (List Int)} {m : Nat} (h : NoLonger o m) : NoLonger (turnStep a o b) (m + 1) := by
  intro j
  unfold turnStep
  rw [List.getD_eq_getElem?_getD, List.getElem?_set]
  have hj := h j
  have hb := h b.toNat
  split
  · split
    · rw [Option.getD_some, List.length_append, List.length_singleton]; omega
    · simp
  · rw [← List.getD_eq_getElem?_getD]; omega

/-! #### an edge more, an edge less -/
def insAt (l : List Int) (b : Int) : List Int := l.take (l.countP (fun x => decide (x < b))) ++ b :: l.drop (l.countP (fun x => decide (x < b)))
def withE (c : List (List Int)) (a b : Int) : List (List Int) := if isN c.length a = true ∧ isN c.length b = true ∧ ¬ b ∈ c.getD a.toNat [] then c.set a.toNat (insAt (c.getD a.toNat []) b) else c
def withoutE (c : List (List Int)) (a b : Int) : List (List Int) := if isN c.length a = true then c.set a.toNat ((c.getD a.toNat []).filter fun x => !decide (x = b)) else c
def graph_With.f (l0 : List (List Int)) (a1 a2 : Int) : Option (List (List Int)) := if fits l0 = true then some (withE (clean l0) a1 a2) else none
def graph_Without.f (l0 : List (List Int)) (a1 a2 : Int) : Option (List (List Int)) := if fits l0 = true then some (withoutE (clean l0) a1 a2) else none

def graph_Clean.f (l0 : List (List Int)) : Option (List (List Int)) := if fits l0 = true then some (clean l0) else none
def graph_Order.f (l0 : List (List Int)) (a1 : Int) : Option (List Int) := if fits l0 = true then (toldOf (clean l0) a1).map List.reverse else none
def graph_Reach.f (l0 : List (List Int)) (a1 : Int) : Option (List Bool) := if fits l0 = true then (toldOf (clean l0) a1).map (marks l0.length) else none

/-- Reach, as bools. -/
def reachB (l0 : List (List Int)) (c b : Int) : Bool := ((graph_Reach.f l0 c).getD []).getD b.toNat false
def graph_Path.f (l0 : List (List Int)) (a1 a2 : Int) : Option Bool :=
  if fits l0 = true then
    (if isN l0.length a1 = true ∧ isN l0.length a2 = true then
      (if ((clean l0).getD a1.toNat []).all (fun c => decide ((graph_Reach.f l0 c).isSome = true ∧ ((graph_Reach.f l0 c).getD []).length = l0.length)) = true then some (((clean l0).getD a1.toNat []).any fun c => reachB l0 c a2) else none)
    else some false)
  else none

end Go.Proofs.Ytnhcimhdkdgccaa.P
