/- What the claim uses of: P0 Gdefs Pbywashref01 Pbywashref10 Grefs Gdom Pbits Pslices Gedges -/
import Derived.Below
import Derived.Deep.Draws
import Derived.Deep.AppendLies
import Derived.Maps.AppendAt
import Derived.OwnWalk
import Derived.Laws.BytesArg
import Derived.Laws.MakeOwn
import Derived.Laws.OwnMore
import Derived.Deep.OwnRows
import Derived.Tactics
import Derived.Lib.ConvBytes
import Derived.Laws.Slices
import Derived.WalkKit
import Derived.KernelRfl
import Derived.RowKit3
import Derived.Deep.LoopGhost
import Derived.Deep.QuietTactic
import Derived.BigQuiet
import Derived.WideLaws
import Derived.Deep.DeepCutAuto
import Derived.Deep.CutBlock
import Derived.Deep.RegionHeld3
import Derived.Laws.Rows
import Derived.Lib.AppendStr
import Derived.ArgAppend
import Derived.Laws.IdiomCopy
import Derived.OrdersHeld
import Derived.Laws.BitsLemmas
import Derived.RowKit
import Derived.Test.YtemcmcnhpdkdfaaProg
import Derived.Lib.SlicesCompact
import Derived.Lib.RowBridge
import Derived.Test.YtemcmcnhpdkdfaaQU0
namespace Go.Proofs.Ytemcmcnhpdkdfaa.P
open Go.RowKit Go.Proofs.YtemcmcnhpdkdfaaW.PrintWords Go.Proofs.YtemcmcnhpdkdfaaW.PrintLast Go.Proofs.YtemcmcnhpdkdfaaW.PrintMore
attribute [local go_sem] max2_int min2_int max_two min_two max_three min_three max_four min_four
set_option linter.unusedVariables false
set_option linter.unusedSimpArgs false
def errW : Option Int → Value
  | none => .nilIface
  | some c => .iface 0 (.int .i64 c)
theorem errW_none : errW none = .nilIface := rfl
theorem errW_some (c : Int) : errW (some c) = .iface 0 (.int .i64 c) := rfl
theorem info3 : (Try.prog.info? 3).map (fun i => (i.zero, i.size, i.bytes)) = some (some (.int .i64 0), 1, 8) := by kernel_rfl
theorem info4 : (Try.prog.info? 4).map (fun i => (i.zero, i.size, i.bytes)) = some (some (.bool false), 1, 1) := by kernel_rfl
theorem info25 : (Try.prog.info? 25).map (fun i => (i.zero, i.size, i.bytes)) = some (some (.slice none 0 0), 1, 24) := by kernel_rfl
def rd_L1 (xs : List (List Int)) (i : Int) : (List Int) := xs.getD i.toNat ([] : List Int)
theorem at_L1 {w : World} {A : Option Addr} {n : Nat} {xs : List (List Int)} (h : Kd.C (Kd.slice 3 (Kd.int .i64)) w A n xs) (i : Int) (h0 : 0 ≤ i) (h1 : i < n) : ∃ ad A0 c0, A = some ad ∧ w.cell? (ad.add i.toNat) = some (.slice A0 (rd_L1 xs i).length c0) ∧ (rd_L1 xs i).length ≤ c0 ∧ (Kd.int .i64).C w A0 (rd_L1 xs i).length (rd_L1 xs i) := by
  obtain ⟨ad, c, e, _, hK, hc0⟩ := Kd.C_get h ([] : List Int) i h0 h1
  have hc : ∀ j u, c[j]? = some u → w.cell? (ad.add (i.toNat * 1 + j)) = some u := hc0
  obtain ⟨A0, c0, rfl, l0, g0⟩ := hK
  exact ⟨ad, A0, c0, e, by have hq := hc 0 _ rfl; rwa [Nat.mul_one, Nat.add_zero] at hq, l0, g0⟩
structure S53 where
  f0 : Int
  f1 : Int
  f2 : Int
def z53 : S53 := ⟨(0 : Int), (0 : Int), (0 : Int)⟩
def k53 : Kd S53 := Kd.iso (Kd.pair (Kd.int .i64) (Kd.pair (Kd.int .i64) (Kd.int .i64))) (fun x : S53 => (x.f0, x.f1, x.f2))
theorem k53_open {w : World} {x : S53} {cs : List Value} (h : k53.K w x cs) : cs = [.int .i64 x.f0, .int .i64 x.f1, .int .i64 x.f2] := by
  obtain ⟨_, _, rfl, rfl, ⟨_, _, rfl, rfl, rfl⟩⟩ := h
  exact rfl
theorem k53_mk (w : World) (x : S53)  : k53.K w x [.int .i64 x.f0, .int .i64 x.f1, .int .i64 x.f2] := ⟨[.int .i64 x.f0], [.int .i64 x.f1, .int .i64 x.f2], rfl, rfl, ⟨[.int .i64 x.f1], [.int .i64 x.f2], rfl, rfl, rfl⟩⟩
def rd_T53 (xs : List S53) (i : Int) : S53 := xs.getD i.toNat z53
theorem at_T53 {w : World} {A : Option Addr} {n : Nat} {xs : List S53} (h : Kd.C k53 w A n xs) (i : Int) (h0 : 0 ≤ i) (h1 : i < n) : ∃ ad , A = some ad ∧ w.cell? (ad.add (i.toNat * 3)) = some (.int .i64 (rd_T53 xs i).f0) ∧ w.cell? ⟨(ad.add (i.toNat * 3)).block, (ad.add (i.toNat * 3)).off + 1, none⟩ = some (.int .i64 (rd_T53 xs i).f1) ∧ w.cell? ⟨(ad.add (i.toNat * 3)).block, (ad.add (i.toNat * 3)).off + 2, none⟩ = some (.int .i64 (rd_T53 xs i).f2) := by
  obtain ⟨ad, c, e, _, hK, hc0⟩ := Kd.C_get h z53 i h0 h1
  have hc : ∀ j u, c[j]? = some u → w.cell? (ad.add (i.toNat * 3 + j)) = some u := hc0
  obtain rfl := k53_open hK
  exact ⟨ad, e, hc 0 _ rfl, by rw [← add_field _ _ 1 (by omega)]; exact hc 1 _ rfl, by rw [← add_field _ _ 2 (by omega)]; exact hc 2 _ rfl⟩
end Go.Proofs.Ytemcmcnhpdkdfaa.P
namespace Go.Proofs.Ytemcmcnhpdkdfaa.P
def isN (n : Nat) (b : Int) : Bool := decide (0 ≤ b ∧ b < (n : Int))
def cleanRow (n : Nat) (l : List Int) : List Int := Lib.compact ((l.filter fun b => isN n b).mergeSort fun x y => decide (x ≤ y))
def clean (g : List (List Int)) : List (List Int) := g.map (cleanRow g.length)
def fits (g : List (List Int)) : Bool := decide (g.length ≤ 100000) && g.all fun l => decide (l.length ≤ 100000)
def cleanSo (g : List (List Int)) (k : Nat) : List (List Int) := (clean g).take k ++ List.replicate (g.length - k) []
theorem cleanSo_zero (g : List (List Int)) : cleanSo g 0 = List.replicate g.length [] := by simp [cleanSo]
theorem cleanSo_all (g : List (List Int)) : cleanSo g g.length = clean g := by
  unfold cleanSo
  rw [List.take_of_length_le (by simp [clean]), Nat.sub_self, List.replicate_zero, List.append_nil]
theorem cleanSo_len (g : List (List Int)) (k : Nat) (h : k ≤ g.length) : (cleanSo g k).length = g.length := by
  simp [cleanSo, clean]; omega
theorem cleanSo_succ (g : List (List Int)) (k : Nat) (h : k < g.length) : (cleanSo g k).set k (cleanRow g.length g[k]) = cleanSo g (k + 1) := by
  have hl : ((clean g).take k).length = k := by simp [clean]; omega
  unfold cleanSo
  rw [List.set_append_right _ _ (by omega), hl, Nat.sub_self, show g.length - k = (g.length - (k + 1)) + 1 by omega, List.replicate_succ, List.set_cons_zero, List.take_succ_eq_append_getElem (by simp [clean]; omega), List.append_assoc]
  simp [clean]
theorem isN_yes {n : Nat} {x : Int} (h0 : 0 ≤ x) (h1 : x < (n : Int)) : isN n x = true := by unfold isN; simp [h0, h1]
theorem isN_no {n : Nat} {x : Int} (h : ¬ (0 ≤ x ∧ x < (n : Int))) : isN n x = false := by unfold isN; exact decide_eq_false h
theorem isN_iff {n : Nat} {x : Int} : isN n x = true ↔ 0 ≤ x ∧ x < (n : Int) := by unfold isN; exact decide_eq_true_iff
theorem fits_row {g : List (List Int)} (h : fits g = true) {k : Nat} (hk : k < g.length) : g[k].length ≤ 100000 := by
  unfold fits at h
  simp only [Bool.and_eq_true, decide_eq_true_eq, List.all_eq_true] at h
  exact h.2 _ (List.getElem_mem hk)
def dfs (g : List (List Int)) : Nat → List Bool → List (Int × Int) → List Int → Option (List Int)
  | 0, _, _, _ => none
  | _ + 1, _, [], told => some told
  | k + 1, met, (a, i) :: st, told =>
    if i < ((g.getD a.toNat []).length : Int) then
      (if met.getD ((g.getD a.toNat []).getD i.toNat 0).toNat true = true then dfs g k met ((a, i + 1) :: st) told
       else dfs g k (met.set ((g.getD a.toNat []).getD i.toNat 0).toNat true) (((g.getD a.toNat []).getD i.toNat 0, 0) :: (a, i) :: st) told)
    else dfs g k met st (told ++ [a])
section
variable {g : List (List Int)} {told : List Int} {kq : Nat} {met : List Bool} {st : List (Int × Int)} {tl : List Int} {a ii b : Int}
theorem dfs_len : ∀ (k : Nat) (met : List Bool) (st : List (Int × Int)) (tl : List Int), dfs g k met st tl = some told → told.length ≤ tl.length + k
  | 0, _, _, _, h => by simp [dfs] at h
  | k + 1, met, [], tl, h => by
    rw [dfs] at h
    obtain rfl := Option.some.inj h
    omega
  | k + 1, met, (a, i) :: st, tl, h => by
    rw [dfs] at h
    split at h
    · split at h
      · have := dfs_len k _ _ _ h; omega
      · have := dfs_len k _ _ _ h; omega
    · have := dfs_len k _ _ _ h
      rw [List.length_append, List.length_singleton] at this
      omega
theorem dfs_push (h : dfs g (kq + 1) met ((a, ii) :: st) tl = some told) (hl : ii < ((g.getD a.toNat []).length : Int)) (hb : b = (g.getD a.toNat []).getD ii.toNat 0) (hm : met.getD b.toNat true = false) : dfs g kq (met.set b.toNat true) ((b, 0) :: (a, ii) :: st) tl = some told := by
  rw [dfs, if_pos hl, ← hb, if_neg (by rw [hm]; simp)] at h
  exact h
theorem dfs_skip (h : dfs g (kq + 1) met ((a, ii) :: st) tl = some told) (hl : ii < ((g.getD a.toNat []).length : Int)) (hb : b = (g.getD a.toNat []).getD ii.toNat 0) (hm : met.getD b.toNat true = true) : dfs g kq met ((a, ii + 1) :: st) tl = some told := by
  rw [dfs, if_pos hl, ← hb, if_pos hm] at h
  exact h
theorem dfs_pop (h : dfs g (kq + 1) met ((a, ii) :: st) tl = some told) (hl : ¬ ii < ((g.getD a.toNat []).length : Int)) : dfs g kq met st (tl ++ [a]) = some told := by
  rw [dfs, if_neg hl] at h
  exact h
end
def marks (n : Nat) (l : List Int) : List Bool := l.foldl (fun m a => m.set a.toNat true) (List.replicate n false)
theorem foldl_set_len (l : List Int) (m : List Bool) : (l.foldl (fun m a => m.set a.toNat true) m).length = m.length := by
  induction l generalizing m with
  | nil => rfl
  | cons a l ih => rw [List.foldl_cons, ih, List.length_set]
theorem marks_len (n : Nat) (l : List Int) : (marks n l).length = n := by
  unfold marks
  rw [foldl_set_len, List.length_replicate]
theorem eq_of_rising : ∀ (a b : List Int), a.Pairwise (· < ·) → b.Pairwise (· < ·) → (∀ x, x ∈ a ↔ x ∈ b) → a = b
  | [], [], _, _, _ => rfl
  | [], y :: b, _, _, h => absurd ((h y).2 List.mem_cons_self) (by simp)
  | x :: a, [], _, _, h => absurd ((h x).1 List.mem_cons_self) (by simp)
  | x :: a, y :: b, ha, hb, h => by
    rw [List.pairwise_cons] at ha hb
    have hxy : x = y := by
      rcases List.mem_cons.1 ((h x).1 List.mem_cons_self) with e | e
      · exact e
      · rcases List.mem_cons.1 ((h y).2 List.mem_cons_self) with e' | e'
        · exact e'.symm
        · have := hb.1 x e
          have := ha.1 y e'
          omega
    subst hxy
    congr 1
    refine eq_of_rising a b ha.2 hb.2 (fun z => ⟨fun hz => ?_, fun hz => ?_⟩)
    · rcases List.mem_cons.1 ((h z).1 (List.mem_cons_of_mem _ hz)) with e | e
      · subst e
        exact absurd (ha.1 _ hz) (by omega)
      · exact e
    · rcases List.mem_cons.1 ((h z).2 (List.mem_cons_of_mem _ hz)) with e | e
      · subst e
        exact absurd (hb.1 _ hz) (by omega)
      · exact e
theorem compactUpTo_rises (d : Array Int) (hs : ∀ i j, i ≤ j → j < d.size → d[i]! ≤ d[j]!) : ∀ m, m ≤ d.size →
    (Lib.compactUpTo d m).Pairwise (· < ·) ∧ (∀ x, x ∈ Lib.compactUpTo d m ↔ ∃ j, j < m ∧ d[j]! = x)
  | 0, _ => ⟨by simp [Lib.compactUpTo], fun x => ⟨fun h => by simp [Lib.compactUpTo] at h, fun ⟨j, h, _⟩ => by omega⟩⟩
  | m + 1, hm => by
    obtain ⟨h1, h2⟩ := compactUpTo_rises d hs m (by omega)
    rw [Lib.compactUpTo_succ]
    by_cases hk : Lib.keeps d m = true
    · rw [if_pos hk]
      have hk' : m = 0 ∨ d[m]! ≠ d[m - 1]! := by simpa [Lib.keeps] using hk
      refine ⟨List.pairwise_append.2 ⟨h1, by simp, fun x hx y hy => ?_⟩, fun x => ?_⟩
      · obtain rfl := List.mem_singleton.1 hy
        obtain ⟨j, hj, rfl⟩ := (h2 x).1 hx
        have a1 := hs j (m - 1) (by omega) (by omega)
        have a2 := hs (m - 1) m (by omega) (by omega)
        rcases hk' with e | e
        · omega
        · omega
      · rw [List.mem_append, List.mem_singleton, h2]
        constructor
        · rintro (⟨j, hj, e⟩ | e)
          · exact ⟨j, by omega, e⟩
          · exact ⟨m, by omega, e.symm⟩
        · rintro ⟨j, hj, e⟩
          rcases Nat.lt_or_ge j m with h | h
          · exact .inl ⟨j, h, e⟩
          · exact .inr (by rw [← e, show j = m by omega])
    · rw [if_neg hk, List.append_nil]
      have hk' : m ≠ 0 ∧ d[m]! = d[m - 1]! := by
        have : ¬ (m = 0 ∨ d[m]! ≠ d[m - 1]!) := by simpa [Lib.keeps] using hk
        omega
      refine ⟨h1, fun x => ?_⟩
      rw [h2]
      constructor
      · rintro ⟨j, hj, e⟩
        exact ⟨j, by omega, e⟩
      · rintro ⟨j, hj, e⟩
        rcases Nat.lt_or_ge j m with h | h
        · exact ⟨j, h, e⟩
        · exact ⟨m - 1, by omega, by rw [← hk'.2, ← e, show j = m by omega]⟩
theorem compact_sorted (zs : List Int) : (Lib.compact (zs.mergeSort fun x y => decide (x ≤ y))).Pairwise (· < ·) ∧ ∀ x, x ∈ Lib.compact (zs.mergeSort fun x y => decide (x ≤ y)) ↔ x ∈ zs := by
  obtain ⟨ys, hy⟩ : ∃ ys, ys = zs.mergeSort fun x y => decide (x ≤ y) := ⟨_, rfl⟩
  have hp : ys.Pairwise (· ≤ ·) := by
    rw [hy]
    have := List.pairwise_mergeSort (le := fun x y : Int => decide (x ≤ y)) (fun a b c => by simp; omega) (fun a b => by simp; omega) zs
    exact this.imp (by simp)
  have hm : ∀ x, x ∈ ys ↔ x ∈ zs := fun x => by rw [hy, List.mem_mergeSort]
  rw [← hy]
  have hs : ∀ i j, i ≤ j → j < ys.toArray.size → ys.toArray[i]! ≤ ys.toArray[j]! := by
    intro i j hij hj
    have hj' : j < ys.length := by simpa using hj
    rw [getElem!_pos _ i (by simp; omega), getElem!_pos _ j hj]
    simp only [List.getElem_toArray]
    rcases Nat.lt_or_ge i j with h | h
    · exact List.pairwise_iff_getElem.1 hp i j (by omega) hj' h
    · obtain rfl : i = j := by omega
      exact Int.le_refl _
  obtain ⟨h1, h2⟩ := compactUpTo_rises ys.toArray hs ys.length (by simp)
  refine ⟨h1, fun x => ?_⟩
  unfold Lib.compact
  rw [h2, ← hm]
  constructor
  · rintro ⟨j, hj, e⟩
    rw [← e, getElem!_pos _ j (by simpa using hj)]
    simp
  · intro hx
    obtain ⟨j, hj, e⟩ := List.getElem_of_mem hx
    exact ⟨j, hj, by rw [getElem!_pos _ j (by simpa using hj)]; simpa using e⟩
theorem mem_cleanRow {n : Nat} {l : List Int} {x : Int} : x ∈ cleanRow n l ↔ x ∈ l ∧ 0 ≤ x ∧ x < (n : Int) := by
  unfold cleanRow
  rw [(compact_sorted _).2, List.mem_filter, isN_iff]
theorem cleanRow_rises (n : Nat) (l : List Int) : (cleanRow n l).Pairwise (· < ·) := (compact_sorted _).1
theorem cleanRow_len (n : Nat) (l : List Int) : (cleanRow n l).length ≤ l.length := by
  unfold cleanRow
  refine Nat.le_trans (Lib.compact_length_le _) ?_
  rw [List.length_mergeSort]
  exact List.length_filter_le _ _
theorem cleanRow_eq {n : Nat} {l m : List Int} (h : m.Pairwise (· < ·)) (hm : ∀ x, x ∈ m ↔ x ∈ l ∧ 0 ≤ x ∧ x < (n : Int)) : cleanRow n l = m :=
  eq_of_rising _ _ (cleanRow_rises n l) h (fun x => by rw [mem_cleanRow, hm])
theorem clean_len (g : List (List Int)) : (clean g).length = g.length := by simp [clean]
theorem clean_valid {g : List (List Int)} : ∀ l ∈ clean g, ∀ b ∈ l, 0 ≤ b ∧ b < (g.length : Int) := by
  intro l hl b hb
  obtain ⟨r, _, rfl⟩ := List.mem_map.1 hl
  exact (mem_cleanRow.1 hb).2
theorem clean_small {g : List (List Int)} (h : fits g = true) : ∀ l ∈ clean g, l.length ≤ 100000 := by
  intro l hl
  obtain ⟨r, hr, rfl⟩ := List.mem_map.1 hl
  unfold fits at h
  simp only [Bool.and_eq_true, decide_eq_true_eq, List.all_eq_true] at h
  exact Nat.le_trans (cleanRow_len _ _) (h.2 r hr)
def toldOf (g : List (List Int)) (a : Int) : Option (List Int) := if isN g.length a = true then dfs g 1000000 ((List.replicate g.length false).set a.toNat true) [(a, 0)] [] else some []
theorem toldOf_len {g : List (List Int)} {a : Int} {t : List Int} (h : toldOf g a = some t) : t.length ≤ 1000000 := by
  unfold toldOf at h
  split at h
  · have := dfs_len _ _ _ _ h
    simpa using this
  · obtain rfl := Option.some.inj h
    simp
def turnStep (a : Int) (o : List (List Int)) (b : Int) : List (List Int) := o.set b.toNat (o.getD b.toNat [] ++ [a])
def turnSo (c : List (List Int)) : Nat → List (List Int)
  | 0 => List.replicate c.length []
  | k + 1 => (c.getD k []).foldl (turnStep (k : Int)) (turnSo c k)
def turn (c : List (List Int)) : List (List Int) := turnSo c c.length
def graph_Turn.f (l0 : List (List Int)) : Option (List (List Int)) := if fits l0 = true then some (turn (clean l0)) else none
theorem turnRow_len (a : Int) (l : List Int) : ∀ o : List (List Int), (l.foldl (turnStep a) o).length = o.length := by
  induction l with
  | nil => intro o; rfl
  | cons b l ih => intro o; rw [List.foldl_cons, ih]; simp [turnStep]
theorem turnSo_len (c : List (List Int)) : ∀ k, (turnSo c k).length = c.length
  | 0 => by simp [turnSo]
  | k + 1 => by rw [turnSo, turnRow_len, turnSo_len c k]
def NoLonger (o : List (List Int)) (m : Nat) : Prop := ∀ j : Nat, (o.getD j []).length ≤ m
theorem NoLonger.step {a b : Int} {o : List (List Int)} {m : Nat} (h : NoLonger o m) : NoLonger (turnStep a o b) (m + 1) := by
  intro j
  unfold turnStep
  rw [List.getD_eq_getElem?_getD, List.getElem?_set]
  have hj := h j
  have hb := h b.toNat
  split
  · split
    · rw [Option.getD_some, List.length_append, List.length_singleton]; omega
    · simp
  · rw [← List.getD_eq_getElem?_getD]; omega
def insAt (l : List Int) (b : Int) : List Int := l.take (l.countP (fun x => decide (x < b))) ++ b :: l.drop (l.countP (fun x => decide (x < b)))
def withE (c : List (List Int)) (a b : Int) : List (List Int) := if isN c.length a = true ∧ isN c.length b = true ∧ ¬ b ∈ c.getD a.toNat [] then c.set a.toNat (insAt (c.getD a.toNat []) b) else c
def withoutE (c : List (List Int)) (a b : Int) : List (List Int) := if isN c.length a = true then c.set a.toNat ((c.getD a.toNat []).filter fun x => !decide (x = b)) else c
def graph_With.f (l0 : List (List Int)) (a1 a2 : Int) : Option (List (List Int)) := if fits l0 = true then some (withE (clean l0) a1 a2) else none
def graph_Without.f (l0 : List (List Int)) (a1 a2 : Int) : Option (List (List Int)) := if fits l0 = true then some (withoutE (clean l0) a1 a2) else none
def graph_Clean.f (l0 : List (List Int)) : Option (List (List Int)) := if fits l0 = true then some (clean l0) else none
def graph_Order.f (l0 : List (List Int)) (a1 : Int) : Option (List Int) := if fits l0 = true then (toldOf (clean l0) a1).map List.reverse else none
def graph_Reach.f (l0 : List (List Int)) (a1 : Int) : Option (List Bool) := if fits l0 = true then (toldOf (clean l0) a1).map (marks l0.length) else none
def reachB (l0 : List (List Int)) (c b : Int) : Bool := ((graph_Reach.f l0 c).getD []).getD b.toNat false
end Go.Proofs.Ytemcmcnhpdkdfaa.P
namespace Go.Proofs.Ytemcmcnhpdkdfaa.P
def row (g : List (List Int)) (a : Int) : List Int := g.getD a.toNat []
def Valid (g : List (List Int)) : Prop := ∀ l ∈ g, ∀ b ∈ l, 0 ≤ b ∧ b < (g.length : Int)
def Node (g : List (List Int)) (a : Int) : Prop := 0 ≤ a ∧ a < (g.length : Int)
theorem row_mem {g : List (List Int)} {a b : Int} (h : b ∈ row g a) : row g a ∈ g := by
  unfold row at h ⊢
  rw [List.getD_eq_getElem?_getD] at h ⊢
  cases hx : g[a.toNat]? with
  | none => rw [hx] at h; simp at h
  | some l => rw [Option.getD_some]; exact List.mem_of_getElem? hx
theorem row_node {g : List (List Int)} (hg : Valid g) {a b : Int} (h : b ∈ row g a) : Node g b := hg _ (row_mem h) _ h
inductive Way (g : List (List Int)) : Int → Int → Prop where
  | refl (a : Int) : Way g a a
  | step {a b c : Int} : b ∈ row g a → Way g b c → Way g a c
theorem Way.trans {g : List (List Int)} {a b c : Int} (h : Way g a b) (k : Way g b c) : Way g a c := by
  induction h with
  | refl => exact k
  | step hb _ ih => exact .step hb (ih k)
theorem Way.edge {g : List (List Int)} {a b : Int} (h : b ∈ row g a) : Way g a b := .step h (.refl _)
theorem Way.node {g : List (List Int)} (hg : Valid g) {a b : Int} (h : Way g a b) (ha : Node g a) : Node g b := by
  induction h with
  | refl => exact ha
  | step hb _ ih => exact ih (row_node hg hb)
theorem Way.closed {g : List (List Int)} {P : Int → Prop} (hc : ∀ x y, P x → y ∈ row g x → P y) {a b : Int} (h : Way g a b) (ha : P a) : P b := by
  induction h with
  | refl => exact ha
  | step hb _ ih => exact ih (hc _ _ ha hb)
theorem Way.last {g : List (List Int)} {a c : Int} (h : Way g a c) : a = c ∨ ∃ b, Way g a b ∧ c ∈ row g b := by
  induction h with
  | refl => exact .inl rfl
  | step hb h1 ih =>
    rcases ih with rfl | ⟨d, h2, h3⟩
    · exact .inr ⟨_, .refl _, hb⟩
    · exact .inr ⟨d, .step hb h2, h3⟩
def metB (m : List Bool) (a : Int) : Bool := m.getD a.toNat true
theorem metB_set {m : List Bool} {a b : Int} (hb : 0 ≤ b) (ha : 0 ≤ a) (hl : a < (m.length : Int)) : metB (m.set a.toNat true) b = (metB m b || decide (b = a)) := by
  unfold metB
  rw [List.getD_eq_getElem?_getD, List.getD_eq_getElem?_getD, List.getElem?_set]
  by_cases e : b = a
  · subst e
    rw [if_pos rfl, if_pos (by omega)]
    simp
  · rw [if_neg (by omega)]
    simp [e]
inductive Vs (g : List (List Int)) : List Int → List Bool → List Bool → List Int → Prop where
  | nil (m : List Bool) : Vs g [] m m []
  | skip {b : Int} {l : List Int} {m m' : List Bool} {t : List Int} : metB m b = true → Vs g l m m' t → Vs g (b :: l) m m' t
  | go {b : Int} {l : List Int} {m m1 m2 : List Bool} {t1 t2 : List Int} : metB m b = false → Vs g (row g b) (m.set b.toNat true) m1 t1 → Vs g l m1 m2 t2 → Vs g (b :: l) m m2 (t1 ++ b :: t2)
section
variable {g : List (List Int)} {l t : List Int} {m m' : List Bool}
theorem Vs.len (h : Vs g l m m' t) : m'.length = m.length := by
  induction h with
  | nil => rfl
  | skip _ _ ih => exact ih
  | go _ _ _ ih1 ih2 => rw [ih2, ih1, List.length_set]
theorem Vs.met (hg : Valid g) (h : Vs g l m m' t) (hm : m.length = g.length) (hl : ∀ b ∈ l, Node g b) :
    (∀ x, 0 ≤ x → metB m' x = (metB m x || decide (x ∈ t))) ∧ (∀ x ∈ t, metB m x = false ∧ Node g x) ∧ t.Nodup := by
  induction h with
  | nil m => exact ⟨fun x _ => by simp, fun x hx => by simp at hx, List.nodup_nil⟩
  | skip _ _ ih => exact ih hm (fun b hb => hl b (List.mem_cons_of_mem _ hb))
  | @go b l m m1 m2 t1 t2 hb h1 h2 ih1 ih2 =>
    have hbn := hl b List.mem_cons_self
    obtain ⟨a1, a2, a3⟩ := ih1 (by rw [List.length_set]; exact hm) (fun c hc => row_node hg hc)
    obtain ⟨b1, b2, b3⟩ := ih2 (by rw [h1.len, List.length_set]; exact hm) (fun c hc => hl c (List.mem_cons_of_mem _ hc))
    have hset : ∀ x, 0 ≤ x → metB (m.set b.toNat true) x = (metB m x || decide (x = b)) := fun x hx => metB_set hx hbn.1 (by rw [hm]; exact hbn.2)
    have hb1 : ∀ x ∈ t1, metB m x = false ∧ x ≠ b := by
      intro x hx
      have := (a2 x hx).1
      rw [hset x (a2 x hx).2.1] at this
      simpa using this
    have hb2 : ∀ x ∈ t2, metB m x = false ∧ x ≠ b ∧ x ∉ t1 := by
      intro x hx
      have := (b2 x hx).1
      rw [a1 x (b2 x hx).2.1, hset x (b2 x hx).2.1] at this
      simp only [Bool.or_eq_false_iff, decide_eq_false_iff_not] at this
      exact ⟨this.1.1, this.1.2, this.2⟩
    refine ⟨fun x hx => ?_, fun x hx => ?_, ?_⟩
    · rw [b1 x hx, a1 x hx, hset x hx]
      simp only [List.mem_append, List.mem_cons]
      by_cases e1 : x ∈ t1 <;> by_cases e2 : x = b <;> by_cases e3 : x ∈ t2 <;> simp [e1, e2, e3]
    · rw [List.mem_append, List.mem_cons] at hx
      rcases hx with hx | rfl | hx
      · exact ⟨(hb1 x hx).1, (a2 x hx).2⟩
      · exact ⟨hb, hbn⟩
      · exact ⟨(hb2 x hx).1, (b2 x hx).2⟩
    · rw [List.nodup_append]
      refine ⟨a3, List.nodup_cons.2 ⟨fun hx => (hb2 b hx).2.1 rfl, b3⟩, fun x hx y hy => ?_⟩
      rcases List.mem_cons.1 hy with rfl | hy
      · exact (hb1 x hx).2
      · rintro rfl
        exact (hb2 x hy).2.2 hx
theorem Vs.all (hg : Valid g) (h : Vs g l m m' t) (hm : m.length = g.length) (hl : ∀ b ∈ l, Node g b) :
    (∀ b ∈ l, metB m' b = true) ∧ ∀ x ∈ t, ∀ y ∈ row g x, metB m' y = true := by
  induction h with
  | nil m => exact ⟨fun b hb => by simp at hb, fun x hx => by simp at hx⟩
  | @skip b l m m' t hb h1 ih =>
    obtain ⟨a1, a2⟩ := ih hm (fun b hb => hl b (List.mem_cons_of_mem _ hb))
    refine ⟨fun c hc => ?_, a2⟩
    rcases List.mem_cons.1 hc with rfl | hc
    · rw [(h1.met hg hm (fun b hb => hl b (List.mem_cons_of_mem _ hb))).1 c (hl c List.mem_cons_self).1, hb]
      rfl
    · exact a1 c hc
  | @go b l m m1 m2 t1 t2 hb h1 h2 ih1 ih2 =>
    have hbn := hl b List.mem_cons_self
    have hm1 : m1.length = g.length := by rw [h1.len, List.length_set]; exact hm
    have hms : (m.set b.toNat true).length = g.length := by rw [List.length_set]; exact hm
    have hl2 : ∀ c ∈ l, Node g c := fun c hc => hl c (List.mem_cons_of_mem _ hc)
    obtain ⟨a1, a2⟩ := ih1 hms (fun c hc => row_node hg hc)
    obtain ⟨b1, b2⟩ := ih2 hm1 hl2
    have k1 := (h1.met hg hms (fun c hc => row_node hg hc)).1
    have k2 := (h2.met hg hm1 hl2).1
    have up : ∀ y, 0 ≤ y → metB m1 y = true → metB m2 y = true := fun y hy e => by rw [k2 y hy, e]; rfl
    have hbm : metB m1 b = true := by
      rw [k1 b hbn.1, metB_set hbn.1 hbn.1 (by rw [hm]; exact hbn.2)]
      simp
    refine ⟨fun c hc => ?_, fun x hx y hy => ?_⟩
    · rcases List.mem_cons.1 hc with rfl | hc
      · exact up c hbn.1 hbm
      · exact b1 c hc
    · rw [List.mem_append, List.mem_cons] at hx
      rcases hx with hx | rfl | hx
      · exact up y (row_node hg hy).1 (a2 x hx y hy)
      · exact up y (row_node hg hy).1 (a1 y hy)
      · exact b2 x hx y hy
theorem Vs.way (h : Vs g l m m' t) : ∀ x ∈ t, ∃ b ∈ l, Way g b x := by
  induction h with
  | nil m => intro x hx; simp at hx
  | skip _ _ ih =>
    intro x hx
    obtain ⟨b, hb, hw⟩ := ih x hx
    exact ⟨b, List.mem_cons_of_mem _ hb, hw⟩
  | @go b l m m1 m2 t1 t2 hb h1 h2 ih1 ih2 =>
    intro x hx
    rw [List.mem_append, List.mem_cons] at hx
    rcases hx with hx | rfl | hx
    · obtain ⟨c, hc, hw⟩ := ih1 x hx
      exact ⟨b, List.mem_cons_self, .step hc hw⟩
    · exact ⟨x, List.mem_cons_self, .refl _⟩
    · obtain ⟨c, hc, hw⟩ := ih2 x hx
      exact ⟨c, List.mem_cons_of_mem _ hc, hw⟩
theorem Vs.back (hg : Valid g) (h : Vs g l m m' t) (hm : m.length = g.length) (hl : ∀ b ∈ l, Node g b) : ∀ t1 x t2, t = t1 ++ x :: t2 → ∀ y ∈ row g x, y = x ∨ y ∈ t2 → Way g y x := by
  induction h with
  | nil m => intro t1 x t2 e; simp at e
  | skip _ _ ih => exact ih hm (fun b hb => hl b (List.mem_cons_of_mem _ hb))
  | @go b l m m1 m2 s1 s2 hb h1 h2 ih1 ih2 =>
    intro t1 x t2 e y hy hxy
    have hbn := hl b List.mem_cons_self
    have hms : (m.set b.toNat true).length = g.length := by rw [List.length_set]; exact hm
    have hm1 : m1.length = g.length := by rw [h1.len]; exact hms
    have hl2 : ∀ c ∈ l, Node g c := fun c hc => hl c (List.mem_cons_of_mem _ hc)
    rcases hxy with rfl | hxy
    · exact .refl _

    rcases List.append_eq_append_iff.1 e with ⟨a', e1, e2⟩ | ⟨c', e1, e2⟩
    ·
      cases a' with
      | nil =>
        simp only [List.nil_append, List.cons.injEq] at e2
        obtain ⟨rfl, rfl⟩ := e2

        have hy1 : metB m1 y = true := (h1.all hg hms (fun c hc => row_node hg hc)).1 y hy
        have := ((h2.met hg hm1 hl2).2.1 y hxy).1
        rw [hy1] at this
        cases this
      | cons z a' =>
        simp only [List.cons_append, List.cons.injEq] at e2
        obtain ⟨rfl, e2⟩ := e2
        exact ih2 hm1 hl2 a' x t2 e2 y hy (.inr hxy)
    ·
      cases c' with
      | nil =>
        simp only [List.nil_append, List.cons.injEq] at e2
        obtain ⟨rfl, rfl⟩ := e2
        have hy1 : metB m1 y = true := (h1.all hg hms (fun c hc => row_node hg hc)).1 y hy
        have := ((h2.met hg hm1 hl2).2.1 y hxy).1
        rw [hy1] at this
        cases this
      | cons z c' =>
        simp only [List.cons_append, List.cons.injEq] at e2
        obtain ⟨rfl, rfl⟩ := e2
        rw [List.mem_append, List.mem_cons] at hxy
        have hxs : x ∈ s1 := by rw [e1]; simp
        rcases hxy with hxy | rfl | hxy
        · exact ih1 hms (fun c hc => row_node hg hc) t1 x c' e1 y hy (.inr hxy)
        · obtain ⟨c, hc, hw⟩ := h1.way x hxs
          exact .step hc hw
        · have hy1 : metB m1 y = true := (h1.all hg hms (fun c hc => row_node hg hc)).2 x hxs y hy
          have := ((h2.met hg hm1 hl2).2.1 y hxy).1
          rw [hy1] at this
          cases this
end
theorem metB_set_self (m : List Bool) (b : Int) : metB (m.set b.toNat true) b = true := by
  unfold metB
  rw [List.getD_eq_getElem?_getD, List.getElem?_set, if_pos rfl]
  split <;> rfl
theorem metB_set_of {m : List Bool} {b x : Int} (h : metB m x = true) : metB (m.set b.toNat true) x = true := by
  unfold metB at *
  rw [List.getD_eq_getElem?_getD, List.getElem?_set]
  split
  · split <;> rfl
  · rw [← List.getD_eq_getElem?_getD]
    exact h
theorem Vs.keeps {g : List (List Int)} {l t : List Int} {m m' : List Bool} (h : Vs g l m m' t) {x : Int} (hx : metB m x = true) : metB m' x = true := by
  induction h with
  | nil => exact hx
  | skip _ _ ih => exact ih hx
  | go _ _ _ ih1 ih2 => exact ih2 (ih1 (metB_set_of hx))
def cost (g : List (List Int)) (t : List Int) : Nat := (t.map fun b => (row g b).length + 2).sum
theorem cost_app (g : List (List Int)) (s t : List Int) : cost g (s ++ t) = cost g s + cost g t := by simp [cost]
theorem cost_cons (g : List (List Int)) (b : Int) (t : List Int) : cost g (b :: t) = (row g b).length + 2 + cost g t := by simp [cost]
theorem Vs.dfs {g : List (List Int)} {l t : List Int} {m m' : List Bool} (h : Vs g l m m' t) : ∀ (a : Int) (i : Nat) (st : List (Int × Int)) (tl : List Int), (row g a).drop i = l → ∀ k, dfs g (k + (l.length + 1 + cost g t)) m ((a, (i : Int)) :: st) tl = dfs g k m' st (tl ++ t ++ [a]) := by
  induction h with
  | nil m =>
    intro a i st tl hl k
    have hi : (row g a).length ≤ i := by
      have := congrArg List.length hl
      rw [List.length_drop, List.length_nil] at this
      omega
    rw [show k + (([] : List Int).length + 1 + cost g []) = k + 1 by simp [cost], P.dfs, if_neg (by show ¬ (i : Int) < ((row g a).length : Int); omega), List.append_nil]
  | @skip b l m m' t hb h1 ih =>
    intro a i st tl hl k
    have hi : i < (row g a).length := by
      rcases Nat.lt_or_ge i (row g a).length with h | h
      · exact h
      · rw [List.drop_eq_nil_of_le h] at hl; cases hl
    have hd := List.drop_eq_getElem_cons hi
    rw [hl] at hd
    injection hd with hd1 hd2
    have hg : (row g a).getD (i : Int).toNat 0 = b := by
      rw [Int.toNat_natCast, List.getD_eq_getElem?_getD, List.getElem?_eq_getElem hi, hd1]
      rfl
    rw [show k + ((b :: l).length + 1 + cost g t) = (k + (l.length + 1 + cost g t)) + 1 by simp; omega, P.dfs, if_pos (by show (i : Int) < ((row g a).length : Int); omega)]
    show (if metB m ((row g a).getD (i : Int).toNat 0) = true then _ else _) = _
    rw [hg, if_pos hb]
    exact ih a (i + 1) st tl hd2.symm k
  | @go b l m m1 m2 t1 t2 hb h1 h2 ih1 ih2 =>
    intro a i st tl hl k
    have hi : i < (row g a).length := by
      rcases Nat.lt_or_ge i (row g a).length with h | h
      · exact h
      · rw [List.drop_eq_nil_of_le h] at hl; cases hl
    have hd := List.drop_eq_getElem_cons hi
    rw [hl] at hd
    injection hd with hd1 hd2
    have hg : (row g a).getD (i : Int).toNat 0 = b := by
      rw [Int.toNat_natCast, List.getD_eq_getElem?_getD, List.getElem?_eq_getElem hi, hd1]
      rfl
    have hbm : metB m1 b = true := h1.keeps (metB_set_self m b)
    rw [show k + ((b :: l).length + 1 + cost g (t1 ++ b :: t2)) = ((k + (l.length + 1 + cost g t2)) + 1 + ((row g b).length + 1 + cost g t1)) + 1 by rw [cost_app, cost_cons]; simp; omega, P.dfs, if_pos (by show (i : Int) < ((row g a).length : Int); omega)]
    show (if metB m ((row g a).getD (i : Int).toNat 0) = true then _ else P.dfs g _ (m.set ((row g a).getD (i : Int).toNat 0).toNat true) (((row g a).getD (i : Int).toNat 0, 0) :: (a, (i : Int)) :: st) tl) = _
    rw [hg, if_neg (by rw [hb]; simp)]
    have e1 := ih1 b 0 ((a, (i : Int)) :: st) tl (by simp) ((k + (l.length + 1 + cost g t2)) + 1)
    rw [show ((0 : Nat) : Int) = 0 from rfl] at e1
    rw [e1, P.dfs, if_pos (by show (i : Int) < ((row g a).length : Int); omega)]
    show (if metB m1 ((row g a).getD (i : Int).toNat 0) = true then _ else _) = _
    rw [hg, if_pos hbm]
    have e2 := ih2 a (i + 1) st (tl ++ t1 ++ [b]) hd2.symm k
    rw [show ((i : Int) + 1) = ((i + 1 : Nat) : Int) by omega, e2]
    simp
theorem count_set {m : List Bool} {b : Int} (h : metB m b = false) : (m.set b.toNat true).count false + 1 = m.count false := by
  unfold metB at h
  rw [List.getD_eq_getElem?_getD] at h
  have hlt : b.toNat < m.length := by
    rcases Nat.lt_or_ge b.toNat m.length with h1 | h1
    · exact h1
    · rw [List.getElem?_eq_none h1] at h; simp at h
  rw [List.getElem?_eq_getElem hlt, Option.getD_some] at h
  rw [List.count_set hlt, h]
  have : 0 < m.count false := List.count_pos_iff.2 (by rw [← h]; exact List.getElem_mem hlt)
  simp
  omega
theorem Vs.count {g : List (List Int)} {l t : List Int} {m m' : List Bool} (h : Vs g l m m' t) : m'.count false ≤ m.count false := by
  induction h with
  | nil => exact Nat.le_refl _
  | skip _ _ ih => exact ih
  | go hb _ _ ih1 ih2 => have := count_set hb; omega
theorem Vs.exists {g : List (List Int)} : ∀ (n : Nat) (l : List Int) (m : List Bool), m.count false ≤ n → ∃ m' t, Vs g l m m' t := by
  intro n
  induction n with
  | zero =>
    intro l
    induction l with
    | nil => intro m _; exact ⟨m, [], .nil m⟩
    | cons b l ih =>
      intro m hm
      have hb : metB m b = true := by
        rcases Bool.eq_false_or_eq_true (metB m b) with h | h
        · exact h
        · have := count_set h; omega
      obtain ⟨m', t, h⟩ := ih m hm
      exact ⟨m', t, .skip hb h⟩
  | succ n ihn =>
    intro l
    induction l with
    | nil => intro m _; exact ⟨m, [], .nil m⟩
    | cons b l ih =>
      intro m hm
      rcases Bool.eq_false_or_eq_true (metB m b) with hb | hb
      · obtain ⟨m', t, h⟩ := ih m hm
        exact ⟨m', t, .skip hb h⟩
      · have hc := count_set hb
        obtain ⟨m1, t1, h1⟩ := ihn (row g b) (m.set b.toNat true) (by omega)
        have := h1.count
        obtain ⟨m2, t2, h2⟩ := ih m1 (by omega)
        exact ⟨m2, _, .go hb h1 h2⟩
theorem length_le_of_subset {α : Type} [DecidableEq α] : ∀ (t l : List α), t.Nodup → (∀ x ∈ t, x ∈ l) → t.length ≤ l.length
  | [], _, _, _ => Nat.zero_le _
  | x :: t, l, hn, hs => by
    rw [List.nodup_cons] at hn
    have hx := hs x List.mem_cons_self
    have := length_le_of_subset t (l.erase x) hn.2 (fun y hy => by
      rw [List.mem_erase_of_ne (by rintro rfl; exact hn.1 hy)]
      exact hs y (List.mem_cons_of_mem _ hy))
    rw [List.length_erase_of_mem hx] at this
    have : 0 < l.length := List.length_pos_of_mem hx
    simp only [List.length_cons]
    omega
def nodes (n : Nat) : List Int := (List.range n).map fun i : Nat => (i : Int)
theorem mem_nodes {n : Nat} {x : Int} : x ∈ nodes n ↔ 0 ≤ x ∧ x < (n : Int) := by
  unfold nodes
  rw [List.mem_map]
  constructor
  · rintro ⟨i, hi, rfl⟩
    rw [List.mem_range] at hi
    omega
  · intro h
    exact ⟨x.toNat, List.mem_range.2 (by omega), by omega⟩
theorem nodes_len (n : Nat) : (nodes n).length = n := by simp [nodes]
theorem few_nodes {n : Nat} {t : List Int} (hn : t.Nodup) (ht : ∀ x ∈ t, 0 ≤ x ∧ x < (n : Int)) : t.length ≤ n := by
  have := length_le_of_subset t (nodes n) hn (fun x hx => mem_nodes.2 (ht x hx))
  rwa [nodes_len] at this
theorem cost_le (g : List (List Int)) (L : Nat) (hL : ∀ l ∈ g, l.length ≤ L) : ∀ t : List Int, cost g t ≤ t.length * (L + 2)
  | [] => by simp [cost]
  | b :: t => by
    have h := cost_le g L hL t
    rw [cost_cons, List.length_cons, Nat.succ_mul]
    have : (row g b).length ≤ L := by
      unfold row
      rw [List.getD_eq_getElem?_getD]
      cases hx : g[b.toNat]? with
      | none => simp
      | some l => rw [Option.getD_some]; exact hL l (List.mem_of_getElem? hx)
    omega
theorem told_spec {g : List (List Int)} (hg : Valid g) (hn : g.length ≤ 900) (hL : ∀ l ∈ g, l.length ≤ 900) {a : Int} (ha : Node g a) :
    ∃ t, toldOf g a = some (t ++ [a]) ∧ (∀ x, x ∈ t ++ [a] ↔ Way g a x) ∧ (t ++ [a]).Nodup ∧ (∀ x ∈ t ++ [a], Node g x) ∧
      (∀ t1 x t2, t ++ [a] = t1 ++ x :: t2 → ∀ y ∈ row g x, y = x ∨ y ∈ t2 → Way g y x) ∧ ∃ m', Vs g [a] (List.replicate g.length false) m' (t ++ [a]) := by
  obtain ⟨m0, hm0⟩ : ∃ m0, m0 = List.replicate g.length false := ⟨_, rfl⟩
  have hl0 : m0.length = g.length := by rw [hm0, List.length_replicate]
  have hun : ∀ x, Node g x → metB m0 x = false := by
    intro x hx
    unfold metB
    rw [hm0, List.getD_eq_getElem?_getD, List.getElem?_replicate, if_pos (by have := hx.1; have := hx.2; omega)]
    rfl
  obtain ⟨m1, t, h⟩ := Vs.exists (g := g) _ (row g a) (m0.set a.toNat true) (Nat.le_refl _)
  have hV : Vs g [a] m0 m1 (t ++ [a]) := .go (hun a ha) h (.nil _)
  have hls : ∀ b ∈ [a], Node g b := fun b hb => by obtain rfl := List.mem_singleton.1 hb; exact ha
  obtain ⟨p1, p2, p3⟩ := hV.met hg hl0 hls
  obtain ⟨q1, q2⟩ := hV.all hg hl0 hls
  have hmem : ∀ x, x ∈ t ++ [a] ↔ Way g a x := by
    intro x
    constructor
    · intro hx
      obtain ⟨b, hb, hw⟩ := hV.way x hx
      obtain rfl := List.mem_singleton.1 hb
      exact hw
    · intro hw
      refine (hw.closed (P := fun x => x ∈ t ++ [a]) (fun x y hx hy => ?_) (by simp))
      have h1 := q2 x hx y hy
      have hyn := row_node hg hy
      rw [p1 y hyn.1, hun y hyn] at h1
      simpa using h1
  refine ⟨t, ?_, hmem, p3, fun x hx => (p2 x hx).2, hV.back hg hl0 hls, m1, by rw [← hm0]; exact hV⟩
  unfold toldOf
  rw [if_pos (isN_yes ha.1 ha.2), ← hm0]
  have hc : (row g a).length + 1 + cost g t ≤ 999999 := by
    have h1 := cost_le g 900 hL t
    have h2 : t.length ≤ g.length := few_nodes (List.nodup_append.1 p3).1 (fun x hx => (p2 x (by simp [hx])).2)
    have h3 : t.length * (900 + 2) ≤ 900 * (900 + 2) := Nat.mul_le_mul_right _ (by omega)
    have h4 : (row g a).length ≤ 900 := by
      unfold row
      rw [List.getD_eq_getElem?_getD]
      cases hx : g[a.toNat]? with
      | none => simp
      | some l => rw [Option.getD_some]; exact hL l (List.mem_of_getElem? hx)
    omega
  obtain ⟨k, hk⟩ : ∃ k, 1000000 = (k + 1) + ((row g a).length + 1 + cost g t) := ⟨999999 - ((row g a).length + 1 + cost g t), by omega⟩
  have e := h.dfs a 0 [] [] (by simp) (k + 1)
  rw [← hk, show ((0 : Nat) : Int) = 0 from rfl] at e
  rw [e, P.dfs]
  rfl
theorem told_none {g : List (List Int)} {a : Int} (ha : ¬ Node g a) : toldOf g a = some [] := by
  unfold toldOf
  rw [if_neg (by rw [isN_iff]; exact ha)]
end Go.Proofs.Ytemcmcnhpdkdfaa.P
namespace Go.Proofs.Ytemcmcnhpdkdfaa.P
open Go.RowKit Go.Proofs.YtemcmcnhpdkdfaaW.PrintWords Go.Proofs.YtemcmcnhpdkdfaaW.PrintLast Go.Proofs.YtemcmcnhpdkdfaaW.PrintMore
attribute [local go_sem] max2_int min2_int max_two min_two max_three min_three max_four min_four
set_option linter.unusedVariables false
set_option linter.unusedSimpArgs false
def bywashref01_Ints.l0 : Nat → List Int → List Int → Int → Option (Bool)
  | 0, _, _, _ => none
  | k + 1, x0, x1, x5 => if x5 < (x0.length : Int) then (if 0 ≤ x5 then (if x5 < (x1.length : Int) then (if (rd x0 x5) = (rd x1 x5) then (bywashref01_Ints.l0 k x0 x1 (wrap64 (x5 + 1))) else (some false)) else (none)) else (none)) else (some true)
def bywashref01_Ints.f (k : Nat) (l0 : List Int) (l1 : List Int) : Option (Bool) := if (l0.length : Int) = (l1.length : Int) then (bywashref01_Ints.l0 k l0 l1 0) else (some false)
theorem bywashref01_Ints.mono_l : ∀ k, (∀ y0 y1 y2, LeO (bywashref01_Ints.l0 k y0 y1 y2) (bywashref01_Ints.l0 (k + 1) y0 y1 y2))
  | 0 => fun _ _ _ r h => by simp [bywashref01_Ints.l0] at h
  | k + 1 => by
    have ih0 := bywashref01_Ints.mono_l k
    · intro y0 y1 y2
      unfold bywashref01_Ints.l0
      repeat' first
      | (with_reducible exact ih0 _ _ _)
      | (with_reducible exact LeO.refl _)
      | (with_reducible exact LeO.none _)
      | (with_reducible refine LeO.ite ?_ ?_)
      | (with_reducible refine LeO.bind ?_ (fun _ => ?_))
      | exact ih0 _ _ _
      | exact LeO.none _
      | refine LeO.ite ?_ ?_
      | refine LeO.bind ?_ (fun _ => ?_)
theorem bywashref01_Ints.mono : ∀ a0 a1 k, LeO (bywashref01_Ints.f k a0 a1) (bywashref01_Ints.f (k + 1) a0 a1) := by
  intro a0 a1 k
  have ih0 := bywashref01_Ints.mono_l k
  unfold bywashref01_Ints.f
  repeat' first
      | (with_reducible exact ih0 _ _ _)
      | (with_reducible exact LeO.refl _)
      | (with_reducible exact LeO.none _)
      | (with_reducible refine LeO.ite ?_ ?_)
      | (with_reducible refine LeO.bind ?_ (fun _ => ?_))
      | exact ih0 _ _ _
      | exact LeO.none _
      | refine LeO.ite ?_ ?_
      | refine LeO.bind ?_ (fun _ => ?_)
set_option maxHeartbeats 8000000 in
set_option maxRecDepth 100000 in
theorem bywashref01_Ints.calls (k : Nat) (A0 : Option Addr) (c0 : Nat) (l0 : List Int) (A1 : Option Addr) (c1 : Nat) (l1 : List Int) (r : Bool) (w : World) (hr0 : Kd.C (Kd.int .i64) w A0 l0.length l0) (hc0 : l0.length ≤ c0) (hr1 : Kd.C (Kd.int .i64) w A1 l1.length l1) (hc1 : l1.length ≤ c1) (h : bywashref01_Ints.f k l0 l1 = some r) :
    Calls Try.prog 21 #[.slice A0 l0.length c0, .slice A1 l1.length c1] w fun e w' => e = .returned (.bool r) ∧ Drawn0 w w' := by
  have HR0 := Aside0.mk hr0
  have HC0 := Aside0.mk hc0
  clear hr0 hc0
  have HR1 := Aside0.mk hr1
  have HC1 := Aside0.mk hc1
  clear hr1 hc1
  have H : (if (l0.length : Int) = (l1.length : Int) then (bywashref01_Ints.l0 k l0 l1 0) else (some false)) = some r := h
  clear h
  by_cases c3 : (l0.length : Int) = (l1.length : Int)
  · rw [if_pos c3] at H
    have c3b0 : ((l0.length : Int) == (l1.length : Int)) = true := beq_iff_eq.mpr c3
    have c3b1 : ((l0.length : Int) != (l1.length : Int)) = false := bne_eq_false_iff_eq.mpr c3
    have c3b2 : (l0.length == l1.length) = true := by first | simpa using c3 | (simp at c3 ⊢; omega)
    clear c3
    have H' := Aside0.mk H
    clear H
    go_enter Try.func21, Try.ntmps21
    go_wp2
    repeat (go_quiet (fail); try go_wp2)
    go_loopg [5] k (fun kq v5 w' => ∃ (x5_1 : Int), v5 = .int .i64 x5_1 ∧ Aside0 (bywashref01_Ints.l0 kq l0 l1 x5_1 = some r) ∧ Aside0 (kq ≤ k) ∧ Drawn0 w w')
    case atStart => exact ⟨(0), (by first | rfl | (simp; done) | (simp [*]; done)), H', ⟨Nat.le_refl _⟩, by repeat (first | exact Drawn0.refl _ | apply Drawn0.step)⟩
    case round =>
      clear H'
      try clear c1
      try clear c2
      try clear p2
      try clear c3
      try clear c3b0
      try clear c3b1
      try clear c3b2
      obtain ⟨x5_1, rfl, HA, HK1, ⟨m1, rfl⟩⟩ := hrel
      cases gk with
      | zero => exact absurd HA.out (by simp [bywashref01_Ints.l0])
      | succ k1 =>
        have H := HA.out
        clear HA
        simp only [bywashref01_Ints.l0] at H
        by_cases c4 : x5_1 < (l0.length : Int)
        · rw [if_pos c4] at H
          have c4b0 : decide (x5_1 < (l0.length : Int)) = true := decide_eq_true c4
          clear c4
          by_cases c5 : 0 ≤ x5_1
          · rw [if_pos c5] at H
            have c5b0 : decide (0 ≤ x5_1) = true := decide_eq_true c5
            clear c5
            by_cases c6 : x5_1 < (l1.length : Int)
            · rw [if_pos c6] at H
              have c6b0 : decide (x5_1 < (l1.length : Int)) = true := decide_eq_true c6
              clear c6
              by_cases c7 : (rd l0 x5_1) = (rd l1 x5_1)
              · rw [if_pos c7] at H
                have c7b0 : ((rd l0 x5_1) == (rd l1 x5_1)) = true := beq_iff_eq.mpr c7
                have c7b1 : ((rd l0 x5_1) != (rd l1 x5_1)) = false := bne_eq_false_iff_eq.mpr c7
                clear c7
                have H' := Aside0.mk H
                clear H
                have p111 : 0 ≤ (x5_1 : Int) := of_decide_eq_true (by first | (with_reducible assumption) | assumption)
                have q111 : x5_1 < (l0.length : Int) := of_decide_eq_true (by first | (with_reducible assumption) | assumption)
                obtain ⟨ad111, e111, hx111_0⟩ := Kd.at_int HR0.out x5_1 p111 q111
                cases e111
                replace p111 := eq_true p111
                replace q111 := eq_true q111
                have p112 : 0 ≤ (x5_1 : Int) := of_decide_eq_true (by first | (with_reducible assumption) | assumption)
                have q112 : x5_1 < (l1.length : Int) := of_decide_eq_true (by first | (with_reducible assumption) | assumption)
                obtain ⟨ad112, e112, hx112_0⟩ := Kd.at_int HR1.out x5_1 p112 q112
                cases e112
                replace p112 := eq_true p112
                replace q112 := eq_true q112
                go_wp2
                repeat (go_quiet (fail); try go_wp2)
                go_roundg k1
                case measure => have := HK1.out; omega
                case rel => exact ⟨(wrap64 (x5_1 + 1)), (by first | rfl | (simp; done) | (simp [*]; done)), H', ⟨by have := HK1.out; omega⟩, by repeat (first | exact Drawn0.refl _ | apply Drawn0.step)⟩
              · rw [if_neg c7] at H
                have c7b0 : ((rd l0 x5_1) == (rd l1 x5_1)) = false := beq_eq_false_iff_ne.mpr c7
                have c7b1 : ((rd l0 x5_1) != (rd l1 x5_1)) = true := bne_iff_ne.mpr c7
                obtain rfl := Option.some.inj H
                have p111 : 0 ≤ (x5_1 : Int) := of_decide_eq_true (by first | (with_reducible assumption) | assumption)
                have q111 : x5_1 < (l0.length : Int) := of_decide_eq_true (by first | (with_reducible assumption) | assumption)
                obtain ⟨ad111, e111, hx111_0⟩ := Kd.at_int HR0.out x5_1 p111 q111
                cases e111
                replace p111 := eq_true p111
                replace q111 := eq_true q111
                have p112 : 0 ≤ (x5_1 : Int) := of_decide_eq_true (by first | (with_reducible assumption) | assumption)
                have q112 : x5_1 < (l1.length : Int) := of_decide_eq_true (by first | (with_reducible assumption) | assumption)
                obtain ⟨ad112, e112, hx112_0⟩ := Kd.at_int HR1.out x5_1 p112 q112
                cases e112
                replace p112 := eq_true p112
                replace q112 := eq_true q112
                go_wp2
                repeat (go_quiet (fail); try go_wp2)
                go_ret
                exact ⟨by first | rfl | (simp; done) | (simp [*]; done), by repeat (first | exact Drawn0.refl _ | apply Drawn0.step)⟩
            · rw [if_neg c6] at H
              exact absurd H (by simp)
          · rw [if_neg c5] at H
            exact absurd H (by simp)
        · rw [if_neg c4] at H
          have c4b0 : decide (x5_1 < (l0.length : Int)) = false := decide_eq_false c4
          clear c4
          obtain rfl := Option.some.inj H
          go_wp2
          repeat (go_quiet (fail); try go_wp2)
          go_ret
          exact ⟨by first | rfl | (simp; done) | (simp [*]; done), by repeat (first | exact Drawn0.refl _ | apply Drawn0.step)⟩
  · rw [if_neg c3] at H
    have c3b0 : ((l0.length : Int) == (l1.length : Int)) = false := beq_eq_false_iff_ne.mpr c3
    have c3b1 : ((l0.length : Int) != (l1.length : Int)) = true := bne_iff_ne.mpr c3
    have c3b2 : (l0.length == l1.length) = false := by first | simpa using c3 | (simp at c3 ⊢; omega)
    obtain rfl := Option.some.inj H
    go_enter Try.func21, Try.ntmps21
    go_wp2
    repeat (go_quiet (fail); try go_wp2)
    go_ret
    exact ⟨by first | rfl | (simp; done) | (simp [*]; done), by repeat (first | exact Drawn0.refl _ | apply Drawn0.step)⟩
end Go.Proofs.Ytemcmcnhpdkdfaa.P
namespace Go.Proofs.Ytemcmcnhpdkdfaa.P
open Go.RowKit Go.Proofs.YtemcmcnhpdkdfaaW.PrintWords Go.Proofs.YtemcmcnhpdkdfaaW.PrintLast Go.Proofs.YtemcmcnhpdkdfaaW.PrintMore
attribute [local go_sem] max2_int min2_int max_two min_two max_three min_three max_four min_four
set_option linter.unusedVariables false
set_option linter.unusedSimpArgs false
def bywashref10_Few.l0 : Nat → List (List Int) → Int → Option (Bool)
  | 0, _, _ => none
  | k + 1, x0, x3 => if x3 < (x0.length : Int) then (if 0 ≤ x3 then (if ((rd_L1 x0 x3).length : Int) > 60 then (some false) else (bywashref10_Few.l0 k x0 (wrap64 (x3 + 1)))) else (none)) else (some (decide ((x0.length : Int) ≤ 40)))
def bywashref10_Few.f (k : Nat) (l0 : List (List Int)) : Option (Bool) := bywashref10_Few.l0 k l0 0
theorem bywashref10_Few.mono_l : ∀ k, (∀ y0 y1, LeO (bywashref10_Few.l0 k y0 y1) (bywashref10_Few.l0 (k + 1) y0 y1))
  | 0 => fun _ _ r h => by simp [bywashref10_Few.l0] at h
  | k + 1 => by
    have ih0 := bywashref10_Few.mono_l k
    · intro y0 y1
      unfold bywashref10_Few.l0
      repeat' first
      | (with_reducible exact ih0 _ _)
      | (with_reducible exact LeO.refl _)
      | (with_reducible exact LeO.none _)
      | (with_reducible refine LeO.ite ?_ ?_)
      | (with_reducible refine LeO.bind ?_ (fun _ => ?_))
      | exact ih0 _ _
      | exact LeO.none _
      | refine LeO.ite ?_ ?_
      | refine LeO.bind ?_ (fun _ => ?_)
theorem bywashref10_Few.mono : ∀ a0 k, LeO (bywashref10_Few.f k a0) (bywashref10_Few.f (k + 1) a0) := by
  intro a0 k
  have ih0 := bywashref10_Few.mono_l k
  unfold bywashref10_Few.f
  repeat' first
      | (with_reducible exact ih0 _ _)
      | (with_reducible exact LeO.refl _)
      | (with_reducible exact LeO.none _)
      | (with_reducible refine LeO.ite ?_ ?_)
      | (with_reducible refine LeO.bind ?_ (fun _ => ?_))
      | exact ih0 _ _
      | exact LeO.none _
      | refine LeO.ite ?_ ?_
      | refine LeO.bind ?_ (fun _ => ?_)
set_option maxHeartbeats 8000000 in
set_option maxRecDepth 100000 in
theorem bywashref10_Few.calls (k : Nat) (A0 : Option Addr) (c0 : Nat) (l0 : List (List Int)) (r : Bool) (w : World) (hr0 : Kd.C (Kd.slice 3 (Kd.int .i64)) w A0 l0.length l0) (hc0 : l0.length ≤ c0) (h : bywashref10_Few.f k l0 = some r) :
    Calls Try.prog 14 #[.slice A0 l0.length c0] w fun e w' => e = .returned (.bool r) ∧ Drawn0 w w' := by
  have HR0 := Aside0.mk hr0
  have HC0 := Aside0.mk hc0
  clear hr0 hc0
  have H : (bywashref10_Few.l0 k l0 0) = some r := h
  clear h
  have H' := Aside0.mk H
  clear H
  go_enter Try.func14, Try.ntmps14
  go_wp2
  go_loopg [3] k (fun kq v3 w' => ∃ (x3_1 : Int), v3 = .int .i64 x3_1 ∧ Aside0 (bywashref10_Few.l0 kq l0 x3_1 = some r) ∧ Aside0 (kq ≤ k) ∧ Drawn0 w w')
  case atStart => exact ⟨(0), (by first | rfl | (simp; done) | (simp [*]; done)), H', ⟨Nat.le_refl _⟩, by repeat (first | exact Drawn0.refl _ | apply Drawn0.step)⟩
  case round =>
    clear H'
    try clear c1
    obtain ⟨x3_1, rfl, HA, HK1, ⟨m1, rfl⟩⟩ := hrel
    cases gk with
    | zero => exact absurd HA.out (by simp [bywashref10_Few.l0])
    | succ k1 =>
      have H := HA.out
      clear HA
      simp only [bywashref10_Few.l0] at H
      by_cases c2 : x3_1 < (l0.length : Int)
      · rw [if_pos c2] at H
        have c2b0 : decide (x3_1 < (l0.length : Int)) = true := decide_eq_true c2
        clear c2
        by_cases c3 : 0 ≤ x3_1
        · rw [if_pos c3] at H
          have c3b0 : decide (0 ≤ x3_1) = true := decide_eq_true c3
          clear c3
          by_cases c4 : ((rd_L1 l0 x3_1).length : Int) > 60
          · rw [if_pos c4] at H
            have c4b0 : decide (60 < ((rd_L1 l0 x3_1).length : Int)) = true := decide_eq_true c4
            have c4b1 : decide (60 < (rd_L1 l0 x3_1).length) = true := decide_eq_true (by omega)
            clear c4
            obtain rfl := Option.some.inj H
            have p138 : 0 ≤ (x3_1 : Int) := of_decide_eq_true (by first | (with_reducible assumption) | assumption)
            have q138 : x3_1 < (l0.length : Int) := of_decide_eq_true (by first | (with_reducible assumption) | assumption)
            obtain ⟨ad138, A138_0, c138_0, e138, hx138_0, hl138_0, hi138_0⟩ := at_L1 HR0.out x3_1 p138 q138
            cases e138
            have HR138_0 := Aside0.mk hi138_0
            have HC138_0 := Aside0.mk hl138_0
            clear hi138_0 hl138_0
            replace p138 := eq_true p138
            replace q138 := eq_true q138
            go_wp2
            go_ret
            exact ⟨by first | rfl | (simp; done) | (simp [*]; done), by repeat (first | exact Drawn0.refl _ | apply Drawn0.step)⟩
          · rw [if_neg c4] at H
            have c4b0 : decide (60 < ((rd_L1 l0 x3_1).length : Int)) = false := decide_eq_false c4
            have c4b1 : decide (60 < (rd_L1 l0 x3_1).length) = false := decide_eq_false (by omega)
            clear c4
            have H' := Aside0.mk H
            clear H
            have p138 : 0 ≤ (x3_1 : Int) := of_decide_eq_true (by first | (with_reducible assumption) | assumption)
            have q138 : x3_1 < (l0.length : Int) := of_decide_eq_true (by first | (with_reducible assumption) | assumption)
            obtain ⟨ad138, A138_0, c138_0, e138, hx138_0, hl138_0, hi138_0⟩ := at_L1 HR0.out x3_1 p138 q138
            cases e138
            have HR138_0 := Aside0.mk hi138_0
            have HC138_0 := Aside0.mk hl138_0
            clear hi138_0 hl138_0
            replace p138 := eq_true p138
            replace q138 := eq_true q138
            go_wp2
            go_roundg k1
            case measure => have := HK1.out; omega
            case rel => exact ⟨(wrap64 (x3_1 + 1)), (by first | rfl | (simp; done) | (simp [*]; done)), H', ⟨by have := HK1.out; omega⟩, by repeat (first | exact Drawn0.refl _ | apply Drawn0.step)⟩
        · rw [if_neg c3] at H
          exact absurd H (by simp)
      · rw [if_neg c2] at H
        have c2b0 : decide (x3_1 < (l0.length : Int)) = false := decide_eq_false c2
        clear c2
        obtain rfl := Option.some.inj H
        go_wp2
        go_ret
        exact ⟨by first | rfl | (simp; done) | (simp [*]; done), by repeat (first | exact Drawn0.refl _ | apply Drawn0.step)⟩
end Go.Proofs.Ytemcmcnhpdkdfaa.P
namespace Go.Proofs.Ytemcmcnhpdkdfaa.P
open Go.RowKit Go.Lib Go.Proofs.YtemcmcnhpdkdfaaW.PrintWords
theorem wrap_succ {i : Nat} (h : i + 1 ≤ 9223372036854775807) : wrap64 ((i : Int) + 1) = ((i + 1 : Nat) : Int) := by
  unfold wrap64
  omega
theorem rd_nat' {xs : List Int} {i : Nat} (h : i < xs.length) : rd xs (i : Int) = xs[i] := by
  unfold rd
  rw [Int.toNat_natCast, List.getD_eq_getElem?_getD, List.getElem?_eq_getElem h]
  rfl
theorem rdL1_nat {xs : List (List Int)} {i : Nat} (h : i < xs.length) : rd_L1 xs (i : Int) = xs[i] := by
  unfold rd_L1
  rw [Int.toNat_natCast, List.getD_eq_getElem?_getD, List.getElem?_eq_getElem h]
  rfl
def few (l : List (List Int)) : Bool := l.all (fun r => decide (r.length ≤ 60)) && decide (l.length ≤ 40)
theorem few_l0 (l : List (List Int)) (hb : l.length ≤ 9223372036854775807) : ∀ d i : Nat, i + d = l.length → Ev (fun k => bywashref10_Few.l0 k l (i : Int)) ((l.drop i).all (fun r => decide (r.length ≤ 60)) && decide (l.length ≤ 40))
  | 0, i, h => by
    refine Ev.step (f := fun _ => some (decide ((l.length : Int) ≤ 40))) (fun k => by rw [bywashref10_Few.l0, if_neg (by omega)]) ?_
    rw [List.drop_eq_nil_of_le (by omega), List.all_nil, Bool.true_and, show decide (l.length ≤ 40) = decide ((l.length : Int) ≤ 40) from by simp only [decide_eq_decide]; omega]
    exact Ev.now _
  | d + 1, i, h => by
    have hi : i < l.length := by omega
    rw [List.drop_eq_getElem_cons hi, List.all_cons]
    by_cases hs : l[i].length ≤ 60
    · refine Ev.step (f := fun k => bywashref10_Few.l0 k l ((i + 1 : Nat) : Int)) (fun k => by rw [bywashref10_Few.l0, if_pos (by omega), if_pos (by omega), rdL1_nat hi, if_neg (by omega), wrap_succ (by omega)]) ?_
      rw [decide_eq_true hs, Bool.true_and]
      exact few_l0 l hb d (i + 1) (by omega)
    · refine Ev.step (f := fun _ => some false) (fun k => by rw [bywashref10_Few.l0, if_pos (by omega), if_pos (by omega), rdL1_nat hi, if_pos (by omega)]) ?_
      rw [decide_eq_false hs, Bool.false_and, Bool.false_and]
      exact Ev.now _
theorem few_ev (l : List (List Int)) (hb : l.length ≤ 9223372036854775807) : Ev (fun k => bywashref10_Few.f k l) (few l) := few_l0 l hb l.length 0 (by omega)
theorem few_iff {l : List (List Int)} : few l = true ↔ (∀ r ∈ l, r.length ≤ 60) ∧ l.length ≤ 40 := by
  unfold few
  simp
theorem few_fits {l : List (List Int)} (h : few l = true) : fits l = true := by
  rw [few_iff] at h
  unfold fits
  simp only [Bool.and_eq_true, decide_eq_true_eq, List.all_eq_true]
  exact ⟨by omega, fun r hr => by have := h.1 r hr; omega⟩
theorem ints_l0 (a b : List Int) (hl : a.length = b.length) (hb : a.length ≤ 9223372036854775807) : ∀ d i : Nat, i + d = a.length → Ev (fun k => bywashref01_Ints.l0 k a b (i : Int)) (decide (a.drop i = b.drop i))
  | 0, i, h => by
    refine Ev.step (f := fun _ => some true) (fun k => by rw [bywashref01_Ints.l0, if_neg (by omega)]) ?_
    rw [List.drop_eq_nil_of_le (by omega), List.drop_eq_nil_of_le (by omega), decide_eq_true rfl]
    exact Ev.now _
  | d + 1, i, h => by
    have hi : i < a.length := by omega
    have hj : i < b.length := by omega
    rw [List.drop_eq_getElem_cons hi, List.drop_eq_getElem_cons hj]
    by_cases hs : a[i] = b[i]
    · refine Ev.step (f := fun k => bywashref01_Ints.l0 k a b ((i + 1 : Nat) : Int)) (fun k => by rw [bywashref01_Ints.l0, if_pos (by omega), if_pos (by omega), if_pos (by omega), rd_nat' hi, rd_nat' hj, if_pos hs, wrap_succ (by omega)]) ?_
      rw [show decide (a[i] :: a.drop (i + 1) = b[i] :: b.drop (i + 1)) = decide (a.drop (i + 1) = b.drop (i + 1)) from by rw [hs]; exact decide_eq_decide.2 ⟨fun e => (List.cons.inj e).2, fun e => by rw [e]⟩]
      exact ints_l0 a b hl hb d (i + 1) (by omega)
    · refine Ev.step (f := fun _ => some false) (fun k => by rw [bywashref01_Ints.l0, if_pos (by omega), if_pos (by omega), if_pos (by omega), rd_nat' hi, rd_nat' hj, if_neg hs]) ?_
      rw [show decide (a[i] :: a.drop (i + 1) = b[i] :: b.drop (i + 1)) = false from decide_eq_false (fun e => hs (by injection e))]
      exact Ev.now _
theorem ints_ev (a b : List Int) (hb : a.length ≤ 9223372036854775807) : Ev (fun k => bywashref01_Ints.f k a b) (decide (a = b)) := by
  by_cases h : a.length = b.length
  · refine Ev.congr (f := fun k => bywashref01_Ints.l0 k a b ((0 : Nat) : Int)) (fun k => by unfold bywashref01_Ints.f; rw [if_pos (by omega)]; rfl) ?_
    have := ints_l0 a b h hb a.length 0 (by omega)
    rwa [List.drop_zero, List.drop_zero] at this
  · refine Ev.congr (f := fun _ => some false) (fun k => by unfold bywashref01_Ints.f; rw [if_neg (by omega)]) ?_
    rw [decide_eq_false (fun e => h (by rw [e]))]
    exact Ev.now _
theorem clean_Valid (g : List (List Int)) : Valid (clean g) := fun l hl b hb => by rw [clean_len]; exact clean_valid l hl b hb
theorem clean_row_le {g : List (List Int)} : ∀ l ∈ clean g, l.length ≤ g.length := by
  intro l hl
  obtain ⟨r, _, rfl⟩ := List.mem_map.1 hl
  exact few_nodes ((cleanRow_rises _ _).imp (fun h => by omega)) (fun x hx => (mem_cleanRow.1 hx).2)
theorem clean_node {g : List (List Int)} {a : Int} : Node (clean g) a ↔ 0 ≤ a ∧ a < (g.length : Int) := by
  unfold Node
  rw [clean_len]
theorem clean_now {g : List (List Int)} (h : fits g = true) : graph_Clean.f g = some (clean g) := by unfold graph_Clean.f; rw [if_pos h]
theorem marks_foldl (l : List Int) : ∀ (m : List Bool), (∀ x ∈ l, 0 ≤ x ∧ x < (m.length : Int)) → ∀ i : Nat, i < m.length → (l.foldl (fun m a => m.set a.toNat true) m).getD i false = (m.getD i false || decide ((i : Int) ∈ l)) := by
  induction l with
  | nil => intro m _ i _; simp
  | cons a l ih =>
    intro m hl i hi
    have ha := hl a List.mem_cons_self
    rw [List.foldl_cons, ih _ (fun x hx => by rw [List.length_set]; exact hl x (List.mem_cons_of_mem _ hx)) i (by rw [List.length_set]; exact hi)]
    rw [List.getD_eq_getElem?_getD, List.getElem?_set]
    by_cases e : a.toNat = i
    · rw [if_pos e, if_pos (by omega)]
      have : (i : Int) = a := by omega
      simp [this]
    · rw [if_neg e, ← List.getD_eq_getElem?_getD]
      have : ¬ (i : Int) = a := by omega
      simp [this]
theorem marks_get {n : Nat} {l : List Int} (hl : ∀ x ∈ l, 0 ≤ x ∧ x < (n : Int)) {i : Nat} (hi : i < n) : (marks n l).getD i false = decide ((i : Int) ∈ l) := by
  unfold marks
  rw [marks_foldl l _ (fun x hx => by rw [List.length_replicate]; exact hl x hx) i (by rw [List.length_replicate]; exact hi)]
  simp [List.getD_eq_getElem?_getD, hi]
def Small (g : List (List Int)) : Prop := fits g = true ∧ g.length ≤ 900
theorem few_small {g : List (List Int)} (h : few g = true) : Small g := ⟨few_fits h, by have := (few_iff.1 h).2; omega⟩
theorem told_small {g : List (List Int)} (h : Small g) {a : Int} (ha : 0 ≤ a ∧ a < (g.length : Int)) :
    ∃ t, toldOf (clean g) a = some (t ++ [a]) ∧ (∀ x, x ∈ t ++ [a] ↔ Way (clean g) a x) ∧ (t ++ [a]).Nodup ∧ (∀ x ∈ t ++ [a], 0 ≤ x ∧ x < (g.length : Int)) ∧
      (∀ t1 x t2, t ++ [a] = t1 ++ x :: t2 → ∀ y ∈ row (clean g) x, y = x ∨ y ∈ t2 → Way (clean g) y x) := by
  obtain ⟨t, h1, h2, h3, h4, h5, _⟩ := told_spec (clean_Valid g) (by rw [clean_len]; exact h.2) (fun l hl => Nat.le_trans (clean_row_le l hl) h.2) (clean_node.2 ha)
  exact ⟨t, h1, h2, h3, fun x hx => clean_node.1 (h4 x hx), h5⟩
theorem reach_now {g : List (List Int)} (h : Small g) (a : Int) :
    ∃ r, graph_Reach.f g a = some r ∧ r.length = g.length ∧ ∀ x, 0 ≤ x → x < (g.length : Int) → (rdOf false r x = true ↔ (0 ≤ a ∧ a < (g.length : Int)) ∧ Way (clean g) a x) := by
  unfold graph_Reach.f
  rw [if_pos h.1]
  by_cases ha : 0 ≤ a ∧ a < (g.length : Int)
  · obtain ⟨t, h1, h2, _, h4, _⟩ := told_small h ha
    refine ⟨marks g.length (t ++ [a]), by rw [h1]; rfl, marks_len _ _, fun x hx0 hx1 => ?_⟩
    unfold rdOf
    rw [marks_get h4 (by omega), decide_eq_true_iff, show ((x.toNat : Nat) : Int) = x by omega, h2]
    exact ⟨fun hw => ⟨ha, hw⟩, fun hw => hw.2⟩
  · refine ⟨marks g.length [], by rw [told_none (fun hn => ha (clean_node.1 hn))]; rfl, marks_len _ _, fun x hx0 hx1 => ?_⟩
    unfold rdOf
    rw [marks_get (by simp) (by omega)]
    simp only [List.not_mem_nil, decide_false, Bool.false_eq_true, false_iff]
    exact fun hw => ha hw.1
theorem clean_self {g : List (List Int)} (hv : Valid g) (hr : ∀ l ∈ g, l.Pairwise (· < ·)) : clean g = g := by
  unfold clean
  conv => rhs; rw [← List.map_id g]
  refine List.map_congr_left fun l hl => ?_
  exact cleanRow_eq (hr l hl) (fun x => ⟨fun hx => ⟨hx, hv l hl x hx⟩, fun h => h.1⟩)
end Go.Proofs.Ytemcmcnhpdkdfaa.P
namespace Go.Proofs.Ytemcmcnhpdkdfaa.P
open Go.RowKit Go.Lib Go.Proofs.YtemcmcnhpdkdfaaW.PrintWords
theorem clean_rises (g : List (List Int)) : ∀ l ∈ clean g, l.Pairwise (· < ·) := by
  intro l hl
  obtain ⟨r, _, rfl⟩ := List.mem_map.1 hl
  exact cleanRow_rises _ _
theorem clean_clean (g : List (List Int)) : clean (clean g) = clean g := clean_self (clean_Valid g) (clean_rises g)
theorem fits_clean {g : List (List Int)} (h : fits g = true) : fits (clean g) = true := by
  have h1 := clean_small h
  unfold fits at h ⊢
  simp only [Bool.and_eq_true, decide_eq_true_eq, List.all_eq_true] at h ⊢
  exact ⟨by rw [clean_len]; exact h.1, h1⟩
theorem turnStep_get (a : Int) (o : List (List Int)) (b : Int) (j : Nat) (hb : 0 ≤ b ∧ b < (o.length : Int)) : (turnStep a o b).getD j [] = if (j : Int) = b then o.getD j [] ++ [a] else o.getD j [] := by
  unfold turnStep
  rw [List.getD_eq_getElem?_getD, List.getElem?_set]
  by_cases e : b.toNat = j
  · rw [if_pos e, if_pos (by omega), if_pos (by omega), Option.getD_some, e]
  · rw [if_neg e, if_neg (by omega), ← List.getD_eq_getElem?_getD]
theorem turnRow_get (a : Int) (j : Nat) : ∀ (l : List Int) (o : List (List Int)), (∀ b ∈ l, 0 ≤ b ∧ b < (o.length : Int)) → l.Pairwise (· < ·) → (l.foldl (turnStep a) o).getD j [] = o.getD j [] ++ if (j : Int) ∈ l then [a] else []
  | [], o, _, _ => by simp
  | b :: l, o, hl, hp => by
    rw [List.pairwise_cons] at hp
    have hb := hl b List.mem_cons_self
    have hlen : (turnStep a o b).length = o.length := by simp [turnStep]
    rw [List.foldl_cons, turnRow_get a j l _ (fun c hc => by rw [hlen]; exact hl c (List.mem_cons_of_mem _ hc)) hp.2, turnStep_get a o b j hb]
    by_cases e : (j : Int) = b
    · rw [if_pos e, if_neg (fun hm => by have := hp.1 _ hm; omega), List.append_nil, if_pos (by rw [e]; exact List.mem_cons_self)]
    · rw [if_neg e]
      simp only [List.mem_cons, e, false_or]
theorem turnSo_get {c : List (List Int)} (hv : Valid c) (hr : ∀ l ∈ c, l.Pairwise (· < ·)) (j : Nat) : ∀ k, k ≤ c.length → (turnSo c k).getD j [] = (nodes k).filter fun a => decide ((j : Int) ∈ row c a)
  | 0, _ => by
    unfold turnSo nodes
    simp only [List.range_zero, List.map_nil, List.filter_nil]
    rw [List.getD_eq_getElem?_getD, List.getElem?_replicate]
    split <;> rfl
  | k + 1, hk => by
    have hm : c.getD k [] ∈ c := by
      rw [List.getD_eq_getElem?_getD, List.getElem?_eq_getElem (by omega)]
      exact List.getElem_mem _
    rw [turnSo, turnRow_get _ j _ _ (fun b hb => by rw [turnSo_len]; exact hv _ hm b hb) (hr _ hm), turnSo_get hv hr j k (by omega)]
    unfold nodes
    rw [List.range_succ, List.map_append, List.filter_append]
    congr 1
    simp only [List.map_cons, List.map_nil, List.filter_cons, List.filter_nil]
    have : row c (k : Int) = c.getD k [] := by unfold row; rw [Int.toNat_natCast]
    rw [this]
    simp only [decide_eq_true_eq]
theorem mem_turn {c : List (List Int)} (hv : Valid c) (hr : ∀ l ∈ c, l.Pairwise (· < ·)) {a b : Int} (hb : 0 ≤ b) : a ∈ row (turn c) b ↔ (0 ≤ a ∧ a < (c.length : Int)) ∧ b ∈ row c a := by
  unfold row turn
  rw [turnSo_get hv hr b.toNat c.length (Nat.le_refl _), List.mem_filter, mem_nodes]
  simp only [decide_eq_true_eq]
  rw [show ((b.toNat : Nat) : Int) = b by omega]
  rfl
theorem nodes_rise (n : Nat) : (nodes n).Pairwise (· < ·) := by
  unfold nodes
  rw [List.pairwise_map]
  exact List.pairwise_lt_range.imp (fun h => by omega)
theorem turn_len (c : List (List Int)) : (turn c).length = c.length := turnSo_len c _
theorem turn_row (c : List (List Int)) (hv : Valid c) (hr : ∀ l ∈ c, l.Pairwise (· < ·)) : ∀ l ∈ turn c, l.Pairwise (· < ·) ∧ ∀ x ∈ l, 0 ≤ x ∧ x < (c.length : Int) := by
  intro l hl
  obtain ⟨j, hj, e⟩ := List.getElem_of_mem hl
  have h1 : l = (turnSo c c.length).getD j [] := by
    rw [List.getD_eq_getElem?_getD]
    show l = ((turn c)[j]?).getD []
    rw [List.getElem?_eq_getElem hj, e]
    rfl
  rw [h1, turnSo_get hv hr j _ (Nat.le_refl _)]
  exact ⟨(nodes_rise _).filter _, fun x hx => mem_nodes.1 (List.mem_filter.1 hx).1⟩
theorem turn_Valid {c : List (List Int)} (hv : Valid c) (hr : ∀ l ∈ c, l.Pairwise (· < ·)) : Valid (turn c) := fun l hl b hb => by rw [turn_len]; exact (turn_row c hv hr l hl).2 b hb
theorem turn_rises {c : List (List Int)} (hv : Valid c) (hr : ∀ l ∈ c, l.Pairwise (· < ·)) : ∀ l ∈ turn c, l.Pairwise (· < ·) := fun l hl => (turn_row c hv hr l hl).1
end Go.Proofs.Ytemcmcnhpdkdfaa.P
namespace Go.Proofs.Ytemcmcnhpdkdfaa.P
inductive Av (g : List (List Int)) (x : Int) : Int → Int → Prop where
  | refl {a : Int} : a ≠ x → Av g x a a
  | step {a b c : Int} : a ≠ x → b ∈ row g a → Av g x b c → Av g x a c
theorem Av.right {g : List (List Int)} {x a b : Int} (h : Av g x a b) : b ≠ x := by
  induction h with
  | refl h => exact h
  | step _ _ _ ih => exact ih
theorem Av.left {g : List (List Int)} {x a b : Int} (h : Av g x a b) : a ≠ x := by
  cases h with
  | refl h => exact h
  | step h _ _ => exact h
theorem Av.trans {g : List (List Int)} {x a b c : Int} (h : Av g x a b) (k : Av g x b c) : Av g x a c := by
  induction h with
  | refl => exact k
  | step h1 h2 _ ih => exact .step h1 h2 (ih k)
theorem Av.snoc {g : List (List Int)} {x a b c : Int} (h : Av g x a b) (he : c ∈ row g b) (hc : c ≠ x) : Av g x a c := h.trans (.step h.right he (.refl hc))
theorem Av.way {g : List (List Int)} {x a b : Int} (h : Av g x a b) : Way g a b := by
  induction h with
  | refl => exact .refl _
  | step _ he _ ih => exact .step he ih
theorem Av.closed {g : List (List Int)} {x : Int} {P : Int → Prop} (hc : ∀ a b, P a → b ∈ row g a → b ≠ x → P b) {a b : Int} (h : Av g x a b) (ha : P a) : P b := by
  induction h with
  | refl => exact ha
  | step _ he hb ih => exact ih (hc _ _ ha he hb.left)
theorem Way.av {g : List (List Int)} {x a b : Int} (h : Way g a b) (hx : ¬ Way g a x) : Av g x a b := by
  induction h with
  | refl a => exact .refl (fun e => hx (by rw [← e]; exact .refl _))
  | step he _ ih => exact .step (fun e => hx (by rw [← e]; exact .refl _)) he (ih (fun h => hx (.step he h)))
inductive Up (T : Int → Option Int) : Int → Int → Prop where
  | refl (b : Int) : Up T b b
  | step {b p x : Int} : T b = some p → Up T p x → Up T b x
theorem Up.trans {T : Int → Option Int} {a b c : Int} (h : Up T a b) (k : Up T b c) : Up T a c := by
  induction h with
  | refl => exact k
  | step h1 _ ih => exact .step h1 (ih k)
theorem Up.cases {T : Int → Option Int} {a x : Int} (h : Up T a x) : x = a ∨ ∃ p, T a = some p ∧ Up T p x := by
  cases h with
  | refl => exact .inl rfl
  | step h1 h2 => exact .inr ⟨_, h1, h2⟩
theorem Up.line {T : Int → Option Int} {a x y : Int} (h : Up T a x) (k : Up T a y) : Up T x y ∨ Up T y x := by
  induction h with
  | refl => exact .inl k
  | step h1 h2 ih =>
    rcases k.cases with rfl | ⟨p, hp, k2⟩
    · exact .inr (.step h1 h2)
    · rw [h1] at hp
      obtain rfl := Option.some.inj hp
      exact ih k2
structure Dfs (g : List (List Int)) (o : List Int) (par : Int → Option Int) : Prop where
  zero : 0 ∈ o
  mem : ∀ x, x ∈ o ↔ Way g 0 x
  has : ∀ x, x ∈ o → x ≠ 0 → ∃ u, par x = some u
  ok : ∀ x u, par x = some u → x ∈ o ∧ x ≠ 0 ∧ x ∈ row g u ∧ u ∈ o ∧ o.idxOf u < o.idxOf x
theorem idx_inj {o : List Int} {x y : Int} (hx : x ∈ o) (hy : y ∈ o) (h : o.idxOf x = o.idxOf y) : x = y := by
  have h1 := List.getElem_idxOf (List.idxOf_lt_length_of_mem hx)
  have h2 := List.getElem_idxOf (List.idxOf_lt_length_of_mem hy)
  rw [← h1, ← h2]
  simp only [h]
def Kn (T : Int → Option Int) (b : Int) : Prop := b = 0 ∨ ∃ p, T b = some p
structure DI (g : List (List Int)) (o : List Int) (par : Int → Option Int) (T : Int → Option Int) : Prop where
  t1 : ∀ b p, T b = some p → b ∈ o ∧ b ≠ 0 ∧ p ∈ o ∧ o.idxOf p < o.idxOf b ∧ Kn T p
  t2 : ∀ b x, Kn T b → Up T b x → Up par b x
  t3 : ∀ b x, Kn T b → ¬ Av g x 0 b → Up T b x
  t4 : ∀ b p, T b = some p → ∀ x, x ∈ o → (∀ a, Kn T a → b ∈ row g a → Up T a x) → o.idxOf x ≤ o.idxOf p
section
variable {g : List (List Int)} {o : List Int} {par T : Int → Option Int}
theorem Dfs.up (hd : Dfs g o par) {b x : Int} (h : Up par b x) (hb : b ∈ o) : x ∈ o ∧ o.idxOf x ≤ o.idxOf b := by
  induction h with
  | refl => exact ⟨hb, Nat.le_refl _⟩
  | step h1 _ ih =>
    have h2 := hd.ok _ _ h1
    have := ih h2.2.2.2.1
    exact ⟨this.1, by have := this.2; have := h2.2.2.2.2; omega⟩
theorem Dfs.around (hd : Dfs g o par) {b c x : Int} (h : Up par b c) (hb : b ∈ o) (hlt : o.idxOf x < o.idxOf c) : Av g x c b := by
  induction h with
  | refl b => exact .refl (fun e => by rw [e] at hlt; omega)
  | step h1 h2 ih =>
    have h3 := hd.ok _ _ h1
    have h4 := (hd.up h2 h3.2.2.2.1).2
    exact (ih h3.2.2.2.1 hlt).snoc h3.2.2.1 (fun e => by rw [e] at h3; omega)
theorem zero_first (hd : Dfs g o par) : ∀ {b : Int}, b ∈ o → b ≠ 0 → o.idxOf 0 < o.idxOf b := by
  have key : ∀ (m : Nat) (b : Int), o.idxOf b ≤ m → b ∈ o → b ≠ 0 → o.idxOf 0 < o.idxOf b := by
    intro m
    induction m with
    | zero =>
      intro b hm hb h0
      obtain ⟨u, hu⟩ := hd.has b hb h0
      have := (hd.ok _ _ hu).2.2.2.2
      omega
    | succ m ih =>
      intro b hm hb h0
      obtain ⟨u, hu⟩ := hd.has b hb h0
      have h1 := hd.ok _ _ hu
      by_cases e : u = 0
      · rw [← e]; exact h1.2.2.2.2
      · have := ih u (by omega) h1.2.2.2.1 e
        omega
  intro b hb h0
  exact key _ b (Nat.le_refl _) hb h0
theorem DI.kn_mem (hd : Dfs g o par) (h : DI g o par T) {b : Int} (hb : Kn T b) : b ∈ o := by
  rcases hb with rfl | ⟨p, hp⟩
  · exact hd.zero
  · exact (h.t1 b p hp).1
theorem DI.up (h : DI g o par T) {b x : Int} (hu : Up T b x) (hb : b ∈ o) : x ∈ o ∧ o.idxOf x ≤ o.idxOf b := by
  induction hu with
  | refl => exact ⟨hb, Nat.le_refl _⟩
  | step h1 _ ih =>
    have h2 := h.t1 _ _ h1
    have := ih h2.2.2.1
    exact ⟨this.1, by have := this.2; have := h2.2.2.2.1; omega⟩
theorem DI.up_kn (h : DI g o par T) {b x : Int} (hu : Up T b x) (hb : Kn T b) : Kn T x := by
  induction hu with
  | refl => exact hb
  | step h1 _ ih => exact ih (h.t1 _ _ h1).2.2.2.2
theorem DI.line (h : DI g o par T) {a x y : Int} (ha : a ∈ o) (hx : Up T a x) (hy : Up T a y) (hle : o.idxOf x ≤ o.idxOf y) : Up T y x := by
  rcases hx.line hy with k | k
  · have hxo := h.up hx ha
    have := h.up k hxo.1
    obtain rfl : x = y := idx_inj hxo.1 this.1 (by omega)
    exact .refl _
  · exact k
structure StepOk (g : List (List Int)) (T : Int → Option Int) (c N : Int) : Prop where
  all : ∀ a, Kn T a → c ∈ row g a → Up T a N
  best : ∀ x, (∀ a, Kn T a → c ∈ row g a → Up T a x) → Up T N x
def upd (T : Int → Option Int) (c N : Int) : Int → Option Int := fun b => if b = c then some N else T b
theorem upd_at (T : Int → Option Int) (c N : Int) : upd T c N c = some N := by unfold upd; rw [if_pos rfl]
theorem upd_ne (T : Int → Option Int) {c N b : Int} (h : b ≠ c) : upd T c N b = T b := by unfold upd; rw [if_neg h]
theorem upd_off {c N : Int} {b x : Int} (h : Up T b x) (hn : ¬ Up T b c) : Up (upd T c N) b x := by
  induction h with
  | refl => exact .refl _
  | @step b p x h1 h2 ih =>
    have hbc : b ≠ c := fun e => hn (by rw [e]; exact .refl _)
    exact .step (by rw [upd_ne _ hbc]; exact h1) (ih (fun k => hn (.step h1 k)))
theorem upd_to {c N : Int} {b : Int} (h : Up T b c) : Up (upd T c N) b c := by
  induction h with
  | refl => exact .refl _
  | @step b p x h1 h2 ih =>
    by_cases e : b = x
    · rw [e]; exact .refl _
    · exact .step (by rw [upd_ne _ e]; exact h1) ih
theorem upd_back {c N : Int} {b x : Int} (h : Up (upd T c N) b x) : Up T b x ∨ (Up T b c ∧ Up (upd T c N) N x) := by
  induction h with
  | refl => exact .inl (.refl _)
  | @step b p x h1 h2 ih =>
    by_cases e : b = c
    · subst e
      rw [upd_at] at h1
      obtain rfl := Option.some.inj h1
      exact .inr ⟨.refl _, h2⟩
    · rw [upd_ne _ e] at h1
      rcases ih with k | ⟨k1, k2⟩
      · exact .inl (.step h1 k)
      · exact .inr ⟨.step h1 k1, k2⟩
def Eq0 (o : List Int) (par T : Int → Option Int) (i : Nat) : Prop := ∀ v, v ∈ o → v ≠ 0 → o.idxOf v < i → Kn T v ∧ ∀ x, Up T v x → x = v ∨ ∃ u, par v = some u ∧ Up T u x
variable {c N : Int}
theorem DI.kn_par (hd : Dfs g o par) (he : Eq0 o par T (o.idxOf c)) {u : Int} (hu : par c = some u) : Kn T u := by
  have h := hd.ok _ _ hu
  by_cases e : u = 0
  · exact .inl e
  · exact (he u h.2.2.2.1 e h.2.2.2.2).1
theorem DI.above (hd : Dfs g o par) (h : DI g o par T) (he : Eq0 o par T (o.idxOf c)) (hs : StepOk g T c N) {u : Int} (hu : par c = some u) : Up T u N ∧ N ∈ o ∧ o.idxOf N < o.idxOf c ∧ Kn T N := by
  have hp := hd.ok _ _ hu
  have hk := DI.kn_par hd he hu
  have h1 := hs.all u hk hp.2.2.1
  have h2 := h.up h1 hp.2.2.2.1
  exact ⟨h1, h2.1, by have := h2.2; have := hp.2.2.2.2; omega, h.up_kn h1 hk⟩
theorem DI.higher (hd : Dfs g o par) (h : DI g o par T) (he : Eq0 o par T (o.idxOf c)) (hs : StepOk g T c N) {p : Int} (hp : T c = some p) : Up T p N := by
  have h1 := h.t1 c p hp
  obtain ⟨u, hu⟩ := hd.has c h1.1 h1.2.1
  obtain ⟨a1, a2, a3, a4⟩ := h.above hd he hs hu
  have hle := h.t4 c p hp N a2 hs.all
  have hup := h.t2 c p (.inr ⟨p, hp⟩) (.step hp (.refl _))
  have hpu : Up par u p := by
    rcases hup.cases with e | ⟨q, hq, k⟩
    · rw [e] at h1; omega
    · rw [hu] at hq
      obtain rfl := Option.some.inj hq
      exact k
  have go : ∀ v w, Up par v w → w = p → o.idxOf v < o.idxOf c → v ∈ o → Up T v N → Up T p N := by
    intro v w hvw
    induction hvw with
    | refl b => intro e _ _ k; rw [← e]; exact k
    | @step b q x h2 h3 ih =>
      intro e hb hbo k
      have h4 := hd.ok _ _ h2
      have hx := (hd.up h3 h4.2.2.2.1).2
      rcases (he b h4.1 h4.2.1 hb).2 N k with e2 | ⟨q', hq', k2⟩
      · rw [e2, ← e] at hle
        omega
      · rw [h2] at hq'
        obtain rfl := Option.some.inj hq'
        exact ih e (by omega) h4.2.2.2.1 k2
  exact go u p hpu rfl (hd.ok _ _ hu).2.2.2.2 (hd.ok _ _ hu).2.2.2.1 a1
theorem upd_part (h : DI g o par T) {b x : Int} (hb : b ∈ o) (h1 : Up T b x) (h2 : Up T x c) : Up (upd T c N) b x := by
  induction h1 with
  | refl => exact .refl _
  | @step b p x h3 h4 ih =>
    have h5 := h.t1 _ _ h3
    have hbc : b ≠ c := fun e => by
      have h6 := h.up h4 h5.2.2.1
      have h7 := h.up h2 h6.1
      rw [e] at h5
      omega
    exact .step (by rw [upd_ne _ hbc]; exact h3) (ih h5.2.2.1 h2)
theorem DI.step (hd : Dfs g o par) (h : DI g o par T) (he : Eq0 o par T (o.idxOf c)) (hs : StepOk g T c N) (hc : c ∈ o) (hc0 : c ≠ 0) : DI g o par (upd T c N) ∧ Eq0 o par (upd T c N) (o.idxOf c + 1) := by
  obtain ⟨u, hu⟩ := hd.has c hc hc0
  obtain ⟨a1, a2, a3, a4⟩ := h.above hd he hs hu
  have hup := hd.ok _ _ hu
  have hku := DI.kn_par hd he hu
  have nN : ¬ Up T N c := fun k => by have := (h.up k a2).2; omega
  have toN : ∀ x, Up (upd T c N) N x → Up T N x := fun x k => by
    rcases upd_back k with k | ⟨k, _⟩
    · exact k
    · exact absurd k nN
  have kmono : ∀ b, Kn T b → Kn (upd T c N) b := fun b hb => by
    rcases hb with hb | ⟨p, hp⟩
    · exact .inl hb
    · by_cases e : b = c
      · exact .inr ⟨N, by rw [e]; exact upd_at ..⟩
      · exact .inr ⟨p, by rw [upd_ne _ e]; exact hp⟩
  have kback : ∀ b, Kn (upd T c N) b → b = c ∨ Kn T b := fun b hb => by
    by_cases e : b = c
    · exact .inl e
    · rcases hb with hb | ⟨p, hp⟩
      · exact .inr (.inl hb)
      · rw [upd_ne _ e] at hp
        exact .inr (.inr ⟨p, hp⟩)
  have shrink : ∀ b x, Kn T b → Up (upd T c N) b x → Up T b x := fun b x hb k => by
    rcases upd_back k with k | ⟨k1, k2⟩
    · exact k
    · rcases h.up_kn k1 hb with e | ⟨p, hp⟩
      · exact absurd e hc0
      · exact k1.trans (.step hp ((h.higher hd he hs hp).trans (toN x k2)))
  have parN : ∀ x, Up T N x → Up par c x := fun x k => .step hu (h.t2 u x hku (a1.trans k))
  have hcx : ∀ x, ¬ Av g x 0 c → Up (upd T c N) c x := fun x hx => by
    by_cases e : x = c
    · rw [e]; exact .refl _
    · refine .step (upd_at ..) (upd_off (hs.best x (fun a ha hrow => h.t3 a x ha (fun k => hx (k.snoc hrow (fun e2 => e e2.symm))))) nN)
  refine ⟨⟨?_, ?_, ?_, ?_⟩, ?_⟩
  · intro b p hp
    by_cases e : b = c
    · subst e
      rw [upd_at] at hp
      obtain rfl := Option.some.inj hp
      exact ⟨hc, hc0, a2, a3, kmono _ a4⟩
    · rw [upd_ne _ e] at hp
      have := h.t1 b p hp
      exact ⟨this.1, this.2.1, this.2.2.1, this.2.2.2.1, kmono _ this.2.2.2.2⟩
  · intro b x hb k
    rcases kback b hb with e | hb
    · subst e
      rcases k.cases with e | ⟨p, hp, k2⟩
      · rw [e]; exact .refl _
      · rw [upd_at] at hp
        obtain rfl := Option.some.inj hp
        exact parN x (toN x k2)
    · rcases upd_back k with k | ⟨k1, k2⟩
      · exact h.t2 b x hb k
      · exact (h.t2 b c hb k1).trans (parN x (toN x k2))
  · intro b x hb hx
    rcases kback b hb with e | hb
    · subst e
      exact hcx x hx
    · have k := h.t3 b x hb hx
      have hbo := h.kn_mem hd hb
      by_cases hbc : Up T b c
      · rcases Nat.lt_or_ge (o.idxOf x) (o.idxOf c) with hlt | hge
        · have hxo := (h.up k hbo).1
          exact (upd_to hbc).trans (hcx x (fun k2 => hx (k2.trans (hd.around (h.t2 b c hb hbc) hbo hlt))))
        · exact upd_part h hbo k (h.line hbo hbc k hge)
      · exact upd_off k hbc
  · intro b p hp x hx hall
    have hall' : ∀ a, Kn T a → b ∈ row g a → Up T a x := fun a ha hr => shrink a x ha (hall a (kmono a ha) hr)
    by_cases e : b = c
    · subst e
      rw [upd_at] at hp
      obtain rfl := Option.some.inj hp
      exact (h.up (hs.best x hall') a2).2
    · rw [upd_ne _ e] at hp
      exact h.t4 b p hp x hx hall'
  · intro v hv hv0 hlt
    by_cases e : v = c
    · subst e
      refine ⟨.inr ⟨N, upd_at ..⟩, fun x k => ?_⟩
      rcases k.cases with e | ⟨p, hp, k2⟩
      · exact .inl e
      · rw [upd_at] at hp
        obtain rfl := Option.some.inj hp
        refine .inr ⟨u, hu, upd_off (a1.trans (toN x k2)) (fun k => ?_)⟩
        have := (h.up k hup.2.2.2.1).2
        omega
    · have hlt' : o.idxOf v < o.idxOf c := by
        have : o.idxOf v ≠ o.idxOf c := fun e2 => e (idx_inj hv hc e2)
        omega
      obtain ⟨h1, h2⟩ := he v hv hv0 hlt'
      refine ⟨kmono v h1, fun x k => ?_⟩
      rcases upd_back k with k | ⟨k, _⟩
      · rcases h2 x k with e2 | ⟨u', hu', k2⟩
        · exact .inl e2
        · have h3 := hd.ok _ _ hu'
          refine .inr ⟨u', hu', upd_off k2 (fun k3 => ?_)⟩
          have := (h.up k3 h3.2.2.2.1).2
          omega
      · have := (h.up k hv).2
        omega
theorem DI.done (hd : Dfs g o par) (h : DI g o par T) (hf : ∀ c, c ∈ o → c ≠ 0 → ∃ p, T c = some p ∧ StepOk g T c p) {b x : Int} (hb : b ∈ o) : Up T b x ↔ ¬ Av g x 0 b := by
  have hk : ∀ c, c ∈ o → Kn T c := fun c hc => by
    by_cases e : c = 0
    · exact .inl e
    · obtain ⟨p, hp, _⟩ := hf c hc e
      exact .inr ⟨p, hp⟩
  refine ⟨fun hu ha => ?_, h.t3 b x (hk b hb)⟩
  have := ha.closed (P := fun b => b ∈ o ∧ ¬ Up T b x) (fun a b ⟨h1, h2⟩ hr hne => by
    have hbo : b ∈ o := (hd.mem b).2 (((hd.mem a).1 h1).trans (.edge hr))
    refine ⟨hbo, fun k => ?_⟩
    rcases k.cases with e | ⟨p, hp, k2⟩
    · exact hne e.symm
    · obtain ⟨p', hp', hs⟩ := hf b hbo (h.t1 b p hp).2.1
      rw [hp] at hp'
      obtain rfl := Option.some.inj hp'
      exact h2 ((hs.all a (hk a h1) hr).trans k2)) ⟨hd.zero, fun k => by
    rcases k.cases with e | ⟨p, hp, _⟩
    · exact ha.left e.symm
    · exact (h.t1 0 p hp).2.1 rfl⟩
  exact this.2 hu
end
end Go.Proofs.Ytemcmcnhpdkdfaa.P
namespace Go.Proofs.Ytemcmcnhpdkdfaa.P
theorem Vs.parent {g : List (List Int)} {l t : List Int} {m m' : List Bool} (h : Vs g l m m' t) : ∀ x ∈ t, x ∈ l ∨ ∃ a s1 s2 s3, x ∈ row g a ∧ t = s1 ++ x :: (s2 ++ a :: s3) := by
  induction h with
  | nil => intro x hx; simp at hx
  | skip _ _ ih =>
    intro x hx
    rcases ih x hx with k | k
    · exact .inl (List.mem_cons_of_mem _ k)
    · exact .inr k
  | @go b l m m1 m2 t1 t2 _ _ _ ih1 ih2 =>
    intro x hx
    rcases List.mem_append.1 hx with k | k
    · rcases ih1 x k with k2 | ⟨a, s1, s2, s3, hr, e⟩
      · obtain ⟨s1, s2, e⟩ := List.append_of_mem k
        exact .inr ⟨b, s1, s2, t2, k2, by rw [e]; simp⟩
      · exact .inr ⟨a, s1, s2, s3 ++ b :: t2, hr, by rw [e]; simp⟩
    · rcases List.mem_cons.1 k with e | k
      · exact .inl (by rw [e]; exact List.mem_cons_self ..)
      · rcases ih2 x k with k2 | ⟨a, s1, s2, s3, hr, e⟩
        · exact .inl (List.mem_cons_of_mem _ k2)
        · exact .inr ⟨a, t1 ++ b :: s1, s2, s3, hr, by rw [e]; simp⟩
theorem idx_ne2 {x a : Int} (xs : List Int) (h : x ≠ a) : (x :: xs).idxOf a = xs.idxOf a + 1 := by
  rw [List.idxOf_cons, show (x == a) = false from by simpa using h]
  rfl
theorem idx_before {s1 s2 s3 : List Int} {a x : Int} (h : (s1 ++ a :: (s2 ++ x :: s3)).Nodup) : (s1 ++ a :: (s2 ++ x :: s3)).idxOf a < (s1 ++ a :: (s2 ++ x :: s3)).idxOf x := by
  have h' := h
  rw [List.nodup_append] at h'
  obtain ⟨_, h2, h3⟩ := h'
  rw [List.nodup_cons] at h2
  have ha : ¬ a ∈ s1 := fun k => h3 a k a (by simp) rfl
  have hx : ¬ x ∈ s1 := fun k => h3 x k x (by simp) rfl
  have hax : a ≠ x := fun e => h2.1 (by rw [e]; simp)
  rw [List.idxOf_append, if_neg ha, List.idxOf_append, if_neg hx, List.idxOf_cons_self, idx_ne2 _ hax]
  omega
theorem dfs_ctx {g : List (List Int)} (hs : Small g) (h0 : 0 < g.length) : ∃ o par, graph_Order.f g 0 = some (0 :: o) ∧ Dfs (clean g) (0 :: o) par ∧ (0 :: o).Nodup ∧ ∀ x ∈ 0 :: o, 0 ≤ x ∧ x < (g.length : Int) := by
  obtain ⟨t, h1, h2, h3, h4, h5, m', hV⟩ := told_spec (clean_Valid g) (by rw [clean_len]; exact hs.2) (fun l hl => Nat.le_trans (clean_row_le l hl) hs.2) (a := 0) (clean_node.2 (by omega))
  have e : (t ++ [0]).reverse = 0 :: t.reverse := by simp
  have hnd : (0 :: t.reverse : List Int).Nodup := by rw [← e]; exact List.pairwise_reverse.2 (h3.imp Ne.symm)
  have hm : ∀ x, x ∈ (0 :: t.reverse : List Int) ↔ x ∈ t ++ [0] := fun x => by rw [← e, List.mem_reverse]
  have hex : ∀ x, x ∈ (0 :: t.reverse : List Int) → x ≠ 0 → ∃ u, x ∈ row (clean g) u ∧ u ∈ (0 :: t.reverse : List Int) ∧ (0 :: t.reverse : List Int).idxOf u < (0 :: t.reverse : List Int).idxOf x := by
    intro x hx hx0
    rcases hV.parent x ((hm x).1 hx) with k | ⟨a, s1, s2, s3, hr, e2⟩
    · exact absurd (List.mem_singleton.1 k) hx0
    · have e3 : (0 :: t.reverse : List Int) = s3.reverse ++ a :: (s2.reverse ++ x :: s1.reverse) := by
        rw [← e, e2]
        simp
      refine ⟨a, hr, by rw [e3]; simp, ?_⟩
      have hnd' := hnd
      rw [e3] at hnd'
      rw [e3]
      exact idx_before hnd'
  refine ⟨t.reverse, fun x => if h : x ∈ (0 :: t.reverse : List Int) ∧ x ≠ 0 then some (Classical.choose (hex x h.1 h.2)) else none, ?_, ⟨by simp, fun x => by rw [hm, h2], fun x hx hx0 => ?_, fun x u hu => ?_⟩, hnd, fun x hx => clean_node.1 (h4 x ((hm x).1 hx))⟩
  · unfold graph_Order.f
    rw [if_pos hs.1, h1, Option.map_some, e]
  · exact ⟨_, dif_pos ⟨hx, hx0⟩⟩
  · by_cases h : x ∈ (0 :: t.reverse : List Int) ∧ x ≠ 0
    · rw [dif_pos h] at hu
      have := Classical.choose_spec (hex x h.1 h.2)
      rw [Option.some.inj hu] at this
      exact ⟨h.1, h.2, this.1, this.2.1, this.2.2⟩
    · rw [dif_neg h] at hu
      cases hu
end Go.Proofs.Ytemcmcnhpdkdfaa.P
namespace Go.Proofs.Ytemcmcnhpdkdfaa.P
open Go.RowKit Go.Proofs.YtemcmcnhpdkdfaaW.PrintWords Go.Proofs.YtemcmcnhpdkdfaaW.PrintLast Go.Proofs.YtemcmcnhpdkdfaaW.PrintMore
attribute [local go_sem] max2_int min2_int max_two min_two max_three min_three max_four min_four
set_option linter.unusedVariables false
set_option linter.unusedSimpArgs false
def bits_Mul64.f (a0 : Int) (a1 : Int) : Option (Int × Int) := some (IntKind.u64.wrap ((IntKind.u64.wrap ((IntKind.u64.wrap ((a0 / 4294967296) * (a1 / 4294967296))) + ((IntKind.u64.wrap ((IntKind.u64.wrap ((a0 / 4294967296) * (Go.bits .and .u64 a1 4294967295))) + ((IntKind.u64.wrap ((Go.bits .and .u64 a0 4294967295) * (Go.bits .and .u64 a1 4294967295))) / 4294967296))) / 4294967296))) + ((IntKind.u64.wrap ((Go.bits .and .u64 (IntKind.u64.wrap ((IntKind.u64.wrap ((a0 / 4294967296) * (Go.bits .and .u64 a1 4294967295))) + ((IntKind.u64.wrap ((Go.bits .and .u64 a0 4294967295) * (Go.bits .and .u64 a1 4294967295))) / 4294967296))) 4294967295) + (IntKind.u64.wrap ((Go.bits .and .u64 a0 4294967295) * (a1 / 4294967296))))) / 4294967296)), IntKind.u64.wrap (a0 * a1))
set_option maxHeartbeats 8000000 in
set_option maxRecDepth 100000 in
theorem bits_Mul64.calls (a0 : Int) (a1 : Int) (r1 : Int) (r2 : Int) (w : World) (h : bits_Mul64.f a0 a1 = some (r1, r2)) :
    Calls Try.prog 88 #[.int .u64 a0, .int .u64 a1] w fun e w' => e = .returned (.tuple #[.int .u64 r1, .int .u64 r2]) ∧ Drawn0 w w' := by
  have H : (some (IntKind.u64.wrap ((IntKind.u64.wrap ((IntKind.u64.wrap ((a0 / 4294967296) * (a1 / 4294967296))) + ((IntKind.u64.wrap ((IntKind.u64.wrap ((a0 / 4294967296) * (Go.bits .and .u64 a1 4294967295))) + ((IntKind.u64.wrap ((Go.bits .and .u64 a0 4294967295) * (Go.bits .and .u64 a1 4294967295))) / 4294967296))) / 4294967296))) + ((IntKind.u64.wrap ((Go.bits .and .u64 (IntKind.u64.wrap ((IntKind.u64.wrap ((a0 / 4294967296) * (Go.bits .and .u64 a1 4294967295))) + ((IntKind.u64.wrap ((Go.bits .and .u64 a0 4294967295) * (Go.bits .and .u64 a1 4294967295))) / 4294967296))) 4294967295) + (IntKind.u64.wrap ((Go.bits .and .u64 a0 4294967295) * (a1 / 4294967296))))) / 4294967296)), IntKind.u64.wrap (a0 * a1))) = some (r1, r2) := h
  clear h
  simp only [Option.some.injEq, Prod.mk.injEq] at H
  obtain ⟨rfl, rfl⟩ := H
  go_enter Try.func88, Try.ntmps88
  go_wp2
  go_ret2
  exact ⟨by first | rfl | (simp; done) | (simp [*]; done), by repeat (first | exact Drawn0.refl _ | apply Drawn0.step)⟩
def bits_Mul.f (a0 : Int) (a1 : Int) : Option (Int × Int) := (bits_Mul64.f a0 a1).bind fun bt711 => (some (bt711.1, bt711.2))
set_option maxHeartbeats 8000000 in
set_option maxRecDepth 100000 in
theorem bits_Mul.calls (a0 : Int) (a1 : Int) (r1 : Int) (r2 : Int) (w : World) (h : bits_Mul.f a0 a1 = some (r1, r2)) :
    Calls Try.prog 72 #[.int .u64 a0, .int .u64 a1] w fun e w' => e = .returned (.tuple #[.int .u64 r1, .int .u64 r2]) ∧ Drawn0 w w' := by
  have H : ((bits_Mul64.f a0 a1).bind fun bt711 => (some (bt711.1, bt711.2))) = some (r1, r2) := h
  clear h
  replace H := Option.bind_eq_some_iff.mp H
  obtain ⟨⟨t711, t712⟩, A30, H⟩ := H
  replace H : (some (t711, t712)) = some (r1, r2) := H
  have A3 := Aside0.mk A30
  clear A30
  simp only [Option.some.injEq, Prod.mk.injEq] at H
  obtain ⟨rfl, rfl⟩ := H
  go_enter Try.func72, Try.ntmps72
  go_wp2_with (first | ((with_reducible refine gate_callee (f := 88) rfl ?_); refine goesL_ (some 25) rfl rfl Try.func88 (by kernel_rfl) rfl #[.int .u64 a0, .int .u64 a1] rfl (by (try simp only [List.map_toArray, List.map_cons, List.map_nil]); first | done | rfl | (simp only [List.length_drop, List.length_take]; rfl)) ?_; (with_reducible refine (bits_Mul64.calls a0 a1 t711 t712 _ A3.out).mono ?_); rintro e w' ⟨rfl, ⟨nd, rfl⟩⟩; refine ⟨_, rfl, ?_⟩))
  go_ret2
  exact ⟨by first | rfl | (simp; done) | (simp [*]; done), by repeat (first | exact Drawn0.refl _ | apply Drawn0.step)⟩
end Go.Proofs.Ytemcmcnhpdkdfaa.P
namespace Go.Proofs.Ytemcmcnhpdkdfaa.P
open Go.RowKit Go.Proofs.YtemcmcnhpdkdfaaW.PrintWords Go.Proofs.YtemcmcnhpdkdfaaW.PrintLast Go.Proofs.YtemcmcnhpdkdfaaW.PrintMore
attribute [local go_sem] max2_int min2_int max_two min_two max_three min_three max_four min_four
set_option linter.unusedVariables false
set_option linter.unusedSimpArgs false
def slices_Index_int_int.l0 : Nat → List Int → Int → Int → Int → Option (Int)
  | 0, _, _, _, _ => none
  | k + 1, x0, x1, x7, x8 => if x8 < x7 then (if 0 ≤ x8 then (if x8 < (x0.length : Int) then (if x1 = (rd x0 x8) then (some x8) else (slices_Index_int_int.l0 k x0 x1 x7 (wrap64 (x8 + 1)))) else (none)) else (none)) else (some (-1))
def slices_Index_int_int.f (k : Nat) (l0 : List Int) (a1 : Int) : Option (Int) := slices_Index_int_int.l0 k l0 a1 (l0.length : Int) 0
theorem slices_Index_int_int.mono_l : ∀ k, (∀ y0 y1 y2 y3, LeO (slices_Index_int_int.l0 k y0 y1 y2 y3) (slices_Index_int_int.l0 (k + 1) y0 y1 y2 y3))
  | 0 => fun _ _ _ _ r h => by simp [slices_Index_int_int.l0] at h
  | k + 1 => by
    have ih0 := slices_Index_int_int.mono_l k
    · intro y0 y1 y2 y3
      unfold slices_Index_int_int.l0
      repeat' first
      | (with_reducible exact ih0 _ _ _ _)
      | (with_reducible exact LeO.refl _)
      | (with_reducible exact LeO.none _)
      | (with_reducible refine LeO.ite ?_ ?_)
      | (with_reducible refine LeO.bind ?_ (fun _ => ?_))
      | exact ih0 _ _ _ _
      | exact LeO.none _
      | refine LeO.ite ?_ ?_
      | refine LeO.bind ?_ (fun _ => ?_)
theorem slices_Index_int_int.mono : ∀ a0 a1 k, LeO (slices_Index_int_int.f k a0 a1) (slices_Index_int_int.f (k + 1) a0 a1) := by
  intro a0 a1 k
  have ih0 := slices_Index_int_int.mono_l k
  unfold slices_Index_int_int.f
  repeat' first
      | (with_reducible exact ih0 _ _ _ _)
      | (with_reducible exact LeO.refl _)
      | (with_reducible exact LeO.none _)
      | (with_reducible refine LeO.ite ?_ ?_)
      | (with_reducible refine LeO.bind ?_ (fun _ => ?_))
      | exact ih0 _ _ _ _
      | exact LeO.none _
      | refine LeO.ite ?_ ?_
      | refine LeO.bind ?_ (fun _ => ?_)
set_option maxHeartbeats 8000000 in
set_option maxRecDepth 100000 in
theorem slices_Index_int_int.calls (k : Nat) (A0 : Option Addr) (c0 : Nat) (l0 : List Int) (a1 : Int) (r : Int) (w : World) (hr0 : Kd.C (Kd.int .i64) w A0 l0.length l0) (hc0 : l0.length ≤ c0) (h : slices_Index_int_int.f k l0 a1 = some r) :
    Calls Try.prog 74 #[.slice A0 l0.length c0, .int .i64 a1] w fun e w' => e = .returned (.int .i64 r) ∧ Drawn0 w w' := by
  have HR0 := Aside0.mk hr0
  have HC0 := Aside0.mk hc0
  clear hr0 hc0
  have H : (slices_Index_int_int.l0 k l0 a1 (l0.length : Int) 0) = some r := h
  clear h
  have H' := Aside0.mk H
  clear H
  go_enter Try.func74, Try.ntmps74
  go_wp2
  go_loopg [8] k (fun kq v8 w' => ∃ (x8_1 : Int), v8 = .int .i64 x8_1 ∧ Aside0 (slices_Index_int_int.l0 kq l0 a1 (l0.length : Int) x8_1 = some r) ∧ Aside0 (kq ≤ k) ∧ Drawn0 w w')
  case atStart => exact ⟨(0), (by first | rfl | (simp; done) | (simp [*]; done)), H', ⟨Nat.le_refl _⟩, by repeat (first | exact Drawn0.refl _ | apply Drawn0.step)⟩
  case round =>
    clear H'
    try clear p2
    obtain ⟨x8_1, rfl, HA, HK1, ⟨m1, rfl⟩⟩ := hrel
    cases gk with
    | zero => exact absurd HA.out (by simp [slices_Index_int_int.l0])
    | succ k1 =>
      have H := HA.out
      clear HA
      simp only [slices_Index_int_int.l0] at H
      by_cases c3 : x8_1 < (l0.length : Int)
      · rw [if_pos c3] at H
        have c3b0 : decide (x8_1 < (l0.length : Int)) = true := decide_eq_true c3
        clear c3
        by_cases c4 : 0 ≤ x8_1
        · rw [if_pos c4] at H
          have c4b0 : decide (0 ≤ x8_1) = true := decide_eq_true c4
          clear c4
          by_cases c5 : x8_1 < (l0.length : Int)
          · rw [if_pos c5] at H
            have c5b0 : decide (x8_1 < (l0.length : Int)) = true := decide_eq_true c5
            clear c5
            by_cases c6 : a1 = (rd l0 x8_1)
            · rw [if_pos c6] at H
              have c6b0 : (a1 == (rd l0 x8_1)) = true := beq_iff_eq.mpr c6
              have c6b1 : (a1 != (rd l0 x8_1)) = false := bne_eq_false_iff_eq.mpr c6
              clear c6
              obtain rfl := Option.some.inj H
              have p101 : 0 ≤ (x8_1 : Int) := of_decide_eq_true (by first | (with_reducible assumption) | assumption)
              have q101 : x8_1 < (l0.length : Int) := of_decide_eq_true (by first | (with_reducible assumption) | assumption)
              obtain ⟨ad101, e101, hx101_0⟩ := Kd.at_int HR0.out x8_1 p101 q101
              cases e101
              replace p101 := eq_true p101
              replace q101 := eq_true q101
              go_wp2
              go_ret
              exact ⟨by first | rfl | (simp; done) | (simp [*]; done), by repeat (first | exact Drawn0.refl _ | apply Drawn0.step)⟩
            · rw [if_neg c6] at H
              have c6b0 : (a1 == (rd l0 x8_1)) = false := beq_eq_false_iff_ne.mpr c6
              have c6b1 : (a1 != (rd l0 x8_1)) = true := bne_iff_ne.mpr c6
              have H' := Aside0.mk H
              clear H
              have p101 : 0 ≤ (x8_1 : Int) := of_decide_eq_true (by first | (with_reducible assumption) | assumption)
              have q101 : x8_1 < (l0.length : Int) := of_decide_eq_true (by first | (with_reducible assumption) | assumption)
              obtain ⟨ad101, e101, hx101_0⟩ := Kd.at_int HR0.out x8_1 p101 q101
              cases e101
              replace p101 := eq_true p101
              replace q101 := eq_true q101
              go_wp2
              go_roundg k1
              case measure => have := HK1.out; omega
              case rel => exact ⟨(wrap64 (x8_1 + 1)), (by first | rfl | (simp; done) | (simp [*]; done)), H', ⟨by have := HK1.out; omega⟩, by repeat (first | exact Drawn0.refl _ | apply Drawn0.step)⟩
          · rw [if_neg c5] at H
            exact absurd H (by simp)
        · rw [if_neg c4] at H
          exact absurd H (by simp)
      · rw [if_neg c3] at H
        have c3b0 : decide (x8_1 < (l0.length : Int)) = false := decide_eq_false c3
        clear c3
        obtain rfl := Option.some.inj H
        go_wp2
        go_ret
        exact ⟨by first | rfl | (simp; done) | (simp [*]; done), by repeat (first | exact Drawn0.refl _ | apply Drawn0.step)⟩
def slices_Contains_int_int.f (k : Nat) (l0 : List Int) (a1 : Int) : Option (Bool) := (slices_Index_int_int.f k l0 a1).bind fun t102 => (some (decide (t102 ≥ 0)))
theorem slices_Contains_int_int.mono : ∀ a0 a1 k, LeO (slices_Contains_int_int.f k a0 a1) (slices_Contains_int_int.f (k + 1) a0 a1) := by
  intro a0 a1 k
  unfold slices_Contains_int_int.f
  repeat' first
      | (with_reducible exact slices_Index_int_int.mono _ _ _)
      | (with_reducible exact LeO.refl _)
      | (with_reducible exact LeO.none _)
      | (with_reducible refine LeO.ite ?_ ?_)
      | (with_reducible refine LeO.bind ?_ (fun _ => ?_))
      | exact slices_Index_int_int.mono _ _ _
      | exact LeO.none _
      | refine LeO.ite ?_ ?_
      | refine LeO.bind ?_ (fun _ => ?_)
set_option maxHeartbeats 8000000 in
set_option maxRecDepth 100000 in
theorem slices_Contains_int_int.calls (k : Nat) (A0 : Option Addr) (c0 : Nat) (l0 : List Int) (a1 : Int) (r : Bool) (w : World) (hr0 : Kd.C (Kd.int .i64) w A0 l0.length l0) (hc0 : l0.length ≤ c0) (h : slices_Contains_int_int.f k l0 a1 = some r) :
    Calls Try.prog 44 #[.slice A0 l0.length c0, .int .i64 a1] w fun e w' => e = .returned (.bool r) ∧ Drawn0 w w' := by
  have HR0 := Aside0.mk hr0
  have HC0 := Aside0.mk hc0
  clear hr0 hc0
  have H : ((slices_Index_int_int.f k l0 a1).bind fun t102 => (some (decide (t102 ≥ 0)))) = some r := h
  clear h
  replace H := Option.bind_eq_some_iff.mp H
  obtain ⟨t102, A30, H⟩ := H
  replace H : (some (decide (t102 ≥ 0))) = some r := H
  have A3 := Aside0.mk A30
  clear A30
  obtain rfl := Option.some.inj H
  go_enter Try.func44, Try.ntmps44
  go_wp2_with (first | ((with_reducible refine gate_callee (f := 74) rfl ?_); refine goesL_ (some 7) rfl rfl Try.func74 (by kernel_rfl) rfl #[.slice A0 l0.length c0, .int .i64 a1] rfl (by (try simp only [List.map_toArray, List.map_cons, List.map_nil]); first | done | rfl | (simp only [List.length_drop, List.length_take]; rfl)) ?_; (with_reducible refine (slices_Index_int_int.calls k _ _ l0 a1 t102 _ ?side1 ?side2 A3.out).mono ?_); (case side1 => repeat (first | exact HR0.out | (with_reducible refine Kd.C_alloc ?_ _) | (with_reducible refine Kd.C_drewN ?_ _) | (with_reducible refine Kd.C_drew ?_))); (case side2 => exact HC0.out); rintro e w' ⟨rfl, ⟨nd, rfl⟩⟩; refine ⟨_, rfl, ?_⟩))
  go_ret
  exact ⟨by first | rfl | (simp; done) | (simp [*]; done), by repeat (first | exact Drawn0.refl _ | apply Drawn0.step)⟩
end Go.Proofs.Ytemcmcnhpdkdfaa.P
namespace Go.Proofs.Ytemcmcnhpdkdfaa.P
open Go.RowKit Go.Lib Go.Proofs.YtemcmcnhpdkdfaaW.PrintWords
theorem insAt_lt {x b : Int} (l : List Int) (h : x < b) : insAt (x :: l) b = x :: insAt l b := by
  unfold insAt
  rw [List.countP_cons_of_pos (by simpa using h), List.take_succ_cons, List.drop_succ_cons, List.cons_append]
theorem insAt_ge {b : Int} (l : List Int) (h : ∀ y ∈ l, b ≤ y) : insAt l b = b :: l := by
  unfold insAt
  have h0 : l.countP (fun x => decide (x < b)) = 0 := List.countP_eq_zero.2 (fun y hy => by have := h y hy; simp; omega)
  rw [h0]
  rfl
theorem mem_insAt (b : Int) : ∀ (l : List Int) (x : Int), x ∈ insAt l b ↔ x ∈ l ∨ x = b := by
  intro l x
  unfold insAt
  constructor
  · intro h
    rcases List.mem_append.1 h with h | h
    · exact .inl (List.mem_of_mem_take h)
    · rcases List.mem_cons.1 h with h | h
      · exact .inr h
      · exact .inl (List.mem_of_mem_drop h)
  · rintro (h | h)
    · rw [← List.take_append_drop (l.countP (fun x => decide (x < b))) l] at h
      rcases List.mem_append.1 h with h | h
      · exact List.mem_append_left _ h
      · exact List.mem_append_right _ (List.mem_cons_of_mem _ h)
    · subst h
      exact List.mem_append_right _ List.mem_cons_self
theorem insAt_rises (b : Int) : ∀ (l : List Int), l.Pairwise (· < ·) → ¬ b ∈ l → (insAt l b).Pairwise (· < ·)
  | [], _, _ => by simp [insAt]
  | x :: l, h, hb => by
    rw [List.pairwise_cons] at h
    have hne : b ≠ x := fun e => hb (by rw [e]; exact List.mem_cons_self)
    have hnl : ¬ b ∈ l := fun e => hb (List.mem_cons_of_mem _ e)
    rcases Int.lt_or_lt_of_ne hne with hlt | hlt
    · rw [insAt_ge (x :: l) (fun y hy => by
        rcases List.mem_cons.1 hy with e | e
        · omega
        · have := h.1 y e; omega)]
      refine List.pairwise_cons.2 ⟨fun y hy => ?_, List.pairwise_cons.2 h⟩
      rcases List.mem_cons.1 hy with e | e
      · omega
      · have := h.1 y e; omega
    · rw [insAt_lt l hlt]
      refine List.pairwise_cons.2 ⟨fun y hy => ?_, insAt_rises b l h.2 hnl⟩
      rcases (mem_insAt b l y).1 hy with e | e
      · exact h.1 y e
      · omega
theorem row_set {c : List (List Int)} {a x : Int} {l : List Int} (ha : Node c a) (hx : 0 ≤ x) : row (c.set a.toNat l) x = if x = a then l else row c x := by
  unfold row
  rw [List.getD_eq_getElem?_getD, List.getElem?_set]
  have := ha.1
  have := ha.2
  by_cases h : x = a
  · subst h
    rw [if_pos rfl, if_pos (by omega), if_pos rfl]
    rfl
  · rw [if_neg (by omega), if_neg h, List.getD_eq_getElem?_getD]
theorem row_at {c : List (List Int)} {a : Int} (ha : Node c a) : row c a ∈ c := by
  unfold row
  have := ha.1
  have := ha.2
  rw [List.getD_eq_getElem?_getD, List.getElem?_eq_getElem (by omega), Option.getD_some]
  exact List.getElem_mem _
section
variable {c : List (List Int)} {a b x y : Int}
theorem withE_len : (withE c a b).length = c.length := by unfold withE; split <;> simp
theorem withoutE_len : (withoutE c a b).length = c.length := by unfold withoutE; split <;> simp
theorem mem_withE (ha : Node c a) (hb : Node c b) (hx : 0 ≤ x) : y ∈ row (withE c a b) x ↔ y ∈ row c x ∨ (x = a ∧ y = b) := by
  unfold withE
  split
  · rw [row_set ha hx]
    by_cases h : x = a
    · subst h
      rw [if_pos rfl, mem_insAt]
      exact or_congr Iff.rfl ⟨fun h => ⟨rfl, h⟩, fun h => h.2⟩
    · rw [if_neg h]
      exact ⟨.inl, fun e => e.elim id (fun e => absurd e.1 h)⟩
  · rename_i h
    refine ⟨.inl, fun e => e.elim id (fun e => ?_)⟩
    obtain ⟨rfl, rfl⟩ := e
    by_cases hm : y ∈ c.getD x.toNat []
    · exact hm
    · exact absurd ⟨isN_iff.2 ha, isN_iff.2 hb, hm⟩ h
theorem mem_withoutE (ha : Node c a) (hx : 0 ≤ x) : y ∈ row (withoutE c a b) x ↔ y ∈ row c x ∧ ¬ (x = a ∧ y = b) := by
  unfold withoutE
  rw [if_pos (isN_iff.2 ha), row_set ha hx]
  by_cases h : x = a
  · subst h
    rw [if_pos rfl, List.mem_filter]
    simp [row]
  · rw [if_neg h]
    exact ⟨fun e => ⟨e, fun e' => h e'.1⟩, fun e => e.1⟩
theorem set_all {P : List Int → Prop} (hc : ∀ l ∈ c, P l) {k : Nat} {l : List Int} (hl : P l) : ∀ l' ∈ c.set k l, P l' := by
  intro l' h
  rcases List.mem_or_eq_of_mem_set h with h | h
  · exact hc _ h
  · rw [h]; exact hl
theorem withE_rises (hr : ∀ l ∈ c, l.Pairwise (· < ·)) : ∀ l ∈ withE c a b, l.Pairwise (· < ·) := by
  unfold withE
  split
  · rename_i h
    exact set_all hr (insAt_rises b _ (hr _ (row_at (isN_iff.1 h.1))) h.2.2)
  · exact hr
theorem withE_Valid (hv : Valid c) : Valid (withE c a b) := by
  intro l hl
  rw [withE_len]
  revert l
  unfold withE
  split
  · rename_i h
    refine set_all hv (fun y hy => ?_)
    rcases (mem_insAt b _ y).1 hy with e | e
    · exact hv _ (row_at (isN_iff.1 h.1)) _ e
    · rw [e]; exact isN_iff.1 h.2.1
  · exact hv
theorem withoutE_rises (hr : ∀ l ∈ c, l.Pairwise (· < ·)) : ∀ l ∈ withoutE c a b, l.Pairwise (· < ·) := by
  unfold withoutE
  split
  · rename_i h
    exact set_all hr ((hr _ (row_at (isN_iff.1 h))).filter _)
  · exact hr
theorem withoutE_Valid (hv : Valid c) : Valid (withoutE c a b) := by
  intro l hl
  rw [withoutE_len]
  revert l
  unfold withoutE
  split
  · rename_i h
    refine set_all hv (fun y hy => ?_)
    exact hv _ (row_at (isN_iff.1 h)) _ (List.mem_filter.1 hy).1
  · exact hv
end
theorem small_of {g : List (List Int)} (hv : Valid g) (hr : ∀ l ∈ g, l.Pairwise (· < ·)) (hn : g.length ≤ 900) : Small g := by
  refine ⟨?_, hn⟩
  unfold fits
  rw [Bool.and_eq_true, decide_eq_true_iff, List.all_eq_true]
  refine ⟨by omega, fun l hl => decide_eq_true ?_⟩
  have := few_nodes ((hr l hl).imp (fun h => by omega)) (hv l hl)
  omega
end Go.Proofs.Ytemcmcnhpdkdfaa.P
