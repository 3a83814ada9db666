/- Small words for the contracts that are walked by hand: an own row of numbers between the words of append ('ownsRow'), of the print ('Kd.R') and of the library's sort ('Holds', 'putRow'). -/
import Derived.Test.YtnhcimhdkdgccaaP0
import Derived.OpenShut
import Derived.Deep.DeepMust
import Derived.Lib.OwnBridge
import Derived.Sort.OwnSortedInts
namespace Go.Proofs.Ytnhcimhdkdgccaa.P
open Go.RowKit Go.Lib Go.Sort Go.Proofs.YtnhcimhdkdgccaaW.PrintWords Go.Proofs.YtnhcimhdkdgccaaW.PrintLast Go.Proofs.YtnhcimhdkdgccaaW.PrintMore

abbrev dI : Kd Int := Kd.int .i64
abbrev dB : Kd Bool := Kd.bool
abbrev dG : Kd (List Int) := Kd.slice 3 (Kd.int .i64)

/-- What a row of numbers that is read lies at. -/
theorem C_ints {w : World} {A : Option Addr} {n : Nat} {xs : List Int} (h : dI.C w A n xs) (hp : 0 < n) :
    ∃ b off, A = some ⟨b, off, none⟩ ∧ xs.length = n ∧ ∀ j, j < xs.length → w.cell? ⟨b, off + j, none⟩ = some (.int .i64 (xs.getD j 0)) := by
  obtain ⟨hl, _, hc0⟩ := h
  obtain ⟨ad, rfl, hc⟩ := hc0 hp
  have hc' : ∀ i, i < xs.length → w.cell? (ad.add i) = some (.int .i64 (xs.getD i 0)) := by
    intro i hi
    obtain ⟨c, _, hk, hcc⟩ := hc i _ (List.getElem?_eq_getElem hi)
    have hk' : c = [.int .i64 xs[i]] := hk
    subst hk'
    have h2 := hcc 0 _ rfl
    rw [show i * dI.sz + 0 = i from by show i * 1 + 0 = i; omega] at h2
    rw [h2, List.getD_eq_getElem?_getD, List.getElem?_eq_getElem hi]
    rfl
  obtain ⟨b, off, rfl, h3⟩ := ints_at hc' (by omega)
  exact ⟨b, off, rfl, hl, h3⟩

theorem R_ints {w : World} {base : Nat} {ok : Nat → Prop} {v : Value} {xs : List Int} (h : dI.R 3 w base ok v xs) : w.ownsRow base 3 1 v xs.length (xs.map (Value.int .i64)) := Kd.own_of_R h
theorem ints_R {w : World} {base : Nat} {ok : Nat → Prop} {v : Value} {xs : List Int} (ho : w.ownsRow base 3 1 v xs.length (xs.map (Value.int .i64))) (hok : ∀ k, v.ownBlock = some k → ok k) : dI.R 3 w base ok v xs := Kd.R_of_own ho hok

/-- An own row of numbers: nil, or a block's head. -/
theorem R_ints_form {w : World} {base : Nat} {ok : Nat → Prop} {v : Value} {xs : List Int} (h : dI.R 3 w base ok v xs) :
    (v = .slice none 0 0 ∧ xs = []) ∨ ∃ g cap, v = .slice (some ⟨g, 0, none⟩) xs.length cap ∧ base ≤ g ∧ g < w.heap.size ∧ xs.length ≤ cap ∧ Holds (Value.int .i64) w g 0 xs.toArray := by
  have ho := R_ints h
  by_cases hv : v = .slice none 0 0
  · refine .inl ⟨hv, ?_⟩
    subst hv
    rcases ho.2 with ⟨_, h0⟩ | ⟨g, cap, cur, he, _⟩
    · exact List.eq_nil_of_length_eq_zero h0
    · cases he
  · obtain ⟨g, cap, rfl, hb, hlt, hn, _, _, hH⟩ := holds_of_ownsRow ho hv
    exact .inr ⟨g, cap, rfl, hb, hlt, hn, hH⟩

/-- Behind a contract in the sort's words: the slice, cut to k, holds ys. -/
theorem R_put {w : World} {base g n cap q : Nat} {ok : Nat → Prop} {xs zs ys : List Int} (h : dI.R 3 w base ok (.slice (some ⟨g, 0, none⟩) xs.length cap) xs) (hz : zs.length = xs.length) (hn : n = ys.length) (hy : ys = zs.take ys.length) (hle : ys.length ≤ xs.length) :
    dI.R 3 (putRow (Value.int .i64) (Sort.ahead w q) g 0 zs.toArray) base ok (.slice (some ⟨g, 0, none⟩) n cap) ys := by
  subst hn
  refine ints_R ?_ (fun k hk => h.1 k (by simpa [Value.ownBlock] using hk))
  have h1 := ownsRow_putRow (q := q) (ys := zs) (k := ys.length) (R_ints h) hz hle
  rw [← hy] at h1
  exact h1

theorem below_putRow' {w : World} {base g q : Nat} {d : Array Int} (hg : base ≤ g) : Below base w (putRow (Value.int .i64) (Sort.ahead w q) g 0 d) := below_putRow (Below.refl _ _) hg

theorem below_grow {B : Nat} {a w : World} (h : Below B a w) (hB : B ≤ w.heap.size) (os : Array Obj) : Below B a (grow w os) :=
  ⟨h.os, h.tape, h.output, by have := h.size; simp [grow]; omega, fun k hk => by
    rw [← h.block k hk]
    show (w.heap ++ os)[k]? = _
    rw [Array.getElem?_append_left (by omega)]⟩

theorem R_growos {w : World} {base : Nat} {ok : Nat → Prop} {v : Value} {xs : List Int} (h : dI.R 3 w base ok v xs) (os : Array Obj) : dI.R 3 (grow w os) base ok v xs :=
  Kd.R_below h (below_grow (Below.refl _ _) (Nat.le_refl _) os)

theorem size_alloc1 (w : World) (o : Obj) : (w.alloc o).heap.size = w.heap.size + 1 := by
  show (w.heap.push o).size = _
  simp
theorem le_alloc1 (w : World) (o : Obj) : w.heap.size + 1 ≤ (w.alloc o).heap.size := Nat.le_of_eq (size_alloc1 w o).symm

/-- A variable that was boxed, read later. -/
theorem box_cell {w w1 : World} {v : Value} {t : Nat} {B : Nat} (hb : Below B (w.alloc (.cells #[v] t)) w1) (hB : w.heap.size < B) : w1.cell? ⟨w.heap.size, 0, none⟩ = some v :=
  (hb.cell (p := ⟨w.heap.size, 0, none⟩) hB).trans (by simp)

/-- A cell of an elder block reads as it did. -/
theorem cell_later {w w1 : World} {B g o : Nat} {v : Value} (hb : Below B w w1) (hc : w.cell? ⟨g, o, none⟩ = some v) (hB : g < B) : w1.cell? ⟨g, o, none⟩ = some v := (hb.cell (p := ⟨g, o, none⟩) hB).trans hc

/-- What a block of one cell holds. -/
theorem one_cells {W : World} {g : Nat} (hg : g = W.heap.size) (x : Value) (t : Nat) (j : Nat) (u : Value) (h : [x][j]? = some u) : (W.alloc (.cells #[x] t)).cell? ((⟨g, 0, none⟩ : Addr).add j) = some u := by
  subst hg
  match j, h with
  | 0, h => simpa [Go.WideShapes.add_plain] using h
  | j + 1, h => simp at h
/-- What a block of two cells holds. -/
theorem two_cells {W : World} {g : Nat} (hg : g = W.heap.size) (x y : Value) (t : Nat) (j : Nat) (u : Value) (h : [x, y][j]? = some u) : (W.alloc (.cells #[x, y] t)).cell? ((⟨g, 0, none⟩ : Addr).add j) = some u := by
  subst hg
  match j, h with
  | 0, h => simpa [Go.WideShapes.add_plain] using h
  | 1, h => simpa [Go.WideShapes.add_plain] using h
  | j + 2, h => simp at h
theorem size_s (w : World) (q : Nat) (p : Addr) (u : Value) : w.heap.size = ((w.drewN q).setCell p u).heap.size := by simp [World.setCell]
theorem size_sa (w : World) (q : Nat) (p : Addr) (u : Value) (o : Obj) : (((w.drewN q).setCell p u).alloc o).heap.size = w.heap.size + 1 := by
  rw [size_alloc1]
  simp [World.setCell]

/-- A row that was made after the row of rows is stored into it. -/
theorem S_setrow {wr w5 : World} {base go n cap k : Nat} {v5 : Value} {xs : List (List Int)} {row : List Int} (h : Kd.S dG 22 wr base (fun _ => True) (.slice (some ⟨go, 0, none⟩) n cap) xs) (hk : k < n)
    (hb : Below wr.heap.size wr w5) (ho : dI.R 3 w5 wr.heap.size (fun _ => True) v5 row) :
    (∃ u, w5.cell? ⟨go, k, none⟩ = some u ∧ w5.frozen? ⟨go, k, none⟩ = false) ∧ Kd.S dG 22 (w5.setCell ⟨go, k, none⟩ v5) base (fun _ => True) (.slice (some ⟨go, 0, none⟩) n cap) (xs.set k row) := by
  have hbase : base ≤ go ∧ go < wr.heap.size := ⟨Kd.S_base h go (by simp [Value.ownBlock]), Kd.S_lt h go (by simp [Value.ownBlock])⟩
  have hv : ∀ b, v5.ownBlock = some b → wr.heap.size ≤ b := fun b hb' => own_base (R_ints ho) b hb'
  have h2 : Kd.S dG 22 w5 base (fun b => True ∧ ¬ (some b = v5.ownBlock)) (.slice (some ⟨go, 0, none⟩) n cap) xs :=
    Kd.S_mono (Kd.S_below (Kd.S_bound h) hb) (fun b hb' => ⟨trivial, fun e => by have := hv b e.symm; have := hb'.2.2.1; omega⟩)
  obtain ⟨oki, c, hcl, _, hcc, hfr, _, hH⟩ := Kd.S_elem h2 [] (k : Int) (by omega) (by omega)
  have hs1 : dG.sz = 1 := rfl
  obtain ⟨u, rfl⟩ : ∃ u, c = [u] := List.length_eq_one_iff.1 (hcl.trans hs1)
  have hu := hcc 0 u rfl
  have hf := hfr 0
  rw [hs1, Int.toNat_natCast, Nat.mul_one, Nat.add_zero] at hu hf
  refine ⟨⟨u, hu, hf⟩, ?_⟩
  have hP := Kd.S_seg (okg := fun b => some b = v5.ownBlock) hH (by omega) (by omega) (seg := [v5]) (j := 0) (show 0 + 1 ≤ 1 from Nat.le_refl _) (x' := row) (okp := fun b => some b = v5.ownBlock)
    ⟨v5, rfl, Kd.R_lower (Kd.R_tight rfl ho) (by omega)⟩ (fun _ hb' => .inr hb') (fun b hb' => ⟨trivial, fun e => by have := hv b hb'.symm; omega⟩)
  have hP1 := hP.1
  rw [hs1, Int.toNat_natCast, Nat.mul_one, Nat.add_zero] at hP1
  exact hP1

end Go.Proofs.Ytnhcimhdkdgccaa.P
