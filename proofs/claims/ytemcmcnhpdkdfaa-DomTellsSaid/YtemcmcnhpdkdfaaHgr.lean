/- Small words for the contracts that are walked by hand: an own row of numbers between the words of append ('ownsRow'), of the print ('Kd.R') and of the library's sort ('Holds', 'putRow'). -/
import Derived.Test.YtemcmcnhpdkdfaaP0
import Derived.OpenShut
import Derived.Deep.DeepMust
import Derived.Lib.OwnBridge
import Derived.Sort.OwnSortedInts
import Derived.Test.YtemcmcnhpdkdfaaShelf
import Derived.Test.YtemcmcnhpdkdfaaGdefs
import Derived.WalkSmall
import Derived.Maps.AppendAt
import Derived.WalkMore
import Derived.OneCell
namespace Go.Proofs.Ytemcmcnhpdkdfaa.P
open Go.RowKit Go.Lib Go.Sort Go.Proofs.YtemcmcnhpdkdfaaW.PrintWords Go.Proofs.YtemcmcnhpdkdfaaW.PrintLast Go.Proofs.YtemcmcnhpdkdfaaW.PrintMore

abbrev dI : Kd Int := Kd.int .i64
abbrev dB : Kd Bool := Kd.bool
abbrev dG : Kd (List Int) := Kd.slice 3 (Kd.int .i64)

/-- What a row of numbers that is read lies at. -/
theorem C_ints {w : World} {A : Option Addr} {n : Nat} {xs : List Int} (h : dI.C w A n xs) (hp : 0 < n) :
    ∃ b off, A = some ⟨b, off, none⟩ ∧ xs.length = n ∧ ∀ j, j < xs.length → w.cell? ⟨b, off + j, none⟩ = some (.int .i64 (xs.getD j 0)) := by
  obtain ⟨hl, _, hc0⟩ := h
  obtain ⟨ad, rfl, hc⟩ := hc0 hp
  have hc' : ∀ i, i < xs.length → w.cell? (ad.add i) = some (.int .i64 (xs.getD i 0)) := by
    intro i hi
    obtain ⟨c, _, hk, hcc⟩ := hc i _ (List.getElem?_eq_getElem hi)
    have hk' : c = [.int .i64 xs[i]] := hk
    subst hk'
    have h2 := hcc 0 _ rfl
    rw [show i * dI.sz + 0 = i from by show i * 1 + 0 = i; omega] at h2
    rw [h2, List.getD_eq_getElem?_getD, List.getElem?_eq_getElem hi]
    rfl
  obtain ⟨b, off, rfl, h3⟩ := ints_at hc' (by omega)
  exact ⟨b, off, rfl, hl, h3⟩

theorem R_ints {w : World} {base : Nat} {ok : Nat → Prop} {v : Value} {xs : List Int} (h : dI.R 3 w base ok v xs) : w.ownsRow base 3 1 v xs.length (xs.map (Value.int .i64)) := Kd.own_of_R h
theorem ints_R {w : World} {base : Nat} {ok : Nat → Prop} {v : Value} {xs : List Int} (ho : w.ownsRow base 3 1 v xs.length (xs.map (Value.int .i64))) (hok : ∀ k, v.ownBlock = some k → ok k) : dI.R 3 w base ok v xs := Kd.R_of_own ho hok

/-- An own row of numbers: nil, or a block's head. -/
theorem R_ints_form {w : World} {base : Nat} {ok : Nat → Prop} {v : Value} {xs : List Int} (h : dI.R 3 w base ok v xs) :
    (v = .slice none 0 0 ∧ xs = []) ∨ ∃ g cap, v = .slice (some ⟨g, 0, none⟩) xs.length cap ∧ base ≤ g ∧ g < w.heap.size ∧ xs.length ≤ cap ∧ Holds (Value.int .i64) w g 0 xs.toArray := by
  have ho := R_ints h
  by_cases hv : v = .slice none 0 0
  · refine .inl ⟨hv, ?_⟩
    subst hv
    rcases ho.2 with ⟨_, h0⟩ | ⟨g, cap, cur, he, _⟩
    · exact List.eq_nil_of_length_eq_zero h0
    · cases he
  · obtain ⟨g, cap, rfl, hb, hlt, hn, _, _, hH⟩ := holds_of_ownsRow ho hv
    exact .inr ⟨g, cap, rfl, hb, hlt, hn, hH⟩

/-- Behind a contract in the sort's words: the slice, cut to k, holds ys. -/
theorem R_put {w : World} {base g n cap q : Nat} {ok : Nat → Prop} {xs zs ys : List Int} (h : dI.R 3 w base ok (.slice (some ⟨g, 0, none⟩) xs.length cap) xs) (hz : zs.length = xs.length) (hn : n = ys.length) (hy : ys = zs.take ys.length) (hle : ys.length ≤ xs.length) :
    dI.R 3 (putRow (Value.int .i64) (Sort.ahead w q) g 0 zs.toArray) base ok (.slice (some ⟨g, 0, none⟩) n cap) ys := by
  subst hn
  refine ints_R ?_ (fun k hk => h.1 k (by simpa [Value.ownBlock] using hk))
  have h1 := ownsRow_putRow (q := q) (ys := zs) (k := ys.length) (R_ints h) hz hle
  rw [← hy] at h1
  exact h1

theorem below_putRow' {w : World} {base g q : Nat} {d : Array Int} (hg : base ≤ g) : Below base w (putRow (Value.int .i64) (Sort.ahead w q) g 0 d) := below_putRow (Below.refl _ _) hg

theorem below_grow {B : Nat} {a w : World} (h : Below B a w) (hB : B ≤ w.heap.size) (os : Array Obj) : Below B a (grow w os) :=
  ⟨h.os, h.tape, h.output, by have := h.size; simp [grow]; omega, fun k hk => by
    rw [← h.block k hk]
    show (w.heap ++ os)[k]? = _
    rw [Array.getElem?_append_left (by omega)]⟩

theorem R_growos {w : World} {base : Nat} {ok : Nat → Prop} {v : Value} {xs : List Int} (h : dI.R 3 w base ok v xs) (os : Array Obj) : dI.R 3 (grow w os) base ok v xs :=
  Kd.R_below h (below_grow (Below.refl _ _) (Nat.le_refl _) os)

theorem size_alloc1 (w : World) (o : Obj) : (w.alloc o).heap.size = w.heap.size + 1 := by
  show (w.heap.push o).size = _
  simp
theorem le_alloc1 (w : World) (o : Obj) : w.heap.size + 1 ≤ (w.alloc o).heap.size := Nat.le_of_eq (size_alloc1 w o).symm

/-- A variable that was boxed, read later. -/
theorem box_cell {w w1 : World} {v : Value} {t : Nat} {B : Nat} (hb : Below B (w.alloc (.cells #[v] t)) w1) (hB : w.heap.size < B) : w1.cell? ⟨w.heap.size, 0, none⟩ = some v :=
  (hb.cell (p := ⟨w.heap.size, 0, none⟩) hB).trans (by simp)

/-- A cell of an elder block reads as it did. -/
theorem cell_later {w w1 : World} {B g o : Nat} {v : Value} (hb : Below B w w1) (hc : w.cell? ⟨g, o, none⟩ = some v) (hB : g < B) : w1.cell? ⟨g, o, none⟩ = some v := (hb.cell (p := ⟨g, o, none⟩) hB).trans hc

/-- What a block of one cell holds. -/
theorem one_cells {W : World} {g : Nat} (hg : g = W.heap.size) (x : Value) (t : Nat) (j : Nat) (u : Value) (h : [x][j]? = some u) : (W.alloc (.cells #[x] t)).cell? ((⟨g, 0, none⟩ : Addr).add j) = some u := by
  subst hg
  match j, h with
  | 0, h => simpa [Go.WideShapes.add_plain] using h
  | j + 1, h => simp at h
/-- What a block of two cells holds. -/
theorem two_cells {W : World} {g : Nat} (hg : g = W.heap.size) (x y : Value) (t : Nat) (j : Nat) (u : Value) (h : [x, y][j]? = some u) : (W.alloc (.cells #[x, y] t)).cell? ((⟨g, 0, none⟩ : Addr).add j) = some u := by
  subst hg
  match j, h with
  | 0, h => simpa [Go.WideShapes.add_plain] using h
  | 1, h => simpa [Go.WideShapes.add_plain] using h
  | j + 2, h => simp at h
theorem size_s (w : World) (q : Nat) (p : Addr) (u : Value) : w.heap.size = ((w.drewN q).setCell p u).heap.size := by simp [World.setCell]
theorem size_sa (w : World) (q : Nat) (p : Addr) (u : Value) (o : Obj) : (((w.drewN q).setCell p u).alloc o).heap.size = w.heap.size + 1 := by
  rw [size_alloc1]
  simp [World.setCell]

/-- A row that was made after the row of rows is stored into it. -/
theorem S_setrow {wr w5 : World} {base go n cap k : Nat} {v5 : Value} {xs : List (List Int)} {row : List Int} (h : Kd.S dG 25 wr base (fun _ => True) (.slice (some ⟨go, 0, none⟩) n cap) xs) (hk : k < n)
    (hb : Below wr.heap.size wr w5) (ho : dI.R 3 w5 wr.heap.size (fun _ => True) v5 row) :
    (∃ u, w5.cell? ⟨go, k, none⟩ = some u ∧ w5.frozen? ⟨go, k, none⟩ = false) ∧ Kd.S dG 25 (w5.setCell ⟨go, k, none⟩ v5) base (fun _ => True) (.slice (some ⟨go, 0, none⟩) n cap) (xs.set k row) := by
  have hbase : base ≤ go ∧ go < wr.heap.size := ⟨Kd.S_base h go (by simp [Value.ownBlock]), Kd.S_lt h go (by simp [Value.ownBlock])⟩
  have hv : ∀ b, v5.ownBlock = some b → wr.heap.size ≤ b := fun b hb' => own_base (R_ints ho) b hb'
  have h2 : Kd.S dG 25 w5 base (fun b => True ∧ ¬ (some b = v5.ownBlock)) (.slice (some ⟨go, 0, none⟩) n cap) xs :=
    Kd.S_mono (Kd.S_below (Kd.S_bound h) hb) (fun b hb' => ⟨trivial, fun e => by have := hv b e.symm; have := hb'.2.2.1; omega⟩)
  obtain ⟨oki, c, hcl, _, hcc, hfr, _, hH⟩ := Kd.S_elem h2 [] (k : Int) (by omega) (by omega)
  have hs1 : dG.sz = 1 := rfl
  obtain ⟨u, rfl⟩ : ∃ u, c = [u] := List.length_eq_one_iff.1 (hcl.trans hs1)
  have hu := hcc 0 u rfl
  have hf := hfr 0
  rw [hs1, Int.toNat_natCast, Nat.mul_one, Nat.add_zero] at hu hf
  refine ⟨⟨u, hu, hf⟩, ?_⟩
  have hP := Kd.S_seg (okg := fun b => some b = v5.ownBlock) hH (by omega) (by omega) (seg := [v5]) (j := 0) (show 0 + 1 ≤ 1 from Nat.le_refl _) (x' := row) (okp := fun b => some b = v5.ownBlock)
    ⟨v5, rfl, Kd.R_lower (Kd.R_tight rfl ho) (by omega)⟩ (fun _ hb' => .inr hb') (fun b hb' => ⟨trivial, fun e => by have := hv b hb'.symm; omega⟩)
  have hP1 := hP.1
  rw [hs1, Int.toNat_natCast, Nat.mul_one, Nat.add_zero] at hP1
  exact hP1

end Go.Proofs.Ytemcmcnhpdkdfaa.P

/-! graph.Clean: what it answers, for every graph of at most 100000 nodes with at most 100000 followers each; nothing that was there is written. -/
namespace Go.Proofs.Ytemcmcnhpdkdfaa.P
open Go.RowKit Go.Lib Go.Sort Go.Shelf Go.Proofs.YtemcmcnhpdkdfaaW.PrintWords Go.Proofs.YtemcmcnhpdkdfaaW.PrintLast Go.Proofs.YtemcmcnhpdkdfaaW.PrintMore

/-! #### the library's slices, in the print's words -/
theorem clone_c (A : Option Addr) (c : Nat) (xs : List Int) (w : World) (h : dI.C w A xs.length xs) (hb : xs.length * 8 ≤ 140737488355328) :
    Calls Try.prog 46 #[.slice A xs.length c] w fun e w' => ∃ v, e = .returned v ∧ dI.R 3 w' w.heap.size (fun _ => True) v xs ∧ Below w.heap.size w w' := by
  cases A with
  | none =>
    have hn : xs.length = 0 := by
      rcases Nat.eq_zero_or_pos xs.length with h0 | h0
      · exact h0
      · obtain ⟨ad, he, _⟩ := h.2.2 h0
        cases he
    obtain rfl := List.eq_nil_of_length_eq_zero hn
    refine (Try.slices_Clone_int_nil _ _ w).mono ?_
    rintro e w' ⟨rfl, rfl⟩
    exact ⟨_, rfl, Kd.R_nil _ _ _ _ _, Below.refl _ _⟩
  | some a =>
    rcases Nat.eq_zero_or_pos xs.length with h0 | h0
    · obtain rfl := List.eq_nil_of_length_eq_zero h0
      refine (Try.slices_Clone_int_zero a c w).mono ?_
      rintro e w' ⟨v, rfl, ho, _, hB⟩
      exact ⟨_, rfl, ints_R ho (fun _ _ => trivial), hB⟩
    · obtain ⟨b, off, he, _, hc⟩ := C_ints h h0
      cases he
      refine (Try.slices_Clone_int b off xs.length c xs w (Nat.le_refl _) hb hc).mono ?_
      rintro e w' ⟨v, rfl, ho, _, hB⟩
      rw [List.take_length] at ho
      exact ⟨_, rfl, ints_R ho (fun _ _ => trivial), hB⟩

theorem sort_c (v : Value) (xs : List Int) (base : Nat) (ok : Nat → Prop) (w : World) (h : dI.R 3 w base ok v xs) (hb : xs.length < 4611686018427387904) (hw : base ≤ w.heap.size) :
    Calls Try.prog 49 #[v] w fun e w' => e = .returned (.tuple #[]) ∧ dI.R 3 w' base ok v (xs.mergeSort fun x y => decide (x ≤ y)) ∧ Below base w w' := by
  rcases R_ints_form h with ⟨rfl, rfl⟩ | ⟨g, cap, rfl, hbg, hlt, hn, hH⟩
  · refine (Try.slices_Sort_int_none none 0 w).mono ?_
    rintro e w' ⟨rfl, rfl⟩
    exact ⟨rfl, by simpa using h, Below.refl _ _⟩
  · refine (Try.slices_Sort_int g 0 cap xs w hH hlt hb).mono ?_
    rintro e w' ⟨rfl, n, os, rfl⟩
    refine ⟨rfl, R_growos ?_ os, below_grow (below_putRow' hbg) (by simp [putRow, mapBlock, Sort.ahead]; omega) os⟩
    exact R_put h (by simp) (by simp) (by rw [List.take_of_length_le (Nat.le_refl _)]) (by simp)

theorem compact_c (v : Value) (xs : List Int) (base : Nat) (ok : Nat → Prop) (w : World) (h : dI.R 3 w base ok v xs) (hb : xs.length ≤ 9223372036854775807) :
    Calls Try.prog 50 #[v] w fun e w' => ∃ v', e = .returned v' ∧ dI.R 3 w' base ok v' (Lib.compact xs) ∧ Below base w w' := by
  rcases R_ints_form h with ⟨rfl, rfl⟩ | ⟨g, cap, rfl, hbg, hlt, hn, hH⟩
  · refine (Try.slices_Compact_int_empty none 0 w).mono ?_
    rintro e w' ⟨rfl, rfl⟩
    exact ⟨_, rfl, h, Below.refl _ _⟩
  · have hle := Lib.compact_length_le xs
    refine (Try.slices_Compact_int g 0 cap xs w hH hb hn).mono ?_
    rintro e w' ⟨rfl, q, rfl⟩
    refine ⟨_, rfl, R_put h ?_ rfl ?_ hle, below_putRow' hbg⟩
    · rw [List.length_append, List.length_replicate]; omega
    · rw [List.take_left']; rfl

/-! #### DeleteFunc at whatever predicate that reads below the row -/
set_option maxHeartbeats 1000000 in
theorem del_nil_c (fv : Value) (w : World) :
    Calls Try.prog 45 #[.slice none 0 0, fv] w fun e w' => e = .returned (.slice none 0 0) ∧ w' = w := by
  have hi : ∀ W, Calls Try.prog 75 #[.slice none 0 0, fv] W fun e w' => e = .returned (.int .i64 (-1)) ∧ w' = W := fun W => Try.slices_IndexFunc_empty (α := Int) none 0 fv W
  go_enter Try.func45, Try.ntmps45
  go_wp2_with (go_at_call 75; refine (hi _).mono ?_; rintro e w' ⟨rfl, rfl⟩)
  go_ret
  exact ⟨rfl, rfl⟩

/-- g: the closure's function; lb: what it captured; p: what it tells, in every world that is as w below base. -/
theorem del_c (g : Nat) (lb : Array Value) (p : Int → Bool) (eg : ∀ args w, (callFunc g args).run Try.prog w = .ok (.enter g args) w) (v : Value) (xs : List Int) (base : Nat) (ok : Nat → Prop) (w : World)
    (hp : ∀ W x, Below base w W → FnGives Try.prog g lb #[.int .i64 x] (.bool (p x)) W) (h : dI.R 3 w base ok v xs) (hb : xs.length ≤ 9223372036854775807) (hw : base ≤ w.heap.size) :
    Calls Try.prog 45 #[v, .func (.func g) #[] lb] w fun e w' => ∃ v', e = .returned v' ∧ dI.R 3 w' base ok v' (xs.filter fun x => !p x) ∧ Below base w w' := by
  rcases R_ints_form h with ⟨rfl, rfl⟩ | ⟨gb, cap, rfl, hbg, hlt, hn, hH⟩
  · refine (del_nil_c _ w).mono ?_
    rintro e w' ⟨rfl, rfl⟩
    exact ⟨_, rfl, h, Below.refl _ _⟩
  · have hle : (xs.filter fun x => !p x).length ≤ xs.length := List.length_filter_le _ _
    have hc := Try.slices_DeleteFunc (Value.int .i64) (fun _ => rfl) p g lb eg 0 Try.zeroValue3 gb 0 cap xs.toArray w
      (fun W x hB => hp W x (hB.mono hw)) (fun n os dk x hd => hp _ x (below_grow (below_putRow' hbg) (by simp [putRow, mapBlock, Sort.ahead]; omega) os)) hH (by simpa using hb) (by simpa using hn)
    simp only [List.size_toArray] at hc
    refine hc.mono ?_
    rintro e w' ⟨rfl, q, rfl⟩
    refine ⟨_, rfl, R_put h ?_ rfl ?_ hle, below_putRow' hbg⟩
    · rw [List.length_append, List.length_replicate]; omega
    · rw [List.take_left']; rfl

/-! #### graph.Clean -/

set_option maxHeartbeats 1000000 in
theorem cleanfn_gives (x : Int) (B : Nat) (A : Option Addr) (n c : Nat) (W : World) (hc : W.cell? ⟨B, 0, none⟩ = some (.slice A n c)) :
    FnGives Try.prog 47 #[.pointer (some ⟨B, 0, none⟩)] #[.int .i64 x] (.bool (!isN n x)) W := by
  show Calls Try.prog 47 #[.int .i64 x, .pointer (some ⟨B, 0, none⟩)] W _
  have hq : (!isN n x) = (!(decide (0 ≤ x) && decide (x < (n : Int)))) := by unfold isN; rw [Bool.decide_and]
  rw [hq]
  clear hq
  by_cases h1 : 0 ≤ x
  · by_cases h2 : x < (n : Int)
    · go_enter Try.func47, Try.ntmps47
      go_wp2
      go_ret
      exact ⟨by simp [h1, h2], 0, rfl⟩
    · go_enter Try.func47, Try.ntmps47
      go_wp2
      go_ret
      exact ⟨by simp [h2], 0, rfl⟩
  · go_enter Try.func47, Try.ntmps47
    go_wp2
    go_ret
    exact ⟨by simp [h1], 0, rfl⟩

set_option maxHeartbeats 1000000 in
theorem is_c (x : Int) (A : Option Addr) (n c : Nat) (w : World) : Calls Try.prog 48 #[.slice A n c, .int .i64 x] w fun e w' => e = .returned (.bool (isN n x)) ∧ w = w' := by
  have hq : isN n x = (decide (0 ≤ x) && decide (x < (n : Int))) := by unfold isN; rw [Bool.decide_and]
  rw [hq]
  clear hq
  by_cases h1 : 0 ≤ x
  · by_cases h2 : x < (n : Int)
    · go_enter Try.func48, Try.ntmps48
      go_wp2
      go_ret
      exact ⟨by simp [h1, h2], rfl⟩
    · go_enter Try.func48, Try.ntmps48
      go_wp2
      go_ret
      exact ⟨by simp [h2], rfl⟩
  · go_enter Try.func48, Try.ntmps48
    go_wp2
    go_ret
    exact ⟨by rw [decide_eq_false (show ¬ 0 ≤ x by omega)]; rfl, rfl⟩
theorem rd_nat (g : List (List Int)) (k : Nat) (hk : k < g.length) : rd_L1 g k = g[k] := by
  unfold rd_L1
  rw [Int.toNat_natCast, List.getD_eq_getElem?_getD, List.getElem?_eq_getElem hk]
  rfl

set_option maxHeartbeats 4000000 in
set_option maxRecDepth 100000 in
theorem graph_Clean.calls (A0 : Option Addr) (c0 : Nat) (l0 : List (List Int)) (r : List (List Int)) (w : World) (hr0 : Kd.C (Kd.slice 3 (Kd.int .i64)) w A0 l0.length l0) (hc0 : l0.length ≤ c0) (h : graph_Clean.f l0 = some r) :
    Calls Try.prog 19 #[.slice A0 l0.length c0] w fun e w' => ∃ v0_ : Value, e = .returned v0_ ∧ Kd.S (Kd.slice 3 (Kd.int .i64)) 25 w' w.heap.size (fun _ => True) v0_ r ∧ Below w.heap.size w w' := by
  have HR0 := Aside0.mk hr0
  have HC0 := Aside0.mk hc0
  have HF : Aside0 (fits l0 = true ∧ r = clean l0) := by
    unfold graph_Clean.f at h
    split at h
    · exact ⟨⟨by assumption, (Option.some.inj h).symm⟩⟩
    · cases h
  clear hr0 hc0 h
  have hn : l0.length ≤ 100000 := by
    have := HF.out.1
    unfold fits at this
    simp at this
    exact this.1
  have hz : 0 ≤ (l0.length : Int) := by omega
  go_enter Try.func19, Try.ntmps19
  go_wp2_with ((with_reducible refine gate_dst (N := 9) rfl ?_); refine Kd.S_make (Kd.slice 3 (Kd.int .i64)) (w0 := w.alloc (.cells #[.slice A0 l0.length c0] 22)) (w.heap.size + 1) 25 rfl (N := 9) rfl 22 _ _ rfl (l0.length : Int) rfl rfl Try.underlying22 (.slice none 0 0) 24 info25 rfl Nat.one_pos (by omega) [] (ok := fun _ => True) (okp := fun _ => True) ⟨_, rfl, Kd.R_nil _ _ _ _ _⟩ (fun _ hk => hk) trivial hz (by omega) (Below.refl _ _) (le_alloc1 _ _) ?_; intro v1 w1 ho1 hb1 hg1 hn1; clear hg1 hn1; have hbx := box_cell hb1 (Nat.lt_succ_self _); rw [Int.toNat_natCast, ← cleanSo_zero] at ho1; have HS := Aside0.mk ho1; have HB := Aside0.mk hb1; clear ho1 hb1)
  go_loopw [12] (fun v12 wr => ∃ k : Nat, v12 = .int .i64 k ∧ k ≤ l0.length ∧ Aside0 (Kd.S (Kd.slice 3 (Kd.int .i64)) 25 wr (w.heap.size + 1) (fun _ => True) v1 (cleanSo l0 k)) ∧ Aside0 (Below (w.heap.size + 1) (w.alloc (.cells #[.slice A0 l0.length c0] 22)) wr)) (fun v12 _ => l0.length - (intOf v12).toNat)
  case atStart => exact ⟨0, rfl, Nat.zero_le _, HS, HB⟩
  case round =>
    obtain ⟨k, rfl, hk, HSr, HBr⟩ := hrel
    clear HS HB hbx
    by_cases hlt : k < l0.length
    · have hbx := box_cell HBr.out (Nat.lt_succ_self _)
      obtain ⟨ad, A1, c1, e1, hx1, hl1, hC1⟩ := at_L1 HR0.out (k : Int) (by omega) (by omega)
      subst e1
      have hBw : Below w.heap.size w wr := below_step (below_alloc (Below.refl _ _) _) (HBr.out.mono (Nat.le_of_eq (size_alloc1 _ _)))
      replace hx1 := (hBw.cell (World.block_lt_of_cell? w _ hx1)).trans hx1
      replace hC1 := Kd.C_below hC1 hBw
      rw [Int.toNat_natCast] at hx1
      have hrow : Aside0 ((rd_L1 l0 k).length ≤ 100000 ∧ cleanRow l0.length (rd_L1 l0 k) = cleanRow l0.length l0[k]) := by
        rw [rd_nat l0 k hlt]
        exact ⟨fits_row HF.out.1 hlt, rfl⟩
      obtain ⟨row, er⟩ : ∃ row, row = rd_L1 l0 k := ⟨_, rfl⟩
      rw [← er] at hx1 hl1 hC1 hrow
      clear er
      have HC1 := Aside0.mk hC1
      clear hC1 hl1
      have hwz : Aside0 (w.heap.size + 1 ≤ wr.heap.size) := ⟨Nat.le_trans (le_alloc1 _ _) HBr.out.size⟩
      obtain ⟨go, capo, e0, hgo, hgl, _⟩ := Kd.S_form HSr.out (by rw [cleanSo_len _ _ hk]; omega)
      rw [cleanSo_len _ _ hk] at e0
      subst e0
      have hgo' : Aside0 (w.heap.size + 1 ≤ go ∧ go < wr.heap.size) := ⟨hgo, hgl⟩
      clear hgo hgl
      go_wp2_with (go_at_call 46; refine (clone_c _ _ row _ HC1.out (by have := hrow.out.1; omega)).mono ?_; rintro e w2 ⟨v2, rfl, ho2, hb2⟩; have HO2 := Aside0.mk ho2; have HB2 := Aside0.mk hb2; clear ho2 hb2; have hbx2 := cell_later HB2.out hbx (by have := hwz.out; omega))
      go_wp2_with (go_at_call 45; refine (del_c 47 _ (fun x => !isN l0.length x) (enters_of Try.func47 (by kernel_rfl) rfl) v2 row wr.heap.size (fun _ => True) w2 (fun W x hW => cleanfn_gives x _ _ _ _ W (cell_later hW hbx2 (by have := hwz.out; omega))) HO2.out (by have := hrow.out.1; omega) HB2.out.size).mono ?_; rintro e w3 ⟨v3, rfl, ho3, hb3⟩; have HO3 := Aside0.mk ho3; have HB3 := Aside0.mk (HB2.out.trans hb3); clear ho3 hb3 HO2 HB2 hbx2)
      go_wp2_with (go_at_call 49; refine (sort_c v3 _ wr.heap.size (fun _ => True) w3 HO3.out (by have := hrow.out.1; have := List.length_filter_le (fun x => !!isN l0.length x) row; omega) HB3.out.size).mono ?_; rintro e w4 ⟨rfl, ho4, hb4⟩; have HO4 := Aside0.mk ho4; have HB4 := Aside0.mk (HB3.out.trans hb4); clear ho4 hb4 HO3 HB3)
      go_wp2_with (go_at_call 50; refine (compact_c v3 _ wr.heap.size (fun _ => True) w4 HO4.out (by simp only [List.length_mergeSort]; have := hrow.out.1; have := List.length_filter_le (fun x => !!isN l0.length x) row; omega)).mono ?_; rintro e w5 ⟨v5, rfl, ho5, hb5⟩; simp only [Bool.not_not] at ho5; have HB5 := Aside0.mk (HB4.out.trans hb5); (obtain ⟨⟨u5, hu5, hf5⟩, hs5⟩ := S_setrow HSr.out hlt HB5.out ho5); have HS5 := Aside0.mk hs5; obtain ⟨A5, c5, rfl⟩ := Kd.R_slice ho5; clear ho5 hb5 HO4 HB4 hs5)
      go_roundw
      case rel =>
        refine ⟨k + 1, by go_num, by omega, ⟨?_⟩, ⟨?_⟩⟩
        · rw [← cleanSo_succ l0 k hlt, ← hrow.out.2]
          exact HS5.out
        · exact HBr.out.trans ((HB5.out.mono hwz.out).setCell hgo'.out.1 _)
      case measure => simp [intOf]; omega
    · obtain rfl : k = l0.length := by omega
      clear hlt
      go_wp2
      go_ret
      have hfin := HSr.out
      rw [cleanSo_all, ← HF.out.2] at hfin
      exact ⟨_, rfl, Kd.S_lower hfin (Nat.le_succ _), below_step (below_alloc (Below.refl _ _) _) (HBr.out.mono (Nat.le_of_eq (size_alloc1 _ _)))⟩

end Go.Proofs.Ytemcmcnhpdkdfaa.P

/-! graph.each: it goes down from a node and tells each one when all behind it were told: at whatever closure that keeps to what it owns. -/
namespace Go.Proofs.Ytemcmcnhpdkdfaa.P
open Go.RowKit Go.Lib Go.Sort Go.Shelf Go.Proofs.YtemcmcnhpdkdfaaW.PrintWords Go.Proofs.YtemcmcnhpdkdfaaW.PrintLast Go.Proofs.YtemcmcnhpdkdfaaW.PrintMore

/-- The way's cells. -/
def wayCells (st : List (Int × Int)) : List Value := st.reverse.flatMap fun p => [.int .i64 p.1, .int .i64 p.2]

theorem info_step : (Try.prog.info? 89).map (fun i => (i.zero, i.size, i.bytes)) = some (some (.agg #[.int .i64 0, .int .i64 0]), 2, 16) := by kernel_rfl
/-- All but the blocks of S is as it was. -/
structure Fr (S : Nat → Prop) (w w' : World) : Prop where
  os : w'.os = w.os
  tape : w'.tape = w.tape
  output : w'.output = w.output
  size : w.heap.size ≤ w'.heap.size
  block : ∀ k, k < w.heap.size → ¬ S k → w'.heap[k]? = w.heap[k]?
theorem Fr.refl (S : Nat → Prop) (w : World) : Fr S w w := ⟨rfl, rfl, rfl, Nat.le_refl _, fun _ _ _ => rfl⟩
theorem Fr.trans {S S' : Nat → Prop} {a b c : World} (h : Fr S a b) (k : Fr S' b c) (hs : ∀ i, S' i → S i ∨ a.heap.size ≤ i) : Fr S a c :=
  ⟨k.os.trans h.os, k.tape.trans h.tape, k.output.trans h.output, Nat.le_trans h.size k.size, fun i hi hn => (k.block i (Nat.lt_of_lt_of_le hi h.size) (fun hh => (hs i hh).elim hn (fun h2 => by omega))).trans (h.block i hi hn)⟩
theorem Fr.below {B : Nat} {S : Nat → Prop} {a b : World} (h : Below B a b) (hS : ∀ i, B ≤ i → S i ∨ a.heap.size ≤ i) : Fr S a b :=
  ⟨h.os, h.tape, h.output, h.size, fun k hk hn => h.block k (by rcases Nat.lt_or_ge k B with h1 | h1; exact h1; rcases hS k h1 with h2 | h2; exact absurd h2 hn; omega)⟩

theorem own_pos {w : World} {base e size m : Nat} {v : Value} {xs : List Value} (h : w.ownsRow base e size v (m + 1) xs) : ∃ g cap, v = .slice (some ⟨g, 0, none⟩) (m + 1) cap ∧ base ≤ g ∧ g < w.heap.size ∧ m + 1 ≤ cap := by
  rcases h.2 with ⟨_, h0⟩ | ⟨g, cap, cur, rfl, hg, hh, hn, _⟩
  · omega
  · refine ⟨g, cap, rfl, hg, ?_, hn⟩
    rcases Nat.lt_or_ge g w.heap.size with h1 | h1
    · exact h1
    · rw [Array.getElem?_eq_none h1] at hh
      cases hh

/-- What holds at each step: what is to come, what the call owns, what the closure owns. -/
structure EachSt (I : World → List Int → (Nat → Prop) → Prop) (g : List (List Int)) (n gm cm : Nat) (w : World) (S0 : Nat → Prop) (told : List Int) (k kq : Nat) (v7 : Value) (wr : World) (met : List Bool) (st : List (Int × Int)) (tl : List Int) (S : Nat → Prop) : Prop where
  run : dfs g kq met st tl = some told
  fuel : kq ≤ k ∧ tl.length + kq ≤ k ∧ st.length + kq ≤ k + 1
  lenm : met.length = n
  way : ∀ p ∈ st, 0 ≤ p.1 ∧ p.1 < (n : Int) ∧ 0 ≤ p.2
  own : wr.ownsRow w.heap.size 89 2 v7 st.length (wayCells st)
  omet : dB.R 4 wr w.heap.size (fun _ => True) (.slice (some ⟨gm, 0, none⟩) n cm) met
  inv : I wr tl S
  sub : ∀ i, S i → S0 i ∨ w.heap.size ≤ i
  slt : ∀ i, S i → i < wr.heap.size
  ngm : ¬ S gm
  nway : ∀ b, v7.ownBlock = some b → ¬ S b ∧ b ≠ gm
  fr : Fr S0 w wr

theorem wayCells_cons (p : Int × Int) (st : List (Int × Int)) : wayCells (p :: st) = wayCells st ++ [.int .i64 p.1, .int .i64 p.2] := by simp [wayCells]
theorem wayCells_len (st : List (Int × Int)) : (wayCells st).length = st.length * 2 := by
  induction st with
  | nil => rfl
  | cons p st ih => rw [wayCells_cons, List.length_append, ih]; simp; omega
theorem way_cells {w : World} {base e gw cw : Nat} {a i : Int} {st : List (Int × Int)} (h : w.ownsRow base e 2 (.slice (some ⟨gw, 0, none⟩) (st.length + 1) cw) (st.length + 1) (wayCells ((a, i) :: st))) :
    w.cell? ⟨gw, st.length * 2, none⟩ = some (.int .i64 a) ∧ w.cell? ⟨gw, st.length * 2 + 1, none⟩ = some (.int .i64 i) ∧ w.frozen? ⟨gw, st.length * 2 + 1, none⟩ = false := by
  refine ⟨?_, ?_, h.frozenAt _⟩
  · rw [h.cellAt _ (by omega), wayCells_cons, List.getElem?_append_right (by rw [wayCells_len]; omega), wayCells_len, Nat.sub_self]
    rfl
  · rw [h.cellAt _ (by omega), wayCells_cons, List.getElem?_append_right (by rw [wayCells_len]; omega), wayCells_len, Nat.add_sub_cancel_left]
    rfl

theorem below_fr {B : Nat} {S : Nat → Prop} {a w w' : World} (h : Below B a w) (hf : Fr S w w') (hS : ∀ k, S k → B ≤ k) (hB : B ≤ w.heap.size) : Below B a w' :=
  ⟨hf.os.trans h.os, hf.tape.trans h.tape, hf.output.trans h.output, Nat.le_trans h.size hf.size, fun k hk => (hf.block k (by omega) (fun hs => by have := hS k hs; omega)).trans (h.block k hk)⟩
theorem Fr.drewN (S : Nat → Prop) (w : World) (q : Nat) : Fr S w (w.drewN q) := ⟨rfl, rfl, rfl, Nat.le_refl _, fun _ _ _ => rfl⟩
theorem Fr.setCell {S : Nat → Prop} {a w : World} (h : Fr S a w) {p : Addr} (hp : S p.block ∨ a.heap.size ≤ p.block) (u : Value) : Fr S a (w.setCell p u) :=
  ⟨h.os, h.tape, h.output, by have := h.size; simp [World.setCell]; omega, fun k hk hn => by
    rw [Below.heap_setCell _ _ _ _ (fun e => by rcases hp with h1 | h1; exact hn (e ▸ h1); omega)]
    exact h.block k hk hn⟩
theorem Fr.alloc {S : Nat → Prop} {a w : World} (h : Fr S a w) (o : Obj) : Fr S a (w.alloc o) :=
  ⟨h.os, h.tape, h.output, by have := h.size; have := size_alloc1 w o; omega, fun k hk hn => by
    rw [Below.heap_alloc _ _ _ (Nat.lt_of_lt_of_le hk h.size)]
    exact h.block k hk hn⟩
theorem Fr.grown {S : Nat → Prop} {a w w' : World} {row : Option Nat} (h : Fr S a w) (hg : w.grownBy w' row) (hr : ∀ k, row = some k → S k ∨ a.heap.size ≤ k) : Fr S a w' :=
  ⟨hg.os.trans h.os, hg.tape.trans h.tape, hg.output.trans h.output, Nat.le_trans h.size hg.size, fun k hk hn => by
    rw [hg.block k (Nat.lt_of_lt_of_le hk h.size) (fun e => (hr k e.symm).elim hn (fun h1 => by omega))]
    exact h.block k hk hn⟩

section
variable {I : World → List Int → (Nat → Prop) → Prop} {g : List (List Int)} {n gm cm gw cw m : Nat} {w wr : World} {S0 : Nat → Prop} {told : List Int} {k kq : Nat} {met : List Bool} {st : List (Int × Int)} {tl : List Int} {S : Nat → Prop} {a ii b : Int}

theorem each_frame (hI : ∀ W W' l S, I W l S → W.heap.size ≤ W'.heap.size → (∀ k, S k → W'.heap[k]? = W.heap[k]?) → I W' l S) {v7 : Value} (H : EachSt I g n gm cm w S0 told k kq v7 wr met st tl S) (hv : v7.ownBlock = some gw) (hgm : w.heap.size ≤ gm) (hgw : w.heap.size ≤ gw) {W' : World}
    (hf : Fr (fun i => i = gm ∨ i = gw) wr W') : I W' tl S ∧ Fr S0 w W' :=
  ⟨hI _ _ _ _ H.inv hf.size (fun i hi => hf.block i (H.slt i hi) (fun e => by rcases e with e | e; exact H.ngm (e ▸ hi); exact (H.nway gw hv).1 (e ▸ hi))),
   H.fr.trans hf (fun i e => .inr (by rcases e with e | e <;> omega))⟩

theorem each_push (hI : ∀ W W' l S, I W l S → W.heap.size ≤ W'.heap.size → (∀ k, S k → W'.heap[k]? = W.heap[k]?) → I W' l S) (H : EachSt I g n gm cm w S0 told k (kq + 1) (.slice (some ⟨gw, 0, none⟩) (m + 1) cw) wr met ((a, ii) :: st) tl S) (hm : m = st.length)
    (hgm : w.heap.size ≤ gm ∧ gm < wr.heap.size) (hgw : w.heap.size ≤ gw ∧ gw < wr.heap.size) (hl : ii < ((g.getD a.toNat []).length : Int)) (hb : b = (g.getD a.toNat []).getD ii.toNat 0) (hbn : 0 ≤ b ∧ b < (n : Int)) (hmb : rdOf false met b = false)
    {W1 w2 : World} {v' : Value} {q : Nat} {o : Obj} (hW : W1 = ((wr.drewN q).setCell ⟨gm, b.toNat, none⟩ (.bool true)).alloc o) (ho : w2.ownsRow w.heap.size 89 2 v' (m + 1 + 1) (wayCells ((a, ii) :: st) ++ [.int .i64 b, .int .i64 0])) (hgr : W1.grownBy w2 (some gw))
    (hat : v'.ownBlock = some gw ∨ v'.ownBlock = some W1.heap.size) : EachSt I g n gm cm w S0 told k kq v' w2 (met.set b.toNat true) ((b, 0) :: (a, ii) :: st) tl S := by
  have hmgw : gw ≠ gm := (H.nway gw (by simp [Value.ownBlock])).2
  have hsz : W1.heap.size = wr.heap.size + 1 := by rw [hW, size_alloc1]; simp [World.setCell]
  have hfr : Fr (fun i => i = gm ∨ i = gw) wr w2 := by
    have h1 : Fr (fun i => i = gm ∨ i = gw) wr W1 := by rw [hW]; exact ((Fr.drewN _ wr q).setCell (.inl (.inl rfl)) _).alloc _
    exact h1.grown hgr (fun i e => .inl (.inr (by injection e with e; exact e.symm)))
  obtain ⟨h1, h2⟩ := each_frame hI H (by simp [Value.ownBlock]) hgm.1 hgw.1 hfr
  have hmt : met.getD b.toNat true = false := by
    have hlt : b.toNat < met.length := by have := H.lenm; omega
    unfold rdOf at hmb
    rw [List.getD_eq_getElem?_getD, List.getElem?_eq_getElem hlt] at hmb ⊢
    exact hmb
  refine ⟨dfs_push H.run hl hb hmt, ?_, by rw [List.length_set]; exact H.lenm, ?_, ?_, ?_, h1, H.sub, fun i hi => Nat.lt_of_lt_of_le (H.slt i hi) hfr.size, H.ngm, ?_, h2⟩
  · have := H.fuel
    simp only [List.length_cons] at this ⊢
    omega
  · intro p hp
    rcases List.mem_cons.1 hp with rfl | hp
    · exact ⟨hbn.1, hbn.2, Int.le_refl _⟩
    · exact H.way p hp
  · rw [wayCells_cons, List.length_cons, List.length_cons, ← hm]
    exact ho
  · have h3 : dB.R 4 W1 w.heap.size (fun _ => True) (.slice (some ⟨gm, 0, none⟩) n cm) (met.set b.toNat true) := by
      rw [hW]
      exact Kd.R_alloc (Kd.R_putn (Kd.R_drewN H.omet q) b true) o
    exact Kd.R_mono (Kd.R_grown (Kd.R_tight rfl h3) hgr (fun i hi e => by simp only [Value.ownBlock] at hi; rw [hi] at e; injection e with e; exact hmgw e.symm)) (fun _ _ => trivial)
  · intro b' hb'
    rcases hat with e | e
    · rw [e] at hb'
      injection hb' with hb'
      subst hb'
      exact H.nway _ (by simp [Value.ownBlock])
    · rw [e] at hb'
      injection hb' with hb'
      refine ⟨fun hs => ?_, by omega⟩
      have := H.slt _ hs
      omega

theorem wayCells_set : (wayCells ((a, ii) :: st)).set (st.length * 2 + 1) (.int .i64 (ii + 1)) = wayCells ((a, ii + 1) :: st) := by
  rw [wayCells_cons, wayCells_cons, List.set_append_right _ _ (by rw [wayCells_len]; omega), wayCells_len, Nat.add_sub_cancel_left]
  rfl

theorem each_skip (hI : ∀ W W' l S, I W l S → W.heap.size ≤ W'.heap.size → (∀ k, S k → W'.heap[k]? = W.heap[k]?) → I W' l S) (H : EachSt I g n gm cm w S0 told k (kq + 1) (.slice (some ⟨gw, 0, none⟩) (m + 1) cw) wr met ((a, ii) :: st) tl S) (hm : m = st.length)
    (hgm : w.heap.size ≤ gm) (hgw : w.heap.size ≤ gw) (hl : ii < ((g.getD a.toNat []).length : Int)) (hb : b = (g.getD a.toNat []).getD ii.toNat 0) (hbn : 0 ≤ b ∧ b < (n : Int)) (hmb : rdOf false met b = true) (q : Nat) :
    EachSt I g n gm cm w S0 told k kq (.slice (some ⟨gw, 0, none⟩) (m + 1) cw) ((wr.drewN q).setCell ⟨gw, m * 2 + 1, none⟩ (.int .i64 (ii + 1))) met ((a, ii + 1) :: st) tl S := by
  have hmgw : gw ≠ gm := (H.nway gw (by simp [Value.ownBlock])).2
  have hfr : Fr (fun i => i = gm ∨ i = gw) wr ((wr.drewN q).setCell ⟨gw, m * 2 + 1, none⟩ (.int .i64 (ii + 1))) := (Fr.drewN _ wr q).setCell (.inl (.inr rfl)) _
  obtain ⟨h1, h2⟩ := each_frame hI H (by simp [Value.ownBlock]) hgm hgw hfr
  have hmt : met.getD b.toNat true = true := by
    have hlt : b.toNat < met.length := by have := H.lenm; omega
    unfold rdOf at hmb
    rw [List.getD_eq_getElem?_getD, List.getElem?_eq_getElem hlt] at hmb ⊢
    exact hmb
  refine ⟨dfs_skip H.run hl hb hmt, ?_, H.lenm, ?_, ?_, ?_, h1, H.sub, fun i hi => Nat.lt_of_lt_of_le (H.slt i hi) hfr.size, H.ngm, H.nway, h2⟩
  · have := H.fuel
    simp only [List.length_cons] at this ⊢
    omega
  · intro p hp
    rcases List.mem_cons.1 hp with rfl | hp
    · have := H.way (a, ii) List.mem_cons_self
      exact ⟨this.1, this.2.1, by have := this.2.2; simp only at this ⊢; omega⟩
    · exact H.way p (List.mem_cons_of_mem _ hp)
  · have h3 := H.own
    rw [List.length_cons, ← hm] at h3 ⊢
    have h4 := World.ownsRow.stored (w := wr.drewN q) (pw_own_drewN h3 q) (m * 2 + 1) (.int .i64 (ii + 1))
    rw [hm, wayCells_set] at h4
    rw [hm]
    exact h4.1
  · exact Kd.R_mono (Kd.R_far (Kd.R_tight rfl (Kd.R_drewN H.omet q)) (fun i hi => by simp only [Value.ownBlock] at hi; injection hi with hi; exact fun e => hmgw ((show i = gw from e).symm.trans hi)) _) (fun _ _ => trivial)

theorem each_tell (hL : ∀ W l S, I W l S → ∀ k, S k → k < W.heap.size) (H : EachSt I g n gm cm w S0 told k (kq + 1) (.slice (some ⟨gw, 0, none⟩) (m + 1) cw) wr met ((a, ii) :: st) tl S) (hm : m = st.length)
    (hgm : w.heap.size ≤ gm ∧ gm < wr.heap.size) (hgw : w.heap.size ≤ gw ∧ gw < wr.heap.size) (hl : ¬ ii < ((g.getD a.toNat []).length : Int)) {q : Nat} {W1 : World} {S1 : Nat → Prop} (hI1 : I W1 (tl ++ [a]) S1) (hS1 : ∀ k, S1 k → S k ∨ (wr.drewN q).heap.size ≤ k) (hf : Fr S (wr.drewN q) W1) :
    EachSt I g n gm cm w S0 told k kq (.slice (some ⟨gw, 0, none⟩) m cw) W1 met st (tl ++ [a]) S1 := by
  have hmgw : gw ≠ gm := (H.nway gw (by simp [Value.ownBlock])).2
  have hsw : ¬ S gw := (H.nway gw (by simp [Value.ownBlock])).1
  have hS1' : ∀ k, S1 k → S k ∨ wr.heap.size ≤ k := hS1
  have hbk : ∀ i, i < wr.heap.size → ¬ S i → W1.heap[i]? = wr.heap[i]? := fun i hi hn => hf.block i hi hn
  refine ⟨dfs_pop H.run hl, ?_, H.lenm, fun p hp => H.way p (List.mem_cons_of_mem _ hp), ?_, ?_, hI1, ?_, hL _ _ _ hI1, ?_, ?_, ?_⟩
  · have := H.fuel
    simp only [List.length_cons, List.length_append, List.length_nil] at this ⊢
    omega
  · have h3 := H.own
    rw [List.length_cons, ← hm, wayCells_cons] at h3
    have h4 := ownsRow_pop (by rw [wayCells_len, hm]) h3
    rw [hm] at h4 ⊢
    exact own_move h4 (fun i hi => hbk i (by simp only [Value.ownBlock] at hi; injection hi with hi; omega) (by simp only [Value.ownBlock] at hi; injection hi with hi; rw [← hi]; exact hsw))
  · exact Kd.R_mono (Kd.R_move (Kd.R_tight rfl H.omet) (fun i hi => by simp only [Value.ownBlock] at hi; injection hi with hi; subst hi; exact hbk _ hgm.2 H.ngm)) (fun _ _ => trivial)
  · intro i hi
    rcases hS1' i hi with h1 | h1
    · exact H.sub i h1
    · exact .inr (by omega)
  · intro hs
    rcases hS1' _ hs with h1 | h1
    · exact H.ngm h1
    · omega
  · intro b' hb'
    simp only [Value.ownBlock] at hb'
    injection hb' with hb'
    subst hb'
    refine ⟨fun hs => ?_, hmgw⟩
    rcases hS1' _ hs with h1 | h1
    · exact hsw h1
    · omega
  · exact H.fr.trans ((Fr.drewN S wr q).trans hf (fun i h => .inl h)) (fun i h => H.sub i h)
end

set_option maxHeartbeats 4000000 in
set_option maxRecDepth 100000 in
theorem each_c (f : Nat) (lb : Array Value) (eg : ∀ args w, (callFunc f args).run Try.prog w = .ok (.enter f args) w) (I : World → List Int → (Nat → Prop) → Prop) (n : Nat)
    (hmove : ∀ W W' l S, I W l S → W.heap.size ≤ W'.heap.size → (∀ k, S k → W'.heap[k]? = W.heap[k]?) → I W' l S) (hlt : ∀ W l S, I W l S → ∀ k, S k → k < W.heap.size)
    (hstep : ∀ W l S a, I W l S → 0 ≤ a → a < (n : Int) → l.length < 1000000 → Calls Try.prog f (#[.int .i64 a] ++ lb) W fun e W' => e = .returned (.tuple #[]) ∧ ∃ S', I W' (l ++ [a]) S' ∧ (∀ k, S' k → S k ∨ W.heap.size ≤ k) ∧ Fr S W W')
    (g : List (List Int)) (hn : g.length = n) (hsm : n ≤ 100000) (hg : ∀ l ∈ g, ∀ b ∈ l, 0 ≤ b ∧ b < (n : Int)) (hgl : ∀ l ∈ g, l.length ≤ 100000)
    (A0 : Option Addr) (c0 : Nat) (S0 : Nat → Prop) (w : World) (hC : ∀ W, Fr S0 w W → dG.C W A0 n g) (from_ : Int) (h0 : 0 ≤ from_) (h1 : from_ < (n : Int)) (k : Nat) (hk : k ≤ 1000000) (told : List Int)
    (hI : I w [] S0) (hd : dfs g k ((List.replicate n false).set from_.toNat true) [(from_, 0)] [] = some told) :
    Calls Try.prog 51 #[.slice A0 n c0, .int .i64 from_, .func (.func f) #[] lb] w fun e w' => e = .returned (.tuple #[]) ∧ ∃ S', I w' told S' ∧ (∀ i, S' i → S0 i ∨ w.heap.size ≤ i) ∧ Fr S0 w w' := by
  have HM := Aside0.mk hmove
  have HL := Aside0.mk hlt
  have HST := Aside0.mk hstep
  have HG := Aside0.mk hg
  have HGL := Aside0.mk hgl
  have HC := Aside0.mk hC
  have HI := Aside0.mk hI
  have HD := Aside0.mk hd
  have HN := Aside0.mk hn
  clear hmove hlt hstep hg hgl hC hI hd hn
  go_enter Try.func51, Try.ntmps51
  have HIS : ∀ W, Calls Try.prog 48 #[.slice A0 n c0, .int .i64 from_] W fun e w' => e = .returned (.bool true) ∧ W = w' := fun W => by
    have := is_c from_ A0 n c0 W
    rw [isN_yes h0 h1] at this
    exact this
  have hz : 0 ≤ (n : Int) := by omega
  go_wp2_with (fail)
  go_step3
  go_wp2_with (first | (go_at_call 48; refine (HIS _).mono ?_; rintro e w' ⟨rfl, rfl⟩) | ((with_reducible refine gate_dst (N := 16) rfl ?_); refine Kd.R_make Kd.bool (w0 := w) w.heap.size 4 rfl (N := 16) rfl 32 _ _ rfl (n : Int) rfl rfl Try.underlying32 (.bool false) 1 info4 rfl Nat.one_pos Nat.one_pos false (ok := fun _ => True) (okp := fun _ => True) rfl (fun _ hk => hk) trivial hz (by omega) (Below.refl _ _) (Nat.le_refl _) ?_; intro v1 w1 ho1 hb1 hg1 hn1; clear hg1 hn1; rw [Int.toNat_natCast] at ho1; obtain ⟨gm, cm, e1, hgm1, hgm2, _⟩ := Kd.R_form ho1 (by rw [List.length_replicate]; omega); rw [List.length_replicate] at e1; subst e1; have HM1 := Aside0.mk ho1; have HB1 := Aside0.mk hb1; have HGM := Aside0.mk (And.intro hgm1 hgm2); obtain ⟨hx1, hf1⟩ := Kd.R_celln false ho1 from_ h0 h1; clear ho1 hb1 hgm1 hgm2))
  go_step3
  go_wp2
  go_loopg [7] k (fun kq v7 wr => ∃ (met : List Bool) (st : List (Int × Int)) (tl : List Int) (S : Nat → Prop), Aside0 (EachSt I g n gm cm w S0 told k kq v7 wr met st tl S))
  case atStart =>
    refine ⟨(List.replicate n false).set from_.toNat true, [(from_, 0)], [], S0, ⟨?_⟩⟩
    have hS0 : ∀ i, S0 i → i < w.heap.size := HL.out _ _ _ HI.out
    have hf : Fr (fun i => i = gm) w1 ((w1.setCell ⟨gm, from_.toNat, none⟩ (.bool true)).alloc (.cells #[.int .i64 from_, .int .i64 0] 89)) := ((Fr.refl (fun i => i = gm) w1).setCell (.inl rfl) _).alloc _
    have hf1 : Fr S0 w ((w1.setCell ⟨gm, from_.toNat, none⟩ (.bool true)).alloc (.cells #[.int .i64 from_, .int .i64 0] 89)) :=
      (Fr.below HB1.out (fun i hi => .inr hi)).trans hf (fun i e => .inr (by have := HGM.out.1; omega))
    have hsz : w1.heap.size = (w1.setCell ⟨gm, from_.toNat, none⟩ (.bool true)).heap.size := by simp [World.setCell]
    refine ⟨HD.out, ⟨Nat.le_refl _, by simp, by simp; omega⟩, by simp, ?_, ?_, ?_, ?_, fun i hi => .inl hi, fun i hi => Nat.lt_of_lt_of_le (hS0 i hi) hf1.size, fun hs => by have := hS0 _ hs; have := HGM.out.1; omega, ?_, hf1⟩
    · intro p hp
      obtain rfl := List.mem_singleton.1 hp
      exact ⟨h0, h1, Int.le_refl _⟩
    · rw [hsz]
      exact World.ownsRow_lit _ #[.int .i64 from_, .int .i64 0] 1 (by rw [← hsz]; exact HB1.out.size) (by decide) rfl
    · exact Kd.R_alloc (Kd.R_putn HM1.out from_ true) _
    · exact HM.out _ _ _ _ HI.out hf1.size (fun i hi => (hf.block i (Nat.lt_of_lt_of_le (hS0 i hi) HB1.out.size) (fun e => by have := hS0 _ hi; have := HGM.out.1; omega)).trans (HB1.out.block i (hS0 i hi)))
    · intro b hb
      simp only [Value.ownBlock] at hb
      injection hb with hb
      have := HGM.out
      have := HB1.out.size
      exact ⟨fun hs => by have := hS0 _ hs; omega, by omega⟩
  case round =>
    obtain ⟨met, st, tl, S, HE⟩ := hrel
    cases st with
    | nil =>
      obtain ⟨A7, c7, e7⟩ := own_slice HE.out.own
      subst e7
      have hl : decide (0 < (([] : List (Int × Int)).length : Int)) = false := rfl
      have hfin : Aside0 (told = tl) := by
        have h := HE.out.run
        cases gk with
        | zero => exact absurd h (by simp [dfs])
        | succ kq => exact ⟨(Option.some.inj (by rw [dfs] at h; exact h)).symm⟩
      go_wp2
      rw [Exit.noGoto_normal]
      go_end0
      exact ⟨rfl, S, by rw [hfin.out]; exact HE.out.inv, HE.out.sub, HE.out.fr⟩
    | cons p st =>
      obtain ⟨a, i⟩ := p
      obtain ⟨gw, cw, e7, hgw1, hgw2, hcw⟩ := own_pos HE.out.own
      subst e7
      obtain ⟨m, hm⟩ : ∃ m, m = st.length := ⟨_, rfl⟩
      rw [← hm] at HE ⊢
      have HMM := Aside0.mk hm
      have hmb : m ≤ 1000001 := by have h := HE.out.fuel.2.2; simp only [List.length_cons] at h; omega
      have hgw : Aside0 (w.heap.size ≤ gw ∧ gw < wr.heap.size) := ⟨hgw1, hgw2⟩
      have hab : 0 ≤ a ∧ a < (n : Int) := ⟨(HE.out.way (a, i) (List.mem_cons_self)).1, (HE.out.way (a, i) (List.mem_cons_self)).2.1⟩
      obtain ⟨ha0, ha1⟩ := hab
      have hmc : m ≤ cw := by omega
      clear hm hgw1 hgw2 hcw
      go_upto_region 6 with (fail)
      obtain ⟨ko, rfl⟩ : ∃ ko, ko = gk := ⟨_, rfl⟩
      obtain ⟨wo, rfl⟩ : ∃ wo, wo = wr := ⟨_, rfl⟩
      go_loopg [7] ko (fun kq v7 wi => ∃ i : Int, v7 = .slice (some ⟨gw, 0, none⟩) (m + 1) cw ∧ Aside0 (EachSt I g n gm cm w S0 told k kq (.slice (some ⟨gw, 0, none⟩) (m + 1) cw) wi met ((a, i) :: st) tl S) ∧ Aside0 (kq ≤ ko))
      case atStart => exact ⟨i, rfl, HE, ⟨Nat.le_refl _⟩⟩
      case round =>
        clear HE
        obtain ⟨ii, rfl, HE, HK⟩ := hrel
        have HG1 := HC.out wr HE.out.fr
        have hown := HE.out.own
        rw [List.length_cons, ← HMM.out] at hown
        have hii : 0 ≤ ii := (HE.out.way (a, ii) (List.mem_cons_self)).2.2
        obtain ⟨hca, hci, hfi⟩ : wr.cell? ⟨gw, m * 2, none⟩ = some (.int .i64 a) ∧ wr.cell? ⟨gw, m * 2 + 1, none⟩ = some (.int .i64 ii) ∧ wr.frozen? ⟨gw, m * 2 + 1, none⟩ = false := by
          have h := HMM.out
          subst h
          exact way_cells hown
        obtain ⟨ad, A1, c1, e1, hx1, hl1, hC1⟩ := at_L1 HG1 a ha0 ha1
        obtain ⟨row, er⟩ : ∃ row, row = rd_L1 g a := ⟨_, rfl⟩
        rw [← er] at hx1 hl1 hC1
        have HR := Aside0.mk er
        have HC1 := Aside0.mk hC1
        clear er hC1 HG1 hown
        cases gk with
        | zero => exact absurd HE.out.run (by simp [dfs])
        | succ kq =>
          by_cases hlt : ii < (row.length : Int)
          · have hdl : decide (ii < (row.length : Int)) = true := decide_eq_true hlt
            subst e1
            obtain ⟨rb, ro, e2, _, hrc⟩ := C_ints HC1.out (by omega)
            subst e2
            have hcb := hrc ii.toNat (by omega)
            clear hrc
            obtain ⟨b, eb⟩ : ∃ b, b = row.getD ii.toNat 0 := ⟨_, rfl⟩
            rw [← eb] at hcb
            have hb : 0 ≤ b ∧ b < (n : Int) := by
              have hmem : row ∈ g := by
                rw [HR.out]
                unfold rd_L1
                rw [List.getD_eq_getElem?_getD, List.getElem?_eq_getElem (by have := HN.out; omega)]
                exact List.getElem_mem _
              refine HG.out row hmem b ?_
              rw [eb, List.getD_eq_getElem?_getD, List.getElem?_eq_getElem (by omega)]
              exact List.getElem_mem _
            have HBB := Aside0.mk eb
            clear eb
            have hrow : row = g.getD a.toNat [] := HR.out
            have hHL : Aside0 (ii < ((g.getD a.toNat []).length : Int) ∧ b = (g.getD a.toNat []).getD ii.toNat 0) := by
              rw [← hrow]
              exact ⟨hlt, HBB.out⟩
            clear hrow
            obtain ⟨hb0, hb1⟩ := hb
            have HGW : Aside0 ((w.heap.size ≤ gm ∧ gm < wr.heap.size) ∧ (w.heap.size ≤ gw ∧ gw < wr.heap.size)) := by
              refine ⟨⟨HGM.out.1, ?_⟩, ⟨hgw.out.1, ?_⟩⟩
              · exact Kd.R_lt HE.out.omet gm (by simp [Value.ownBlock])
              · exact (own_lt HE.out.own gw (by simp [Value.ownBlock]))
            obtain ⟨hcm, hfm⟩ := Kd.R_celln false HE.out.omet b hb0 hb1
            by_cases hmb : rdOf false met b = true
            · rw [hmb] at hcm
              have hi1 : ii + 1 ≤ 100001 := by
                have hmem : row ∈ g := by
                  rw [HR.out]
                  unfold rd_L1
                  rw [List.getD_eq_getElem?_getD, List.getElem?_eq_getElem (by have := HN.out; omega)]
                  exact List.getElem_mem _
                have := HGL.out row hmem
                omega
              have hmb' := Aside0.mk hmb
              clear hmb
              go_wp2
              go_quiet (fail)
              go_wp2
              go_quiet (fail)
              go_wp2
              go_roundg kq
              case measure => exact Nat.lt_succ_self _
              case rel =>
                exact ⟨ii + 1, rfl, ⟨each_skip HM.out HE.out HMM.out HGM.out.1 hgw.out.1 hHL.out.1 hHL.out.2 ⟨hb0, hb1⟩ hmb'.out _⟩, ⟨by have := HK.out; omega⟩⟩
            · rw [Bool.not_eq_true] at hmb
              rw [hmb] at hcm
              have hmb' := Aside0.mk hmb
              clear hmb
              obtain ⟨ti, hti, hz0, hz1, hz2⟩ := info_parts info_step
              have HTI := Aside0.mk (And.intro hti (And.intro hz0 (And.intro hz1 hz2)))
              clear hti hz0 hz1 hz2
              go_wp2
              go_quiet (fail)
              go_wp2
              go_quiet (fail)
              go_upto_region 11 with (fail)
              go_wp2_with (at_builtin; refine wpList_append_own_at _ rfl _ _ 90 rfl w.heap.size 89 ti (.agg #[.int .i64 0, .int .i64 0]) 2 16 Try.underlying90 HTI.out.1 HTI.out.2.1 HTI.out.2.2.1 HTI.out.2.2.2 rfl (by decide) _ _ _ rfl ((own_setCell (pw_own_drewN (by have h := HE.out.own; rw [List.length_cons, ← HMM.out] at h; exact h) _) (by simp only [Value.ownBlock]; intro e; injection e with e; exact (HE.out.nway gw (by simp [Value.ownBlock])).2 e.symm) _).alloc _) ⟨_, 0, none⟩ 1 1 [.int .i64 b, .int .i64 0] rfl rfl (two_cells (size_s _ _ _ _) _ _ _) (fun u hu => by simp at hu; rcases hu with rfl | rfl <;> rfl) (by unfold maxLen; omega) (by omega) (by rw [size_sa]; have := HE.out.fr.size; omega) ?_; intro v2 w2 ho2 hg2 _ hat2; have HE2 := Aside0.mk (each_push HM.out HE.out HMM.out HGW.out.1 HGW.out.2 hHL.out.1 hHL.out.2 ⟨hb0, hb1⟩ hmb'.out rfl ho2 hg2 hat2); clear ho2 hg2 hat2)
              go_roundg kq
              case measure => have := HK.out; omega
              case rel => exact ⟨_, _, _, _, HE2⟩
          · have hdl : decide (ii < (row.length : Int)) = false := decide_eq_false hlt
            subst e1
            have hrow : row = g.getD a.toNat [] := HR.out
            have hHL : Aside0 (¬ ii < ((g.getD a.toNat []).length : Int)) := by
              rw [← hrow]
              exact ⟨hlt⟩
            clear hrow
            have HGW : Aside0 ((w.heap.size ≤ gm ∧ gm < wr.heap.size) ∧ (w.heap.size ≤ gw ∧ gw < wr.heap.size)) := by
              refine ⟨⟨HGM.out.1, ?_⟩, ⟨hgw.out.1, ?_⟩⟩
              · exact Kd.R_lt HE.out.omet gm (by simp [Value.ownBlock])
              · exact (own_lt HE.out.own gw (by simp [Value.ownBlock]))
            have hcall : ∀ q, Calls Try.prog f (#[.int .i64 a] ++ lb) (wr.drewN q) fun e W' => e = .returned (.tuple #[]) ∧ ∃ S', I W' (tl ++ [a]) S' ∧ (∀ k, S' k → S k ∨ (wr.drewN q).heap.size ≤ k) ∧ Fr S (wr.drewN q) W' :=
              fun q => HST.out _ tl S a (HM.out wr _ tl S HE.out.inv (Nat.le_refl _) (fun _ _ => rfl)) ha0 ha1 (by have := HE.out.fuel; omega)
            go_wp2
            go_quiet (fail)
            go_wp2_with (go_at_fn f; refine (hcall _).mono ?_; rintro e w2 ⟨rfl, S1, hI1, hS1, hf1⟩; have HE2 := Aside0.mk (each_tell HL.out HE.out HMM.out HGW.out.1 HGW.out.2 (by have := hHL.out; omega) hI1 hS1 hf1); clear hI1 hS1 hf1)
            go_roundg kq
            case measure => have := HK.out; omega
            case rel => exact ⟨_, _, _, _, HE2⟩

end Go.Proofs.Ytemcmcnhpdkdfaa.P

/-! graph.Order and graph.Reach: what they answer. -/
namespace Go.Proofs.Ytemcmcnhpdkdfaa.P
open Go.RowKit Go.Lib Go.Sort Go.Shelf Go.Proofs.YtemcmcnhpdkdfaaW.PrintWords Go.Proofs.YtemcmcnhpdkdfaaW.PrintLast Go.Proofs.YtemcmcnhpdkdfaaW.PrintMore

/-- What Order's closure owns: the variable that holds the list, and the list. -/
def ITold (Bv base : Nat) (W : World) (l : List Int) (S : Nat → Prop) : Prop :=
  ∃ v, W.heap[Bv]? = some (.cells #[v] 25 (0, 0)) ∧ dI.R 3 W base (fun _ => True) v l ∧ ∀ k, S k ↔ k = Bv ∨ v.ownBlock = some k
theorem ITold.move {Bv base : Nat} (W W' : World) (l : List Int) (S : Nat → Prop) (h : ITold Bv base W l S) (_ : W.heap.size ≤ W'.heap.size) (hs : ∀ k, S k → W'.heap[k]? = W.heap[k]?) : ITold Bv base W' l S := by
  obtain ⟨v, h1, h2, h3⟩ := h
  exact ⟨v, (hs Bv ((h3 Bv).2 (.inl rfl))).trans h1, Kd.R_mono (Kd.R_move (Kd.R_tight rfl h2) (fun k hk => hs k ((h3 k).2 (.inr hk.symm)))) (fun _ _ => trivial), h3⟩
theorem ITold.lt {Bv base : Nat} (W : World) (l : List Int) (S : Nat → Prop) (h : ITold Bv base W l S) (k : Nat) (hk : S k) : k < W.heap.size := by
  obtain ⟨v, h1, h2, h3⟩ := h
  rcases (h3 k).1 hk with rfl | e
  · exact lt_of_block h1
  · exact own_lt (R_ints h2) k e

/-- A variable that holds a slice is no row of numbers. -/
theorem row_apart {w : World} {B base : Nat} {ok : Nat → Prop} {u v : Value} {xs : List Int} (hb : w.heap[B]? = some (.cells #[u] 25 (0, 0))) (h : dI.R 3 w base ok v xs) : v.ownBlock ≠ some B := by
  intro e
  obtain ⟨cells, hc⟩ := own_typed (R_ints h) B e
  rw [hb] at hc
  injection hc with hc
  injection hc with _ hc
  exact absurd hc (by decide)
theorem ITold.app {Bv base : Nat} {W w2 : World} {l : List Int} {S : Nat → Prop} {v v2 : Value} {a : Int} {o : Obj} (h1 : W.heap[Bv]? = some (.cells #[v] 25 (0, 0))) (h2 : dI.R 3 W base (fun _ => True) v l) (h3 : ∀ k, S k ↔ k = Bv ∨ v.ownBlock = some k)
    (ho : w2.ownsRow base 3 1 v2 (l.length + 1) (l.map (Value.int .i64) ++ [.int .i64 a])) (hg : (W.alloc o).grownBy w2 v.ownBlock) (hat : v2.ownBlock = v.ownBlock ∨ v2.ownBlock = some (W.heap.size + 1)) :
    w2.heap[Bv]? = some (.cells #[v] 25 (0, 0)) ∧ ∃ S', ITold Bv base (w2.setCell ⟨Bv, 0, none⟩ v2) (l ++ [a]) S' ∧ (∀ k, S' k → S k ∨ W.heap.size ≤ k) ∧ Fr S W (w2.setCell ⟨Bv, 0, none⟩ v2) := by
  have hlt := lt_of_block h1
  have hne : v.ownBlock ≠ some Bv := by
    intro e
    obtain ⟨cells, hc⟩ := own_typed (R_ints h2) Bv e
    rw [h1] at hc
    injection hc with hc
    injection hc with _ hc
    exact absurd hc (by decide)
  have e2 : w2.heap[Bv]? = some (.cells #[v] 25 (0, 0)) := by
    rw [hg.block Bv (by rw [size_alloc1]; omega) (fun e => hne e.symm), Below.heap_alloc _ _ _ hlt]
    exact h1
  have hne2 : v2.ownBlock ≠ some Bv := by
    rcases hat with e | e
    · rw [e]; exact hne
    · rw [e]; intro h; injection h with h; omega
  refine ⟨e2, fun k => k = Bv ∨ v2.ownBlock = some k, ⟨v2, one_setCell e2, ?_, fun _ => Iff.rfl⟩, ?_, ?_⟩
  · refine ints_R ?_ (fun _ _ => trivial)
    rw [List.length_append, List.length_singleton, List.map_append]
    exact ownsRow_setCell_other ho hne2 _
  · intro k hk
    rcases hk with hk | hk
    · exact .inl ((h3 k).2 (.inl hk))
    · rcases hat with e | e
      · exact .inl ((h3 k).2 (.inr (by rw [← e]; exact hk)))
      · rw [e] at hk
        injection hk with hk
        exact .inr (by omega)
  · exact ((Fr.refl S W).alloc o |>.grown hg (fun k e => .inl ((h3 k).2 (.inr e)))).setCell (.inl ((h3 Bv).2 (.inl rfl))) _

set_option maxHeartbeats 4000000 in
set_option maxRecDepth 100000 in
theorem ITold.step {Bv base : Nat} (hb : base ≤ Bv) (W : World) (l : List Int) (S : Nat → Prop) (a : Int) (h : ITold Bv base W l S) (hl : l.length < 1000000) :
    Calls Try.prog 70 (#[.int .i64 a] ++ #[.pointer (some ⟨Bv, 0, none⟩)]) W fun e W' => e = .returned (.tuple #[]) ∧ ∃ S', ITold Bv base W' (l ++ [a]) S' ∧ (∀ k, S' k → S k ∨ W.heap.size ≤ k) ∧ Fr S W W' := by
  show Calls Try.prog 70 #[.int .i64 a, .pointer (some ⟨Bv, 0, none⟩)] W _
  obtain ⟨v, h1, h2, h3⟩ := h
  have hlt := lt_of_block h1
  have hc := cell_of_one h1
  have hf := free_of_one h1
  have HO := Aside0.mk (R_ints h2)
  have H1 := Aside0.mk h1
  have H3 := Aside0.mk h3
  have H2 := Aside0.mk h2
  clear h1 h2 h3
  obtain ⟨ti, hti, hz0, hz1, hz2⟩ := info_parts info3
  have HTI := Aside0.mk (And.intro hti (And.intro hz0 (And.intro hz1 hz2)))
  clear hti hz0 hz1 hz2
  go_enter Try.func70, Try.ntmps70
  go_wp2_with (at_builtin; refine wpList_append_own_at _ rfl _ _ 25 rfl base 3 ti (.int .i64 0) 1 8 Try.underlying25 HTI.out.1 HTI.out.2.1 HTI.out.2.2.1 HTI.out.2.2.2 rfl (by decide) v l.length _ rfl (HO.out.alloc _) ⟨_, 0, none⟩ 1 1 [.int .i64 a] rfl rfl (one_cells rfl _ _) (fun u hu => by simp at hu; subst hu; rfl) (by unfold maxLen; omega) (by omega) (by rw [size_alloc1]; omega) ?_; intro v2 w2 ho2 hg2 _ hat2; rw [size_alloc1] at hat2; (have happ := ITold.app H1.out H2.out H3.out ho2 hg2 hat2); obtain ⟨A2, c2, rfl⟩ := own_slice ho2; have hc2 := cell_of_one happ.1; have hf2 := free_of_one happ.1; have HA := Aside0.mk happ.2; clear ho2 hg2 hat2 happ)
  go_end0
  exact ⟨rfl, HA.out⟩

/-- What Reach's closure owns: the variable that holds the row of bools, and the row. -/
theorem marks_snoc (n : Nat) (l : List Int) (a : Int) : marks n (l ++ [a]) = (marks n l).set a.toNat true := by simp [marks]
def IMark (Bv base go n cap : Nat) (W : World) (l : List Int) (S : Nat → Prop) : Prop :=
  W.heap[Bv]? = some (.cells #[.slice (some ⟨go, 0, none⟩) n cap] 32 (0, 0)) ∧ dB.R 4 W base (fun _ => True) (.slice (some ⟨go, 0, none⟩) n cap) (marks n l) ∧ go ≠ Bv ∧ ∀ k, S k ↔ k = Bv ∨ k = go
theorem IMark.move {Bv base go n cap : Nat} (W W' : World) (l : List Int) (S : Nat → Prop) (h : IMark Bv base go n cap W l S) (_ : W.heap.size ≤ W'.heap.size) (hs : ∀ k, S k → W'.heap[k]? = W.heap[k]?) : IMark Bv base go n cap W' l S := by
  obtain ⟨h1, h2, h4, h3⟩ := h
  exact ⟨(hs Bv ((h3 Bv).2 (.inl rfl))).trans h1, Kd.R_mono (Kd.R_move (Kd.R_tight rfl h2) (fun k hk => hs k ((h3 k).2 (.inr (by simp only [Value.ownBlock] at hk; injection hk))))) (fun _ _ => trivial), h4, h3⟩
theorem IMark.lt {Bv base go n cap : Nat} (W : World) (l : List Int) (S : Nat → Prop) (h : IMark Bv base go n cap W l S) (k : Nat) (hk : S k) : k < W.heap.size := by
  obtain ⟨h1, h2, _, h3⟩ := h
  rcases (h3 k).1 hk with rfl | rfl
  · exact lt_of_block h1
  · exact Kd.R_lt h2 k (by simp [Value.ownBlock])

set_option maxHeartbeats 4000000 in
set_option maxRecDepth 100000 in
theorem IMark.step {Bv base go n cap : Nat} (W : World) (l : List Int) (S : Nat → Prop) (a : Int) (h : IMark Bv base go n cap W l S) (h0 : 0 ≤ a) (h1 : a < (n : Int)) :
    Calls Try.prog 52 (#[.int .i64 a] ++ #[.pointer (some ⟨Bv, 0, none⟩)]) W fun e W' => e = .returned (.tuple #[]) ∧ ∃ S', IMark Bv base go n cap W' (l ++ [a]) S' ∧ (∀ k, S' k → S k ∨ W.heap.size ≤ k) ∧ Fr S W W' := by
  show Calls Try.prog 52 #[.int .i64 a, .pointer (some ⟨Bv, 0, none⟩)] W _
  obtain ⟨h4, h2, h5, h3⟩ := h
  have hc := cell_of_one h4
  obtain ⟨hcg, hfg⟩ := Kd.R_celln false h2 a h0 h1
  have HA : Aside0 (∃ S', IMark Bv base go n cap (W.setCell ⟨go, a.toNat, none⟩ (.bool true)) (l ++ [a]) S' ∧ (∀ k, S' k → S k ∨ W.heap.size ≤ k) ∧ Fr S W (W.setCell ⟨go, a.toNat, none⟩ (.bool true))) := by
    refine ⟨S, ⟨?_, ?_, h5, h3⟩, fun k hk => .inl hk, (Fr.refl S W).setCell (.inl ((h3 go).2 (.inr rfl))) _⟩
    · rw [Below.heap_setCell _ _ _ _ (fun e => h5 e.symm)]
      exact h4
    · rw [marks_snoc]
      exact Kd.R_putn h2 a true
  clear h2 h3 h4 h5
  go_enter Try.func52, Try.ntmps52
  go_wp2
  go_end0
  exact ⟨rfl, HA.out⟩

set_option maxHeartbeats 1000000 in
theorem each_no (fv : Value) (A0 : Option Addr) (n c0 : Nat) (from_ : Int) (w : World) (h : isN n from_ = false) :
    Calls Try.prog 51 #[.slice A0 n c0, .int .i64 from_, fv] w fun e w' => e = .returned (.tuple #[]) ∧ w = w' := by
  have HIS : ∀ W, Calls Try.prog 48 #[.slice A0 n c0, .int .i64 from_] W fun e w' => e = .returned (.bool false) ∧ W = w' := fun W => by
    have := is_c from_ A0 n c0 W
    rw [h] at this
    exact this
  clear h
  go_enter Try.func51, Try.ntmps51
  go_wp2_with (fail)
  go_step3
  go_wp2_with (go_at_call 48; refine (HIS _).mono ?_; rintro e w' ⟨rfl, rfl⟩)
  rw [Exit.noGoto_ret]
  refine bodyPost_ret (results_none rfl _ _ _) rfl ?_
  exact ⟨rfl, rfl⟩

/-- each, from whatever node, or none. -/
theorem each_told (f : Nat) (lb : Array Value) (eg : ∀ args w, (callFunc f args).run Try.prog w = .ok (.enter f args) w) (I : World → List Int → (Nat → Prop) → Prop) (n : Nat)
    (hmove : ∀ W W' l S, I W l S → W.heap.size ≤ W'.heap.size → (∀ k, S k → W'.heap[k]? = W.heap[k]?) → I W' l S) (hlt : ∀ W l S, I W l S → ∀ k, S k → k < W.heap.size)
    (hstep : ∀ W l S a, I W l S → 0 ≤ a → a < (n : Int) → l.length < 1000000 → Calls Try.prog f (#[.int .i64 a] ++ lb) W fun e W' => e = .returned (.tuple #[]) ∧ ∃ S', I W' (l ++ [a]) S' ∧ (∀ k, S' k → S k ∨ W.heap.size ≤ k) ∧ Fr S W W')
    (g : List (List Int)) (hn : g.length = n) (hsm : n ≤ 100000) (hg : ∀ l ∈ g, ∀ b ∈ l, 0 ≤ b ∧ b < (n : Int)) (hgl : ∀ l ∈ g, l.length ≤ 100000)
    (A0 : Option Addr) (c0 : Nat) (S0 : Nat → Prop) (w : World) (hC : ∀ W, Fr S0 w W → dG.C W A0 n g) (from_ : Int) (told : List Int) (hI : I w [] S0) (hd : toldOf g from_ = some told) :
    Calls Try.prog 51 #[.slice A0 n c0, .int .i64 from_, .func (.func f) #[] lb] w fun e w' => e = .returned (.tuple #[]) ∧ ∃ S', I w' told S' ∧ (∀ i, S' i → S0 i ∨ w.heap.size ≤ i) ∧ Fr S0 w w' := by
  unfold toldOf at hd
  split at hd
  · rename_i h
    rw [hn] at h hd
    obtain ⟨h0, h1⟩ := isN_iff.1 h
    exact each_c f lb eg I n hmove hlt hstep g hn hsm hg hgl A0 c0 S0 w hC from_ h0 h1 1000000 (Nat.le_refl _) told hI hd
  · rename_i h
    rw [hn, Bool.not_eq_true] at h
    obtain rfl := Option.some.inj hd
    refine (each_no _ A0 n c0 from_ w h).mono ?_
    rintro e w' ⟨rfl, rfl⟩
    exact ⟨rfl, S0, hI, fun i hi => .inl hi, Fr.refl _ _⟩

/-- Clean's answer stays where a call keeps to what lies elsewhere. -/
theorem clean_stays {w : World} {base : Nat} {A : Option Addr} {n c : Nat} {xs : List (List Int)} {S : Nat → Prop} (h : Kd.S dG 25 w base (fun _ => True) (.slice A n c) xs) (hn : n = xs.length) (hS : ∀ k, S k → k < base) (W : World) (hf : Fr S w W) : dG.C W A n xs := by
  have h1 := Kd.S_step (w1 := W) (Kd.S_bound h) (fun k hk hlt => hf.block k hlt (fun hs => by have := hS k hs; have := hk.2.1; omega))
  have h2 := (Kd.S_reads' h1).2.2
  rw [← (Kd.S_reads' h1).1] at h2
  rw [hn] at h2 ⊢
  exact h2

/-- One row of Clean's answer, likewise. -/
theorem row_stays {w : World} {base : Nat} {A : Option Addr} {n c : Nat} {xs : List (List Int)} {S : Nat → Prop} (h : Kd.S dG 25 w base (fun _ => True) (.slice A n c) xs) (hS : ∀ k, S k → k < base) {k : Nat} (hk : k < n) :
    ∃ g A1 c1, A = some ⟨g, 0, none⟩ ∧ (xs.getD k []).length ≤ c1 ∧ ∀ W, Fr S w W → W.cell? ⟨g, k, none⟩ = some (.slice A1 (xs.getD k []).length c1) ∧ dI.C W A1 (xs.getD k []).length (xs.getD k []) := by
  have hn := (Kd.S_reads' h).1
  obtain ⟨g, cap, e, hb, hl, _⟩ := Kd.S_form h (by omega)
  injection e with e1 e2 e3
  subst e1
  obtain ⟨oki, cc, hcl, hM, hcc, _, _, _⟩ := Kd.S_elem h [] (k : Int) (by omega) (by omega)
  have hs1 : dG.sz = 1 := rfl
  obtain ⟨u, rfl⟩ : ∃ u, cc = [u] := List.length_eq_one_iff.1 (hcl.trans hs1)
  have hu := hcc 0 u rfl
  rw [hs1, Int.toNat_natCast, Nat.mul_one, Nat.add_zero] at hu
  rw [Int.toNat_natCast] at hM
  obtain ⟨u', e', hR⟩ := hM
  injection e' with e'
  subst e'
  obtain ⟨A1, c1, e4, hl1, _⟩ := Kd.R_reads hR
  subst e4
  refine ⟨g, A1, c1, rfl, hl1, fun W hf => ⟨?_, ?_⟩⟩
  · have hbk := hf.block g hl (fun hs => by have := hS g hs; omega)
    simp only [World.cell?, hbk]
    exact hu
  · have h2 := Kd.R_step (w1 := W) (Kd.R_bound hR) (fun b hbk hlt => hf.block b hlt (fun hs => by have := hS b hs; have := hbk.2.1; omega))
    exact (Kd.R_reads' h2).2.2

theorem fr_putRow (w : World) (g q : Nat) (d : Array Int) : Fr (fun k => k = g) w (putRow (Value.int .i64) (Sort.ahead w q) g 0 d) :=
  ⟨rfl, rfl, rfl, by simp [putRow, mapBlock, Sort.ahead], fun k _ hn => by
    have hn' : ¬ g = k := fun e => hn e.symm
    simp [putRow, mapBlock, Sort.ahead, Array.getElem?_modify, hn']⟩
theorem reverse_c (v : Value) (xs : List Int) (base : Nat) (ok : Nat → Prop) (w : World) (h : dI.R 3 w base ok v xs) (hb : xs.length ≤ 9223372036854775807) :
    Calls Try.prog 71 #[v] w fun e w' => e = .returned (.tuple #[]) ∧ dI.R 3 w' base ok v xs.reverse ∧ Fr (fun k => v.ownBlock = some k) w w' := by
  rcases R_ints_form h with ⟨rfl, rfl⟩ | ⟨g, cap, rfl, hbg, hlt, hn, hH⟩
  · refine (Try.slices_Reverse_int_empty none 0 w).mono ?_
    rintro e w' ⟨rfl, rfl⟩
    exact ⟨rfl, h, Fr.refl _ _⟩
  · refine (Try.slices_Reverse_int g 0 cap xs w hH hb).mono ?_
    rintro e w' ⟨rfl, n, rfl⟩
    refine ⟨rfl, R_put h (by simp) (by simp) (by rw [List.take_of_length_le (Nat.le_refl _)]) (by simp), ?_⟩
    have := fr_putRow w g n xs.reverse.toArray
    exact ⟨this.os, this.tape, this.output, this.size, fun k hk hn => this.block k hk (fun e => hn (by simp [Value.ownBlock, e]))⟩

set_option maxHeartbeats 4000000 in
set_option maxRecDepth 100000 in
theorem graph_Order.calls (A0 : Option Addr) (c0 : Nat) (l0 : List (List Int)) (a1 : Int) (r : List Int) (w : World) (hr0 : Kd.C (Kd.slice 3 (Kd.int .i64)) w A0 l0.length l0) (hc0 : l0.length ≤ c0) (h : graph_Order.f l0 a1 = some r) :
    Calls Try.prog 41 #[.slice A0 l0.length c0, .int .i64 a1] w fun e w' => ∃ v0_ : Value, e = .returned v0_ ∧ Kd.R (Kd.int .i64) 3 w' w.heap.size (fun _ => True) v0_ r ∧ Below w.heap.size w w' := by
  have HR0 := Aside0.mk hr0
  have HC0 := Aside0.mk hc0
  obtain ⟨hfit, t, ht, rfl⟩ : fits l0 = true ∧ ∃ t, toldOf (clean l0) a1 = some t ∧ t.reverse = r := by
    unfold graph_Order.f at h
    split at h
    · exact ⟨by assumption, by simpa using h⟩
    · cases h
  have HF := Aside0.mk hfit
  have HT := Aside0.mk ht
  clear hr0 hc0 h hfit ht
  have HCL : ∀ o, Calls Try.prog 19 #[.slice A0 l0.length c0] (w.alloc o) fun e w' => ∃ v0_ : Value, e = .returned v0_ ∧ Kd.S (Kd.slice 3 (Kd.int .i64)) 25 w' (w.alloc o).heap.size (fun _ => True) v0_ (clean l0) ∧ Below (w.alloc o).heap.size (w.alloc o) w' :=
    fun o => graph_Clean.calls A0 c0 l0 (clean l0) (w.alloc o) (Kd.C_alloc HR0.out o) HC0.out (by unfold graph_Clean.f; rw [if_pos HF.out])
  go_enter Try.func41, Try.ntmps41
  go_wp2_with (go_at_call 19; refine (HCL _).mono ?_; rintro e w2 ⟨v2, rfl, ho2, hb2⟩; obtain ⟨A2, c2, e2, hl2, _⟩ := Kd.S_reads ho2; rw [clean_len] at e2 hl2; subst e2; rw [size_alloc1] at ho2 hb2; have HO2 := Aside0.mk ho2; have HB2 := Aside0.mk hb2; clear ho2 hb2)
  have HN : Aside0 (l0.length ≤ 100000) := by
    have := HF.out
    unfold fits at this
    simp only [Bool.and_eq_true, decide_eq_true_eq] at this
    exact ⟨this.1⟩
  have hbv : w2.heap[w.heap.size]? = some (.cells #[.slice none 0 0] 25 (0, 0)) := (HB2.out.block w.heap.size (Nat.lt_succ_self _)).trans (heap_alloc_new w _)
  have HEA := each_told 70 #[.pointer (some ⟨w.heap.size, 0, none⟩)] (enters_of Try.func70 (by kernel_rfl) rfl) (ITold w.heap.size w.heap.size) l0.length ITold.move ITold.lt (fun W l S a h _ _ hl => ITold.step (Nat.le_refl _) W l S a h hl)
    (clean l0) (clean_len l0) HN.out clean_valid (clean_small HF.out) A2 c2 (fun k => k = w.heap.size) w2 (fun W hf => clean_stays HO2.out (clean_len l0).symm (fun k hk => by omega) W hf) a1 t ⟨_, hbv, Kd.R_nil _ _ _ _ _, fun k => by simp [Value.ownBlock]⟩ HT.out
  have HEA' := Aside0.mk HEA
  clear HEA hbv
  go_wp2_with (go_at_call 51; refine HEA'.out.mono ?_; rintro e w3 ⟨rfl, S3, hI3, hS3, hf3⟩; obtain ⟨v3, hb3, ho3, hs3⟩ := hI3; have hc3 := cell_of_one hb3; have HO3 := Aside0.mk ho3; have HF3 := Aside0.mk hf3; have HB3 := Aside0.mk hb3; clear hb3 ho3 hs3 hf3 hS3)
  have hlen : Aside0 (t.length ≤ 1000000) := ⟨toldOf_len HT.out⟩
  go_wp2_with (go_at_call 71; refine (reverse_c _ _ _ _ _ HO3.out (by have := hlen.out; omega)).mono ?_; rintro e w4 ⟨rfl, ho4, hf4⟩; (have hc4 : w4.cell? ⟨w.heap.size, 0, none⟩ = some v3 := cell_of_one ((hf4.block _ (lt_of_block HB3.out) (row_apart HB3.out HO3.out)).trans HB3.out)); have HO4 := Aside0.mk ho4; have HF4 := Aside0.mk hf4; clear ho4 hf4)
  go_ret
  refine ⟨_, rfl, HO4.out, ?_⟩
  have h2 : Below w.heap.size w w2 := (below_alloc (Below.refl _ _) _).trans (HB2.out.mono (Nat.le_succ _))
  have h3 : Below w.heap.size w w3 := below_fr h2 HF3.out (fun k hk => by omega) h2.size
  exact below_fr h3 HF4.out (fun k hk => own_base (R_ints HO3.out) k hk) h3.size

theorem R_form' {α : Type} {d : Kd α} {e b : Nat} {w : World} {base : Nat} {ok : Nat → Prop} {v : Value} {xs : List α} (h : d.R e w base ok v xs) (hb : v.ownBlock = some b) : ∃ cap, v = .slice (some ⟨b, 0, none⟩) xs.length cap := by
  obtain ⟨_, inner, ho, _⟩ := h
  rcases ho.2 with ⟨rfl, _⟩ | ⟨g, cap, cur, rfl, _⟩
  · simp [Value.ownBlock] at hb
  · simp only [Value.ownBlock] at hb
    injection hb with hb
    subst hb
    exact ⟨cap, rfl⟩

set_option maxHeartbeats 4000000 in
set_option maxRecDepth 100000 in
theorem graph_Reach.calls (A0 : Option Addr) (c0 : Nat) (l0 : List (List Int)) (a1 : Int) (r : List Bool) (w : World) (hr0 : Kd.C (Kd.slice 3 (Kd.int .i64)) w A0 l0.length l0) (hc0 : l0.length ≤ c0) (h : graph_Reach.f l0 a1 = some r) :
    Calls Try.prog 20 #[.slice A0 l0.length c0, .int .i64 a1] w fun e w' => ∃ v0_ : Value, e = .returned v0_ ∧ Kd.R Kd.bool 4 w' w.heap.size (fun _ => True) v0_ r ∧ Below w.heap.size w w' := by
  have HR0 := Aside0.mk hr0
  have HC0 := Aside0.mk hc0
  obtain ⟨hfit, t, ht, rfl⟩ : fits l0 = true ∧ ∃ t, toldOf (clean l0) a1 = some t ∧ marks l0.length t = r := by
    unfold graph_Reach.f at h
    split at h
    · exact ⟨by assumption, by simpa using h⟩
    · cases h
  have HF := Aside0.mk hfit
  have HT := Aside0.mk ht
  have hn : l0.length ≤ 100000 := by
    unfold fits at hfit
    simp only [Bool.and_eq_true, decide_eq_true_eq] at hfit
    exact hfit.1
  clear hr0 hc0 h hfit ht
  have hz : 0 ≤ (l0.length : Int) := by omega
  have HCL : ∀ W, Below w.heap.size w W → Calls Try.prog 19 #[.slice A0 l0.length c0] W fun e w' => ∃ v0_ : Value, e = .returned v0_ ∧ Kd.S (Kd.slice 3 (Kd.int .i64)) 25 w' W.heap.size (fun _ => True) v0_ (clean l0) ∧ Below W.heap.size W w' :=
    fun W hW => graph_Clean.calls A0 c0 l0 (clean l0) W (Kd.C_below HR0.out hW) HC0.out (by unfold graph_Clean.f; rw [if_pos HF.out])
  have HCL' := Aside0.mk HCL
  clear HCL
  go_enter Try.func20, Try.ntmps20
  go_wp2_with (first | ((with_reducible refine gate_dst (N := 8) rfl ?_); refine Kd.R_make Kd.bool (w0 := w) w.heap.size 4 rfl (N := 8) rfl 32 _ _ rfl (l0.length : Int) rfl rfl Try.underlying32 (.bool false) 1 info4 rfl Nat.one_pos Nat.one_pos false (ok := fun _ => True) (okp := fun _ => True) rfl (fun _ hk => hk) trivial hz (by omega) (Below.refl _ _) (Nat.le_refl _) ?_; intro v1 w1 ho1 hb1 hg1 hn1; clear hg1; obtain ⟨go, hn1, _⟩ := hn1; obtain ⟨cap, e1⟩ := R_form' ho1 hn1; rw [List.length_replicate, Int.toNat_natCast] at e1; subst e1; rw [Int.toNat_natCast] at ho1; have HO1 := Aside0.mk ho1; have HB1 := Aside0.mk hb1; clear ho1 hb1 hn1) | (go_at_call 19; refine (HCL'.out _ (below_alloc HB1.out _)).mono ?_; rintro e w2 ⟨v2, rfl, ho2, hb2⟩; obtain ⟨A2, c2, e2, hl2, _⟩ := Kd.S_reads ho2; rw [clean_len] at e2 hl2; subst e2; rw [size_alloc1] at ho2 hb2; have HO2 := Aside0.mk ho2; have HB2 := Aside0.mk hb2; clear ho2 hb2))
  have hgo : go < w1.heap.size := Kd.R_lt HO1.out go (by simp [Value.ownBlock])
  have hgb : w.heap.size ≤ go := Kd.R_base HO1.out go (by simp [Value.ownBlock])
  have hbv : w2.heap[w1.heap.size]? = some (.cells #[.slice (some ⟨go, 0, none⟩) l0.length cap] 32 (0, 0)) := (HB2.out.block w1.heap.size (Nat.lt_succ_self _)).trans (heap_alloc_new w1 _)
  have hrow : Kd.R Kd.bool 4 w2 w.heap.size (fun _ => True) (.slice (some ⟨go, 0, none⟩) l0.length cap) (List.replicate l0.length false) := Kd.R_below (Kd.R_alloc HO1.out _) (by rw [size_alloc1]; exact HB2.out)
  have HEA := Aside0.mk (each_told 52 #[.pointer (some ⟨w1.heap.size, 0, none⟩)] (enters_of Try.func52 (by kernel_rfl) rfl) (IMark w1.heap.size w.heap.size go l0.length cap) l0.length IMark.move IMark.lt (fun W l S a h h0 h1 _ => IMark.step W l S a h h0 h1)
    (clean l0) (clean_len l0) hn clean_valid (clean_small HF.out) A2 c2 (fun k => k = w1.heap.size ∨ k = go) w2 (fun W hf => clean_stays HO2.out (clean_len l0).symm (fun k hk => by omega) W hf) a1 t ⟨hbv, hrow, by omega, fun k => Iff.rfl⟩ HT.out)
  have HG := Aside0.mk (And.intro hgo hgb)
  clear hbv hrow hgo hgb
  go_wp2_with (go_at_call 51; refine HEA.out.mono ?_; rintro e w3 ⟨rfl, S3, hI3, hS3, hf3⟩; obtain ⟨hb3, ho3, _, hs3⟩ := hI3; have hc3 := cell_of_one hb3; have HO3 := Aside0.mk ho3; have HF3 := Aside0.mk hf3; clear hb3 ho3 hs3 hf3 hS3)
  go_ret
  refine ⟨_, rfl, HO3.out, ?_⟩
  have h2 : Below w.heap.size w w2 := (below_alloc HB1.out _).trans (HB2.out.mono (by have := HB1.out.size; omega))
  exact below_fr h2 HF3.out (fun k hk => by have := HG.out; rcases hk with hk | hk <;> omega) h2.size

end Go.Proofs.Ytemcmcnhpdkdfaa.P

/-! graph.Turn: what it answers. -/
namespace Go.Proofs.Ytemcmcnhpdkdfaa.P
open Go.RowKit Go.Lib Go.Sort Go.Shelf Go.Proofs.YtemcmcnhpdkdfaaW.PrintWords Go.Proofs.YtemcmcnhpdkdfaaW.PrintLast Go.Proofs.YtemcmcnhpdkdfaaW.PrintMore

/-- An element of a row of rows is appended to, and stored back. -/
theorem S_appelem {w : World} {base go n cap j : Nat} {xs : List (List Int)} {ok : Nat → Prop} (h : Kd.S dG 25 w base ok (.slice (some ⟨go, 0, none⟩) n cap) xs) (hnew : ∀ k, w.heap.size ≤ k → ok k) (hj : j < n) :
    ∃ A c, w.cell? ⟨go, j, none⟩ = some (.slice A (xs.getD j []).length c) ∧ w.ownsRow base 3 1 (.slice A (xs.getD j []).length c) (xs.getD j []).length ((xs.getD j []).map (Value.int .i64)) ∧ (∀ k, (Value.slice A (xs.getD j []).length c).ownBlock = some k → ok k) ∧ ok go ∧
      ∀ o w2 v2 a, w2.ownsRow base 3 1 v2 ((xs.getD j []).length + 1) ((xs.getD j []).map (Value.int .i64) ++ [.int .i64 a]) → (w.alloc o).grownBy w2 (Value.slice A (xs.getD j []).length c).ownBlock →
        (v2.ownBlock = (Value.slice A (xs.getD j []).length c).ownBlock ∨ v2.ownBlock = some (w.heap.size + 1)) →
        (∃ u, w2.cell? ⟨go, j, none⟩ = some u ∧ w2.frozen? ⟨go, j, none⟩ = false) ∧ Kd.S dG 25 (w2.setCell ⟨go, j, none⟩ v2) base ok (.slice (some ⟨go, 0, none⟩) n cap) (xs.set j (xs.getD j [] ++ [a])) := by
  have hgo : go < w.heap.size := Kd.S_lt h go (by simp [Value.ownBlock])
  have hgb : base ≤ go := Kd.S_base h go (by simp [Value.ownBlock])
  have h2 : Kd.S dG 25 w base (fun k => ok k ∧ ¬ (w.heap.size ≤ k)) (.slice (some ⟨go, 0, none⟩) n cap) xs := Kd.S_mono (Kd.S_bound h) (fun k hk => ⟨hk.1, by have := hk.2.2.1; omega⟩)
  obtain ⟨oki, c, hcl, hM, hcc, hfr, hoki, hH⟩ := Kd.S_elem h2 [] (j : Int) (by omega) (by omega)
  have hs1 : dG.sz = 1 := rfl
  obtain ⟨u, rfl⟩ : ∃ u, c = [u] := List.length_eq_one_iff.1 (hcl.trans hs1)
  have hu := hcc 0 u rfl
  have hf := hfr 0
  rw [hs1, Int.toNat_natCast, Nat.mul_one, Nat.add_zero] at hu
  rw [Int.toNat_natCast] at hM
  obtain ⟨u', e, hR⟩ := hM
  injection e with e
  subst e
  obtain ⟨A, cc, rfl⟩ := Kd.R_slice hR
  refine ⟨A, cc, hu, R_ints hR, fun k hk => (hoki k (hR.1 k hk)).1.1, (Kd.S_R h).1 go (by simp [Value.ownBlock]), fun o w2 v2 a ho hg hat => ?_⟩
  have hb : ∀ k, (Value.slice A (xs.getD j []).length cc).ownBlock = some k → oki k := fun k hk => hR.1 k hk
  have hH2 := Kd.H_grown (Kd.H_alloc hH o) hg hb
  have hs2 := hg.size
  rw [size_alloc1] at hs2
  -- the row's own cells stay
  have hne : (Value.slice A (xs.getD j []).length cc).ownBlock ≠ some go := fun e => (hoki go (hb go e)).2 rfl
  have hbk : w2.heap[go]? = w.heap[go]? := by
    rw [hg.block go (by rw [size_alloc1]; omega) (fun e => hne e.symm), Below.heap_alloc _ _ _ hgo]
  have hcell : ∀ p : Nat, w2.cell? ⟨go, p, none⟩ = w.cell? ⟨go, p, none⟩ := fun p => by simp only [World.cell?, hbk]
  have hfrz : ∀ p : Nat, w2.frozen? ⟨go, p, none⟩ = w.frozen? ⟨go, p, none⟩ := fun p => by simp only [World.frozen?, hbk]
  refine ⟨⟨_, (hcell j).trans hu, (hfrz j).trans (by rw [hs1, Int.toNat_natCast, Nat.mul_one, Nat.add_zero] at hf; exact hf)⟩, ?_⟩
  have hbase2 : ∀ k, v2.ownBlock = some k → base ≤ k := fun k hk => own_base ho k hk
  have hR2 : dI.R 3 w2 base (fun k => oki k ∨ w.heap.size ≤ k) v2 (xs.getD j [] ++ [a]) := by
    refine ints_R ?_ (fun k hk => ?_)
    · rw [List.length_append, List.length_singleton, List.map_append]
      exact ho
    · rcases hat with e | e
      · exact .inl (hb k (by rw [← e]; exact hk))
      · rw [e] at hk
        injection hk with hk
        exact .inr (by omega)
  have hP := Kd.S_seg (okg := fun k => w.heap.size ≤ k) hH2 (by omega) (by omega) (seg := [v2]) (j := 0) (show 0 + 1 ≤ 1 from Nat.le_refl _) (x' := xs.getD j [] ++ [a]) (okp := fun k => oki k ∨ w.heap.size ≤ k)
    ⟨v2, rfl, hR2⟩ (fun k hk => hk) (fun k hk => ⟨hnew k hk, by omega⟩)
  have hP1 := hP.1
  rw [hs1, Int.toNat_natCast, Nat.mul_one, Nat.add_zero] at hP1
  exact hP1

set_option maxHeartbeats 4000000 in
set_option maxRecDepth 100000 in
theorem graph_Turn.calls (A0 : Option Addr) (c0 : Nat) (l0 : List (List Int)) (r : List (List Int)) (w : World) (hr0 : Kd.C (Kd.slice 3 (Kd.int .i64)) w A0 l0.length l0) (hc0 : l0.length ≤ c0) (h : graph_Turn.f l0 = some r) :
    Calls Try.prog 18 #[.slice A0 l0.length c0] w fun e w' => ∃ v0_ : Value, e = .returned v0_ ∧ Kd.S (Kd.slice 3 (Kd.int .i64)) 25 w' w.heap.size (fun _ => True) v0_ r ∧ Below w.heap.size w w' := by
  have HR0 := Aside0.mk hr0
  have HC0 := Aside0.mk hc0
  have HF : Aside0 (fits l0 = true ∧ r = turn (clean l0)) := by
    unfold graph_Turn.f at h
    split at h
    · exact ⟨⟨by assumption, (Option.some.inj h).symm⟩⟩
    · cases h
  clear hr0 hc0 h
  have hn : l0.length ≤ 100000 := by
    have := HF.out.1
    unfold fits at this
    simp at this
    exact this.1
  have hz : 0 ≤ (l0.length : Int) := by omega
  have HCL' : Aside0 (∀ W, Below w.heap.size w W → Calls Try.prog 19 #[.slice A0 l0.length c0] W fun e w' => ∃ v0_ : Value, e = .returned v0_ ∧ Kd.S (Kd.slice 3 (Kd.int .i64)) 25 w' W.heap.size (fun _ => True) v0_ (clean l0) ∧ Below W.heap.size W w') :=
    ⟨fun W hW => graph_Clean.calls A0 c0 l0 (clean l0) W (Kd.C_below HR0.out hW) HC0.out (by unfold graph_Clean.f; rw [if_pos HF.out.1])⟩
  go_enter Try.func18, Try.ntmps18
  go_wp2_with (first | ((with_reducible refine gate_dst (N := 10) rfl ?_); refine Kd.S_make (Kd.slice 3 (Kd.int .i64)) (w0 := w) w.heap.size 25 rfl (N := 10) rfl 22 _ _ rfl (l0.length : Int) rfl rfl Try.underlying22 (.slice none 0 0) 24 info25 rfl Nat.one_pos (by omega) [] (ok := fun _ => True) (okp := fun _ => True) ⟨_, rfl, Kd.R_nil _ _ _ _ _⟩ (fun _ hk => hk) trivial hz (by omega) (Below.refl _ _) (Nat.le_refl _) ?_; intro v1 w1 ho1 hb1 hg1 hn1; clear hg1; obtain ⟨go, hn1, _⟩ := hn1; obtain ⟨cap, e1⟩ := R_form' (Kd.S_R ho1) hn1; rw [List.length_replicate, Int.toNat_natCast] at e1; subst e1; rw [Int.toNat_natCast] at ho1; have HO1 := Aside0.mk ho1; have HB1 := Aside0.mk hb1; clear ho1 hb1 hn1) | (go_at_call 19; refine (HCL'.out _ HB1.out).mono ?_; rintro e w2 ⟨v2, rfl, ho2, hb2⟩; obtain ⟨A2, c2, e2, hl2, _⟩ := Kd.S_reads ho2; rw [clean_len] at e2 hl2; subst e2; have HO2 := Aside0.mk ho2; have HB2 := Aside0.mk hb2; clear ho2 hb2))
  have HS1 : Aside0 (Kd.S dG 25 w2 w.heap.size (fun k => k < w1.heap.size ∨ w2.heap.size ≤ k) (.slice (some ⟨go, 0, none⟩) l0.length cap) (turnSo (clean l0) 0)) := by
    rw [turnSo, clean_len]
    exact ⟨Kd.S_mono (Kd.S_below (Kd.S_bound HO1.out) HB2.out) (fun k hk => .inl hk.2.2.1)⟩
  have hlen : (turnSo (clean l0) 0).length = l0.length := by rw [turnSo_len, clean_len]
  go_loopw [14] (fun v14 wr => ∃ k : Nat, v14 = .int .i64 k ∧ k ≤ l0.length ∧ Aside0 (Kd.S dG 25 wr w.heap.size (fun k => k < w1.heap.size ∨ w2.heap.size ≤ k) (.slice (some ⟨go, 0, none⟩) l0.length cap) (turnSo (clean l0) k)) ∧ Aside0 (NoLonger (turnSo (clean l0) k) (k * 100000)) ∧ Aside0 (Fr (fun k => w.heap.size ≤ k ∧ k < w1.heap.size) w2 wr)) (fun v14 _ => l0.length - (intOf v14).toNat)
  case atStart => exact ⟨0, rfl, Nat.zero_le _, HS1, ⟨fun j => by rw [turnSo]; simp [List.getD_eq_getElem?_getD, List.getElem?_replicate]; split <;> simp⟩, ⟨Fr.refl _ _⟩⟩
  case round =>
    obtain ⟨k, rfl, hk, HSr, HNL, HFr⟩ := hrel
    clear HS1
    by_cases hlt : k < l0.length
    · obtain ⟨wo, rfl⟩ : ∃ wo, wo = wr := ⟨_, rfl⟩
      obtain ⟨g2, A1, c1, e1, hl1, hst⟩ := row_stays HO2.out (S := fun k => w.heap.size ≤ k ∧ k < w1.heap.size) (fun k hk => hk.2) hlt
      subst e1
      obtain ⟨rw_, er⟩ : ∃ x, x = (clean l0).getD k [] := ⟨_, rfl⟩
      rw [← er] at hst hl1
      have HER := Aside0.mk er
      have hrl : Aside0 (rw_.length ≤ 100000 ∧ ∀ b ∈ rw_, 0 ≤ b ∧ b < (l0.length : Int)) := by
        have hm : rw_ ∈ clean l0 := by
          rw [er, List.getD_eq_getElem?_getD, List.getElem?_eq_getElem (by rw [clean_len]; exact hlt)]
          exact List.getElem_mem _
        exact ⟨clean_small HF.out.1 _ hm, clean_valid _ hm⟩
      have hrb : rw_.length ≤ 100000 := hrl.out.1
      obtain ⟨hx1, _⟩ := hst wo HFr.out
      have HST := Aside0.mk hst
      clear er hst hl1
      go_wp2_with (fail)
      go_loopw [21] (fun v21 wr => ∃ j : Nat, v21 = .int .i64 j ∧ j ≤ rw_.length ∧ Aside0 (Kd.S dG 25 wr w.heap.size (fun k => k < w1.heap.size ∨ w2.heap.size ≤ k) (.slice (some ⟨go, 0, none⟩) l0.length cap) ((rw_.take j).foldl (turnStep (k : Int)) (turnSo (clean l0) k))) ∧ Aside0 (NoLonger ((rw_.take j).foldl (turnStep (k : Int)) (turnSo (clean l0) k)) (k * 100000 + j)) ∧ Aside0 (Fr (fun k => w.heap.size ≤ k ∧ k < w1.heap.size) w2 wr)) (fun v21 _ => rw_.length - (intOf v21).toNat)
      case atStart =>
        refine ⟨0, rfl, Nat.zero_le _, ?_, ?_, HFr⟩
        · rw [List.take_zero, List.foldl_nil]
          exact HSr
        · rw [List.take_zero, List.foldl_nil, Nat.add_zero]
          exact HNL
      case round =>
        clear HSr HNL HFr hx1
        obtain ⟨j, rfl, hj, HSr, HNL, HFr⟩ := hrel
        by_cases hjl : j < rw_.length
        · obtain ⟨xs, exs⟩ : ∃ xs, xs = (rw_.take j).foldl (turnStep (k : Int)) (turnSo (clean l0) k) := ⟨_, rfl⟩
          rw [← exs] at HSr HNL
          have HXS := Aside0.mk exs
          obtain ⟨_, hC1⟩ := HST.out wr HFr.out
          obtain ⟨rb, ro, e2, _, hrc⟩ := C_ints hC1 (by omega)
          subst e2
          have hcb := hrc j hjl
          obtain ⟨b, eb⟩ : ∃ b, b = rw_.getD j 0 := ⟨_, rfl⟩
          rw [← eb] at hcb
          have hbm : 0 ≤ b ∧ b < (l0.length : Int) := by
            refine hrl.out.2 b ?_
            rw [eb, List.getD_eq_getElem?_getD, List.getElem?_eq_getElem hjl]
            exact List.getElem_mem _
          have HBB := Aside0.mk eb
          obtain ⟨hb0, hb1⟩ := hbm
          have hnew : ∀ k, wr.heap.size ≤ k → k < w1.heap.size ∨ w2.heap.size ≤ k := fun k hk => .inr (by have := HFr.out.size; omega)
          obtain ⟨Ab, cb, hxb, hob, hokb, hokg, happ⟩ := S_appelem HSr.out hnew (j := b.toNat) (by omega)
          have hnl := HNL.out b.toNat
          have hk9 : k * 100000 ≤ 10000000000 := by
            have := Nat.mul_le_mul_right 100000 (show k ≤ 100000 by omega)
            omega
          obtain ⟨m, em⟩ : ∃ m, m = (xs.getD b.toNat []).length := ⟨_, rfl⟩
          rw [← em] at hxb hnl hob
          have hmb : m ≤ 10000100000 := by omega
          have HOB := Aside0.mk hob
          have HAP := Aside0.mk (And.intro hokb (And.intro hokg happ))
          have HEM := Aside0.mk em
          have HW := Aside0.mk (Nat.le_trans HB2.out.size HFr.out.size)
          obtain ⟨ti, hti, hz0, hz1, hz2⟩ := info_parts info3
          have HTI := Aside0.mk (And.intro hti (And.intro hz0 (And.intro hz1 hz2)))
          clear exs hC1 hrc eb hnew hob hokb hokg happ hnl hk9 em hti hz0 hz1 hz2
          go_wp2_with (at_builtin; refine wpList_append_own_at _ rfl _ _ 25 rfl w.heap.size 3 ti (.int .i64 0) 1 8 Try.underlying25 HTI.out.1 HTI.out.2.1 HTI.out.2.2.1 HTI.out.2.2.2 rfl (by decide) (.slice Ab m cb) m _ rfl (HOB.out.alloc _) ⟨_, 0, none⟩ 1 1 [.int .i64 k] rfl rfl (one_cells rfl _ _) (fun u hu => by simp at hu; subst hu; rfl) (by unfold maxLen; omega) (by omega) (by rw [size_alloc1]; have := HW.out; have := HB1.out.size; omega) ?_; intro v3 w3 ho3 hg3 _ hat3; rw [size_alloc1] at hat3; (obtain ⟨⟨u5, hu5, hf5⟩, hs5⟩ := HAP.out.2.2 _ w3 v3 (k : Int) (by rw [← HEM.out]; exact ho3) (by rw [← HEM.out]; exact hg3) (by rw [← HEM.out]; exact hat3)); have HS5 := Aside0.mk hs5; have HG3 := Aside0.mk hg3; obtain ⟨A3, c3, rfl⟩ := own_slice ho3; clear ho3 hg3 hat3 hs5)
          go_roundw
          case rel =>
            have etk : rw_.take (j + 1) = rw_.take j ++ [b] := by
              rw [List.take_succ_eq_append_getElem hjl, HBB.out, List.getD_eq_getElem?_getD, List.getElem?_eq_getElem hjl]
              rfl
            have ef : (rw_.take (j + 1)).foldl (turnStep (k : Int)) (turnSo (clean l0) k) = turnStep (k : Int) xs b := by
              rw [etk, List.foldl_append, ← HXS.out]
              rfl
            refine ⟨j + 1, by go_num, by omega, ?_, ?_, ⟨?_⟩⟩
            · rw [ef]
              exact HS5
            · rw [ef]
              have hst := HNL.out.step (a := (k : Int)) (b := b)
              rw [Nat.add_assoc] at hst
              exact ⟨hst⟩
            · refine ((HFr.out.alloc _).grown HG3.out (fun q e => ?_)).setCell ?_ _
              · rcases HAP.out.1 q (by rw [← HEM.out]; exact e) with h1 | h1
                · exact .inl ⟨own_base HOB.out q e, h1⟩
                · exact .inr h1
              · rcases HAP.out.2.1 with h1 | h1
                · exact .inl ⟨Kd.S_base HS5.out go (by simp [Value.ownBlock]), h1⟩
                · exact .inr h1
          case measure => simp [intOf]; omega
        · obtain rfl : j = rw_.length := by omega
          clear hjl
          go_wp2
          go_roundw
          case rel =>
            have ef : turnSo (clean l0) (k + 1) = (rw_.take rw_.length).foldl (turnStep (k : Int)) (turnSo (clean l0) k) := by
              rw [turnSo, ← HER.out, List.take_length]
            refine ⟨k + 1, by go_num, by omega, ?_, ?_, HFr⟩
            · rw [ef]
              exact HSr
            · rw [ef]
              refine ⟨fun q => Nat.le_trans (HNL.out q) ?_⟩
              have := hrl.out.1
              rw [Nat.succ_mul]
              omega
          case measure => simp [intOf]; omega
    · obtain rfl : k = l0.length := by omega
      clear hlt
      go_wp2
      go_ret
      have hfin := HSr.out
      rw [show turnSo (clean l0) l0.length = r from by rw [HF.out.2, turn, clean_len]] at hfin
      refine ⟨_, rfl, Kd.S_mono hfin (fun _ _ => trivial), ?_⟩
      have h2 : Below w.heap.size w w2 := HB1.out.trans (HB2.out.mono HB1.out.size)
      exact below_fr h2 HFr.out (fun k hk => hk.1) h2.size

end Go.Proofs.Ytemcmcnhpdkdfaa.P
