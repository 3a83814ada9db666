/- graph.each: it goes down from a node and tells each one when all behind it were told: at whatever closure that keeps to what it owns. -/
import Derived.Test.YtnhcimhdkdgccaaHclean
import Derived.WalkSmall
import Derived.Maps.AppendAt
import Derived.WalkMore
namespace Go.Proofs.Ytnhcimhdkdgccaa.P
open Go.RowKit Go.Lib Go.Sort Go.Shelf Go.Proofs.YtnhcimhdkdgccaaW.PrintWords Go.Proofs.YtnhcimhdkdgccaaW.PrintLast Go.Proofs.YtnhcimhdkdgccaaW.PrintMore

/-- The way's cells. -/
def wayCells (st : List (Int × Int)) : List Value := st.reverse.flatMap fun p => [.int .i64 p.1, .int .i64 p.2]

theorem info_step : (Try.prog.info? 101).map (fun i => (i.zero, i.size, i.bytes)) = some (some (.agg #[.int .i64 0, .int .i64 0]), 2, 16) := by kernel_rfl
/-- All but the blocks of S is as it was. -/
structure Fr (S : Nat → Prop) (w w' : World) : Prop where
  os : w'.os = w.os
  tape : w'.tape = w.tape
  output : w'.output = w.output
  size : w.heap.size ≤ w'.heap.size
  block : ∀ k, k < w.heap.size → ¬ S k → w'.heap[k]? = w.heap[k]?
theorem Fr.refl (S : Nat → Prop) (w : World) : Fr S w w := ⟨rfl, rfl, rfl, Nat.le_refl _, fun _ _ _ => rfl⟩
theorem Fr.trans {S S' : Nat → Prop} {a b c : World} (h : Fr S a b) (k : Fr S' b c) (hs : ∀ i, S' i → S i ∨ a.heap.size ≤ i) : Fr S a c :=
  ⟨k.os.trans h.os, k.tape.trans h.tape, k.output.trans h.output, Nat.le_trans h.size k.size, fun i hi hn => (k.block i (Nat.lt_of_lt_of_le hi h.size) (fun hh => (hs i hh).elim hn (fun h2 => by omega))).trans (h.block i hi hn)⟩
theorem Fr.below {B : Nat} {S : Nat → Prop} {a b : World} (h : Below B a b) (hS : ∀ i, B ≤ i → S i ∨ a.heap.size ≤ i) : Fr S a b :=
  ⟨h.os, h.tape, h.output, h.size, fun k hk hn => h.block k (by rcases Nat.lt_or_ge k B with h1 | h1; exact h1; rcases hS k h1 with h2 | h2; exact absurd h2 hn; omega)⟩

theorem own_pos {w : World} {base e size m : Nat} {v : Value} {xs : List Value} (h : w.ownsRow base e size v (m + 1) xs) : ∃ g cap, v = .slice (some ⟨g, 0, none⟩) (m + 1) cap ∧ base ≤ g ∧ g < w.heap.size ∧ m + 1 ≤ cap := by
  rcases h.2 with ⟨_, h0⟩ | ⟨g, cap, cur, rfl, hg, hh, hn, _⟩
  · omega
  · refine ⟨g, cap, rfl, hg, ?_, hn⟩
    rcases Nat.lt_or_ge g w.heap.size with h1 | h1
    · exact h1
    · rw [Array.getElem?_eq_none h1] at hh
      cases hh

/-- What holds at each step: what is to come, what the call owns, what the closure owns. -/
structure EachSt (I : World → List Int → (Nat → Prop) → Prop) (g : List (List Int)) (n gm cm : Nat) (w : World) (S0 : Nat → Prop) (told : List Int) (k kq : Nat) (v7 : Value) (wr : World) (met : List Bool) (st : List (Int × Int)) (tl : List Int) (S : Nat → Prop) : Prop where
  run : dfs g kq met st tl = some told
  fuel : kq ≤ k ∧ tl.length + kq ≤ k ∧ st.length + kq ≤ k + 1
  lenm : met.length = n
  way : ∀ p ∈ st, 0 ≤ p.1 ∧ p.1 < (n : Int) ∧ 0 ≤ p.2
  own : wr.ownsRow w.heap.size 101 2 v7 st.length (wayCells st)
  omet : dB.R 4 wr w.heap.size (fun _ => True) (.slice (some ⟨gm, 0, none⟩) n cm) met
  inv : I wr tl S
  sub : ∀ i, S i → S0 i ∨ w.heap.size ≤ i
  slt : ∀ i, S i → i < wr.heap.size
  ngm : ¬ S gm
  nway : ∀ b, v7.ownBlock = some b → ¬ S b ∧ b ≠ gm
  fr : Fr S0 w wr

theorem wayCells_cons (p : Int × Int) (st : List (Int × Int)) : wayCells (p :: st) = wayCells st ++ [.int .i64 p.1, .int .i64 p.2] := by simp [wayCells]
theorem wayCells_len (st : List (Int × Int)) : (wayCells st).length = st.length * 2 := by
  induction st with
  | nil => rfl
  | cons p st ih => rw [wayCells_cons, List.length_append, ih]; simp; omega
theorem way_cells {w : World} {base e gw cw : Nat} {a i : Int} {st : List (Int × Int)} (h : w.ownsRow base e 2 (.slice (some ⟨gw, 0, none⟩) (st.length + 1) cw) (st.length + 1) (wayCells ((a, i) :: st))) :
    w.cell? ⟨gw, st.length * 2, none⟩ = some (.int .i64 a) ∧ w.cell? ⟨gw, st.length * 2 + 1, none⟩ = some (.int .i64 i) ∧ w.frozen? ⟨gw, st.length * 2 + 1, none⟩ = false := by
  refine ⟨?_, ?_, h.frozenAt _⟩
  · rw [h.cellAt _ (by omega), wayCells_cons, List.getElem?_append_right (by rw [wayCells_len]; omega), wayCells_len, Nat.sub_self]
    rfl
  · rw [h.cellAt _ (by omega), wayCells_cons, List.getElem?_append_right (by rw [wayCells_len]; omega), wayCells_len, Nat.add_sub_cancel_left]
    rfl

theorem below_fr {B : Nat} {S : Nat → Prop} {a w w' : World} (h : Below B a w) (hf : Fr S w w') (hS : ∀ k, S k → B ≤ k) (hB : B ≤ w.heap.size) : Below B a w' :=
  ⟨hf.os.trans h.os, hf.tape.trans h.tape, hf.output.trans h.output, Nat.le_trans h.size hf.size, fun k hk => (hf.block k (by omega) (fun hs => by have := hS k hs; omega)).trans (h.block k hk)⟩
theorem Fr.drewN (S : Nat → Prop) (w : World) (q : Nat) : Fr S w (w.drewN q) := ⟨rfl, rfl, rfl, Nat.le_refl _, fun _ _ _ => rfl⟩
theorem Fr.setCell {S : Nat → Prop} {a w : World} (h : Fr S a w) {p : Addr} (hp : S p.block ∨ a.heap.size ≤ p.block) (u : Value) : Fr S a (w.setCell p u) :=
  ⟨h.os, h.tape, h.output, by have := h.size; simp [World.setCell]; omega, fun k hk hn => by
    rw [Below.heap_setCell _ _ _ _ (fun e => by rcases hp with h1 | h1; exact hn (e ▸ h1); omega)]
    exact h.block k hk hn⟩
theorem Fr.alloc {S : Nat → Prop} {a w : World} (h : Fr S a w) (o : Obj) : Fr S a (w.alloc o) :=
  ⟨h.os, h.tape, h.output, by have := h.size; have := size_alloc1 w o; omega, fun k hk hn => by
    rw [Below.heap_alloc _ _ _ (Nat.lt_of_lt_of_le hk h.size)]
    exact h.block k hk hn⟩
theorem Fr.grown {S : Nat → Prop} {a w w' : World} {row : Option Nat} (h : Fr S a w) (hg : w.grownBy w' row) (hr : ∀ k, row = some k → S k ∨ a.heap.size ≤ k) : Fr S a w' :=
  ⟨hg.os.trans h.os, hg.tape.trans h.tape, hg.output.trans h.output, Nat.le_trans h.size hg.size, fun k hk hn => by
    rw [hg.block k (Nat.lt_of_lt_of_le hk h.size) (fun e => (hr k e.symm).elim hn (fun h1 => by omega))]
    exact h.block k hk hn⟩

section
variable {I : World → List Int → (Nat → Prop) → Prop} {g : List (List Int)} {n gm cm gw cw m : Nat} {w wr : World} {S0 : Nat → Prop} {told : List Int} {k kq : Nat} {met : List Bool} {st : List (Int × Int)} {tl : List Int} {S : Nat → Prop} {a ii b : Int}

theorem each_frame (hI : ∀ W W' l S, I W l S → W.heap.size ≤ W'.heap.size → (∀ k, S k → W'.heap[k]? = W.heap[k]?) → I W' l S) {v7 : Value} (H : EachSt I g n gm cm w S0 told k kq v7 wr met st tl S) (hv : v7.ownBlock = some gw) (hgm : w.heap.size ≤ gm) (hgw : w.heap.size ≤ gw) {W' : World}
    (hf : Fr (fun i => i = gm ∨ i = gw) wr W') : I W' tl S ∧ Fr S0 w W' :=
  ⟨hI _ _ _ _ H.inv hf.size (fun i hi => hf.block i (H.slt i hi) (fun e => by rcases e with e | e; exact H.ngm (e ▸ hi); exact (H.nway gw hv).1 (e ▸ hi))),
   H.fr.trans hf (fun i e => .inr (by rcases e with e | e <;> omega))⟩

theorem each_push (hI : ∀ W W' l S, I W l S → W.heap.size ≤ W'.heap.size → (∀ k, S k → W'.heap[k]? = W.heap[k]?) → I W' l S) (H : EachSt I g n gm cm w S0 told k (kq + 1) (.slice (some ⟨gw, 0, none⟩) (m + 1) cw) wr met ((a, ii) :: st) tl S) (hm : m = st.length)
    (hgm : w.heap.size ≤ gm ∧ gm < wr.heap.size) (hgw : w.heap.size ≤ gw ∧ gw < wr.heap.size) (hl : ii < ((g.getD a.toNat []).length : Int)) (hb : b = (g.getD a.toNat []).getD ii.toNat 0) (hbn : 0 ≤ b ∧ b < (n : Int)) (hmb : rdOf false met b = false)
    {W1 w2 : World} {v' : Value} {q : Nat} {o : Obj} (hW : W1 = ((wr.drewN q).setCell ⟨gm, b.toNat, none⟩ (.bool true)).alloc o) (ho : w2.ownsRow w.heap.size 101 2 v' (m + 1 + 1) (wayCells ((a, ii) :: st) ++ [.int .i64 b, .int .i64 0])) (hgr : W1.grownBy w2 (some gw))
    (hat : v'.ownBlock = some gw ∨ v'.ownBlock = some W1.heap.size) : EachSt I g n gm cm w S0 told k kq v' w2 (met.set b.toNat true) ((b, 0) :: (a, ii) :: st) tl S := by
  have hmgw : gw ≠ gm := (H.nway gw (by simp [Value.ownBlock])).2
  have hsz : W1.heap.size = wr.heap.size + 1 := by rw [hW, size_alloc1]; simp [World.setCell]
  have hfr : Fr (fun i => i = gm ∨ i = gw) wr w2 := by
    have h1 : Fr (fun i => i = gm ∨ i = gw) wr W1 := by rw [hW]; exact ((Fr.drewN _ wr q).setCell (.inl (.inl rfl)) _).alloc _
    exact h1.grown hgr (fun i e => .inl (.inr (by injection e with e; exact e.symm)))
  obtain ⟨h1, h2⟩ := each_frame hI H (by simp [Value.ownBlock]) hgm.1 hgw.1 hfr
  have hmt : met.getD b.toNat true = false := by
    have hlt : b.toNat < met.length := by have := H.lenm; omega
    unfold rdOf at hmb
    rw [List.getD_eq_getElem?_getD, List.getElem?_eq_getElem hlt] at hmb ⊢
    exact hmb
  refine ⟨dfs_push H.run hl hb hmt, ?_, by rw [List.length_set]; exact H.lenm, ?_, ?_, ?_, h1, H.sub, fun i hi => Nat.lt_of_lt_of_le (H.slt i hi) hfr.size, H.ngm, ?_, h2⟩
  · have := H.fuel
    simp only [List.length_cons] at this ⊢
    omega
  · intro p hp
    rcases List.mem_cons.1 hp with rfl | hp
    · exact ⟨hbn.1, hbn.2, Int.le_refl _⟩
    · exact H.way p hp
  · rw [wayCells_cons, List.length_cons, List.length_cons, ← hm]
    exact ho
  · have h3 : dB.R 4 W1 w.heap.size (fun _ => True) (.slice (some ⟨gm, 0, none⟩) n cm) (met.set b.toNat true) := by
      rw [hW]
      exact Kd.R_alloc (Kd.R_putn (Kd.R_drewN H.omet q) b true) o
    exact Kd.R_mono (Kd.R_grown (Kd.R_tight rfl h3) hgr (fun i hi e => by simp only [Value.ownBlock] at hi; rw [hi] at e; injection e with e; exact hmgw e.symm)) (fun _ _ => trivial)
  · intro b' hb'
    rcases hat with e | e
    · rw [e] at hb'
      injection hb' with hb'
      subst hb'
      exact H.nway _ (by simp [Value.ownBlock])
    · rw [e] at hb'
      injection hb' with hb'
      refine ⟨fun hs => ?_, by omega⟩
      have := H.slt _ hs
      omega

theorem wayCells_set : (wayCells ((a, ii) :: st)).set (st.length * 2 + 1) (.int .i64 (ii + 1)) = wayCells ((a, ii + 1) :: st) := by
  rw [wayCells_cons, wayCells_cons, List.set_append_right _ _ (by rw [wayCells_len]; omega), wayCells_len, Nat.add_sub_cancel_left]
  rfl

theorem each_skip (hI : ∀ W W' l S, I W l S → W.heap.size ≤ W'.heap.size → (∀ k, S k → W'.heap[k]? = W.heap[k]?) → I W' l S) (H : EachSt I g n gm cm w S0 told k (kq + 1) (.slice (some ⟨gw, 0, none⟩) (m + 1) cw) wr met ((a, ii) :: st) tl S) (hm : m = st.length)
    (hgm : w.heap.size ≤ gm) (hgw : w.heap.size ≤ gw) (hl : ii < ((g.getD a.toNat []).length : Int)) (hb : b = (g.getD a.toNat []).getD ii.toNat 0) (hbn : 0 ≤ b ∧ b < (n : Int)) (hmb : rdOf false met b = true) (q : Nat) :
    EachSt I g n gm cm w S0 told k kq (.slice (some ⟨gw, 0, none⟩) (m + 1) cw) ((wr.drewN q).setCell ⟨gw, m * 2 + 1, none⟩ (.int .i64 (ii + 1))) met ((a, ii + 1) :: st) tl S := by
  have hmgw : gw ≠ gm := (H.nway gw (by simp [Value.ownBlock])).2
  have hfr : Fr (fun i => i = gm ∨ i = gw) wr ((wr.drewN q).setCell ⟨gw, m * 2 + 1, none⟩ (.int .i64 (ii + 1))) := (Fr.drewN _ wr q).setCell (.inl (.inr rfl)) _
  obtain ⟨h1, h2⟩ := each_frame hI H (by simp [Value.ownBlock]) hgm hgw hfr
  have hmt : met.getD b.toNat true = true := by
    have hlt : b.toNat < met.length := by have := H.lenm; omega
    unfold rdOf at hmb
    rw [List.getD_eq_getElem?_getD, List.getElem?_eq_getElem hlt] at hmb ⊢
    exact hmb
  refine ⟨dfs_skip H.run hl hb hmt, ?_, H.lenm, ?_, ?_, ?_, h1, H.sub, fun i hi => Nat.lt_of_lt_of_le (H.slt i hi) hfr.size, H.ngm, H.nway, h2⟩
  · have := H.fuel
    simp only [List.length_cons] at this ⊢
    omega
  · intro p hp
    rcases List.mem_cons.1 hp with rfl | hp
    · have := H.way (a, ii) List.mem_cons_self
      exact ⟨this.1, this.2.1, by have := this.2.2; simp only at this ⊢; omega⟩
    · exact H.way p (List.mem_cons_of_mem _ hp)
  · have h3 := H.own
    rw [List.length_cons, ← hm] at h3 ⊢
    have h4 := World.ownsRow.stored (w := wr.drewN q) (pw_own_drewN h3 q) (m * 2 + 1) (.int .i64 (ii + 1))
    rw [hm, wayCells_set] at h4
    rw [hm]
    exact h4.1
  · exact Kd.R_mono (Kd.R_far (Kd.R_tight rfl (Kd.R_drewN H.omet q)) (fun i hi => by simp only [Value.ownBlock] at hi; injection hi with hi; exact fun e => hmgw ((show i = gw from e).symm.trans hi)) _) (fun _ _ => trivial)

theorem each_tell (hL : ∀ W l S, I W l S → ∀ k, S k → k < W.heap.size) (H : EachSt I g n gm cm w S0 told k (kq + 1) (.slice (some ⟨gw, 0, none⟩) (m + 1) cw) wr met ((a, ii) :: st) tl S) (hm : m = st.length)
    (hgm : w.heap.size ≤ gm ∧ gm < wr.heap.size) (hgw : w.heap.size ≤ gw ∧ gw < wr.heap.size) (hl : ¬ ii < ((g.getD a.toNat []).length : Int)) {q : Nat} {W1 : World} {S1 : Nat → Prop} (hI1 : I W1 (tl ++ [a]) S1) (hS1 : ∀ k, S1 k → S k ∨ (wr.drewN q).heap.size ≤ k) (hf : Fr S (wr.drewN q) W1) :
    EachSt I g n gm cm w S0 told k kq (.slice (some ⟨gw, 0, none⟩) m cw) W1 met st (tl ++ [a]) S1 := by
  have hmgw : gw ≠ gm := (H.nway gw (by simp [Value.ownBlock])).2
  have hsw : ¬ S gw := (H.nway gw (by simp [Value.ownBlock])).1
  have hS1' : ∀ k, S1 k → S k ∨ wr.heap.size ≤ k := hS1
  have hbk : ∀ i, i < wr.heap.size → ¬ S i → W1.heap[i]? = wr.heap[i]? := fun i hi hn => hf.block i hi hn
  refine ⟨dfs_pop H.run hl, ?_, H.lenm, fun p hp => H.way p (List.mem_cons_of_mem _ hp), ?_, ?_, hI1, ?_, hL _ _ _ hI1, ?_, ?_, ?_⟩
  · have := H.fuel
    simp only [List.length_cons, List.length_append, List.length_nil] at this ⊢
    omega
  · have h3 := H.own
    rw [List.length_cons, ← hm, wayCells_cons] at h3
    have h4 := ownsRow_pop (by rw [wayCells_len, hm]) h3
    rw [hm] at h4 ⊢
    exact own_move h4 (fun i hi => hbk i (by simp only [Value.ownBlock] at hi; injection hi with hi; omega) (by simp only [Value.ownBlock] at hi; injection hi with hi; rw [← hi]; exact hsw))
  · exact Kd.R_mono (Kd.R_move (Kd.R_tight rfl H.omet) (fun i hi => by simp only [Value.ownBlock] at hi; injection hi with hi; subst hi; exact hbk _ hgm.2 H.ngm)) (fun _ _ => trivial)
  · intro i hi
    rcases hS1' i hi with h1 | h1
    · exact H.sub i h1
    · exact .inr (by omega)
  · intro hs
    rcases hS1' _ hs with h1 | h1
    · exact H.ngm h1
    · omega
  · intro b' hb'
    simp only [Value.ownBlock] at hb'
    injection hb' with hb'
    subst hb'
    refine ⟨fun hs => ?_, hmgw⟩
    rcases hS1' _ hs with h1 | h1
    · exact hsw h1
    · omega
  · exact H.fr.trans ((Fr.drewN S wr q).trans hf (fun i h => .inl h)) (fun i h => H.sub i h)
end

set_option maxHeartbeats 4000000 in
set_option maxRecDepth 100000 in
theorem each_c (f : Nat) (lb : Array Value) (eg : ∀ args w, (callFunc f args).run Try.prog w = .ok (.enter f args) w) (I : World → List Int → (Nat → Prop) → Prop) (n : Nat)
    (hmove : ∀ W W' l S, I W l S → W.heap.size ≤ W'.heap.size → (∀ k, S k → W'.heap[k]? = W.heap[k]?) → I W' l S) (hlt : ∀ W l S, I W l S → ∀ k, S k → k < W.heap.size)
    (hstep : ∀ W l S a, I W l S → 0 ≤ a → a < (n : Int) → l.length < 1000000 → Calls Try.prog f (#[.int .i64 a] ++ lb) W fun e W' => e = .returned (.tuple #[]) ∧ ∃ S', I W' (l ++ [a]) S' ∧ (∀ k, S' k → S k ∨ W.heap.size ≤ k) ∧ Fr S W W')
    (g : List (List Int)) (hn : g.length = n) (hsm : n ≤ 100000) (hg : ∀ l ∈ g, ∀ b ∈ l, 0 ≤ b ∧ b < (n : Int)) (hgl : ∀ l ∈ g, l.length ≤ 100000)
    (A0 : Option Addr) (c0 : Nat) (S0 : Nat → Prop) (w : World) (hC : ∀ W, Fr S0 w W → dG.C W A0 n g) (from_ : Int) (h0 : 0 ≤ from_) (h1 : from_ < (n : Int)) (k : Nat) (hk : k ≤ 1000000) (told : List Int)
    (hI : I w [] S0) (hd : dfs g k ((List.replicate n false).set from_.toNat true) [(from_, 0)] [] = some told) :
    Calls Try.prog 53 #[.slice A0 n c0, .int .i64 from_, .func (.func f) #[] lb] w fun e w' => e = .returned (.tuple #[]) ∧ ∃ S', I w' told S' ∧ (∀ i, S' i → S0 i ∨ w.heap.size ≤ i) ∧ Fr S0 w w' := by
  have HM := Aside0.mk hmove
  have HL := Aside0.mk hlt
  have HST := Aside0.mk hstep
  have HG := Aside0.mk hg
  have HGL := Aside0.mk hgl
  have HC := Aside0.mk hC
  have HI := Aside0.mk hI
  have HD := Aside0.mk hd
  have HN := Aside0.mk hn
  clear hmove hlt hstep hg hgl hC hI hd hn
  go_enter Try.func53, Try.ntmps53
  have HIS : ∀ W, Calls Try.prog 59 #[.slice A0 n c0, .int .i64 from_] W fun e w' => e = .returned (.bool true) ∧ W = w' := fun W => by
    have := is_c from_ A0 n c0 W
    rw [isN_yes h0 h1] at this
    exact this
  have hz : 0 ≤ (n : Int) := by omega
  go_wp2_with (fail)
  go_step3
  go_wp2_with (first | (go_at_call 59; refine (HIS _).mono ?_; rintro e w' ⟨rfl, rfl⟩) | ((with_reducible refine gate_dst (N := 16) rfl ?_); refine Kd.R_make Kd.bool (w0 := w) w.heap.size 4 rfl (N := 16) rfl 34 _ _ rfl (n : Int) rfl rfl Try.underlying34 (.bool false) 1 info4 rfl Nat.one_pos Nat.one_pos false (ok := fun _ => True) (okp := fun _ => True) rfl (fun _ hk => hk) trivial hz (by omega) (Below.refl _ _) (Nat.le_refl _) ?_; intro v1 w1 ho1 hb1 hg1 hn1; clear hg1 hn1; rw [Int.toNat_natCast] at ho1; obtain ⟨gm, cm, e1, hgm1, hgm2, _⟩ := Kd.R_form ho1 (by rw [List.length_replicate]; omega); rw [List.length_replicate] at e1; subst e1; have HM1 := Aside0.mk ho1; have HB1 := Aside0.mk hb1; have HGM := Aside0.mk (And.intro hgm1 hgm2); obtain ⟨hx1, hf1⟩ := Kd.R_celln false ho1 from_ h0 h1; clear ho1 hb1 hgm1 hgm2))
  go_step3
  go_wp2
  go_loopg [7] k (fun kq v7 wr => ∃ (met : List Bool) (st : List (Int × Int)) (tl : List Int) (S : Nat → Prop), Aside0 (EachSt I g n gm cm w S0 told k kq v7 wr met st tl S))
  case atStart =>
    refine ⟨(List.replicate n false).set from_.toNat true, [(from_, 0)], [], S0, ⟨?_⟩⟩
    have hS0 : ∀ i, S0 i → i < w.heap.size := HL.out _ _ _ HI.out
    have hf : Fr (fun i => i = gm) w1 ((w1.setCell ⟨gm, from_.toNat, none⟩ (.bool true)).alloc (.cells #[.int .i64 from_, .int .i64 0] 101)) := ((Fr.refl (fun i => i = gm) w1).setCell (.inl rfl) _).alloc _
    have hf1 : Fr S0 w ((w1.setCell ⟨gm, from_.toNat, none⟩ (.bool true)).alloc (.cells #[.int .i64 from_, .int .i64 0] 101)) :=
      (Fr.below HB1.out (fun i hi => .inr hi)).trans hf (fun i e => .inr (by have := HGM.out.1; omega))
    have hsz : w1.heap.size = (w1.setCell ⟨gm, from_.toNat, none⟩ (.bool true)).heap.size := by simp [World.setCell]
    refine ⟨HD.out, ⟨Nat.le_refl _, by simp, by simp; omega⟩, by simp, ?_, ?_, ?_, ?_, fun i hi => .inl hi, fun i hi => Nat.lt_of_lt_of_le (hS0 i hi) hf1.size, fun hs => by have := hS0 _ hs; have := HGM.out.1; omega, ?_, hf1⟩
    · intro p hp
      obtain rfl := List.mem_singleton.1 hp
      exact ⟨h0, h1, Int.le_refl _⟩
    · rw [hsz]
      exact World.ownsRow_lit _ #[.int .i64 from_, .int .i64 0] 1 (by rw [← hsz]; exact HB1.out.size) (by decide) rfl
    · exact Kd.R_alloc (Kd.R_putn HM1.out from_ true) _
    · exact HM.out _ _ _ _ HI.out hf1.size (fun i hi => (hf.block i (Nat.lt_of_lt_of_le (hS0 i hi) HB1.out.size) (fun e => by have := hS0 _ hi; have := HGM.out.1; omega)).trans (HB1.out.block i (hS0 i hi)))
    · intro b hb
      simp only [Value.ownBlock] at hb
      injection hb with hb
      have := HGM.out
      have := HB1.out.size
      exact ⟨fun hs => by have := hS0 _ hs; omega, by omega⟩
  case round =>
    obtain ⟨met, st, tl, S, HE⟩ := hrel
    cases st with
    | nil =>
      obtain ⟨A7, c7, e7⟩ := own_slice HE.out.own
      subst e7
      have hl : decide (0 < (([] : List (Int × Int)).length : Int)) = false := rfl
      have hfin : Aside0 (told = tl) := by
        have h := HE.out.run
        cases gk with
        | zero => exact absurd h (by simp [dfs])
        | succ kq => exact ⟨(Option.some.inj (by rw [dfs] at h; exact h)).symm⟩
      go_wp2
      rw [Exit.noGoto_normal]
      go_end0
      exact ⟨rfl, S, by rw [hfin.out]; exact HE.out.inv, HE.out.sub, HE.out.fr⟩
    | cons p st =>
      obtain ⟨a, i⟩ := p
      obtain ⟨gw, cw, e7, hgw1, hgw2, hcw⟩ := own_pos HE.out.own
      subst e7
      obtain ⟨m, hm⟩ : ∃ m, m = st.length := ⟨_, rfl⟩
      rw [← hm] at HE ⊢
      have HMM := Aside0.mk hm
      have hmb : m ≤ 1000001 := by have h := HE.out.fuel.2.2; simp only [List.length_cons] at h; omega
      have hgw : Aside0 (w.heap.size ≤ gw ∧ gw < wr.heap.size) := ⟨hgw1, hgw2⟩
      have hab : 0 ≤ a ∧ a < (n : Int) := ⟨(HE.out.way (a, i) (List.mem_cons_self)).1, (HE.out.way (a, i) (List.mem_cons_self)).2.1⟩
      obtain ⟨ha0, ha1⟩ := hab
      have hmc : m ≤ cw := by omega
      clear hm hgw1 hgw2 hcw
      go_upto_region 6 with (fail)
      obtain ⟨ko, rfl⟩ : ∃ ko, ko = gk := ⟨_, rfl⟩
      obtain ⟨wo, rfl⟩ : ∃ wo, wo = wr := ⟨_, rfl⟩
      go_loopg [7] ko (fun kq v7 wi => ∃ i : Int, v7 = .slice (some ⟨gw, 0, none⟩) (m + 1) cw ∧ Aside0 (EachSt I g n gm cm w S0 told k kq (.slice (some ⟨gw, 0, none⟩) (m + 1) cw) wi met ((a, i) :: st) tl S) ∧ Aside0 (kq ≤ ko))
      case atStart => exact ⟨i, rfl, HE, ⟨Nat.le_refl _⟩⟩
      case round =>
        clear HE
        obtain ⟨ii, rfl, HE, HK⟩ := hrel
        have HG1 := HC.out wr HE.out.fr
        have hown := HE.out.own
        rw [List.length_cons, ← HMM.out] at hown
        have hii : 0 ≤ ii := (HE.out.way (a, ii) (List.mem_cons_self)).2.2
        obtain ⟨hca, hci, hfi⟩ : wr.cell? ⟨gw, m * 2, none⟩ = some (.int .i64 a) ∧ wr.cell? ⟨gw, m * 2 + 1, none⟩ = some (.int .i64 ii) ∧ wr.frozen? ⟨gw, m * 2 + 1, none⟩ = false := by
          have h := HMM.out
          subst h
          exact way_cells hown
        obtain ⟨ad, A1, c1, e1, hx1, hl1, hC1⟩ := at_L1 HG1 a ha0 ha1
        obtain ⟨row, er⟩ : ∃ row, row = rd_L1 g a := ⟨_, rfl⟩
        rw [← er] at hx1 hl1 hC1
        have HR := Aside0.mk er
        have HC1 := Aside0.mk hC1
        clear er hC1 HG1 hown
        cases gk with
        | zero => exact absurd HE.out.run (by simp [dfs])
        | succ kq =>
          by_cases hlt : ii < (row.length : Int)
          · have hdl : decide (ii < (row.length : Int)) = true := decide_eq_true hlt
            subst e1
            obtain ⟨rb, ro, e2, _, hrc⟩ := C_ints HC1.out (by omega)
            subst e2
            have hcb := hrc ii.toNat (by omega)
            clear hrc
            obtain ⟨b, eb⟩ : ∃ b, b = row.getD ii.toNat 0 := ⟨_, rfl⟩
            rw [← eb] at hcb
            have hb : 0 ≤ b ∧ b < (n : Int) := by
              have hmem : row ∈ g := by
                rw [HR.out]
                unfold rd_L1
                rw [List.getD_eq_getElem?_getD, List.getElem?_eq_getElem (by have := HN.out; omega)]
                exact List.getElem_mem _
              refine HG.out row hmem b ?_
              rw [eb, List.getD_eq_getElem?_getD, List.getElem?_eq_getElem (by omega)]
              exact List.getElem_mem _
            have HBB := Aside0.mk eb
            clear eb
            have hrow : row = g.getD a.toNat [] := HR.out
            have hHL : Aside0 (ii < ((g.getD a.toNat []).length : Int) ∧ b = (g.getD a.toNat []).getD ii.toNat 0) := by
              rw [← hrow]
              exact ⟨hlt, HBB.out⟩
            clear hrow
            obtain ⟨hb0, hb1⟩ := hb
            have HGW : Aside0 ((w.heap.size ≤ gm ∧ gm < wr.heap.size) ∧ (w.heap.size ≤ gw ∧ gw < wr.heap.size)) := by
              refine ⟨⟨HGM.out.1, ?_⟩, ⟨hgw.out.1, ?_⟩⟩
              · exact Kd.R_lt HE.out.omet gm (by simp [Value.ownBlock])
              · exact (own_lt HE.out.own gw (by simp [Value.ownBlock]))
            obtain ⟨hcm, hfm⟩ := Kd.R_celln false HE.out.omet b hb0 hb1
            by_cases hmb : rdOf false met b = true
            · rw [hmb] at hcm
              have hi1 : ii + 1 ≤ 100001 := by
                have hmem : row ∈ g := by
                  rw [HR.out]
                  unfold rd_L1
                  rw [List.getD_eq_getElem?_getD, List.getElem?_eq_getElem (by have := HN.out; omega)]
                  exact List.getElem_mem _
                have := HGL.out row hmem
                omega
              have hmb' := Aside0.mk hmb
              clear hmb
              go_wp2
              go_quiet (fail)
              go_wp2
              go_quiet (fail)
              go_wp2
              go_roundg kq
              case measure => exact Nat.lt_succ_self _
              case rel =>
                exact ⟨ii + 1, rfl, ⟨each_skip HM.out HE.out HMM.out HGM.out.1 hgw.out.1 hHL.out.1 hHL.out.2 ⟨hb0, hb1⟩ hmb'.out _⟩, ⟨by have := HK.out; omega⟩⟩
            · rw [Bool.not_eq_true] at hmb
              rw [hmb] at hcm
              have hmb' := Aside0.mk hmb
              clear hmb
              obtain ⟨ti, hti, hz0, hz1, hz2⟩ := info_parts info_step
              have HTI := Aside0.mk (And.intro hti (And.intro hz0 (And.intro hz1 hz2)))
              clear hti hz0 hz1 hz2
              go_wp2
              go_quiet (fail)
              go_wp2
              go_quiet (fail)
              go_upto_region 11 with (fail)
              go_wp2_with (at_builtin; refine wpList_append_own_at _ rfl _ _ 102 rfl w.heap.size 101 ti (.agg #[.int .i64 0, .int .i64 0]) 2 16 Try.underlying102 HTI.out.1 HTI.out.2.1 HTI.out.2.2.1 HTI.out.2.2.2 rfl (by decide) _ _ _ rfl ((own_setCell (pw_own_drewN (by have h := HE.out.own; rw [List.length_cons, ← HMM.out] at h; exact h) _) (by simp only [Value.ownBlock]; intro e; injection e with e; exact (HE.out.nway gw (by simp [Value.ownBlock])).2 e.symm) _).alloc _) ⟨_, 0, none⟩ 1 1 [.int .i64 b, .int .i64 0] rfl rfl (two_cells (size_s _ _ _ _) _ _ _) (fun u hu => by simp at hu; rcases hu with rfl | rfl <;> rfl) (by unfold maxLen; omega) (by omega) (by rw [size_sa]; have := HE.out.fr.size; omega) ?_; intro v2 w2 ho2 hg2 _ hat2; have HE2 := Aside0.mk (each_push HM.out HE.out HMM.out HGW.out.1 HGW.out.2 hHL.out.1 hHL.out.2 ⟨hb0, hb1⟩ hmb'.out rfl ho2 hg2 hat2); clear ho2 hg2 hat2)
              go_roundg kq
              case measure => have := HK.out; omega
              case rel => exact ⟨_, _, _, _, HE2⟩
          · have hdl : decide (ii < (row.length : Int)) = false := decide_eq_false hlt
            subst e1
            have hrow : row = g.getD a.toNat [] := HR.out
            have hHL : Aside0 (¬ ii < ((g.getD a.toNat []).length : Int)) := by
              rw [← hrow]
              exact ⟨hlt⟩
            clear hrow
            have HGW : Aside0 ((w.heap.size ≤ gm ∧ gm < wr.heap.size) ∧ (w.heap.size ≤ gw ∧ gw < wr.heap.size)) := by
              refine ⟨⟨HGM.out.1, ?_⟩, ⟨hgw.out.1, ?_⟩⟩
              · exact Kd.R_lt HE.out.omet gm (by simp [Value.ownBlock])
              · exact (own_lt HE.out.own gw (by simp [Value.ownBlock]))
            have hcall : ∀ q, Calls Try.prog f (#[.int .i64 a] ++ lb) (wr.drewN q) fun e W' => e = .returned (.tuple #[]) ∧ ∃ S', I W' (tl ++ [a]) S' ∧ (∀ k, S' k → S k ∨ (wr.drewN q).heap.size ≤ k) ∧ Fr S (wr.drewN q) W' :=
              fun q => HST.out _ tl S a (HM.out wr _ tl S HE.out.inv (Nat.le_refl _) (fun _ _ => rfl)) ha0 ha1 (by have := HE.out.fuel; omega)
            go_wp2
            go_quiet (fail)
            go_wp2_with (go_at_fn f; refine (hcall _).mono ?_; rintro e w2 ⟨rfl, S1, hI1, hS1, hf1⟩; have HE2 := Aside0.mk (each_tell HL.out HE.out HMM.out HGW.out.1 HGW.out.2 (by have := hHL.out; omega) hI1 hS1 hf1); clear hI1 hS1 hf1)
            go_roundg kq
            case measure => have := HK.out; omega
            case rel => exact ⟨_, _, _, _, HE2⟩

end Go.Proofs.Ytnhcimhdkdgccaa.P
