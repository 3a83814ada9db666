/- graph.Order and graph.Reach: what they answer. -/
import Derived.Test.YtnhcimhdkdgccaaHeach
import Derived.OneCell
namespace Go.Proofs.Ytnhcimhdkdgccaa.P
open Go.RowKit Go.Lib Go.Sort Go.Shelf Go.Proofs.YtnhcimhdkdgccaaW.PrintWords Go.Proofs.YtnhcimhdkdgccaaW.PrintLast Go.Proofs.YtnhcimhdkdgccaaW.PrintMore

/-- What Order's closure owns: the variable that holds the list, and the list. -/
def ITold (Bv base : Nat) (W : World) (l : List Int) (S : Nat → Prop) : Prop :=
  ∃ v, W.heap[Bv]? = some (.cells #[v] 22 (0, 0)) ∧ dI.R 3 W base (fun _ => True) v l ∧ ∀ k, S k ↔ k = Bv ∨ v.ownBlock = some k
theorem ITold.move {Bv base : Nat} (W W' : World) (l : List Int) (S : Nat → Prop) (h : ITold Bv base W l S) (_ : W.heap.size ≤ W'.heap.size) (hs : ∀ k, S k → W'.heap[k]? = W.heap[k]?) : ITold Bv base W' l S := by
  obtain ⟨v, h1, h2, h3⟩ := h
  exact ⟨v, (hs Bv ((h3 Bv).2 (.inl rfl))).trans h1, Kd.R_mono (Kd.R_move (Kd.R_tight rfl h2) (fun k hk => hs k ((h3 k).2 (.inr hk.symm)))) (fun _ _ => trivial), h3⟩
theorem ITold.lt {Bv base : Nat} (W : World) (l : List Int) (S : Nat → Prop) (h : ITold Bv base W l S) (k : Nat) (hk : S k) : k < W.heap.size := by
  obtain ⟨v, h1, h2, h3⟩ := h
  rcases (h3 k).1 hk with rfl | e
  · exact lt_of_block h1
  · exact own_lt (R_ints h2) k e

/-- A variable that holds a slice is no row of numbers. -/
theorem row_apart {w : World} {B base : Nat} {ok : Nat → Prop} {u v : Value} {xs : List Int} (hb : w.heap[B]? = some (.cells #[u] 22 (0, 0))) (h : dI.R 3 w base ok v xs) : v.ownBlock ≠ some B := by
  intro e
  obtain ⟨cells, hc⟩ := own_typed (R_ints h) B e
  rw [hb] at hc
  injection hc with hc
  injection hc with _ hc
  exact absurd hc (by decide)
theorem ITold.app {Bv base : Nat} {W w2 : World} {l : List Int} {S : Nat → Prop} {v v2 : Value} {a : Int} {o : Obj} (h1 : W.heap[Bv]? = some (.cells #[v] 22 (0, 0))) (h2 : dI.R 3 W base (fun _ => True) v l) (h3 : ∀ k, S k ↔ k = Bv ∨ v.ownBlock = some k)
    (ho : w2.ownsRow base 3 1 v2 (l.length + 1) (l.map (Value.int .i64) ++ [.int .i64 a])) (hg : (W.alloc o).grownBy w2 v.ownBlock) (hat : v2.ownBlock = v.ownBlock ∨ v2.ownBlock = some (W.heap.size + 1)) :
    w2.heap[Bv]? = some (.cells #[v] 22 (0, 0)) ∧ ∃ S', ITold Bv base (w2.setCell ⟨Bv, 0, none⟩ v2) (l ++ [a]) S' ∧ (∀ k, S' k → S k ∨ W.heap.size ≤ k) ∧ Fr S W (w2.setCell ⟨Bv, 0, none⟩ v2) := by
  have hlt := lt_of_block h1
  have hne : v.ownBlock ≠ some Bv := by
    intro e
    obtain ⟨cells, hc⟩ := own_typed (R_ints h2) Bv e
    rw [h1] at hc
    injection hc with hc
    injection hc with _ hc
    exact absurd hc (by decide)
  have e2 : w2.heap[Bv]? = some (.cells #[v] 22 (0, 0)) := by
    rw [hg.block Bv (by rw [size_alloc1]; omega) (fun e => hne e.symm), Below.heap_alloc _ _ _ hlt]
    exact h1
  have hne2 : v2.ownBlock ≠ some Bv := by
    rcases hat with e | e
    · rw [e]; exact hne
    · rw [e]; intro h; injection h with h; omega
  refine ⟨e2, fun k => k = Bv ∨ v2.ownBlock = some k, ⟨v2, one_setCell e2, ?_, fun _ => Iff.rfl⟩, ?_, ?_⟩
  · refine ints_R ?_ (fun _ _ => trivial)
    rw [List.length_append, List.length_singleton, List.map_append]
    exact ownsRow_setCell_other ho hne2 _
  · intro k hk
    rcases hk with hk | hk
    · exact .inl ((h3 k).2 (.inl hk))
    · rcases hat with e | e
      · exact .inl ((h3 k).2 (.inr (by rw [← e]; exact hk)))
      · rw [e] at hk
        injection hk with hk
        exact .inr (by omega)
  · exact ((Fr.refl S W).alloc o |>.grown hg (fun k e => .inl ((h3 k).2 (.inr e)))).setCell (.inl ((h3 Bv).2 (.inl rfl))) _

set_option maxHeartbeats 4000000 in
set_option maxRecDepth 100000 in
theorem ITold.step {Bv base : Nat} (hb : base ≤ Bv) (W : World) (l : List Int) (S : Nat → Prop) (a : Int) (h : ITold Bv base W l S) (hl : l.length < 1000000) :
    Calls Try.prog 54 (#[.int .i64 a] ++ #[.pointer (some ⟨Bv, 0, none⟩)]) W fun e W' => e = .returned (.tuple #[]) ∧ ∃ S', ITold Bv base W' (l ++ [a]) S' ∧ (∀ k, S' k → S k ∨ W.heap.size ≤ k) ∧ Fr S W W' := by
  show Calls Try.prog 54 #[.int .i64 a, .pointer (some ⟨Bv, 0, none⟩)] W _
  obtain ⟨v, h1, h2, h3⟩ := h
  have hlt := lt_of_block h1
  have hc := cell_of_one h1
  have hf := free_of_one h1
  have HO := Aside0.mk (R_ints h2)
  have H1 := Aside0.mk h1
  have H3 := Aside0.mk h3
  have H2 := Aside0.mk h2
  clear h1 h2 h3
  obtain ⟨ti, hti, hz0, hz1, hz2⟩ := info_parts info3
  have HTI := Aside0.mk (And.intro hti (And.intro hz0 (And.intro hz1 hz2)))
  clear hti hz0 hz1 hz2
  go_enter Try.func54, Try.ntmps54
  go_wp2_with (at_builtin; refine wpList_append_own_at _ rfl _ _ 22 rfl base 3 ti (.int .i64 0) 1 8 Try.underlying22 HTI.out.1 HTI.out.2.1 HTI.out.2.2.1 HTI.out.2.2.2 rfl (by decide) v l.length _ rfl (HO.out.alloc _) ⟨_, 0, none⟩ 1 1 [.int .i64 a] rfl rfl (one_cells rfl _ _) (fun u hu => by simp at hu; subst hu; rfl) (by unfold maxLen; omega) (by omega) (by rw [size_alloc1]; omega) ?_; intro v2 w2 ho2 hg2 _ hat2; rw [size_alloc1] at hat2; (have happ := ITold.app H1.out H2.out H3.out ho2 hg2 hat2); obtain ⟨A2, c2, rfl⟩ := own_slice ho2; have hc2 := cell_of_one happ.1; have hf2 := free_of_one happ.1; have HA := Aside0.mk happ.2; clear ho2 hg2 hat2 happ)
  go_end0
  exact ⟨rfl, HA.out⟩

/-- What Reach's closure owns: the variable that holds the row of bools, and the row. -/
theorem marks_snoc (n : Nat) (l : List Int) (a : Int) : marks n (l ++ [a]) = (marks n l).set a.toNat true := by simp [marks]
def IMark (Bv base go n cap : Nat) (W : World) (l : List Int) (S : Nat → Prop) : Prop :=
  W.heap[Bv]? = some (.cells #[.slice (some ⟨go, 0, none⟩) n cap] 34 (0, 0)) ∧ dB.R 4 W base (fun _ => True) (.slice (some ⟨go, 0, none⟩) n cap) (marks n l) ∧ go ≠ Bv ∧ ∀ k, S k ↔ k = Bv ∨ k = go
theorem IMark.move {Bv base go n cap : Nat} (W W' : World) (l : List Int) (S : Nat → Prop) (h : IMark Bv base go n cap W l S) (_ : W.heap.size ≤ W'.heap.size) (hs : ∀ k, S k → W'.heap[k]? = W.heap[k]?) : IMark Bv base go n cap W' l S := by
  obtain ⟨h1, h2, h4, h3⟩ := h
  exact ⟨(hs Bv ((h3 Bv).2 (.inl rfl))).trans h1, Kd.R_mono (Kd.R_move (Kd.R_tight rfl h2) (fun k hk => hs k ((h3 k).2 (.inr (by simp only [Value.ownBlock] at hk; injection hk))))) (fun _ _ => trivial), h4, h3⟩
theorem IMark.lt {Bv base go n cap : Nat} (W : World) (l : List Int) (S : Nat → Prop) (h : IMark Bv base go n cap W l S) (k : Nat) (hk : S k) : k < W.heap.size := by
  obtain ⟨h1, h2, _, h3⟩ := h
  rcases (h3 k).1 hk with rfl | rfl
  · exact lt_of_block h1
  · exact Kd.R_lt h2 k (by simp [Value.ownBlock])

set_option maxHeartbeats 4000000 in
set_option maxRecDepth 100000 in
theorem IMark.step {Bv base go n cap : Nat} (W : World) (l : List Int) (S : Nat → Prop) (a : Int) (h : IMark Bv base go n cap W l S) (h0 : 0 ≤ a) (h1 : a < (n : Int)) :
    Calls Try.prog 56 (#[.int .i64 a] ++ #[.pointer (some ⟨Bv, 0, none⟩)]) W fun e W' => e = .returned (.tuple #[]) ∧ ∃ S', IMark Bv base go n cap W' (l ++ [a]) S' ∧ (∀ k, S' k → S k ∨ W.heap.size ≤ k) ∧ Fr S W W' := by
  show Calls Try.prog 56 #[.int .i64 a, .pointer (some ⟨Bv, 0, none⟩)] W _
  obtain ⟨h4, h2, h5, h3⟩ := h
  have hc := cell_of_one h4
  obtain ⟨hcg, hfg⟩ := Kd.R_celln false h2 a h0 h1
  have HA : Aside0 (∃ S', IMark Bv base go n cap (W.setCell ⟨go, a.toNat, none⟩ (.bool true)) (l ++ [a]) S' ∧ (∀ k, S' k → S k ∨ W.heap.size ≤ k) ∧ Fr S W (W.setCell ⟨go, a.toNat, none⟩ (.bool true))) := by
    refine ⟨S, ⟨?_, ?_, h5, h3⟩, fun k hk => .inl hk, (Fr.refl S W).setCell (.inl ((h3 go).2 (.inr rfl))) _⟩
    · rw [Below.heap_setCell _ _ _ _ (fun e => h5 e.symm)]
      exact h4
    · rw [marks_snoc]
      exact Kd.R_putn h2 a true
  clear h2 h3 h4 h5
  go_enter Try.func56, Try.ntmps56
  go_wp2
  go_end0
  exact ⟨rfl, HA.out⟩

set_option maxHeartbeats 1000000 in
theorem each_no (fv : Value) (A0 : Option Addr) (n c0 : Nat) (from_ : Int) (w : World) (h : isN n from_ = false) :
    Calls Try.prog 53 #[.slice A0 n c0, .int .i64 from_, fv] w fun e w' => e = .returned (.tuple #[]) ∧ w = w' := by
  have HIS : ∀ W, Calls Try.prog 59 #[.slice A0 n c0, .int .i64 from_] W fun e w' => e = .returned (.bool false) ∧ W = w' := fun W => by
    have := is_c from_ A0 n c0 W
    rw [h] at this
    exact this
  clear h
  go_enter Try.func53, Try.ntmps53
  go_wp2_with (fail)
  go_step3
  go_wp2_with (go_at_call 59; refine (HIS _).mono ?_; rintro e w' ⟨rfl, rfl⟩)
  rw [Exit.noGoto_ret]
  refine bodyPost_ret (results_none rfl _ _ _) rfl ?_
  exact ⟨rfl, rfl⟩

/-- each, from whatever node, or none. -/
theorem each_told (f : Nat) (lb : Array Value) (eg : ∀ args w, (callFunc f args).run Try.prog w = .ok (.enter f args) w) (I : World → List Int → (Nat → Prop) → Prop) (n : Nat)
    (hmove : ∀ W W' l S, I W l S → W.heap.size ≤ W'.heap.size → (∀ k, S k → W'.heap[k]? = W.heap[k]?) → I W' l S) (hlt : ∀ W l S, I W l S → ∀ k, S k → k < W.heap.size)
    (hstep : ∀ W l S a, I W l S → 0 ≤ a → a < (n : Int) → l.length < 1000000 → Calls Try.prog f (#[.int .i64 a] ++ lb) W fun e W' => e = .returned (.tuple #[]) ∧ ∃ S', I W' (l ++ [a]) S' ∧ (∀ k, S' k → S k ∨ W.heap.size ≤ k) ∧ Fr S W W')
    (g : List (List Int)) (hn : g.length = n) (hsm : n ≤ 100000) (hg : ∀ l ∈ g, ∀ b ∈ l, 0 ≤ b ∧ b < (n : Int)) (hgl : ∀ l ∈ g, l.length ≤ 100000)
    (A0 : Option Addr) (c0 : Nat) (S0 : Nat → Prop) (w : World) (hC : ∀ W, Fr S0 w W → dG.C W A0 n g) (from_ : Int) (told : List Int) (hI : I w [] S0) (hd : toldOf g from_ = some told) :
    Calls Try.prog 53 #[.slice A0 n c0, .int .i64 from_, .func (.func f) #[] lb] w fun e w' => e = .returned (.tuple #[]) ∧ ∃ S', I w' told S' ∧ (∀ i, S' i → S0 i ∨ w.heap.size ≤ i) ∧ Fr S0 w w' := by
  unfold toldOf at hd
  split at hd
  · rename_i h
    rw [hn] at h hd
    obtain ⟨h0, h1⟩ := isN_iff.1 h
    exact each_c f lb eg I n hmove hlt hstep g hn hsm hg hgl A0 c0 S0 w hC from_ h0 h1 1000000 (Nat.le_refl _) told hI hd
  · rename_i h
    rw [hn, Bool.not_eq_true] at h
    obtain rfl := Option.some.inj hd
    refine (each_no _ A0 n c0 from_ w h).mono ?_
    rintro e w' ⟨rfl, rfl⟩
    exact ⟨rfl, S0, hI, fun i hi => .inl hi, Fr.refl _ _⟩

/-- Clean's answer stays where a call keeps to what lies elsewhere. -/
theorem clean_stays {w : World} {base : Nat} {A : Option Addr} {n c : Nat} {xs : List (List Int)} {S : Nat → Prop} (h : Kd.S dG 22 w base (fun _ => True) (.slice A n c) xs) (hn : n = xs.length) (hS : ∀ k, S k → k < base) (W : World) (hf : Fr S w W) : dG.C W A n xs := by
  have h1 := Kd.S_step (w1 := W) (Kd.S_bound h) (fun k hk hlt => hf.block k hlt (fun hs => by have := hS k hs; have := hk.2.1; omega))
  have h2 := (Kd.S_reads' h1).2.2
  rw [← (Kd.S_reads' h1).1] at h2
  rw [hn] at h2 ⊢
  exact h2

/-- One row of Clean's answer, likewise. -/
theorem row_stays {w : World} {base : Nat} {A : Option Addr} {n c : Nat} {xs : List (List Int)} {S : Nat → Prop} (h : Kd.S dG 22 w base (fun _ => True) (.slice A n c) xs) (hS : ∀ k, S k → k < base) {k : Nat} (hk : k < n) :
    ∃ g A1 c1, A = some ⟨g, 0, none⟩ ∧ (xs.getD k []).length ≤ c1 ∧ ∀ W, Fr S w W → W.cell? ⟨g, k, none⟩ = some (.slice A1 (xs.getD k []).length c1) ∧ dI.C W A1 (xs.getD k []).length (xs.getD k []) := by
  have hn := (Kd.S_reads' h).1
  obtain ⟨g, cap, e, hb, hl, _⟩ := Kd.S_form h (by omega)
  injection e with e1 e2 e3
  subst e1
  obtain ⟨oki, cc, hcl, hM, hcc, _, _, _⟩ := Kd.S_elem h [] (k : Int) (by omega) (by omega)
  have hs1 : dG.sz = 1 := rfl
  obtain ⟨u, rfl⟩ : ∃ u, cc = [u] := List.length_eq_one_iff.1 (hcl.trans hs1)
  have hu := hcc 0 u rfl
  rw [hs1, Int.toNat_natCast, Nat.mul_one, Nat.add_zero] at hu
  rw [Int.toNat_natCast] at hM
  obtain ⟨u', e', hR⟩ := hM
  injection e' with e'
  subst e'
  obtain ⟨A1, c1, e4, hl1, _⟩ := Kd.R_reads hR
  subst e4
  refine ⟨g, A1, c1, rfl, hl1, fun W hf => ⟨?_, ?_⟩⟩
  · have hbk := hf.block g hl (fun hs => by have := hS g hs; omega)
    simp only [World.cell?, hbk]
    exact hu
  · have h2 := Kd.R_step (w1 := W) (Kd.R_bound hR) (fun b hbk hlt => hf.block b hlt (fun hs => by have := hS b hs; have := hbk.2.1; omega))
    exact (Kd.R_reads' h2).2.2

theorem fr_putRow (w : World) (g q : Nat) (d : Array Int) : Fr (fun k => k = g) w (putRow (Value.int .i64) (Sort.ahead w q) g 0 d) :=
  ⟨rfl, rfl, rfl, by simp [putRow, mapBlock, Sort.ahead], fun k _ hn => by
    have hn' : ¬ g = k := fun e => hn e.symm
    simp [putRow, mapBlock, Sort.ahead, Array.getElem?_modify, hn']⟩
theorem reverse_c (v : Value) (xs : List Int) (base : Nat) (ok : Nat → Prop) (w : World) (h : dI.R 3 w base ok v xs) (hb : xs.length ≤ 9223372036854775807) :
    Calls Try.prog 55 #[v] w fun e w' => e = .returned (.tuple #[]) ∧ dI.R 3 w' base ok v xs.reverse ∧ Fr (fun k => v.ownBlock = some k) w w' := by
  rcases R_ints_form h with ⟨rfl, rfl⟩ | ⟨g, cap, rfl, hbg, hlt, hn, hH⟩
  · refine (Try.slices_Reverse_int_empty none 0 w).mono ?_
    rintro e w' ⟨rfl, rfl⟩
    exact ⟨rfl, h, Fr.refl _ _⟩
  · refine (Try.slices_Reverse_int g 0 cap xs w hH hb).mono ?_
    rintro e w' ⟨rfl, n, rfl⟩
    refine ⟨rfl, R_put h (by simp) (by simp) (by rw [List.take_of_length_le (Nat.le_refl _)]) (by simp), ?_⟩
    have := fr_putRow w g n xs.reverse.toArray
    exact ⟨this.os, this.tape, this.output, this.size, fun k hk hn => this.block k hk (fun e => hn (by simp [Value.ownBlock, e]))⟩

set_option maxHeartbeats 4000000 in
set_option maxRecDepth 100000 in
theorem graph_Order.calls (A0 : Option Addr) (c0 : Nat) (l0 : List (List Int)) (a1 : Int) (r : List Int) (w : World) (hr0 : Kd.C (Kd.slice 3 (Kd.int .i64)) w A0 l0.length l0) (hc0 : l0.length ≤ c0) (h : graph_Order.f l0 a1 = some r) :
    Calls Try.prog 22 #[.slice A0 l0.length c0, .int .i64 a1] w fun e w' => ∃ v0_ : Value, e = .returned v0_ ∧ Kd.R (Kd.int .i64) 3 w' w.heap.size (fun _ => True) v0_ r ∧ Below w.heap.size w w' := by
  have HR0 := Aside0.mk hr0
  have HC0 := Aside0.mk hc0
  obtain ⟨hfit, t, ht, rfl⟩ : fits l0 = true ∧ ∃ t, toldOf (clean l0) a1 = some t ∧ t.reverse = r := by
    unfold graph_Order.f at h
    split at h
    · exact ⟨by assumption, by simpa using h⟩
    · cases h
  have HF := Aside0.mk hfit
  have HT := Aside0.mk ht
  clear hr0 hc0 h hfit ht
  have HCL : ∀ o, Calls Try.prog 24 #[.slice A0 l0.length c0] (w.alloc o) fun e w' => ∃ v0_ : Value, e = .returned v0_ ∧ Kd.S (Kd.slice 3 (Kd.int .i64)) 22 w' (w.alloc o).heap.size (fun _ => True) v0_ (clean l0) ∧ Below (w.alloc o).heap.size (w.alloc o) w' :=
    fun o => graph_Clean.calls A0 c0 l0 (clean l0) (w.alloc o) (Kd.C_alloc HR0.out o) HC0.out (by unfold graph_Clean.f; rw [if_pos HF.out])
  go_enter Try.func22, Try.ntmps22
  go_wp2_with (go_at_call 24; refine (HCL _).mono ?_; rintro e w2 ⟨v2, rfl, ho2, hb2⟩; obtain ⟨A2, c2, e2, hl2, _⟩ := Kd.S_reads ho2; rw [clean_len] at e2 hl2; subst e2; rw [size_alloc1] at ho2 hb2; have HO2 := Aside0.mk ho2; have HB2 := Aside0.mk hb2; clear ho2 hb2)
  have HN : Aside0 (l0.length ≤ 100000) := by
    have := HF.out
    unfold fits at this
    simp only [Bool.and_eq_true, decide_eq_true_eq] at this
    exact ⟨this.1⟩
  have hbv : w2.heap[w.heap.size]? = some (.cells #[.slice none 0 0] 22 (0, 0)) := (HB2.out.block w.heap.size (Nat.lt_succ_self _)).trans (heap_alloc_new w _)
  have HEA := each_told 54 #[.pointer (some ⟨w.heap.size, 0, none⟩)] (enters_of Try.func54 (by kernel_rfl) rfl) (ITold w.heap.size w.heap.size) l0.length ITold.move ITold.lt (fun W l S a h _ _ hl => ITold.step (Nat.le_refl _) W l S a h hl)
    (clean l0) (clean_len l0) HN.out clean_valid (clean_small HF.out) A2 c2 (fun k => k = w.heap.size) w2 (fun W hf => clean_stays HO2.out (clean_len l0).symm (fun k hk => by omega) W hf) a1 t ⟨_, hbv, Kd.R_nil _ _ _ _ _, fun k => by simp [Value.ownBlock]⟩ HT.out
  have HEA' := Aside0.mk HEA
  clear HEA hbv
  go_wp2_with (go_at_call 53; refine HEA'.out.mono ?_; rintro e w3 ⟨rfl, S3, hI3, hS3, hf3⟩; obtain ⟨v3, hb3, ho3, hs3⟩ := hI3; have hc3 := cell_of_one hb3; have HO3 := Aside0.mk ho3; have HF3 := Aside0.mk hf3; have HB3 := Aside0.mk hb3; clear hb3 ho3 hs3 hf3 hS3)
  have hlen : Aside0 (t.length ≤ 1000000) := ⟨toldOf_len HT.out⟩
  go_wp2_with (go_at_call 55; refine (reverse_c _ _ _ _ _ HO3.out (by have := hlen.out; omega)).mono ?_; rintro e w4 ⟨rfl, ho4, hf4⟩; (have hc4 : w4.cell? ⟨w.heap.size, 0, none⟩ = some v3 := cell_of_one ((hf4.block _ (lt_of_block HB3.out) (row_apart HB3.out HO3.out)).trans HB3.out)); have HO4 := Aside0.mk ho4; have HF4 := Aside0.mk hf4; clear ho4 hf4)
  go_ret
  refine ⟨_, rfl, HO4.out, ?_⟩
  have h2 : Below w.heap.size w w2 := (below_alloc (Below.refl _ _) _).trans (HB2.out.mono (Nat.le_succ _))
  have h3 : Below w.heap.size w w3 := below_fr h2 HF3.out (fun k hk => by omega) h2.size
  exact below_fr h3 HF4.out (fun k hk => own_base (R_ints HO3.out) k hk) h3.size

theorem R_form' {α : Type} {d : Kd α} {e b : Nat} {w : World} {base : Nat} {ok : Nat → Prop} {v : Value} {xs : List α} (h : d.R e w base ok v xs) (hb : v.ownBlock = some b) : ∃ cap, v = .slice (some ⟨b, 0, none⟩) xs.length cap := by
  obtain ⟨_, inner, ho, _⟩ := h
  rcases ho.2 with ⟨rfl, _⟩ | ⟨g, cap, cur, rfl, _⟩
  · simp [Value.ownBlock] at hb
  · simp only [Value.ownBlock] at hb
    injection hb with hb
    subst hb
    exact ⟨cap, rfl⟩

set_option maxHeartbeats 4000000 in
set_option maxRecDepth 100000 in
theorem graph_Reach.calls (A0 : Option Addr) (c0 : Nat) (l0 : List (List Int)) (a1 : Int) (r : List Bool) (w : World) (hr0 : Kd.C (Kd.slice 3 (Kd.int .i64)) w A0 l0.length l0) (hc0 : l0.length ≤ c0) (h : graph_Reach.f l0 a1 = some r) :
    Calls Try.prog 23 #[.slice A0 l0.length c0, .int .i64 a1] w fun e w' => ∃ v0_ : Value, e = .returned v0_ ∧ Kd.R Kd.bool 4 w' w.heap.size (fun _ => True) v0_ r ∧ Below w.heap.size w w' := by
  have HR0 := Aside0.mk hr0
  have HC0 := Aside0.mk hc0
  obtain ⟨hfit, t, ht, rfl⟩ : fits l0 = true ∧ ∃ t, toldOf (clean l0) a1 = some t ∧ marks l0.length t = r := by
    unfold graph_Reach.f at h
    split at h
    · exact ⟨by assumption, by simpa using h⟩
    · cases h
  have HF := Aside0.mk hfit
  have HT := Aside0.mk ht
  have hn : l0.length ≤ 100000 := by
    unfold fits at hfit
    simp only [Bool.and_eq_true, decide_eq_true_eq] at hfit
    exact hfit.1
  clear hr0 hc0 h hfit ht
  have hz : 0 ≤ (l0.length : Int) := by omega
  have HCL : ∀ W, Below w.heap.size w W → Calls Try.prog 24 #[.slice A0 l0.length c0] W fun e w' => ∃ v0_ : Value, e = .returned v0_ ∧ Kd.S (Kd.slice 3 (Kd.int .i64)) 22 w' W.heap.size (fun _ => True) v0_ (clean l0) ∧ Below W.heap.size W w' :=
    fun W hW => graph_Clean.calls A0 c0 l0 (clean l0) W (Kd.C_below HR0.out hW) HC0.out (by unfold graph_Clean.f; rw [if_pos HF.out])
  have HCL' := Aside0.mk HCL
  clear HCL
  go_enter Try.func23, Try.ntmps23
  go_wp2_with (first | ((with_reducible refine gate_dst (N := 8) rfl ?_); refine Kd.R_make Kd.bool (w0 := w) w.heap.size 4 rfl (N := 8) rfl 34 _ _ rfl (l0.length : Int) rfl rfl Try.underlying34 (.bool false) 1 info4 rfl Nat.one_pos Nat.one_pos false (ok := fun _ => True) (okp := fun _ => True) rfl (fun _ hk => hk) trivial hz (by omega) (Below.refl _ _) (Nat.le_refl _) ?_; intro v1 w1 ho1 hb1 hg1 hn1; clear hg1; obtain ⟨go, hn1, _⟩ := hn1; obtain ⟨cap, e1⟩ := R_form' ho1 hn1; rw [List.length_replicate, Int.toNat_natCast] at e1; subst e1; rw [Int.toNat_natCast] at ho1; have HO1 := Aside0.mk ho1; have HB1 := Aside0.mk hb1; clear ho1 hb1 hn1) | (go_at_call 24; refine (HCL'.out _ (below_alloc HB1.out _)).mono ?_; rintro e w2 ⟨v2, rfl, ho2, hb2⟩; obtain ⟨A2, c2, e2, hl2, _⟩ := Kd.S_reads ho2; rw [clean_len] at e2 hl2; subst e2; rw [size_alloc1] at ho2 hb2; have HO2 := Aside0.mk ho2; have HB2 := Aside0.mk hb2; clear ho2 hb2))
  have hgo : go < w1.heap.size := Kd.R_lt HO1.out go (by simp [Value.ownBlock])
  have hgb : w.heap.size ≤ go := Kd.R_base HO1.out go (by simp [Value.ownBlock])
  have hbv : w2.heap[w1.heap.size]? = some (.cells #[.slice (some ⟨go, 0, none⟩) l0.length cap] 34 (0, 0)) := (HB2.out.block w1.heap.size (Nat.lt_succ_self _)).trans (heap_alloc_new w1 _)
  have hrow : Kd.R Kd.bool 4 w2 w.heap.size (fun _ => True) (.slice (some ⟨go, 0, none⟩) l0.length cap) (List.replicate l0.length false) := Kd.R_below (Kd.R_alloc HO1.out _) (by rw [size_alloc1]; exact HB2.out)
  have HEA := Aside0.mk (each_told 56 #[.pointer (some ⟨w1.heap.size, 0, none⟩)] (enters_of Try.func56 (by kernel_rfl) rfl) (IMark w1.heap.size w.heap.size go l0.length cap) l0.length IMark.move IMark.lt (fun W l S a h h0 h1 _ => IMark.step W l S a h h0 h1)
    (clean l0) (clean_len l0) hn clean_valid (clean_small HF.out) A2 c2 (fun k => k = w1.heap.size ∨ k = go) w2 (fun W hf => clean_stays HO2.out (clean_len l0).symm (fun k hk => by omega) W hf) a1 t ⟨hbv, hrow, by omega, fun k => Iff.rfl⟩ HT.out)
  have HG := Aside0.mk (And.intro hgo hgb)
  clear hbv hrow hgo hgb
  go_wp2_with (go_at_call 53; refine HEA.out.mono ?_; rintro e w3 ⟨rfl, S3, hI3, hS3, hf3⟩; obtain ⟨hb3, ho3, _, hs3⟩ := hI3; have hc3 := cell_of_one hb3; have HO3 := Aside0.mk ho3; have HF3 := Aside0.mk hf3; clear hb3 ho3 hs3 hf3 hS3)
  go_ret
  refine ⟨_, rfl, HO3.out, ?_⟩
  have h2 : Below w.heap.size w w2 := (below_alloc HB1.out _).trans (HB2.out.mono (by have := HB1.out.size; omega))
  exact below_fr h2 HF3.out (fun k hk => by have := HG.out; rcases hk with hk | hk <;> omega) h2.size

end Go.Proofs.Ytnhcimhdkdgccaa.P
