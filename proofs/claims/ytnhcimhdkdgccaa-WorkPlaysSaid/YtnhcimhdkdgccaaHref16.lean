/- The document's answer for layer 16: what it hands back. -/
import Derived.Test.YtnhcimhdkdgccaaHtwo
import Derived.Test.YtnhcimhdkdgccaaPbywashref16
import Derived.Test.YtnhcimhdkdgccaaHopen
namespace Go.Proofs.Ytnhcimhdkdgccaa.P
open Go.RowKit Go.Shelf Go.Lib Go.Sort Go.Maps Go.Proofs.YtnhcimhdkdgccaaW.PrintWords Go.Proofs.YtnhcimhdkdgccaaW.PrintLast Go.Proofs.YtnhcimhdkdgccaaW.PrintMore

theorem hasr_ev (a b : List Int) (x : Int) (hb : b.length ≤ 1000000) : Ev (fun k => bywashref16_Has.f k a b x) (decide (x ∈ b)) :=
  Ev.bind (has_ev b x (by omega)) (Ev.now _)
theorem list_l0 (ord left : List Int) (ho : ord.length ≤ 1000000) (hl : left.length ≤ 1000000) : ∀ d i : Nat, i + d = ord.length → Ev (fun k => bywashref16_List.l0 k (lstK ord (fun x => decide (x ∈ left)) i) (i : Int) ord left) (lst ord fun x => decide (x ∈ left))
  | 0, i, h => by
    refine Ev.step (f := fun _ => some (lstK ord (fun x => decide (x ∈ left)) i)) (fun k => by rw [bywashref16_List.l0, if_neg (by omega)]) ?_
    obtain rfl : i = ord.length := by omega
    exact Ev.now _
  | d + 1, i, h => by
    have hi : i < ord.length := by omega
    obtain ⟨x, ex⟩ : ∃ x, x = ord.getD i 0 := ⟨_, rfl⟩
    have hrd : rd ord (i : Int) = x := by rw [ex]; show ord.getD (Int.toNat (i : Int)) 0 = _; rw [Int.toNat_natCast]
    have hll := lstK_len ord (fun x => decide (x ∈ left)) i
    refine Ev.step (f := fun k => (bywashref16_Has.f k ord left x).bind fun t => if t = true then ((bywashref10_Has.f k (lstK ord (fun x => decide (x ∈ left)) i) x).bind fun t2 => if t2 = true then bywashref16_List.l0 k (lstK ord (fun x => decide (x ∈ left)) i) ((i + 1 : Nat) : Int) ord left else bywashref16_List.l0 k (lstK ord (fun x => decide (x ∈ left)) i ++ [x]) ((i + 1 : Nat) : Int) ord left) else bywashref16_List.l0 k (lstK ord (fun x => decide (x ∈ left)) i) ((i + 1 : Nat) : Int) ord left)
      (fun k => by rw [bywashref16_List.l0, if_pos (by omega), if_pos (by omega), hrd, wrap_succ (by omega)]; simp only [if_pos (show (lstK ord (fun x => decide (x ∈ left)) i).length < 17592186044416 by omega)]) ?_
    refine Ev.bind (hasr_ev ord left x hl) ?_
    have ih := list_l0 ord left ho hl d (i + 1) (by omega)
    have hst := lstK_step (g := fun x => decide (x ∈ left)) hi ex (m1 := decide (x ∈ left)) (m2 := decide (x ∈ ord.take i)) rfl rfl
    have hm : x ∈ ord := by rw [ex]; exact getD_mem hi
    have hix := idx_take hi
    rw [← ex] at hix
    have hidx : ord.idxOf x ≤ i := by
      conv => lhs; rw [ex, List.getD_eq_getElem?_getD, List.getElem?_eq_getElem hi]
      exact idx_le hi
    by_cases h1 : x ∈ left
    · simp only [decide_eq_true h1, if_true]
      refine Ev.bind (has_ev _ x (by omega)) ?_
      have hmem := mem_lstK (g := fun x => decide (x ∈ left)) (Nat.le_of_lt hi) (a := x)
      by_cases h2 : x ∈ ord.take i
      · have h3 : x ∈ lstK ord (fun x => decide (x ∈ left)) i := hmem.2 ⟨hm, by simpa using h1, by
          have : ¬ ord.idxOf x = i := fun e => hix.1 e h2
          omega⟩
        simp only [decide_eq_true h3, if_true]
        simp only [decide_eq_true h1, decide_eq_true h2, Bool.not_true, Bool.and_false, Bool.false_eq_true, if_false, List.append_nil] at hst
        rw [hst] at ih
        exact ih
      · have h3 : ¬ x ∈ lstK ord (fun x => decide (x ∈ left)) i := fun hc => by
          have h4 := (hmem.1 hc).2.2
          have := hix.2 h2
          omega
        simp only [decide_eq_false h3, Bool.false_eq_true, if_false]
        simp only [decide_eq_true h1, decide_eq_false h2, Bool.not_false, Bool.and_true, if_true] at hst
        rw [hst] at ih
        exact ih
    · simp only [decide_eq_false h1, Bool.false_eq_true, if_false]
      simp only [decide_eq_false h1, Bool.false_and, Bool.false_eq_true, if_false, List.append_nil] at hst
      rw [hst] at ih
      exact ih
theorem list_ev (ord left : List Int) (ho : ord.length ≤ 1000000) (hl : left.length ≤ 1000000) : Ev (fun k => bywashref16_List.f k ord left) (lst ord fun x => decide (x ∈ left)) := list_l0 ord left ho hl ord.length 0 (by omega)

/-- A list whose memory is known. -/
structure LF (w : World) (S : Nat → Prop) (A : Option Addr) (xs : List Int) : Prop where
  lt : ∀ k, S k → k < w.heap.size
  c : ∀ W, (∀ k, S k → W.heap[k]? = w.heap[k]?) → dI.C W A xs.length xs
theorem LF.now {w : World} {S : Nat → Prop} {A : Option Addr} {xs : List Int} (h : LF w S A xs) : dI.C w A xs.length xs := h.c w (fun _ _ => rfl)
theorem LF.kept {w w' : World} {S U : Nat → Prop} {A : Option Addr} {xs : List Int} (h : LF w S A xs) (hk : Kept w w' U) (hne : ∀ k, S k → ¬ U k) : LF w' S A xs :=
  ⟨fun k hs => Nat.lt_of_lt_of_le (h.lt k hs) hk.1, fun W hW => h.c W (fun k hs => (hW k hs).trans (hk.2 k (h.lt k hs) (hne k hs)))⟩
theorem LF.below {w w' : World} {S : Nat → Prop} {A : Option Addr} {xs : List Int} (h : LF w S A xs) (hb : Below w.heap.size w w') : LF w' S A xs := h.kept (Kept.of_below hb (fun _ => False)) (fun _ _ e => e)
theorem LF.nil (w : World) : LF w (fun _ => False) none [] := ⟨fun _ h => h.elim, fun _ _ => ⟨rfl, by decide, fun hp => absurd hp (by simp)⟩⟩
theorem LF.of_R {w : World} {base n c : Nat} {ok : Nat → Prop} {A : Option Addr} {xs : List Int} (h : dI.R 3 w base ok (.slice A n c) xs) : LF w (fun k => some k = (Value.slice A n c).ownBlock) A xs :=
  ⟨fun k e => Kd.R_lt h k e.symm, fun W hW => (Kd.R_reads' (Kd.R_move (Kd.R_tight rfl h) hW)).2.2⟩
theorem LF.tail {w : World} {S : Nat → Prop} {g : Nat} {x : Int} {xs : List Int} (h : LF w S (some ⟨g, 0, none⟩) (x :: xs)) : LF w S (some ⟨g, 1, none⟩) xs :=
  ⟨h.lt, fun _ hW => by
    obtain ⟨b, off, e, _, hc⟩ := C_ints (h.c _ hW) (by simp)
    injection e with e
    injection e with e1 e2
    subst e1
    subst e2
    have hm := (h.c _ hW).2.1
    have hm' : xs.length + 1 ≤ 9223372036854775807 := by simpa using hm
    have hz := C_of_cells (A := some ⟨g, 1, none⟩) (n := xs.length) (zs := xs) (by omega) (Nat.le_refl _) (fun e => by cases e) (fun a e c hcl => by
      injection e with e
      subst e
      have := hc (c + 1) (by simp; omega)
      rw [Addr.add_lit]
      rw [show 0 + (c + 1) = 1 + c by omega] at this
      simpa using this)
    rwa [List.take_length] at hz⟩

set_option maxRecDepth 100000 in
set_option maxHeartbeats 2000000 in
theorem rnew_c (A : Option Addr) (n c : Nat) (w : World) : Calls Try.prog 31 #[.slice A n c] w fun e w' => e = .returned (.agg #[.slice A n c, .slice none 0 0]) ∧ Below w.heap.size w w' := by
  have hu := Try.underlying45
  go_enter Try.func31, Try.ntmps31
  go_wp2
  refine bodyPost_ret (results_cell_row rfl _ _ w.heap.size 45 #[.slice A n c, .slice none 0 0] (0, 0) _ rfl (World.alloc_heap_new w _) hu rfl (by kernel_rfl)) rfl ?_
  exact ⟨rfl, below_alloc (Below.refl _ _) _⟩

theorem two_kept {w1 : World} (B : Nat) (v0 v1 : Value) : Kept w1 ((w1.setCell ⟨B, 0, none⟩ v0).setCell ⟨B, 1, none⟩ v1) (fun k => k = B) :=
  ((Kept.refl w1 (fun k => k = B)).setCell (p := ⟨B, 0, none⟩) (.inl rfl) v0).setCell (p := ⟨B, 1, none⟩) (.inl rfl) v1
theorem two_below {w w1 : World} {n B : Nat} (h : Below n w w1) (hB : n ≤ B) (v0 v1 : Value) : Below n w ((w1.setCell ⟨B, 0, none⟩ v0).setCell ⟨B, 1, none⟩ v1) :=
  (h.setCell (p := ⟨B, 0, none⟩) hB v0).setCell (p := ⟨B, 1, none⟩) hB v1
theorem LF.empty (w : World) (A : Option Addr) : LF w (fun _ => False) A [] := ⟨fun _ h => h.elim, fun _ _ => ⟨rfl, by decide, fun hp => absurd hp (by simp)⟩⟩

set_option maxRecDepth 100000 in
set_option maxHeartbeats 4000000 in
theorem rtake_c (A0 : Option Addr) (c0 : Nat) (l0 : List Int) (A1 : Option Addr) (c1 : Nat) (left : List Int) (w : World) {S : Nat → Prop} (h0 : dI.C w A0 l0.length l0) (hc0 : l0.length ≤ c0) (h1 : LF w S A1 left) (hc1 : left.length ≤ c1) (ho : l0.length ≤ 60) (hl : left.length ≤ 60) :
    Calls Try.prog 32 #[.agg #[.slice A0 l0.length c0, .slice A1 left.length c1]] w fun e w' => ∃ S' A' c' left', e = .returned (.tuple #[.agg #[.slice A0 l0.length c0, .slice A' left'.length c'], .int .i64 (((lst l0 fun x => decide (x ∈ left)).head?).getD 0), .bool ((lst l0 fun x => decide (x ∈ left)).head?).isSome]) ∧
      left' = (if lst l0 (fun x => decide (x ∈ left)) = [] then left else (lst l0 fun x => decide (x ∈ left)).tail) ∧ LF w' S' A' left' ∧ left'.length ≤ c' ∧ (∀ k, S' k → S k ∨ w.heap.size ≤ k) ∧ Below w.heap.size w w' := by
  have hu := Try.underlying45
  obtain ⟨L, eL⟩ : ∃ L, L = lst l0 fun x => decide (x ∈ left) := ⟨_, rfl⟩
  have HL1 := Aside0.mk h1
  have HC1 := Aside0.mk hc1
  have hLi : ∀ W, Below w.heap.size w W → Calls Try.prog 34 #[.agg #[.slice A0 l0.length c0, .slice A1 left.length c1]] W fun e w' => ∃ v, e = .returned v ∧ dI.R 3 w' W.heap.size (fun _ => True) v L ∧ Below W.heap.size W w' := fun W hW => by
    obtain ⟨k, hk⟩ := list_ev l0 left (by omega) (by omega)
    rw [← eL] at hk
    exact bywashref16_List.calls k A0 c0 l0 A1 c1 left L W (Kd.C_below h0 hW) hc0 (Kd.C_below h1.now hW) hc1 (hk k (Nat.le_refl _))
  have hLl : L.length ≤ 60 := by rw [eL]; have := lstK_len l0 (fun x => decide (x ∈ left)) l0.length; unfold lst; omega
  have HLI := Aside0.mk hLi
  rw [← eL]
  obtain ⟨n0, en0⟩ : ∃ n, n = l0.length := ⟨_, rfl⟩
  obtain ⟨nl, enl⟩ : ∃ n, n = left.length := ⟨_, rfl⟩
  have HNL := Aside0.mk enl
  rw [← en0, ← enl] at HLI
  rw [← en0, ← enl]
  clear h0 hc0 h1 hc1 hLi en0 enl eL
  have fact : ∀ {w1 : World}, Below ((w.alloc (.cells #[.slice A0 n0 c0, .slice A1 nl c1] 45)).alloc (.cells #[.slice none 0 0, .slice none 0 0] 45)).heap.size ((w.alloc (.cells #[.slice A0 n0 c0, .slice A1 nl c1] 45)).alloc (.cells #[.slice none 0 0, .slice none 0 0] 45)) w1 →
      w.heap.size + 2 ≤ w1.heap.size ∧ w1.heap[w.heap.size]? = some (.cells #[.slice A0 n0 c0, .slice A1 nl c1] 45 (0, 0)) ∧ w1.heap[w.heap.size + 1]? = some (.cells #[.slice none 0 0, .slice none 0 0] 45 (0, 0)) ∧ Below w.heap.size w w1 := by
    intro w1 h
    have hsz1 := h.size
    rw [World.size_alloc, World.size_alloc] at hsz1
    exact ⟨hsz1, (h.block _ (by rw [World.size_alloc, World.size_alloc]; omega)).trans ((Below.heap_alloc _ _ _ (by rw [World.size_alloc]; omega)).trans (World.alloc_heap_new w _)),
      (h.block _ (by rw [World.size_alloc, World.size_alloc]; omega)).trans (by have h := World.alloc_heap_new (w.alloc (.cells #[.slice A0 n0 c0, .slice A1 nl c1] 45)) (.cells #[.slice none 0 0, .slice none 0 0] 45); rw [World.size_alloc] at h; exact h),
      (below_alloc (below_alloc (Below.refl _ w) _) _).trans (h.mono (by rw [World.size_alloc, World.size_alloc]; omega))⟩
  have HF := Aside0.mk @fact
  clear fact
  cases L with
  | nil =>
    go_enter Try.func32, Try.ntmps32
    go_upto_region 2 with (go_at_call 34; refine (HLI.out _ (below_alloc (below_alloc (Below.refl _ _) _) _)).mono ?_; rintro e w1 ⟨v1, rfl, ho1, hb1⟩; have HO1 := Aside0.mk ho1; have HB1 := Aside0.mk hb1; clear ho1 hb1)
    obtain ⟨AL, cL, e1⟩ := Kd.R_slice HO1.out
    subst e1
    obtain ⟨hs, hp, hq, hbw⟩ := HF.out HB1.out
    have p0 := cell_of_blk (j := 0) hp rfl
    have p1 := cell_of_blk (j := 1) hp rfl
    have q0 := cell_of_blk (j := 0) hq rfl
    have q1 := cell_of_blk (j := 1) hq rfl
    have f0 : w1.frozen? ⟨w.heap.size + 1, 0, none⟩ = false := by simp [World.frozen?, hq]
    have f1 : w1.frozen? ⟨w.heap.size + 1, 1, none⟩ = false := by simp [World.frozen?, hq]
    have HQ := Aside0.mk hq
    have HBW := Aside0.mk hbw
    clear hp hq hbw
    go_wp2
    refine bodyPost_ret (results_ctt rfl _ _ (w.heap.size + 1) 45 #[.slice A0 n0 c0, .slice A1 nl c1] (0, 0) _ rfl (by refine blk_put (cs := #[.slice A0 n0 c0, .slice none 0 0]) ?_ 1 _ rfl; refine blk_put (cs := #[.slice none 0 0, .slice none 0 0]) ?_ 0 _ rfl; exact HQ.out) hu rfl (by kernel_rfl)) rfl ?_
    have hk := two_kept (w1 := w1) (w.heap.size + 1) (.slice A0 n0 c0) (.slice A1 nl c1)
    refine ⟨S, A1, c1, left, by rw [← HNL.out]; rfl, rfl, (HL1.out.below HBW.out).kept hk (fun k hs e => by have := HL1.out.lt k hs; omega), HC1.out, fun k h => .inl h, two_below HBW.out (by omega) _ _⟩
  | cons x t =>
    go_enter Try.func32, Try.ntmps32
    go_upto_region 2 with (go_at_call 34; refine (HLI.out _ (below_alloc (below_alloc (Below.refl _ _) _) _)).mono ?_; rintro e w1 ⟨v1, rfl, ho1, hb1⟩; have HO1 := Aside0.mk ho1; have HB1 := Aside0.mk hb1; clear ho1 hb1)
    obtain ⟨gL, cL, e1, _⟩ := Kd.R_form HO1.out (by simp)
    subst e1
    obtain ⟨hs, hp, hq, hbw⟩ := HF.out HB1.out
    have p0 := cell_of_blk (j := 0) hp rfl
    have p1 := cell_of_blk (j := 1) hp rfl
    have q0 := cell_of_blk (j := 0) hq rfl
    have q1 := cell_of_blk (j := 1) hq rfl
    have f0 : w1.frozen? ⟨w.heap.size + 1, 0, none⟩ = false := by simp [World.frozen?, hq]
    have f1 : w1.frozen? ⟨w.heap.size + 1, 1, none⟩ = false := by simp [World.frozen?, hq]
    have hx := (Kd.R_celln 0 HO1.out 0 (by omega) (by simp)).1
    have hcap : t.length + 1 ≤ cL := (Kd.R_reads' HO1.out).2.1
    have HQ := Aside0.mk hq
    have HBW := Aside0.mk hbw
    obtain ⟨n, en⟩ : ∃ n, n = t.length := ⟨_, rfl⟩
    have HEN := Aside0.mk en
    have hxx : w1.cell? ⟨gL, 0, none⟩ = some (.int .i64 x) := hx
    rw [List.length_cons, ← en] at hLl ⊢
    rw [← en] at hcap
    clear hp hq hbw hx en
    have hgl : w.heap.size + 2 ≤ gL := by have := Kd.R_base HO1.out gL rfl; rw [World.size_alloc, World.size_alloc] at this; exact this
    have hne1 : ¬ (gL = w.heap.size + 1) := by omega
    have hne2 : ¬ (w.heap.size + 1 = gL) := by omega
    have h1n : (1 : Int) ≤ (n : Int) + 1 := by omega
    have HT : Aside0 (LF w1 (fun k => k = gL) (some ⟨gL, 1, none⟩) t) := ⟨by
      have h := LF.of_R HO1.out
      refine LF.tail (x := x) ⟨fun k e => h.lt k (by rw [e]; rfl), fun W hW => h.c W (fun k e => hW k (by simpa [Value.ownBlock] using e))⟩⟩
    by_cases hc1' : cL = 1
    · subst hc1'
      obtain rfl : n = 0 := by omega
      obtain rfl : t = [] := List.eq_nil_of_length_eq_zero HEN.out.symm
      go_wp2
      go_region
      go_wp2
      refine bodyPost_ret (results_ctt rfl _ _ (w.heap.size + 1) 45 #[.slice A0 n0 c0, .slice (some ⟨gL, 0, none⟩) 0 0] (0, 0) _ rfl (by refine blk_drew ?_; refine blk_put (cs := #[.slice A0 n0 c0, .slice none 0 0]) ?_ 1 _ rfl; refine blk_put (cs := #[.slice none 0 0, .slice none 0 0]) ?_ 0 _ rfl; exact HQ.out) hu rfl (by kernel_rfl)) rfl ?_
      exact ⟨fun _ => False, some ⟨gL, 0, none⟩, 0, [], rfl, rfl, LF.empty _ _, Nat.le_refl _, fun k h => h.elim, below_drew (two_below HBW.out (by omega) _ _)⟩
    · go_wp2
      go_region
      go_wp2
      refine bodyPost_ret (results_ctt rfl _ _ (w.heap.size + 1) 45 #[.slice A0 n0 c0, .slice (some ⟨gL, 1, none⟩) n (cL - 1)] (0, 0) _ rfl (by refine blk_drew ?_; refine blk_put (cs := #[.slice A0 n0 c0, .slice none 0 0]) ?_ 1 _ rfl; refine blk_put (cs := #[.slice none 0 0, .slice none 0 0]) ?_ 0 _ rfl; exact HQ.out) hu rfl (by kernel_rfl)) rfl ?_
      have hk := two_kept (w1 := w1) (w.heap.size + 1) (.slice A0 n0 c0) (.slice (some ⟨gL, 1, none⟩) n (cL - 1))
      exact ⟨fun k => k = gL, some ⟨gL, 1, none⟩, cL - 1, t, by rw [HEN.out]; rfl, rfl, (HT.out.kept hk (fun k e1 e2 => by omega)).kept (Kept.drew (Kept.refl _ (fun _ => False))) (fun _ _ e => e), by have := HEN.out; omega, fun k e => .inr (by omega), below_drew (two_below HBW.out (by omega) _ _)⟩

theorem put_fact {w w1 : World} {A0 A1 : Option Addr} {n0 c0 nl c1 : Nat} : Below ((w.alloc (.cells #[.slice A0 n0 c0, .slice A1 nl c1] 45)).alloc (.cells #[.slice none 0 0, .slice none 0 0] 45)).heap.size ((w.alloc (.cells #[.slice A0 n0 c0, .slice A1 nl c1] 45)).alloc (.cells #[.slice none 0 0, .slice none 0 0] 45)) w1 →
      w.heap.size + 2 ≤ w1.heap.size ∧ w1.heap[w.heap.size]? = some (.cells #[.slice A0 n0 c0, .slice A1 nl c1] 45 (0, 0)) ∧ w1.heap[w.heap.size + 1]? = some (.cells #[.slice none 0 0, .slice none 0 0] 45 (0, 0)) ∧ Below w.heap.size w w1 := by
  intro h
  have hsz1 := h.size
  rw [World.size_alloc, World.size_alloc] at hsz1
  exact ⟨hsz1, (h.block _ (by rw [World.size_alloc, World.size_alloc]; omega)).trans ((Below.heap_alloc _ _ _ (by rw [World.size_alloc]; omega)).trans (World.alloc_heap_new w _)),
    (h.block _ (by rw [World.size_alloc, World.size_alloc]; omega)).trans (by have h := World.alloc_heap_new (w.alloc (.cells #[.slice A0 n0 c0, .slice A1 nl c1] 45)) (.cells #[.slice none 0 0, .slice none 0 0] 45); rw [World.size_alloc] at h; exact h),
    (below_alloc (below_alloc (Below.refl _ w) _) _).trans (h.mono (by rw [World.size_alloc, World.size_alloc]; omega))⟩

set_option maxRecDepth 100000 in
set_option maxHeartbeats 4000000 in
theorem rput_c (A0 : Option Addr) (c0 : Nat) (l0 : List Int) (A1 : Option Addr) (c1 : Nat) (left : List Int) (i : Int) (w : World) {S : Nat → Prop} (h0 : dI.C w A0 l0.length l0) (hc0 : l0.length ≤ c0) (h1 : LF w S A1 left) (hc1 : left.length ≤ c1) (ho : l0.length ≤ 60) (hl : left.length ≤ 60) :
    Calls Try.prog 33 #[.agg #[.slice A0 l0.length c0, .slice A1 left.length c1], .int .i64 i] w fun e w' => ∃ S' A' c' left', e = .returned (.tuple #[.agg #[.slice A0 l0.length c0, .slice A' left'.length c'], .bool (decide (i ∈ l0) && !decide (i ∈ left))]) ∧
      left' = (if (decide (i ∈ l0) && !decide (i ∈ left)) = true then left ++ [i] else left) ∧ LF w' S' A' left' ∧ left'.length ≤ c' ∧ (∀ k, S' k → S k ∨ w.heap.size ≤ k) ∧ Below w.heap.size w w' := by
  have hu := Try.underlying45
  obtain ⟨mo, emo⟩ : ∃ mo, mo = decide (i ∈ l0) := ⟨_, rfl⟩
  obtain ⟨ml, eml⟩ : ∃ ml, ml = decide (i ∈ left) := ⟨_, rfl⟩
  have HL1 := Aside0.mk h1
  have HC1 := Aside0.mk hc1
  have hh : ∀ W, Below w.heap.size w W → Calls Try.prog 36 #[.slice A0 l0.length c0, .int .i64 i] W fun e w' => e = .returned (.bool mo) ∧ Below W.heap.size W w' := fun W hW => by
    rw [emo]
    exact Has_c A0 c0 l0 i W (Kd.C_below h0 hW) hc0 (by omega)
  have hr : ∀ W, Below w.heap.size w W → Calls Try.prog 35 #[.agg #[.slice A0 l0.length c0, .slice A1 left.length c1], .int .i64 i] W fun e w' => e = .returned (.bool ml) ∧ Below W.heap.size W w' := fun W hW => by
    obtain ⟨k, hk⟩ := hasr_ev l0 left i (by omega)
    rw [eml]
    exact bywashref16_Has.calls k A0 c0 l0 A1 c1 left i _ W (Kd.C_below h0 hW) hc0 (Kd.C_below h1.now hW) hc1 (hk k (Nat.le_refl _))
  have HH := Aside0.mk hh
  have HR := Aside0.mk hr
  rw [← emo, ← eml]
  obtain ⟨n0, en0⟩ : ∃ n, n = l0.length := ⟨_, rfl⟩
  obtain ⟨nl, enl⟩ : ∃ n, n = left.length := ⟨_, rfl⟩
  have HNL := Aside0.mk enl
  rw [← en0] at HH
  rw [← en0, ← enl] at HR
  rw [← en0, ← enl]
  clear h0 hc0 h1 hc1 hh hr en0 enl emo eml
  have no : ∀ (r : Bool) (w1 : World), r = false → Below ((w.alloc (.cells #[.slice A0 n0 c0, .slice A1 nl c1] 45)).alloc (.cells #[.slice none 0 0, .slice none 0 0] 45)).heap.size ((w.alloc (.cells #[.slice A0 n0 c0, .slice A1 nl c1] 45)).alloc (.cells #[.slice none 0 0, .slice none 0 0] 45)) w1 →
      ∃ S' A' c' left', Ending.returned (.tuple #[.agg #[.slice A0 n0 c0, .slice A1 nl c1], .bool false]) = .returned (.tuple #[.agg #[.slice A0 n0 c0, .slice A' left'.length c'], .bool r]) ∧ left' = (if r = true then left ++ [i] else left) ∧ LF ((w1.setCell ⟨w.heap.size + 1, 0, none⟩ (.slice A0 n0 c0)).setCell ⟨w.heap.size + 1, 1, none⟩ (.slice A1 nl c1)) S' A' left' ∧ left'.length ≤ c' ∧ (∀ k, S' k → S k ∨ w.heap.size ≤ k) ∧ Below w.heap.size w ((w1.setCell ⟨w.heap.size + 1, 0, none⟩ (.slice A0 n0 c0)).setCell ⟨w.heap.size + 1, 1, none⟩ (.slice A1 nl c1)) := by
    rintro r w1 rfl hb
    obtain ⟨hs, _, _, hbw⟩ := put_fact hb
    exact ⟨S, A1, c1, left, by rw [← HNL.out], rfl, (HL1.out.below hbw).kept (two_kept (w1 := w1) (w.heap.size + 1) (.slice A0 n0 c0) (.slice A1 nl c1)) (fun k hs e => by have := HL1.out.lt k hs; omega), HC1.out, fun k h => .inl h, two_below hbw (by omega) _ _⟩
  have HNO := Aside0.mk no
  clear no
  cases mo with
  | false =>
    go_enter Try.func33, Try.ntmps33
    go_wp2_with (go_at_call 36; refine (HH.out _ (below_alloc (below_alloc (Below.refl _ _) _) _)).mono ?_; rintro e w1 ⟨rfl, hb1⟩; have HB1 := Aside0.mk hb1; obtain ⟨hs, hp, hq, hbw⟩ := put_fact hb1; have p0 := cell_of_blk (j := 0) hp rfl; have p1 := cell_of_blk (j := 1) hp rfl; have q0 := cell_of_blk (j := 0) hq rfl; have q1 := cell_of_blk (j := 1) hq rfl; have f0 : w1.frozen? ⟨w.heap.size + 1, 0, none⟩ = false := (by simp [World.frozen?, hq]); have f1 : w1.frozen? ⟨w.heap.size + 1, 1, none⟩ = false := (by simp [World.frozen?, hq]); have HQ := Aside0.mk hq; clear hb1 hp hq hbw)
    refine bodyPost_ret (results_ct rfl _ _ (w.heap.size + 1) 45 #[.slice A0 n0 c0, .slice A1 nl c1] (0, 0) _ rfl (by refine blk_put (cs := #[.slice A0 n0 c0, .slice none 0 0]) ?_ 1 _ rfl; refine blk_put (cs := #[.slice none 0 0, .slice none 0 0]) ?_ 0 _ rfl; exact HQ.out) hu rfl (by kernel_rfl)) rfl ?_
    exact HNO.out _ _ rfl HB1.out
  | true =>
    cases ml with
    | true =>
      go_enter Try.func33, Try.ntmps33
      go_wp2_with (first | (go_at_call 36; refine (HH.out _ (below_alloc (below_alloc (Below.refl _ _) _) _)).mono ?_; rintro e w0 ⟨rfl, hb0⟩; have HB0 := Aside0.mk hb0; obtain ⟨hs0, hp0, hq0, hbw0⟩ := put_fact hb0; have p00 := cell_of_blk (j := 0) hp0 rfl; have p01 := cell_of_blk (j := 1) hp0 rfl; have HBW0 := Aside0.mk hbw0; clear hb0 hp0 hq0 hbw0) | (go_at_call 35; refine (HR.out _ HBW0.out).mono ?_; rintro e w1 ⟨rfl, hb1'⟩; have hb1 := HB0.out.trans (hb1'.mono HB0.out.size); have HB1 := Aside0.mk hb1; obtain ⟨hs, hp, hq, hbw⟩ := put_fact hb1; have p0 := cell_of_blk (j := 0) hp rfl; have p1 := cell_of_blk (j := 1) hp rfl; have q0 := cell_of_blk (j := 0) hq rfl; have q1 := cell_of_blk (j := 1) hq rfl; have f0 : w1.frozen? ⟨w.heap.size + 1, 0, none⟩ = false := (by simp [World.frozen?, hq]); have f1 : w1.frozen? ⟨w.heap.size + 1, 1, none⟩ = false := (by simp [World.frozen?, hq]); have HQ := Aside0.mk hq; clear hb1 hb1' hp hq hbw))
      refine bodyPost_ret (results_ct rfl _ _ (w.heap.size + 1) 45 #[.slice A0 n0 c0, .slice A1 nl c1] (0, 0) _ rfl (by refine blk_put (cs := #[.slice A0 n0 c0, .slice none 0 0]) ?_ 1 _ rfl; refine blk_put (cs := #[.slice none 0 0, .slice none 0 0]) ?_ 0 _ rfl; exact HQ.out) hu rfl (by kernel_rfl)) rfl ?_
      exact HNO.out _ _ rfl HB1.out
    | false =>
      clear HNO
      go_enter Try.func33, Try.ntmps33
      go_upto_region 3 with (first | (go_at_call 36; refine (HH.out _ (below_alloc (below_alloc (Below.refl _ _) _) _)).mono ?_; rintro e w0 ⟨rfl, hb0⟩; have HB0 := Aside0.mk hb0; obtain ⟨hs0, hp0, hq0, hbw0⟩ := put_fact hb0; have p00 := cell_of_blk (j := 0) hp0 rfl; have p01 := cell_of_blk (j := 1) hp0 rfl; have HBW0 := Aside0.mk hbw0; clear hb0 hp0 hq0 hbw0) | (go_at_call 35; refine (HR.out _ HBW0.out).mono ?_; rintro e w1 ⟨rfl, hb1'⟩; have hb1 := HB0.out.trans (hb1'.mono HB0.out.size); have HB1 := Aside0.mk hb1; obtain ⟨hs, hp, hq, hbw⟩ := put_fact hb1; have p1 := cell_of_blk (j := 1) hp rfl; have HP1 := Aside0.mk hp; have HQ1 := Aside0.mk hq; have HBW1 := Aside0.mk hbw; clear hb1 hb1' hp hq hbw))
      have HC := Aside0.mk ((HL1.out.below HBW1.out).now)
      cases A1 with
      | none =>
        have hnl0 : nl = 0 := by
          rcases Nat.eq_zero_or_pos left.length with h | h
          · rw [HNL.out]; exact h
          · obtain ⟨_, _, e, _⟩ := C_ints HC.out h
            cases e
        subst hnl0
        have HL0 : Aside0 (left = []) := ⟨List.eq_nil_of_length_eq_zero HNL.out.symm⟩
        have pA : ∀ o, (w1.alloc o).cell? ⟨w.heap.size, 1, none⟩ = some (.slice none 0 c1) := fun o => (World.cell?_alloc_lt w1 o ⟨w.heap.size, 1, none⟩ (by show w.heap.size < w1.heap.size; omega)).trans p1
        go_upto_region 4 with (fail)
        have HO2 : Aside0 (dI.R 3 (w1.alloc (.cells #[] 3)) (w.heap.size + 2) (fun _ => True) (.slice (some ⟨w1.heap.size, 0, none⟩) 0 0) left) := ⟨by rw [HL0.out]; exact Kd.R_of_own (xs := []) (World.ownsRow_made w1 #[] 0 hs (Nat.zero_le _) rfl) (fun _ _ => trivial)⟩
        have HB2 : Aside0 (Below (w.heap.size + 2) w1 (w1.alloc (.cells #[] 3))) := ⟨(Below.refl _ _).alloc hs _⟩
        generalize w1.alloc (.cells #[] 3) = w2 at HO2 HB2 ⊢
        go_wp2_with (at_builtin; refine Kd.R_append (Kd.int .i64) (w0 := w1) (w.heap.size + 2) rfl (.tmp 22) (.tmp 24) 22 3 (.int .i64 0) 8 rfl Try.underlying22 info3 rfl (by decide) (by omega) (.slice (some ⟨w1.heap.size, 0, none⟩) 0 0) left i [.int .i64 i] (fun _ => True) (fun _ => False) rfl rfl ?aP (fun _ hk => hk.elim) ?aF ?aO ?aB ?aS ?aL ?_; (case aP => exact rfl); (case aB => exact HB2.out); (case aF => exact (fun _ _ => trivial)); (case aO => exact HO2.out); (case aS => exact (Nat.le_trans hs HB2.out.size)); (case aL => first | omega | simp); intro v3 w3 ho3 hb3 _ _; have HO3 := Aside0.mk ho3; have hp3 := (hb3.block w.heap.size (by omega)).trans HP1.out; have hq3 := (hb3.block (w.heap.size + 1) (by omega)).trans HQ1.out; have p30 := cell_of_blk (j := 0) hp3 rfl; have q30 := cell_of_blk (j := 0) hq3 rfl; have q31 := cell_of_blk (j := 1) hq3 rfl; have f30 : w3.frozen? ⟨w.heap.size + 1, 0, none⟩ = false := (by simp [World.frozen?, hq3]); have f31 : w3.frozen? ⟨w.heap.size + 1, 1, none⟩ = false := (by simp [World.frozen?, hq3]); have HQ3 := Aside0.mk hq3; have HB3 := Aside0.mk hb3; obtain ⟨A3, c3, e3⟩ := Kd.R_slice ho3; subst e3; obtain ⟨n3, en3⟩ : ∃ n3, n3 = (left ++ [i]).length := ⟨_, rfl⟩; have HN3 := Aside0.mk en3; rw [← en3]; rw [← en3] at HO3; clear hp3 hq3 hb3 ho3 en3)
        refine bodyPost_ret (results_ct rfl _ _ (w.heap.size + 1) 45 #[.slice A0 n0 c0, .slice A3 n3 c3] (0, 0) _ rfl (by refine blk_put (cs := #[.slice A0 n0 c0, .slice none 0 0]) ?_ 1 _ rfl; refine blk_put (cs := #[.slice none 0 0, .slice none 0 0]) ?_ 0 _ rfl; exact HQ3.out) hu rfl (by kernel_rfl)) rfl ?_
        have hw3 : Below w.heap.size w w3 := HBW1.out.trans (HB3.out.mono (by omega))
        refine ⟨fun k => some k = (Value.slice A3 n3 c3).ownBlock, A3, c3, left ++ [i], by rw [← HN3.out]; rfl, rfl, (LF.of_R HO3.out).kept (two_kept (w1 := w3) (w.heap.size + 1) (.slice A0 n0 c0) (.slice A3 n3 c3)) (fun k e1 e2 => by have := Kd.R_base HO3.out k e1.symm; omega), by rw [← HN3.out]; exact (Kd.R_reads' HO3.out).2.1, fun k e => .inr (by have := Kd.R_base HO3.out k e.symm; omega), two_below hw3 (by omega) _ _⟩
      | some ad =>
        have pA : ∀ o, (w1.alloc o).cell? ⟨w.heap.size, 1, none⟩ = some (.slice (some ad) nl c1) := fun o => (World.cell?_alloc_lt w1 o ⟨w.heap.size, 1, none⟩ (by show w.heap.size < w1.heap.size; omega)).trans p1
        obtain ⟨i0, hi, hz0, hz1, hz2⟩ := info_parts (P := Try.prog) (e := 3) info3
        have HCC : Aside0 (∀ j, j < left.length → (w1.alloc (.cells #[] 3)).cell? (ad.add j) = some (.int .i64 (left.getD j 0))) := ⟨fun j hj => by
          obtain ⟨b, off, e, _, hc⟩ := C_ints HC.out (by omega)
          injection e with e
          subst e
          rw [Addr.add_lit]
          exact (World.cell?_alloc_lt w1 _ ⟨b, off + j, none⟩ (World.block_lt_of_cell? _ _ (hc j hj))).trans (hc j hj)⟩
        have HSZ : Aside0 (w.heap.size + 2 ≤ w1.heap.size) := ⟨hs⟩
        have hle60 : nl ≤ 60 := by have := HNL.out; omega
        go_upto_region 4 with (at_builtin; refine wpList_append_own _ rfl _ _ 22 rfl (w.heap.size + 2) 3 i0 (.int .i64 0) 1 8 Try.underlying22 hi hz0 hz1 hz2 rfl (by decide) _ _ _ rfl (World.ownsRow_made w1 #[] 0 HSZ.out (Nat.zero_le _) rfl) ad nl c1 (left.map (Value.int .i64)) rfl ?qc1 ?qc2 ?qc3 ?qc4 ?qc5 ?qc6 ?_)
        case qc1 => have := HNL.out; simp; omega
        case qc2 =>
          intro j u hj
          have hjn : j < left.length := by have := (List.getElem?_eq_some_iff.1 hj).1; simpa using this
          rw [HCC.out j hjn, ← hj]
          simp [List.getElem?_eq_getElem hjn, List.getD]
        case qc3 => intro u hu; obtain ⟨x, _, rfl⟩ := List.mem_map.1 hu; rfl
        case qc4 => unfold maxLen; omega
        case qc5 => omega
        case qc6 => simp; omega
        intro v2 w2 hown hgrow _
        have HO2 : Aside0 (dI.R 3 w2 (w.heap.size + 2) (fun _ => True) v2 left) := ⟨ints_R (by simpa [HNL.out] using hown) (fun _ _ => trivial)⟩
        have HB2 : Aside0 (Below (w.heap.size + 2) w1 w2) := ⟨((Below.refl _ w1).alloc hs _).grown hgrow (by simp; omega) (by intro k hk; simp [Value.ownBlock] at hk; omega)⟩
        clear hown hgrow
        have hll : left.length ≤ 60 := hl
        go_upto_region 4 with (fail)
        go_wp2_with (at_builtin; refine Kd.R_append (Kd.int .i64) (w0 := w1) (w.heap.size + 2) rfl (.tmp 22) (.tmp 24) 22 3 (.int .i64 0) 8 rfl Try.underlying22 info3 rfl (by decide) (by omega) v2 left i [.int .i64 i] (fun _ => True) (fun _ => False) rfl rfl ?aP (fun _ hk => hk.elim) ?aF ?aO ?aB ?aS ?aL ?_; (case aP => exact rfl); (case aB => exact HB2.out); (case aF => exact (fun _ _ => trivial)); (case aO => exact HO2.out); (case aS => exact (Nat.le_trans hs HB2.out.size)); (case aL => first | omega | simp); intro v3 w3 ho3 hb3 _ _; have HO3 := Aside0.mk ho3; have hp3 := (hb3.block w.heap.size (by omega)).trans HP1.out; have hq3 := (hb3.block (w.heap.size + 1) (by omega)).trans HQ1.out; have p30 := cell_of_blk (j := 0) hp3 rfl; have q30 := cell_of_blk (j := 0) hq3 rfl; have q31 := cell_of_blk (j := 1) hq3 rfl; have f30 : w3.frozen? ⟨w.heap.size + 1, 0, none⟩ = false := (by simp [World.frozen?, hq3]); have f31 : w3.frozen? ⟨w.heap.size + 1, 1, none⟩ = false := (by simp [World.frozen?, hq3]); have HQ3 := Aside0.mk hq3; have HB3 := Aside0.mk hb3; obtain ⟨A3, c3, e3⟩ := Kd.R_slice ho3; subst e3; obtain ⟨n3, en3⟩ : ∃ n3, n3 = (left ++ [i]).length := ⟨_, rfl⟩; have HN3 := Aside0.mk en3; rw [← en3]; rw [← en3] at HO3; clear hp3 hq3 hb3 ho3 en3)
        refine bodyPost_ret (results_ct rfl _ _ (w.heap.size + 1) 45 #[.slice A0 n0 c0, .slice A3 n3 c3] (0, 0) _ rfl (by refine blk_put (cs := #[.slice A0 n0 c0, .slice none 0 0]) ?_ 1 _ rfl; refine blk_put (cs := #[.slice none 0 0, .slice none 0 0]) ?_ 0 _ rfl; exact HQ3.out) hu rfl (by kernel_rfl)) rfl ?_
        have hw3 : Below w.heap.size w w3 := HBW1.out.trans (HB3.out.mono (by omega))
        refine ⟨fun k => some k = (Value.slice A3 n3 c3).ownBlock, A3, c3, left ++ [i], by rw [← HN3.out]; rfl, rfl, (LF.of_R HO3.out).kept (two_kept (w1 := w3) (w.heap.size + 1) (.slice A0 n0 c0) (.slice A3 n3 c3)) (fun k e1 e2 => by have := Kd.R_base HO3.out k e1.symm; omega), by rw [← HN3.out]; exact (Kd.R_reads' HO3.out).2.1, fun k e => .inr (by have := Kd.R_base HO3.out k e.symm; omega), two_below hw3 (by omega) _ _⟩

end Go.Proofs.Ytnhcimhdkdgccaa.P
