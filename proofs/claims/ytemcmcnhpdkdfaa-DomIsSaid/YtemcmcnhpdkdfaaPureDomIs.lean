/- Of any graph the closest dominators, of any list whether it may be such, and ways up, are what the document says: the plain law. -/
import Derived.Test.YtemcmcnhpdkdfaaGref14
import Derived.Test.YtemcmcnhpdkdfaaGawake14
import Derived.Test.YtemcmcnhpdkdfaaPlawDomIs
namespace Go.Proofs.Ytemcmcnhpdkdfaa.P
open Go.RowKit Go.Lib Go.Proofs.YtemcmcnhpdkdfaaW.PrintWords

/-! #### a way up to 0 -/
inductive Path0 (l : List Int) : Int → List Int → Prop where
  | zero : Path0 l 0 [0]
  | step {b : Int} {L : List Int} : b ≠ 0 → isN l.length b = true → Path0 l (rd l b) L → Path0 l b (b :: L)
theorem Path0.det {l : List Int} {b : Int} {L L' : List Int} (h : Path0 l b L) (k : Path0 l b L') : L = L' := by
  induction h generalizing L' with
  | zero =>
    cases k with
    | zero => rfl
    | step h0 _ _ => exact absurd rfl h0
  | step h0 _ _ ih =>
    cases k with
    | zero => exact absurd rfl h0
    | step _ _ k => rw [ih k]
theorem Path0.part {l : List Int} {b x : Int} {L : List Int} (h : Path0 l b L) (hx : x ∈ L) : ∃ L2, Path0 l x L2 ∧ L2.length ≤ L.length := by
  induction h with
  | zero =>
    obtain rfl := List.mem_singleton.1 hx
    exact ⟨_, .zero, Nat.le_refl _⟩
  | step h0 h1 h2 ih =>
    rcases List.mem_cons.1 hx with e | hx
    · rw [e]; exact ⟨_, .step h0 h1 h2, Nat.le_refl _⟩
    · obtain ⟨L2, k1, k2⟩ := ih hx
      exact ⟨L2, k1, by rw [List.length_cons]; omega⟩
theorem Path0.nodup {l : List Int} {b : Int} {L : List Int} (h : Path0 l b L) : L.Nodup := by
  induction h with
  | zero => simp
  | step h0 h1 h2 ih =>
    refine List.nodup_cons.2 ⟨fun hx => ?_, ih⟩
    obtain ⟨L2, k1, k2⟩ := h2.part hx
    have := k1.det (.step h0 h1 h2)
    rw [this, List.length_cons] at k2
    omega
theorem Path0.nodes {l : List Int} (hl : 0 < l.length) {b : Int} {L : List Int} (h : Path0 l b L) : ∀ x ∈ L, 0 ≤ x ∧ x < (l.length : Int) := by
  induction h with
  | zero => intro x hx; obtain rfl := List.mem_singleton.1 hx; omega
  | step h0 h1 _ ih =>
    intro x hx
    rcases List.mem_cons.1 hx with rfl | hx
    · exact isN_iff.1 h1
    · exact ih x hx
theorem Path0.len {l : List Int} (hl : 0 < l.length) {b : Int} {L : List Int} (h : Path0 l b L) : L.length ≤ l.length := few_nodes h.nodup (h.nodes hl)
theorem Path0.ends {l : List Int} {b : Int} {L : List Int} (h : Path0 l b L) : L.getD (L.length - 1) 0 = 0 ∧ 0 ∈ L ∧ 0 < L.length := by
  induction h with
  | zero => simp
  | step _ _ _ ih =>
    obtain ⟨i1, i2, i3⟩ := ih
    refine ⟨?_, List.mem_cons_of_mem _ i2, by simp⟩
    rw [List.length_cons, Nat.add_sub_cancel]
    obtain ⟨q, hq⟩ : ∃ q, List.length (α := Int) _ = q + 1 := ⟨_, (Nat.succ_pred_eq_of_pos i3).symm⟩
    rw [hq, List.getD_cons_succ]
    rw [hq, Nat.add_sub_cancel] at i1
    exact i1
theorem Path0.upL {l : List Int} (h0 : rd l 0 = -1) (hl : 0 < l.length) {b : Int} {L : List Int} (h : Path0 l b L) : ∀ k, L.length ≤ k → upL l l.length k b = L := by
  induction h with
  | zero =>
    intro k hk
    obtain ⟨m, rfl⟩ : ∃ m, k = m + 1 := ⟨k - 1, by simp at hk; omega⟩
    rw [upL_yes (isN_yes (by omega) (by omega)), h0, upL_no (isN_no (by omega))]
  | step _ h1 _ ih =>
    intro k hk
    rw [List.length_cons] at hk
    obtain ⟨m, rfl⟩ : ∃ m, k = m + 1 := ⟨k - 1, by omega⟩
    rw [upL_yes h1, ih m (by omega)]
theorem path_of_up {l : List Int} : ∀ (k : Nat) (b : Int), (0 : Int) ∈ upL l l.length k b → ∃ L, Path0 l b L
  | 0, _, h => by simp [upL] at h
  | k + 1, b, h => by
    rw [upL] at h
    split at h
    · rename_i hb
      by_cases e : b = 0
      · rw [e]; exact ⟨_, .zero⟩
      · obtain ⟨L, hL⟩ := path_of_up k _ ((List.mem_cons.1 h).resolve_left (Ne.symm e))
        exact ⟨_, .step e hb hL⟩
    · simp at h
theorem getLast_mem {L : List Int} (h : 0 < L.length) (e : L.getD (L.length - 1) 0 = 0) : (0 : Int) ∈ L := by
  rw [List.getD_eq_getElem?_getD, List.getElem?_eq_getElem (by omega)] at e
  rw [← e]
  exact List.getElem_mem _
/-- Is 0 on the way up in so many steps? Just if with one step more it ends there. -/
theorem up_ends {l : List Int} (h0 : rd l 0 = -1) (hl : 0 < l.length) {b : Int} (hb : isN l.length b = true) : (0 : Int) ∈ upL l l.length l.length b ↔ (upL l l.length (l.length + 1) b).getD ((upL l l.length (l.length + 1) b).length - 1) 0 = 0 := by
  have hpos : 0 < (upL l l.length (l.length + 1) b).length := by rw [upL_yes hb]; simp
  constructor
  · intro h
    obtain ⟨L, hL⟩ := path_of_up _ _ h
    have := hL.len hl
    rw [hL.upL h0 hl (l.length + 1) (by omega)]
    exact hL.ends.1
  · intro h
    obtain ⟨L, hL⟩ := path_of_up _ _ (getLast_mem hpos h)
    rw [hL.upL h0 hl l.length (hL.len hl)]
    exact hL.ends.2.1

/-! #### the reference's words -/
theorem refup_l0 (l : List Int) (hl : l.length ≤ 900) : ∀ (d : Nat) (b : Int) (out : List Int), out.length + d = l.length + 1 → Ev (fun k => bywashref14_up.l0 k l b out) (out ++ upL l l.length d b)
  | 0, b, out, hd => by
    rw [upL, List.append_nil]
    refine Ev.step (f := fun _ => some out) (fun k => ?_) (Ev.now _)
    rw [bywashref14_up.l0]
    by_cases h1 : b ≥ 0
    · rw [if_pos h1]
      by_cases h2 : b < (l.length : Int)
      · rw [if_pos h2, if_neg (by omega)]
      · rw [if_neg h2]
    · rw [if_neg h1]
  | d + 1, b, out, hd => by
    by_cases h1 : b ≥ 0
    · by_cases h2 : b < (l.length : Int)
      · rw [upL_yes (isN_yes h1 h2)]
        have := refup_l0 l hl d (rd l b) (out ++ [b]) (by rw [List.length_append, List.length_singleton]; omega)
        rw [List.append_assoc] at this
        exact Ev.step (fun k => by rw [bywashref14_up.l0, if_pos h1, if_pos h2, if_pos (by omega), if_pos (by omega), if_pos h1]) this
      · rw [upL_no (isN_no (fun h => h2 h.2)), List.append_nil]
        exact Ev.step (f := fun _ => some out) (fun k => by rw [bywashref14_up.l0, if_pos h1, if_neg h2]) (Ev.now _)
    · rw [upL_no (isN_no (fun h => h1 h.1)), List.append_nil]
      exact Ev.step (f := fun _ => some out) (fun k => by rw [bywashref14_up.l0, if_neg h1]) (Ev.now _)
theorem refup_ev (l : List Int) (hl : l.length ≤ 900) (b : Int) : Ev (fun k => bywashref14_up.f k l b) (upL l l.length (l.length + 1) b) := by
  have := refup_l0 l hl (l.length + 1) b [] (by simp)
  rw [List.nil_append] at this
  exact this

def okR (l : List Int) (b : Nat) : Bool :=
  decide (((b : Int) = 0 ↔ rd l b = -1) ∧ -2 ≤ rd l b ∧ rd l b < (l.length : Int)) && (!decide (0 ≤ rd l b ∧ rd l (rd l b) = -2) && (decide (rd l b = -2) || decide ((upL l l.length (l.length + 1) b).getD ((upL l l.length (l.length + 1) b).length - 1) 0 = 0)))
theorem bne_iff_two {i x : Int} : ((((i : Int) == 0) != (x == -1)) = true) ↔ ¬ (i = 0 ↔ x = -1) := by
  rw [bne_iff_ne, Ne, Bool.eq_iff_iff, beq_iff_eq, beq_iff_eq]
theorem refsane_l0 (l : List Int) (hl : l.length ≤ 900) : ∀ d i : Nat, i + d = l.length → Ev (fun k => bywashref14_Sane.l0 k l (i : Int)) (((List.range l.length).drop i).all (okR l))
  | 0, i, hd => by
    rw [List.drop_eq_nil_of_le (by simp; omega)]
    exact Ev.step (f := fun _ => some true) (fun k => by rw [bywashref14_Sane.l0, if_neg (by omega)]) (Ev.now _)
  | d + 1, i, hd => by
    have hi : i < l.length := by omega
    rw [range_drop hi, List.all_cons]
    have next := refsane_l0 l hl d (i + 1) (by omega)
    have hw := wrap_succ (i := i) (by omega)
    obtain ⟨x, ex⟩ : ∃ x, x = rd l (i : Int) := ⟨_, rfl⟩
    have hUe := refup_ev l hl (i : Int)
    have hUl := upL_len l l.length (l.length + 1) (i : Int)
    have hUp : 0 < (upL l l.length (l.length + 1) (i : Int)).length := by rw [upL_yes (isN_yes (by omega) (by omega))]; simp
    unfold okR
    rw [← ex]
    obtain ⟨U, eU⟩ : ∃ U, U = upL l l.length (l.length + 1) (i : Int) := ⟨_, rfl⟩
    rw [← eU] at hUe hUl hUp ⊢
    have hwU := wrap_pred (n := U.length) hUp (by omega)
    have u1 : (0 : Int) ≤ ((U.length - 1 : Nat) : Int) := by omega
    have u2 : ((U.length - 1 : Nat) : Int) < (U.length : Int) := by omega
    have j1yes : Ev (fun k => bywashref14_Sane.j1 k l (i : Int) x true) false := Ev.step (f := fun _ => some false) (fun k => by rw [bywashref14_Sane.j1, if_pos rfl]) (Ev.now _)
    have j1no : Ev (fun k => bywashref14_Sane.j1 k l (i : Int) x false) ((decide (x = -2) || decide (U.getD (U.length - 1) 0 = 0)) && ((List.range l.length).drop (i + 1)).all (okR l)) := by
      refine Ev.step (fun k => by rw [bywashref14_Sane.j1, if_neg (by simp)]) ?_
      refine Ev.bind hUe ?_
      rw [hwU]
      by_cases e : x = -2
      · simp only [if_pos e, hw, decide_eq_true e, Bool.true_or, Bool.true_and]
        exact next
      · simp only [if_neg e, if_pos u1, if_pos u2, rd_getD, decide_eq_false e, Bool.false_or, hw]
        by_cases e2 : U.getD (U.length - 1) 0 = 0
        · simp only [if_pos e2, decide_eq_true e2, Bool.true_and]
          exact next
        · simp only [if_neg e2, decide_eq_false e2, Bool.false_and]
          exact Ev.now _
    have o1 : (i : Int) < (l.length : Int) := by omega
    have o2 : (0 : Int) ≤ (i : Int) := by omega
    by_cases h1 : ((i : Int) = 0 ↔ x = -1)
    · have hne : ¬ ((((i : Int) == 0) != (x == -1)) = true) := fun k => bne_iff_two.1 k h1
      by_cases h2 : x < -2
      · refine Ev.step (fun k => by rw [bywashref14_Sane.l0, if_pos o1, if_pos o2, ← ex, if_neg hne, if_pos h2]) ?_
        rw [decide_eq_false (fun h => by omega), Bool.false_and, Bool.false_and]
        exact j1yes
      · by_cases h3 : x ≥ (l.length : Int)
        · refine Ev.step (fun k => by rw [bywashref14_Sane.l0, if_pos o1, if_pos o2, ← ex, if_neg hne, if_neg h2, if_pos h3]) ?_
          rw [decide_eq_false (fun h => by omega), Bool.false_and, Bool.false_and]
          exact j1yes
        · have h4 : x < (l.length : Int) := by omega
          rw [decide_eq_true ⟨h1, by omega, h4⟩, Bool.true_and]
          by_cases h5 : x ≥ 0
          · refine Ev.step (f := fun k => bywashref14_Sane.j1 k l (i : Int) x (rd l x == -2)) (fun k => by rw [bywashref14_Sane.l0, if_pos o1, if_pos o2, ← ex, if_neg hne, if_neg h2, if_neg h3, if_pos h5, if_pos h5, if_pos h4]) ?_
            by_cases h6 : rd l x = -2
            · rw [h6, decide_eq_true ⟨h5, rfl⟩]
              exact j1yes
            · rw [show (rd l x == -2) = false from by simpa using h6, decide_eq_false (fun h => h6 h.2), Bool.not_false, Bool.true_and]
              exact j1no
          · refine Ev.step (fun k => by rw [bywashref14_Sane.l0, if_pos o1, if_pos o2, ← ex, if_neg hne, if_neg h2, if_neg h3, if_neg h5]) ?_
            rw [decide_eq_false (fun h => h5 h.1), Bool.not_false, Bool.true_and]
            exact j1no
    · have hne : ((((i : Int) == 0) != (x == -1)) = true) := bne_iff_two.2 h1
      refine Ev.step (fun k => by rw [bywashref14_Sane.l0, if_pos o1, if_pos o2, ← ex, if_pos hne]) ?_
      rw [decide_eq_false (fun h => h1 h.1), Bool.false_and, Bool.false_and]
      exact j1yes
theorem saneR_eq (l : List Int) : (List.range l.length).all (okR l) = saneB l := by
  unfold saneB
  rw [Bool.eq_iff_iff, List.all_eq_true, List.all_eq_true]
  have conv : ∀ i, i ∈ List.range l.length → rd l 0 = -1 → (okR l i = true ↔ okB l i = true) := by
    intro i hi h0
    have hil := List.mem_range.1 hi
    unfold okR okB
    rw [decide_eq_decide.2 (up_ends h0 (by omega) (isN_yes (by omega) (by omega)))]
  have first : ∀ f : Nat → Bool, (∀ i, f i = true → ((i : Int) = 0 ↔ rd l i = -1)) → (∀ i ∈ List.range l.length, f i = true) → 0 < l.length → rd l 0 = -1 := fun f hf h hl => (hf 0 (h 0 (List.mem_range.2 hl))).1 rfl
  constructor
  · intro h i hi
    refine (conv i hi (first (okR l) (fun i k => ?_) h (by have := List.mem_range.1 hi; omega))).1 (h i hi)
    unfold okR at k
    rw [Bool.and_eq_true, decide_eq_true_iff] at k
    exact k.1.1
  · intro h i hi
    refine (conv i hi (first (okB l) (fun i k => ?_) h (by have := List.mem_range.1 hi; omega))).2 (h i hi)
    unfold okB at k
    rw [Bool.and_eq_true, decide_eq_true_iff] at k
    exact k.1.1
theorem refsane_ev (l : List Int) (hl : l.length ≤ 900) : Ev (fun k => bywashref14_Sane.f k l) (saneB l) := by
  have := refsane_l0 l hl l.length 0 (by omega)
  rw [List.drop_zero, saneR_eq] at this
  exact this
theorem sane_up {l : List Int} (h : saneB l = true) {b : Int} (hb : isN l.length b = true) (h2 : rd l b ≠ -2) : upL l l.length (l.length + 1) b = upL l l.length l.length b := by
  have hbn := isN_iff.1 hb
  unfold saneB at h
  rw [List.all_eq_true] at h
  have h0 := h 0 (List.mem_range.2 (by omega))
  have hk := h b.toNat (List.mem_range.2 (by omega))
  unfold okB at h0 hk
  rw [Bool.and_eq_true, decide_eq_true_iff] at h0
  rw [Bool.and_eq_true, Bool.and_eq_true, Bool.or_eq_true, decide_eq_true_iff, decide_eq_true_iff, decide_eq_true_iff, show ((b.toNat : Nat) : Int) = b by omega] at hk
  obtain ⟨L, hL⟩ := path_of_up _ _ (hk.2.2.resolve_left h2)
  have hl := hL.len (by omega)
  have hz := h0.1.1.1 rfl
  rw [hL.upL hz (by omega) _ (by omega), hL.upL hz (by omega) _ hl]
theorem refchain_ev (l : List Int) (hl : l.length ≤ 900) (b : Int) : Ev (fun k => bywashref14_Chain.f k l b) (chainB l b) := by
  unfold bywashref14_Chain.f chainB
  refine Ev.bind (refsane_ev l hl) ?_
  by_cases h3 : saneB l = true
  · simp only [if_pos h3]
    by_cases h1 : b < 0
    · simp only [if_pos h1]
      rw [if_neg (fun k => by have := isN_iff.1 k.1; omega)]
      exact Ev.now _
    · by_cases h2 : b ≥ (l.length : Int)
      · simp only [if_neg h1, if_pos h2]
        rw [if_neg (fun k => by have := isN_iff.1 k.1; omega)]
        exact Ev.now _
      · have hb := isN_yes (n := l.length) (x := b) (by omega) (by omega)
        simp only [if_neg h1, if_neg h2, if_pos (show 0 ≤ b by omega), if_pos (show b < (l.length : Int) by omega)]
        by_cases h4 : rd l b = -2
        · simp only [if_pos h4]
          rw [if_neg (fun k => k.2.1 h4)]
          exact Ev.now _
        · simp only [if_neg h4]
          rw [if_pos ⟨hb, h4, h3⟩, ← sane_up h3 hb h4]
          exact Ev.bind (f := fun _ t => some t) (refup_ev l hl b) (Ev.now _)
  · simp only [if_neg h3]
    rw [if_neg (fun k => h3 k.2.2)]
    exact Ev.now _
theorem refdominates_ev (l : List Int) (hl : l.length ≤ 900) (a b : Int) : Ev (fun k => bywashref14_Dominates.f k l a b) (decide (a ∈ chainB l b)) := by
  have hc := chainB_len l b
  exact Ev.bind (f := fun k t => (bywashref10_Has.f k t a).bind fun u => some u) (refchain_ev l hl b) (Ev.bind (has_ev _ a (by omega)) (Ev.now _))
theorem refcommon_l0 (p q : List Int) (hp : p.length ≤ 9223372036854775806) (hq : q.length ≤ 9223372036854775807) : ∀ d i : Nat, i + d = p.length → Ev (fun k => bywashref14_Common.l0 k p q (i : Int)) (((p.drop i).find? fun x => decide (x ∈ q)).getD (-1))
  | 0, i, hd => by
    rw [List.drop_eq_nil_of_le (by omega)]
    exact Ev.step (f := fun _ => some (-1)) (fun k => by rw [bywashref14_Common.l0, if_neg (by omega)]) (Ev.now _)
  | d + 1, i, hd => by
    have hi : i < p.length := by omega
    rw [List.drop_eq_getElem_cons hi, List.find?_cons]
    refine Ev.step (f := fun k => (bywashref10_Has.f k q p[i]).bind fun t => if t = true then some p[i] else bywashref14_Common.l0 k p q ((i + 1 : Nat) : Int)) (fun k => by rw [bywashref14_Common.l0, if_pos (by omega), if_pos (by omega), rd_nat' hi, wrap_succ (by omega)]) ?_
    refine Ev.bind (has_ev q p[i] hq) ?_
    by_cases e : p[i] ∈ q
    · simp only [decide_eq_true e, if_true, Option.getD_some]
      exact Ev.now _
    · simp only [decide_eq_false e, Bool.false_eq_true, if_false]
      exact refcommon_l0 p q hp hq d (i + 1) (by omega)
theorem refcommon_ev (l : List Int) (hl : l.length ≤ 900) (a b : Int) : Ev (fun k => bywashref14_Common.f k l a b) (commonB l a b) := by
  have h1 := chainB_len l a
  have h2 := chainB_len l b
  have h := refcommon_l0 (chainB l a) (chainB l b) (by omega) (by omega) (chainB l a).length 0 (by omega)
  rw [List.drop_zero] at h
  exact Ev.bind (f := fun k t => (bywashref14_Chain.f k l b).bind fun u => bywashref14_Common.l0 k t u 0) (refchain_ev l hl a) (Ev.bind (f := fun k u => bywashref14_Common.l0 k (chainB l a) u 0) (refchain_ev l hl b) h)
theorem refbelow_l0 (l : List Int) (hl : l.length ≤ 900) (a : Int) : ∀ d i : Nat, i + d = l.length → ∀ out : List Int, out.length ≤ i → Ev (fun k => bywashref14_Below.l0 k l a out (i : Int)) (out ++ (((List.range l.length).drop i).filter fun b : Nat => decide (a ∈ chainB l (b : Int))).map fun b : Nat => (b : Int))
  | 0, i, hd, out, _ => by
    rw [List.drop_eq_nil_of_le (by simp; omega), List.filter_nil, List.map_nil, List.append_nil]
    exact Ev.step (f := fun _ => some out) (fun k => by rw [bywashref14_Below.l0, if_neg (by omega)]) (Ev.now _)
  | d + 1, i, hd, out, ho => by
    have hi : i < l.length := by omega
    refine Ev.step (f := fun k => (bywashref14_Dominates.f k l a (i : Int)).bind fun t => if t = true then (if out.length < 17592186044416 then bywashref14_Below.l0 k l a (out ++ [(i : Int)]) ((i + 1 : Nat) : Int) else none) else bywashref14_Below.l0 k l a out ((i + 1 : Nat) : Int)) (fun k => by rw [bywashref14_Below.l0, if_pos (by omega), wrap_succ (by omega)]) ?_
    refine Ev.bind (refdominates_ev l hl a i) ?_
    rw [range_drop hi, List.filter_cons]
    by_cases e : a ∈ chainB l (i : Int)
    · simp only [decide_eq_true e, if_true, if_pos (show out.length < 17592186044416 by omega)]
      have := refbelow_l0 l hl a d (i + 1) (by omega) (out ++ [(i : Int)]) (by rw [List.length_append, List.length_singleton]; omega)
      rw [List.append_assoc] at this
      exact this
    · simp only [decide_eq_false e, Bool.false_eq_true, if_false]
      exact refbelow_l0 l hl a d (i + 1) (by omega) out (by omega)
theorem refbelow_ev (l : List Int) (hl : l.length ≤ 900) (a : Int) : Ev (fun k => bywashref14_Below.f k l a) (belowB l a) := by
  have h := refbelow_l0 l hl a l.length 0 (by omega) [] (by simp)
  rw [List.drop_zero, List.nil_append] at h
  exact h

theorem DomIs_pure (l0 : List (List Int)) (l1 : List Int) (a2 a3 : Int) (hb : l0.length ≤ 9223372036854775807) (_hw : ∀ r ∈ l0, r.length ≤ 9223372036854775807 ∧ ∀ y ∈ r, (Lit.int .i64 y).wf = true) (_ : l1.length ≤ 9223372036854775807) (_ : ∀ y ∈ l1, (Lit.int .i64 y).wf = true) (_ : (Lit.int .i64 a2).wf = true) (_ : (Lit.int .i64 a3).wf = true) :
    ∃ k, bywashlaw14_DomIs.f k l0 l1 a2 a3 = some true := by
  refine Ev.rounds (g := fun k => bywashlaw14_DomIs.f k l0 l1 a2 a3) ?_
  unfold bywashlaw14_DomIs.f
  refine Ev.bind awake14_ev ?_
  refine Ev.bind (few_ev l0 hb) ?_
  have stop : Ev (fun k => bywashlaw14_DomIs.j0 k l0 l1 a2 a3 true true) true := Ev.step (f := fun _ => some true) (fun k => by rw [bywashlaw14_DomIs.j0, if_pos rfl]) (Ev.now _)
  by_cases hf : few l0 = true
  · simp only [hf, if_true]
    by_cases h16 : (l0.length : Int) > 16
    · simp only [if_pos h16]
      exact stop
    · simp only [if_neg h16]
      by_cases h40 : (l1.length : Int) > 40
      · rw [decide_eq_true h40]
        exact stop
      · rw [decide_eq_false h40]
        have hs := few_small hf
        obtain ⟨l, hl, h⟩ := idoms_now hs
        have hll : l.length = l0.length := by rw [h.len, clean_len]
        have hl1 : l1.length ≤ 900 := by omega
        have hl2 : l1.length ≤ 1000000 := by omega
        have hc := chainB_len l1 a3
        have hb1 := List.length_filter_le (fun b : Nat => decide (a2 ∈ chainB l1 (b : Int))) (List.range l1.length)
        rw [List.length_range] at hb1
        refine Ev.step (fun k => by rw [bywashlaw14_DomIs.j0, if_neg (by simp), if_pos rfl]) ?_
        refine Ev.bind hl ?_
        refine Ev.bind (refidoms_ev hs.2 (fun r hr => by have := (few_iff.1 hf).1 r hr; omega) h) ?_
        refine Ev.bind (ints_ev l l (by omega)) ?_
        simp only [decide_true, if_true]
        refine Ev.bind (sane_ev l1 hl2) ?_
        refine Ev.bind (refsane_ev l1 hl1) ?_
        simp only [beq_self_eq_true, if_true]
        refine Ev.bind (chain_ev l1 hl2 a3) ?_
        refine Ev.bind (refchain_ev l1 hl1 a3) ?_
        refine Ev.bind (ints_ev _ _ (by omega)) ?_
        simp only [decide_true, if_true]
        refine Ev.bind (dominates_ev l1 hl2 a2 a3) ?_
        refine Ev.bind (refdominates_ev l1 hl1 a2 a3) ?_
        simp only [beq_self_eq_true, if_true]
        refine Ev.bind (common_ev l1 hl2 a2 a3) ?_
        refine Ev.bind (refcommon_ev l1 hl1 a2 a3) ?_
        simp only [if_true]
        refine Ev.bind (below_ev l1 hl2 a2) ?_
        refine Ev.bind (refbelow_ev l1 hl1 a2) ?_
        refine Ev.bind (ints_ev _ _ (by unfold belowB; rw [List.length_map]; omega)) ?_
        rw [decide_eq_true rfl]
        exact Ev.now _
  · simp only [hf]
    exact stop

end Go.Proofs.Ytemcmcnhpdkdfaa.P
