/- What Sane, Chain, Dominates, Common and Below answer. Plain laws. -/
import Derived.Test.YtemcmcnhpdkdfaaHidoms
import Derived.Test.YtemcmcnhpdkdfaaPdom
namespace Go.Proofs.Ytemcmcnhpdkdfaa.P
open Go.RowKit Go.Proofs.YtemcmcnhpdkdfaaW.PrintWords

/-- May this be the closest dominator of b? -/
def okB (l : List Int) (b : Nat) : Bool :=
  decide (((b : Int) = 0 ↔ rd l b = -1) ∧ -2 ≤ rd l b ∧ rd l b < (l.length : Int)) && (!decide (0 ≤ rd l b ∧ rd l (rd l b) = -2) && (decide (rd l b = -2) || decide ((0 : Int) ∈ upL l l.length l.length b)))
def saneB (l : List Int) : Bool := (List.range l.length).all (okB l)
theorem range_drop {n i : Nat} (h : i < n) : (List.range n).drop i = i :: (List.range n).drop (i + 1) := by
  rw [List.drop_eq_getElem_cons (by simpa using h)]
  simp
theorem sane_l0 (l : List Int) (hl : l.length ≤ 1000000) : ∀ d i : Nat, i + d = l.length → Ev (fun k => dom_Sane.l0 k l l (l.length : Int) (i : Int)) (((List.range l.length).drop i).all (okB l))
  | 0, i, hd => by
    rw [List.drop_eq_nil_of_le (by simp; omega)]
    exact Ev.step (f := fun _ => some true) (fun k => by rw [dom_Sane.l0, if_neg (by omega)]) (Ev.now _)
  | d + 1, i, hd => by
    have hi : i < l.length := by omega
    rw [range_drop hi, List.all_cons]
    have next := sane_l0 l hl d (i + 1) (by omega)
    obtain ⟨x, ex⟩ : ∃ x, x = rd l (i : Int) := ⟨_, rfl⟩
    have hw := wrap_succ (i := i) (by omega)
    -- what the second test answers
    have j1yes : Ev (fun k => dom_Sane.j1 k l (i : Int) x l (l.length : Int) (i : Int) true) false :=
      Ev.step (f := fun _ => some false) (fun k => by rw [dom_Sane.j1, if_pos rfl]) (Ev.now _)
    have j1no : -2 ≤ x → x < (l.length : Int) → Ev (fun k => dom_Sane.j1 k l (i : Int) x l (l.length : Int) (i : Int) false) ((!decide (0 ≤ x ∧ rd l x = -2) && (decide (x = -2) || decide ((0 : Int) ∈ upL l l.length l.length i))) && ((List.range l.length).drop (i + 1)).all (okB l)) := by
      intro h1 h2
      have hr : dom_rises.f l (i : Int) = some (decide ((0 : Int) ∈ upL l l.length l.length i)) := by unfold dom_rises.f; rw [if_pos hl]
      have rest : Ev (fun k => if x = -2 then dom_Sane.l0 k l l (l.length : Int) (wrap64 ((i : Int) + 1)) else (dom_rises.f l (i : Int)).bind fun t => if t = true then dom_Sane.l0 k l l (l.length : Int) (wrap64 ((i : Int) + 1)) else some false) ((decide (x = -2) || decide ((0 : Int) ∈ upL l l.length l.length i)) && ((List.range l.length).drop (i + 1)).all (okB l)) := by
        by_cases e : x = -2
        · simp only [if_pos e, hw, decide_eq_true e, Bool.true_or, Bool.true_and]
          exact next
        · simp only [if_neg e, hr, Option.bind_some, hw, decide_eq_false e, Bool.false_or]
          by_cases e2 : (0 : Int) ∈ upL l l.length l.length i
          · simp only [decide_eq_true e2, if_true, Bool.true_and]
            exact next
          · simp only [decide_eq_false e2, Bool.false_eq_true, if_false, Bool.false_and]
            exact Ev.now _
      by_cases h0 : 0 ≤ x
      · by_cases e3 : rd l x = -2
        · refine Ev.step (f := fun _ => some false) (fun k => by rw [dom_Sane.j1, if_neg (by simp), if_pos h0, if_pos h0, if_pos h2, if_pos e3]) ?_
          rw [decide_eq_true (And.intro h0 e3), Bool.not_true, Bool.false_and, Bool.false_and]
          exact Ev.now _
        · refine Ev.step (fun k => by rw [dom_Sane.j1, if_neg (by simp), if_pos h0, if_pos h0, if_pos h2, if_neg e3]) ?_
          rw [decide_eq_false (fun h => e3 h.2), Bool.not_false, Bool.true_and]
          exact rest
      · refine Ev.step (fun k => by rw [dom_Sane.j1, if_neg (by simp), if_neg h0]) ?_
        rw [decide_eq_false (fun h => h0 h.1), Bool.not_false, Bool.true_and]
        exact rest
    unfold okB
    rw [← ex]
    by_cases h1 : ((i : Int) = 0 ↔ x = -1)
    · have hne : ¬ ((((i : Int) == 0) != (x == -1)) = true) := by
        by_cases a : (i : Int) = 0
        · have := h1.1 a
          simp [a, this]
        · have : ¬ x = -1 := fun e => a (h1.2 e)
          have a' : ((i : Int) == 0) = false := by simpa using a
          have b' : (x == -1) = false := by simpa using this
          rw [a', b']
          simp
      by_cases h2 : x < -2
      · refine Ev.step (f := fun k => dom_Sane.j1 k l (i : Int) x l (l.length : Int) (i : Int) true) (fun k => ?_) ?_
        · rw [dom_Sane.l0, if_pos (by omega), if_pos (by omega), if_pos (by omega), ← ex, if_neg hne, if_pos h2]
        · rw [decide_eq_false (fun h => by omega), Bool.false_and, Bool.false_and]
          exact j1yes
      · by_cases h3 : x ≥ (l.length : Int)
        · refine Ev.step (f := fun k => dom_Sane.j1 k l (i : Int) x l (l.length : Int) (i : Int) true) (fun k => ?_) ?_
          · rw [dom_Sane.l0, if_pos (by omega), if_pos (by omega), if_pos (by omega), ← ex, if_neg hne, if_neg h2, decide_eq_true h3]
          · rw [decide_eq_false (fun h => by omega), Bool.false_and, Bool.false_and]
            exact j1yes
        · refine Ev.step (f := fun k => dom_Sane.j1 k l (i : Int) x l (l.length : Int) (i : Int) false) (fun k => ?_) ?_
          · rw [dom_Sane.l0, if_pos (by omega), if_pos (by omega), if_pos (by omega), ← ex, if_neg hne, if_neg h2, decide_eq_false h3]
          · rw [decide_eq_true ⟨h1, by omega, by omega⟩, Bool.true_and]
            exact j1no (by omega) (by omega)
    · have hne : ((((i : Int) == 0) != (x == -1)) = true) := by
        by_cases a : (i : Int) = 0
        · have : ¬ x = -1 := fun e => h1 ⟨fun _ => e, fun _ => a⟩
          have b' : (x == -1) = false := by simpa using this
          rw [a, b']
          decide
        · have : x = -1 := Classical.byContradiction fun e => h1 ⟨fun h => absurd h a, fun h => absurd h e⟩
          have a' : ((i : Int) == 0) = false := by simpa using a
          rw [this, a']
          decide
      refine Ev.step (f := fun k => dom_Sane.j1 k l (i : Int) x l (l.length : Int) (i : Int) true) (fun k => ?_) ?_
      · rw [dom_Sane.l0, if_pos (by omega), if_pos (by omega), if_pos (by omega), ← ex, if_pos hne]
      · rw [decide_eq_false (fun h => h1 h.1), Bool.false_and, Bool.false_and]
        exact j1yes
theorem sane_ev (l : List Int) (hl : l.length ≤ 1000000) : Ev (fun k => dom_Sane.f k l) (saneB l) := sane_l0 l hl l.length 0 (by omega)

/-- A way up. -/
def chainB (l : List Int) (b : Int) : List Int := if isN l.length b = true ∧ rd l b ≠ -2 ∧ saneB l = true then upL l l.length l.length b else []
theorem chain_ev (l : List Int) (hl : l.length ≤ 1000000) (b : Int) : Ev (fun k => dom_Chain.f k l b) (chainB l b) := by
  unfold dom_Chain.f chainB
  by_cases h1 : isN l.length b = true
  · by_cases h2 : rd l b = -2
    · simp only [if_pos h1, if_pos h2]
      rw [if_neg (fun h => h.2.1 h2)]
      exact Ev.now _
    · simp only [if_pos h1, if_neg h2]
      refine Ev.bind (sane_ev l hl) ?_
      by_cases h3 : saneB l = true
      · simp only [if_pos h3, if_pos hl]
        rw [if_pos ⟨h1, h2, h3⟩]
        exact Ev.now _
      · simp only [if_neg h3]
        rw [if_neg (fun h => h3 h.2.2)]
        exact Ev.now _
  · simp only [if_neg h1]
    rw [if_neg (fun h => h1 h.1)]
    exact Ev.now _
theorem chainB_len (l : List Int) (b : Int) : (chainB l b).length ≤ l.length := by
  unfold chainB
  split
  · exact upL_len _ _ _ _
  · exact Nat.zero_le _

theorem index_l0 (l : List Int) (x : Int) (hl : l.length ≤ 9223372036854775807) : ∀ d i : Nat, i + d = l.length → ∃ r, Ev (fun k => slices_Index_int_int.l0 k l x (l.length : Int) (i : Int)) r ∧ decide (r ≥ 0) = decide (x ∈ l.drop i)
  | 0, i, hd => by
    rw [List.drop_eq_nil_of_le (by omega)]
    exact ⟨-1, Ev.step (f := fun _ => some (-1)) (fun k => by rw [slices_Index_int_int.l0, if_neg (by omega)]) (Ev.now _), by simp⟩
  | d + 1, i, hd => by
    have hi : i < l.length := by omega
    rw [List.drop_eq_getElem_cons hi]
    by_cases e : x = l[i]
    · refine ⟨(i : Int), Ev.step (f := fun _ => some (i : Int)) (fun k => by rw [slices_Index_int_int.l0, if_pos (by omega), if_pos (by omega), if_pos (by omega), rd_nat' hi, if_pos e]) (Ev.now _), ?_⟩
      rw [decide_eq_true (by omega), decide_eq_true (by rw [e]; exact List.mem_cons_self)]
    · obtain ⟨r, h1, h2⟩ := index_l0 l x hl d (i + 1) (by omega)
      refine ⟨r, Ev.step (f := fun k => slices_Index_int_int.l0 k l x (l.length : Int) ((i + 1 : Nat) : Int)) (fun k => by rw [slices_Index_int_int.l0, if_pos (by omega), if_pos (by omega), if_pos (by omega), rd_nat' hi, if_neg e, wrap_succ (by omega)]) h1, ?_⟩
      rw [h2]
      have : (x ∈ l[i] :: l.drop (i + 1)) ↔ x ∈ l.drop (i + 1) := by rw [List.mem_cons]; exact ⟨fun h => h.elim (fun h => absurd h e) id, .inr⟩
      simp only [this]
theorem contains_ev (l : List Int) (x : Int) (hl : l.length ≤ 9223372036854775807) : Ev (fun k => slices_Contains_int_int.f k l x) (decide (x ∈ l)) := by
  obtain ⟨r, h1, h2⟩ := index_l0 l x hl l.length 0 (by omega)
  refine Ev.bind (f := fun _ t => some (decide (t ≥ 0))) h1 ?_
  rw [h2, List.drop_zero]
  exact Ev.now _
theorem dominates_ev (l : List Int) (hl : l.length ≤ 1000000) (a b : Int) : Ev (fun k => dom_Dominates.f k l a b) (decide (a ∈ chainB l b)) := by
  have hc := chainB_len l b
  exact Ev.bind (f := fun k t => (slices_Contains_int_int.f k t a).bind fun u => some u) (chain_ev l hl b) (Ev.bind (contains_ev _ a (by omega)) (Ev.now _))

/-- The first one on both ways. -/
def commonB (l : List Int) (a b : Int) : Int := ((chainB l a).find? fun x => decide (x ∈ chainB l b)).getD (-1)
theorem common_l0 (p q : List Int) (hp : p.length ≤ 9223372036854775806) (hq : q.length ≤ 9223372036854775807) : ∀ d i : Nat, i + d = p.length → Ev (fun k => dom_Common.l0 k q p (p.length : Int) (i : Int)) (((p.drop i).find? fun x => decide (x ∈ q)).getD (-1))
  | 0, i, hd => by
    rw [List.drop_eq_nil_of_le (by omega)]
    exact Ev.step (f := fun _ => some (-1)) (fun k => by rw [dom_Common.l0, if_neg (by omega)]) (Ev.now _)
  | d + 1, i, hd => by
    have hi : i < p.length := by omega
    rw [List.drop_eq_getElem_cons hi, List.find?_cons]
    refine Ev.step (f := fun k => (slices_Contains_int_int.f k q p[i]).bind fun t => if t = true then some p[i] else dom_Common.l0 k q p (p.length : Int) ((i + 1 : Nat) : Int)) (fun k => by rw [dom_Common.l0, if_pos (by omega), if_pos (by omega), if_pos (by omega), rd_nat' hi, wrap_succ (by omega)]) ?_
    refine Ev.bind (contains_ev q p[i] hq) ?_
    by_cases e : p[i] ∈ q
    · simp only [decide_eq_true e, if_true, Option.getD_some]
      exact Ev.now _
    · simp only [decide_eq_false e, Bool.false_eq_true, if_false]
      exact common_l0 p q hp hq d (i + 1) (by omega)
theorem common_ev (l : List Int) (hl : l.length ≤ 1000000) (a b : Int) : Ev (fun k => dom_Common.f k l a b) (commonB l a b) := by
  have h1 := chainB_len l a
  have h2 := chainB_len l b
  have h := common_l0 (chainB l a) (chainB l b) (by omega) (by omega) (chainB l a).length 0 (by omega)
  rw [List.drop_zero] at h
  exact Ev.bind (f := fun k t => (dom_Chain.f k l a).bind fun u => dom_Common.l0 k t u (u.length : Int) 0) (chain_ev l hl b) (Ev.bind (f := fun k u => dom_Common.l0 k (chainB l b) u (u.length : Int) 0) (chain_ev l hl a) h)

/-- All that one dominates. -/
def belowB (l : List Int) (a : Int) : List Int := ((List.range l.length).filter fun b : Nat => decide (a ∈ chainB l (b : Int))).map fun b : Nat => (b : Int)
theorem below_l0 (l : List Int) (hl : l.length ≤ 1000000) (a : Int) : ∀ d i : Nat, i + d = l.length → ∀ out : List Int, out.length ≤ i → Ev (fun k => dom_Below.l0 k l a out (l.length : Int) (i : Int)) (out ++ (((List.range l.length).drop i).filter fun b : Nat => decide (a ∈ chainB l (b : Int))).map fun b : Nat => (b : Int))
  | 0, i, hd, out, _ => by
    rw [List.drop_eq_nil_of_le (by simp; omega), List.filter_nil, List.map_nil, List.append_nil]
    exact Ev.step (f := fun _ => some out) (fun k => by rw [dom_Below.l0, if_neg (by omega)]) (Ev.now _)
  | d + 1, i, hd, out, ho => by
    have hi : i < l.length := by omega
    refine Ev.step (f := fun k => (dom_Dominates.f k l a (i : Int)).bind fun t => if t = true then (if out.length < 17592186044416 then dom_Below.l0 k l a (out ++ [(i : Int)]) (l.length : Int) ((i + 1 : Nat) : Int) else none) else dom_Below.l0 k l a out (l.length : Int) ((i + 1 : Nat) : Int)) (fun k => by rw [dom_Below.l0, if_pos (by omega), wrap_succ (by omega)]) ?_
    refine Ev.bind (dominates_ev l hl a i) ?_
    rw [range_drop hi, List.filter_cons]
    by_cases e : a ∈ chainB l (i : Int)
    · simp only [decide_eq_true e, if_true, if_pos (show out.length < 17592186044416 by omega)]
      have := below_l0 l hl a d (i + 1) (by omega) (out ++ [(i : Int)]) (by rw [List.length_append, List.length_singleton]; omega)
      rw [List.append_assoc] at this
      exact this
    · simp only [decide_eq_false e, Bool.false_eq_true, if_false]
      exact below_l0 l hl a d (i + 1) (by omega) out (by omega)
theorem below_ev (l : List Int) (hl : l.length ≤ 1000000) (a : Int) : Ev (fun k => dom_Below.f k l a) (belowB l a) := by
  have h := below_l0 l hl a l.length 0 (by omega) [] (by simp)
  rw [List.drop_zero, List.nil_append] at h
  exact h

end Go.Proofs.Ytemcmcnhpdkdfaa.P

/-! Ways up by the closest dominators of a graph: what Chain, Dominates, Common and Below tell of them. Plain laws. -/
namespace Go.Proofs.Ytemcmcnhpdkdfaa.P
open Go.RowKit Go.Proofs.YtemcmcnhpdkdfaaW.PrintWords

section
variable {c : List (List Int)} {l : List Int}
/-- Is it a node that is reached? -/
def Rc (c : List (List Int)) (b : Int) : Prop := Node c b ∧ Way c 0 b

theorem IsDom.isN (h : IsDom c l) {b : Int} : isN l.length b = true ↔ Node c b := by rw [isN_iff, h.len]; exact Iff.rfl
theorem IsDom.top (h : IsDom c l) : idT l 0 = none := by
  unfold idT
  by_cases h0 : 0 < c.length
  · rw [if_neg (fun k => by rw [h.zero h0] at k; omega)]
  · rw [if_neg (fun k => by rw [h.len] at k; omega)]
theorem IsDom.rc0 (_h : IsDom c l) {b : Int} (hb : Rc c b) : Rc c 0 := ⟨⟨Int.le_refl 0, by have := hb.1.1; have := hb.1.2; omega⟩, .refl 0⟩
theorem IsDom.idT_par (h : IsDom c l) {b p : Int} (hb : Rc c b) (hp : idT l b = some p) : Rc c p ∧ rd l b = p ∧ b ≠ 0 := by
  have hb0 : b ≠ 0 := fun e => by rw [e, h.top] at hp; cases hp
  obtain ⟨q, h1, h2, h3, h4⟩ := h.par b hb.1 hb.2 hb0
  rw [hp] at h1
  obtain rfl := Option.some.inj h1
  exact ⟨⟨h3, h4⟩, h2, hb0⟩
theorem IsDom.up_rc (h : IsDom c l) {b x : Int} (hb : Rc c b) (hu : Up (idT l) b x) : Rc c x := by
  induction hu with
  | refl => exact hb
  | step h1 _ ih => exact ih (h.idT_par hb h1).1
theorem IsDom.rd0 (h : IsDom c l) {b : Int} (hb : Rc c b) : rd l b ≠ -2 := by
  by_cases e : b = 0
  · subst e
    have h0 := (hb.1).2
    rw [h.zero (by omega)]
    decide
  · obtain ⟨p, _, h2, h3, _⟩ := h.par b hb.1 hb.2 e
    have := h3.1
    omega
theorem IsDom.lost_iff (h : IsDom c l) {b : Int} (hb : Node c b) : rd l b = -2 ↔ ¬ Way c 0 b :=
  ⟨fun e hw => h.rd0 ⟨hb, hw⟩ e, h.lost b hb⟩
/-- With steps enough the way up is all that is above. -/
theorem IsDom.mem_up (h : IsDom c l) {f : Int → Nat} (hf : ∀ b p, idT l b = some p → f p < f b) : ∀ (k : Nat) (b : Int), Rc c b → f b < k → ∀ x, x ∈ upL l l.length k b ↔ Up (idT l) b x
  | 0, b, _, hk, _ => by omega
  | k + 1, b, hb, hk, x => by
    rw [upL_yes (h.isN.2 hb.1), List.mem_cons]
    by_cases e : b = 0
    · subst e
      have h0 := hb.1.2
      rw [h.zero (by omega), upL_no (isN_no (by omega))]
      constructor
      · rintro (e | e)
        · rw [e]; exact .refl _
        · simp at e
      · intro hu
        rcases hu.cases with e | ⟨p, hp, _⟩
        · exact .inl e
        · rw [h.top] at hp; cases hp
    · obtain ⟨p, h1, h2, h3, h4⟩ := h.par b hb.1 hb.2 e
      have := hf b p h1
      rw [h2, h.mem_up hf k p ⟨h3, h4⟩ (by omega) x]
      constructor
      · rintro (e | hu)
        · rw [e]; exact .refl _
        · exact .step h1 hu
      · intro hu
        rcases hu.cases with e | ⟨q, hq, k⟩
        · exact .inl e
        · rw [h1] at hq
          obtain rfl := Option.some.inj hq
          exact .inr k
theorem IsDom.up_fuel (h : IsDom c l) {f : Int → Nat} (hf : ∀ b p, idT l b = some p → f p < f b) : ∀ (k k' : Nat) (b : Int), Rc c b → f b < k → f b < k' → upL l l.length k b = upL l l.length k' b
  | 0, _, b, _, hk, _ => by omega
  | k + 1, 0, b, _, _, hk => by omega
  | k + 1, k' + 1, b, hb, hk, hk' => by
    rw [upL_yes (h.isN.2 hb.1), upL_yes (h.isN.2 hb.1)]
    congr 1
    by_cases e : b = 0
    · subst e
      have h0 := hb.1.2
      rw [h.zero (by omega), upL_no (isN_no (by omega)), upL_no (isN_no (by omega))]
    · obtain ⟨p, h1, h2, h3, h4⟩ := h.par b hb.1 hb.2 e
      have := hf b p h1
      rw [h2]
      exact h.up_fuel hf k k' p ⟨h3, h4⟩ (by omega) (by omega)
/-- 0 is above all that is reached. -/
theorem IsDom.top_up (h : IsDom c l) {b : Int} (hb : Rc c b) : Up (idT l) b 0 := (h.doms b hb.1 hb.2 0).2 (fun k => k.left rfl)
theorem IsDom.sane (h : IsDom c l) : saneB l = true := by
  obtain ⟨f, hf, hfl⟩ := h.rank
  unfold saneB
  rw [List.all_eq_true]
  intro i hi
  have hin : i < l.length := by simpa using hi
  have hn : Node c (i : Int) := ⟨by omega, by rw [← h.len]; omega⟩
  unfold okB
  by_cases hw : Way c 0 (i : Int)
  · have hb : Rc c (i : Int) := ⟨hn, hw⟩
    have hup : (0 : Int) ∈ upL l l.length l.length (i : Int) := (h.mem_up hf l.length i hb (by rw [h.len]; exact hfl _ hn hw) 0).2 (h.top_up hb)
    rw [decide_eq_true hup, Bool.or_true, Bool.and_true]
    by_cases e : (i : Int) = 0
    · have e1 : rd l (i : Int) = -1 := by rw [e]; exact h.zero (by have := hn.2; omega)
      rw [e1]
      simp [e]
      omega
    · obtain ⟨p, h1, h2, h3, h4⟩ := h.par _ hn hw e
      have h5 := h3.1
      have h6 := h3.2
      have h7 := h.rd0 (b := p) ⟨h3, h4⟩
      have hlen := h.len
      rw [h2]
      simp only [Bool.and_eq_true, decide_eq_true_eq, Bool.not_eq_true', decide_eq_false_iff_not]
      exact ⟨⟨⟨fun h => absurd h e, fun h => by omega⟩, by omega, by omega⟩, fun k => h7 k.2⟩
  · have e : (i : Int) ≠ 0 := fun e => hw (by rw [e]; exact .refl _)
    rw [h.lost _ hn hw]
    simp
    exact ⟨fun k => e (by omega), by omega⟩

theorem IsDom.mem_chain (h : IsDom c l) {b x : Int} : x ∈ chainB l b ↔ Rc c b ∧ Up (idT l) b x := by
  obtain ⟨f, hf, hfl⟩ := h.rank
  unfold chainB
  by_cases hb : Rc c b
  · rw [if_pos ⟨h.isN.2 hb.1, h.rd0 hb, h.sane⟩, h.mem_up hf l.length b hb (by rw [h.len]; exact hfl b hb.1 hb.2)]
    exact ⟨fun k => ⟨hb, k⟩, fun k => k.2⟩
  · rw [if_neg (fun k => hb ⟨h.isN.1 k.1, Classical.byContradiction fun hw => k.2.1 (h.lost b (h.isN.1 k.1) hw)⟩)]
    exact ⟨fun k => by simp at k, fun k => absurd k.1 hb⟩
theorem IsDom.chain_nil (h : IsDom c l) {b : Int} (hb : ¬ Rc c b) : chainB l b = [] := by
  cases hc : chainB l b with
  | nil => rfl
  | cons x xs => exact absurd ((h.mem_chain (x := x)).1 (by rw [hc]; simp)).1 hb
theorem IsDom.chain_cons (h : IsDom c l) {b : Int} (hb : Rc c b) : chainB l b = b :: (if b = 0 then [] else chainB l (rd l b)) := by
  obtain ⟨f, hf, hfl⟩ := h.rank
  have hlt := hfl b hb.1 hb.2
  rw [← h.len] at hlt
  unfold chainB
  rw [if_pos ⟨h.isN.2 hb.1, h.rd0 hb, h.sane⟩]
  obtain ⟨m, hm⟩ : ∃ m, l.length = m + 1 := ⟨l.length - 1, by omega⟩
  rw [h.up_fuel hf l.length (m + 1) b hb hlt (by omega), upL_yes (h.isN.2 hb.1)]
  congr 1
  by_cases e : b = 0
  · subst e
    rw [if_pos rfl, h.zero (by have := hb.1.2; omega), upL_no (isN_no (by omega))]
  · rw [if_neg e]
    obtain ⟨p, h1, h2, h3, h4⟩ := h.par b hb.1 hb.2 e
    have := hf b p h1
    rw [h2, if_pos ⟨h.isN.2 h3, h.rd0 ⟨h3, h4⟩, h.sane⟩]
    exact h.up_fuel hf m l.length p ⟨h3, h4⟩ (by omega) (by omega)

/-- One dominates another one. -/
def Dm (c : List (List Int)) (a b : Int) : Prop := Rc c b ∧ ¬ Av c a 0 b
theorem IsDom.dm (h : IsDom c l) {a b : Int} : a ∈ chainB l b ↔ Dm c a b := by
  rw [h.mem_chain]
  exact ⟨fun k => ⟨k.1, (h.doms b k.1.1 k.1.2 a).1 k.2⟩, fun k => ⟨k.1, (h.doms b k.1.1 k.1.2 a).2 k.2⟩⟩
theorem IsDom.dm_up (h : IsDom c l) {a b : Int} : Dm c a b ↔ Rc c b ∧ Up (idT l) b a := by rw [← h.dm, h.mem_chain]
theorem IsDom.dm_rc (h : IsDom c l) {a b : Int} (k : Dm c a b) : Rc c a := by
  rw [h.dm_up] at k
  exact h.up_rc k.1 k.2
theorem IsDom.dm_trans (h : IsDom c l) {a b d : Int} (k : Dm c a b) (m : Dm c b d) : Dm c a d := by
  rw [h.dm_up] at k m ⊢
  exact ⟨m.1, m.2.trans k.2⟩
theorem IsDom.dm_refl (h : IsDom c l) {b : Int} : Dm c b b ↔ Rc c b := by
  rw [h.dm_up]
  exact ⟨fun k => k.1, fun k => ⟨k, .refl _⟩⟩
theorem IsDom.up_rank (_h : IsDom c l) {f : Int → Nat} (hf : ∀ b p, idT l b = some p → f p < f b) {b x : Int} (hu : Up (idT l) b x) : f x ≤ f b ∧ (f x = f b → x = b) := by
  induction hu with
  | refl => exact ⟨Nat.le_refl _, fun _ => rfl⟩
  | step h1 _ ih =>
    have := hf _ _ h1
    have := ih.1
    exact ⟨by omega, fun e => by omega⟩
theorem IsDom.dm_anti (h : IsDom c l) {a b : Int} (k : Dm c a b) (m : Dm c b a) : a = b := by
  obtain ⟨f, hf, _⟩ := h.rank
  rw [h.dm_up] at k m
  have h1 := h.up_rank hf k.2
  have h2 := h.up_rank hf m.2
  exact h1.2 (by omega)
theorem IsDom.dm_line (h : IsDom c l) {a b d : Int} (k : Dm c a d) (m : Dm c b d) : Dm c a b ∨ Dm c b a := by
  rw [h.dm_up] at k m
  rcases k.2.line m.2 with u | u
  · exact .inr (h.dm_up.2 ⟨h.up_rc k.1 k.2, u⟩)
  · exact .inl (h.dm_up.2 ⟨h.up_rc m.1 m.2, u⟩)
theorem IsDom.dm_zero (_h : IsDom c l) {b : Int} : Dm c 0 b ↔ Rc c b := ⟨fun k => k.1, fun k => ⟨k, fun q => q.left rfl⟩⟩
theorem IsDom.dm_par (h : IsDom c l) {a b : Int} (hb : Rc c b) (hb0 : b ≠ 0) : Dm c a b ↔ a = b ∨ Dm c a (rd l b) := by
  rw [← h.dm, ← h.dm, h.chain_cons hb, if_neg hb0, List.mem_cons]

/-- The first one on both ways up. -/
theorem IsDom.common (h : IsDom c l) {a b : Int} : (Rc c a ∧ Rc c b → Dm c (commonB l a b) a ∧ Dm c (commonB l a b) b ∧ ∀ x, Dm c x a → Dm c x b → Dm c x (commonB l a b)) ∧ (¬ (Rc c a ∧ Rc c b) → commonB l a b = -1) := by
  unfold commonB
  cases hf : (chainB l a).find? (fun x => decide (x ∈ chainB l b)) with
  | none =>
    rw [List.find?_eq_none] at hf
    refine ⟨fun k => ?_, fun _ => rfl⟩
    have := hf 0 (h.dm.2 (h.dm_zero.2 k.1))
    simp only [decide_eq_true_eq] at this
    exact absurd (h.dm.2 (h.dm_zero.2 k.2)) this
  | some x =>
    rw [Option.getD_some]
    obtain ⟨hx, zs, bs, e, hno⟩ := List.find?_eq_some_iff_append.1 hf
    simp only [decide_eq_true_eq] at hx
    have hxa : Dm c x a := h.dm.1 (by rw [e]; simp)
    have hxb := h.dm.1 hx
    refine ⟨fun _ => ⟨hxa, hxb, fun y hya hyb => ?_⟩, fun k => absurd ⟨hxa.1, hxb.1⟩ k⟩
    -- y stands in the way up from a, behind x
    rcases h.dm_line hxa hya with k | k
    · -- x above y: then y is met first or is x
      have key : ∀ (zs' : List Int) (d : Int), Rc c d → chainB l d = zs' ++ x :: bs → (∀ z ∈ zs', ¬ Dm c z b) → Dm c y d → Dm c y x := by
        intro zs'
        induction zs' with
        | nil =>
          intro d hd e _ hy
          rw [h.chain_cons hd] at e
          injection e with e1 _
          rw [← e1]
          exact hy
        | cons z zs' ih =>
          intro d hd e hno hy
          rw [h.chain_cons hd] at e
          injection e with e1 e2
          subst e1
          by_cases ed : d = 0
          · rw [if_pos ed] at e2
            simp at e2
          · rw [if_neg ed] at e2
            rcases (h.dm_par hd ed).1 hy with e3 | e3
            · exact absurd (by rw [← e3]; exact hyb) (hno d (by simp))
            · obtain ⟨p, h1, h2, h3, h4⟩ := h.par d hd.1 hd.2 ed
              rw [h2] at e2 e3
              exact ih p ⟨h3, h4⟩ e2 (fun z hz => hno z (by simp [hz])) e3
      exact key zs a hxa.1 e (fun z hz k => by have := hno z hz; simp at this; exact this (h.dm.2 k)) hya
    · exact k
theorem IsDom.common_unique (h : IsDom c l) {a b x : Int} (h1 : Dm c x a) (h2 : Dm c x b) (h3 : ∀ y, Dm c y a → Dm c y b → Dm c y x) : commonB l a b = x := by
  have k := (h.common (a := a) (b := b)).1 ⟨h1.1, h2.1⟩
  exact h.dm_anti (h3 _ k.1 k.2.1) (k.2.2 x h1 h2)
theorem IsDom.common_comm (h : IsDom c l) (a b : Int) : commonB l a b = commonB l b a := by
  by_cases hr : Rc c a ∧ Rc c b
  · have k := (h.common (a := b) (b := a)).1 hr.symm
    exact h.common_unique k.2.1 k.1 (fun y h1 h2 => k.2.2 y h2 h1)
  · rw [(h.common).2 hr, (h.common).2 (fun k => hr k.symm)]
theorem IsDom.common_pos (h : IsDom c l) {a b : Int} : 0 ≤ commonB l a b ↔ Rc c a ∧ Rc c b := by
  by_cases hr : Rc c a ∧ Rc c b
  · have k := (h.common).1 hr
    exact ⟨fun _ => hr, fun _ => (h.dm_rc k.1).1.1⟩
  · rw [(h.common).2 hr]
    exact ⟨fun k => by omega, fun k => absurd k hr⟩
end

theorem wrap_pred {n : Nat} (h0 : 0 < n) (h : n ≤ 9223372036854775807) : wrap64 ((n : Int) - 1) = ((n - 1 : Nat) : Int) := by
  unfold wrap64
  omega
theorem rd_getD (xs : List Int) (i : Nat) : rd xs (i : Int) = xs.getD i 0 := by
  show xs.getD (Int.toNat (i : Int)) 0 = _
  rw [Int.toNat_natCast]

end Go.Proofs.Ytemcmcnhpdkdfaa.P
