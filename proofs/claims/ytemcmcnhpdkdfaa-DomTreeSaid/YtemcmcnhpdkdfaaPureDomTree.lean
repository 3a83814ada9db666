/- Closest dominators are a tree: the plain law. -/
import Derived.Test.YtemcmcnhpdkdfaaGawake14
import Derived.Test.YtemcmcnhpdkdfaaPlawDomTree
namespace Go.Proofs.Ytemcmcnhpdkdfaa.P
open Go.RowKit Go.Lib Go.Proofs.YtemcmcnhpdkdfaaW.PrintWords

theorem countP_or {α : Type} (p q : α → Bool) : ∀ xs : List α, (∀ x ∈ xs, ¬ (p x = true ∧ q x = true)) → xs.countP (fun x => p x || q x) = xs.countP p + xs.countP q
  | [], _ => rfl
  | x :: xs, h => by
    have ih := countP_or p q xs (fun y hy => h y (List.mem_cons_of_mem _ hy))
    have hx := h x List.mem_cons_self
    rw [List.countP_cons, List.countP_cons, List.countP_cons, ih]
    cases hp : p x <;> cases hq : q x <;> simp_all <;> omega
theorem countP_one (n : Nat) (a : Nat) (ha : a < n) : (List.range n).countP (fun x => decide (x = a)) = 1 := by
  induction n with
  | zero => omega
  | succ n ih =>
    rw [List.range_succ, List.countP_append, List.countP_singleton]
    by_cases e : a = n
    · subst e
      have : (List.range a).countP (fun x => decide (x = a)) = 0 := by
        rw [List.countP_eq_zero]
        intro x hx
        have := List.mem_range.1 hx
        simp; omega
      rw [this]
      simp
    · rw [ih (by omega)]
      simp
      omega

section
variable {c : List (List Int)} {l : List Int}
theorem below_count (l : List Int) (a : Int) : (belowB l a).length = (List.range l.length).countP (fun x : Nat => decide (a ∈ chainB l (x : Int))) := by
  unfold belowB
  rw [List.length_map, List.countP_eq_length_filter]
theorem below_len (l : List Int) (a : Int) : (belowB l a).length ≤ l.length := by
  rw [below_count]
  have := List.countP_le_length (p := fun x : Nat => decide (a ∈ chainB l (x : Int))) (l := List.range l.length)
  rw [List.length_range] at this
  exact this
/-- Those right under one, counted with all that is below them. -/
def sumB (l : List Int) (a : Int) : Nat → Nat
  | 0 => 0
  | i + 1 => sumB l a i + if rd l (i : Int) = a then (belowB l (i : Int)).length else 0
theorem sumB_le (l : List Int) (a : Int) : ∀ i, sumB l a i ≤ i * l.length
  | 0 => by simp [sumB]
  | i + 1 => by
    rw [sumB, Nat.add_mul]
    have := sumB_le l a i
    have := below_len l (i : Int)
    split <;> omega
def undB (l : List Int) (a : Int) (i x : Nat) : Bool := (List.range i).any fun b => decide (rd l (b : Int) = a ∧ (b : Int) ∈ chainB l (x : Int))
theorem undB_iff (l : List Int) (a : Int) (i x : Nat) : undB l a i x = true ↔ ∃ b, b < i ∧ rd l (b : Int) = a ∧ (b : Int) ∈ chainB l (x : Int) := by
  unfold undB
  rw [List.any_eq_true]
  constructor
  · rintro ⟨b, hb, h⟩
    exact ⟨b, List.mem_range.1 hb, (of_decide_eq_true h)⟩
  · rintro ⟨b, hb, h⟩
    exact ⟨b, List.mem_range.2 hb, decide_eq_true h⟩
/-- Two that are right under one have nothing below both. -/
theorem IsDom.apart (h : IsDom c l) {a b b' x : Int} (hb : rd l b = a) (hb' : rd l b' = a) (ha : 0 ≤ a) (h1 : Dm c b x) (h2 : Dm c b' x) : b = b' := by
  have key : ∀ {b b' : Int}, rd l b = a → rd l b' = a → Dm c b x → Dm c b' x → Dm c b b' → b = b' := by
    intro b b' hb hb' h1 h2 k
    by_cases e : b = b'
    · exact e
    · exfalso
      have hr' := h.dm_rc h2
      have hr := h.dm_rc h1
      have hz : b' ≠ 0 := fun e => by rw [e, h.zero (by have := hr'.1.1; have := hr'.1.2; omega)] at hb'; omega
      have hz0 : b ≠ 0 := fun e => by rw [e, h.zero (by have := hr'.1.1; have := hr'.1.2; omega)] at hb; omega
      rcases (h.dm_par hr' hz).1 k with k | k
      · exact e k
      · rw [hb'] at k
        have k2 : Dm c a b := (h.dm_par hr hz0).2 (.inr (by rw [hb]; exact h.dm_refl.2 (by
          obtain ⟨p, _, q2, q3, q4⟩ := h.par b hr.1 hr.2 hz0
          rw [← hb, q2]; exact ⟨q3, q4⟩)))
        have e2 := h.dm_anti k k2
        obtain ⟨f, hf, _⟩ := h.rank
        obtain ⟨p, q1, q2, _, _⟩ := h.par b hr.1 hr.2 hz0
        have := hf b p q1
        rw [← q2, hb, ← e2] at this
        omega
  rcases h.dm_line h1 h2 with k | k
  · exact key hb hb' h1 h2 k
  · exact (key hb' hb h2 h1 k).symm
theorem IsDom.sum_count (h : IsDom c l) {a : Int} (ha : 0 ≤ a) : ∀ i, i ≤ l.length → sumB l a i = (List.range l.length).countP (undB l a i)
  | 0, _ => by
    rw [sumB]
    symm
    rw [List.countP_eq_zero]
    intro x _
    simp [undB]
  | i + 1, hi => by
    have hU : ∀ x, undB l a (i + 1) x = (undB l a i x || (decide (rd l (i : Int) = a ∧ (i : Int) ∈ chainB l (x : Int)))) := by
      intro x
      unfold undB
      rw [List.range_succ, List.any_append]
      simp
    have hfun : undB l a (i + 1) = fun x => (undB l a i x || (decide (rd l (i : Int) = a ∧ (i : Int) ∈ chainB l (x : Int)))) := funext hU
    rw [sumB, h.sum_count ha i (by omega), hfun, countP_or]
    · congr 1
      by_cases e : rd l (i : Int) = a
      · rw [if_pos e, below_count]
        simp only [e, true_and]
      · rw [if_neg e]
        symm
        rw [List.countP_eq_zero]
        intro x _
        simp [e]
    · intro x _ hx
      obtain ⟨b, hb, e1, e2⟩ := (undB_iff l a i x).1 hx.1
      have hx2 := of_decide_eq_true hx.2
      have := h.apart e1 hx2.1 ha (h.dm.1 e2) (h.dm.1 hx2.2)
      omega
theorem Up.under {T : Int → Option Int} {x a : Int} (hu : Up T x a) : x = a ∨ ∃ b, T b = some a ∧ Up T x b := by
  induction hu with
  | refl => exact .inl rfl
  | step h1 _ ih =>
    rcases ih with e | ⟨b, k1, k2⟩
    · subst e
      exact .inr ⟨_, h1, .refl _⟩
    · exact .inr ⟨b, k1, .step h1 k2⟩
theorem IsDom.below_sum (h : IsDom c l) {a : Int} (ha : Node c a) : (if rd l a = -2 then 0 else 1) + sumB l a l.length = (belowB l a).length := by
  obtain ⟨i, rfl⟩ : ∃ i : Nat, a = (i : Int) := ⟨a.toNat, by have := ha.1; omega⟩
  have hi : i < l.length := by rw [h.len]; have := ha.2; omega
  rw [h.sum_count ha.1 l.length (Nat.le_refl _), below_count]
  have e0 : (if rd l (i : Int) = -2 then 0 else 1) = (List.range l.length).countP (fun x => decide (x = i) && decide (¬ rd l (i : Int) = -2)) := by
    by_cases e : rd l (i : Int) = -2
    · rw [if_pos e]
      symm
      rw [List.countP_eq_zero]
      intro x _
      simp [e]
    · rw [if_neg e]
      rw [← countP_one l.length i hi]
      congr 1
      funext x
      simp [e]
  rw [e0, ← countP_or]
  · refine List.countP_congr (fun x hx => ?_)
    rw [Bool.or_eq_true, Bool.and_eq_true, decide_eq_true_iff, decide_eq_true_iff, undB_iff, decide_eq_true_iff]
    have hxl := List.mem_range.1 hx
    constructor
    · rintro (⟨e, k⟩ | ⟨b, hb, e1, e2⟩)
      · rw [e]
        exact h.dm.2 (h.dm_refl.2 ⟨ha, Classical.byContradiction fun hw => k (h.lost _ ha hw)⟩)
      · have hrb := h.dm_rc (h.dm.1 e2)
        have hz : (b : Int) ≠ 0 := fun e => by
          rw [e, h.zero (by have := ha.1; have := ha.2; omega)] at e1
          omega
        refine h.dm.2 (h.dm_trans ?_ (h.dm.1 e2))
        refine (h.dm_par hrb hz).2 (.inr ?_)
        rw [e1]
        obtain ⟨p, _, q2, q3, q4⟩ := h.par _ hrb.1 hrb.2 hz
        exact h.dm_refl.2 ⟨ha, by rw [← e1, q2]; exact q4⟩
    · intro k
      have hd := h.dm.1 k
      rcases (h.dm_up.1 hd).2.under with e | ⟨b, k1, k2⟩
      · have e' : x = i := by omega
        refine .inl ⟨e', ?_⟩
        have := h.rd0 hd.1
        rw [← e]
        exact this
      · have hrb := h.up_rc hd.1 k2
        have hb := h.idT_par hrb k1
        refine .inr ⟨b.toNat, ?_, ?_, ?_⟩
        · have := hrb.1.1; have := hrb.1.2; rw [h.len]; omega
        · rw [show ((b.toNat : Nat) : Int) = b from by have := hrb.1.1; omega]; exact hb.2.1
        · rw [show ((b.toNat : Nat) : Int) = b from by have := hrb.1.1; omega]
          exact h.dm.2 (h.dm_up.2 ⟨hd.1, k2⟩)
  · intro x _ hx
    obtain ⟨b, hb, e1, e2⟩ := (undB_iff l (i : Int) l.length x).1 hx.2
    rw [Bool.and_eq_true, decide_eq_true_iff] at hx
    have hxi := hx.1.1
    subst hxi
    -- b is under x and above it
    have k := h.dm.1 e2
    have hrb := h.dm_rc k
    have hz : (b : Int) ≠ 0 := fun e => by
      rw [e, h.zero (by have := ha.1; have := ha.2; omega)] at e1
      omega
    have k2 : Dm c (x : Int) (b : Int) := (h.dm_par hrb hz).2 (.inr (by rw [e1]; exact h.dm_refl.2 k.1))
    have e := h.dm_anti k k2
    obtain ⟨f, hf, _⟩ := h.rank
    obtain ⟨p, q1, q2, _, _⟩ := h.par _ hrb.1 hrb.2 hz
    have := hf _ p q1
    rw [← q2, e1, e] at this
    omega

/-- A way up: from one to the next, up to 0. -/
theorem IsDom.chain_steps (h : IsDom c l) {f : Int → Nat} (hf : ∀ b p, idT l b = some p → f p < f b) : ∀ (m : Nat) (b : Int), Rc c b → f b ≤ m →
    (∀ i : Nat, i < (chainB l b).length → Rc c ((chainB l b).getD i 0)) ∧ (∀ i : Nat, i + 1 < (chainB l b).length → (chainB l b).getD (i + 1) 0 = rd l ((chainB l b).getD i 0)) ∧ (chainB l b).getD ((chainB l b).length - 1) 0 = 0 ∧ (chainB l b).getD 0 0 = b ∧ 0 < (chainB l b).length := by
  intro m
  induction m with
  | zero =>
    intro b hb hm
    have e : b = 0 := Classical.byContradiction fun e => by
      obtain ⟨p, h1, _⟩ := h.par b hb.1 hb.2 e
      have := hf b p h1
      omega
    rw [h.chain_cons hb, if_pos e]
    refine ⟨fun i hi => ?_, fun i hi => by simp at hi, by simp [e], by simp, by simp⟩
    have : i = 0 := by simp at hi; omega
    subst this
    simpa using hb
  | succ m ih =>
    intro b hb hm
    by_cases e : b = 0
    · rw [h.chain_cons hb, if_pos e]
      refine ⟨fun i hi => ?_, fun i hi => by simp at hi, by simp [e], by simp, by simp⟩
      have : i = 0 := by simp at hi; omega
      subst this
      simpa using hb
    · obtain ⟨p, h1, h2, h3, h4⟩ := h.par b hb.1 hb.2 e
      have := hf b p h1
      obtain ⟨i1, i2, i3, i4, i5⟩ := ih p ⟨h3, h4⟩ (by omega)
      rw [h.chain_cons hb, if_neg e, h2]
      refine ⟨fun i hi => ?_, fun i hi => ?_, ?_, by simp, by simp⟩
      · cases i with
        | zero => simpa using hb
        | succ i =>
          rw [List.getD_cons_succ]
          exact i1 i (by rw [List.length_cons] at hi; omega)
      · cases i with
        | zero => rw [List.getD_cons_succ, List.getD_cons_zero, i4, h2]
        | succ i =>
          rw [List.getD_cons_succ, List.getD_cons_succ]
          exact i2 i (by rw [List.length_cons] at hi; omega)
      · rw [List.length_cons, Nat.add_sub_cancel]
        obtain ⟨q, hq⟩ : ∃ q, (chainB l p).length = q + 1 := ⟨(chainB l p).length - 1, by omega⟩
        rw [hq, List.getD_cons_succ]
        rw [hq, Nat.add_sub_cancel] at i3
        exact i3
end

theorem rd_getD (xs : List Int) (i : Nat) : rd xs (i : Int) = xs.getD i 0 := by
  show xs.getD (Int.toNat (i : Int)) 0 = _
  rw [Int.toNat_natCast]

theorem wrap_pred {n : Nat} (h0 : 0 < n) (h : n ≤ 9223372036854775807) : wrap64 ((n : Int) - 1) = ((n - 1 : Nat) : Int) := by
  unfold wrap64
  omega
theorem tree_l1 {c : List (List Int)} {l : List Int} (h : IsDom c l) (hln : l.length ≤ 900) {a : Int} (ha : Node c a) (s : Nat) (hs : s = (belowB l a).length) :
    ∀ d i : Nat, i + d = (chainB l a).length → Ev (fun k => bywashlaw14_DomTree.l1 k a true l (s : Int) (chainB l a) (i : Int)) true := by
  have hlen := chainB_len l a
  have haL : a < (l.length : Int) := by rw [h.len]; exact ha.2
  have hc : (chainB l a).length = 0 ∨ (Rc c a ∧ (∀ i : Nat, i < (chainB l a).length → Rc c ((chainB l a).getD i 0)) ∧ (∀ i : Nat, i + 1 < (chainB l a).length → (chainB l a).getD (i + 1) 0 = rd l ((chainB l a).getD i 0)) ∧ (chainB l a).getD ((chainB l a).length - 1) 0 = 0 ∧ (chainB l a).getD 0 0 = a ∧ 0 < (chainB l a).length) := by
    by_cases hr : Rc c a
    · obtain ⟨f, hf, _⟩ := h.rank
      exact .inr ⟨hr, h.chain_steps hf (f a) a hr (Nat.le_refl _)⟩
    · exact .inl (by rw [h.chain_nil hr]; rfl)
  have hlast : (((chainB l a).length : Int) == 0) = (rd l a == -2) := by
    rw [Bool.eq_iff_iff, beq_iff_eq, beq_iff_eq]
    rcases hc with e | e
    · refine ⟨fun _ => ?_, fun _ => by omega⟩
      refine h.lost a ha (fun hw => ?_)
      have := h.chain_cons ⟨ha, hw⟩
      rw [this] at e
      simp at e
    · refine ⟨fun k => by have := e.2.2.2.2.2; omega, fun k => absurd k (h.rd0 e.1)⟩
  obtain ⟨ch, hch⟩ : ∃ ch, ch = chainB l a := ⟨_, rfl⟩
  rw [← hch] at hlen hc hlast ⊢
  intro d
  induction d with
  | zero =>
    intro i hd
    refine Ev.step (f := fun k => (dom_Below.f k l a).bind fun t => if (s : Int) = (t.length : Int) then (if 0 ≤ a then (if a < (l.length : Int) then some (((ch.length : Int) == 0) == (rd l a == -2)) else none) else none) else some false) (fun k => by rw [bywashlaw14_DomTree.l1, if_neg (by omega), if_pos rfl]) ?_
    refine Ev.bind (below_ev l (by omega) a) ?_
    simp only [hs, if_true, if_pos ha.1, if_pos haL, hlast, beq_self_eq_true]
    exact Ev.now _
  | succ d ih =>
    intro i hd
    have hi : i < ch.length := by omega
    rcases hc with e | ⟨hr, q1, q2, q3, q4, q5⟩
    · omega
    · have next := ih (i + 1) (by omega)
      refine Ev.step (f := fun k => bywashlaw14_DomTree.l1 k a true l (s : Int) ch ((i + 1 : Nat) : Int)) (fun k => ?_) next
      have o1 : (i : Int) < (ch.length : Int) := by omega
      have o2 : (0 : Int) ≤ (i : Int) := by omega
      cases i with
      | zero =>
        have o3 : ((0 : Nat) : Int) = 0 := rfl
        have o4 : ¬ ((0 : Nat) : Int) > 0 := by omega
        have e0 : ((0 : Nat) : Int) = ((ch.length - 1 : Nat) : Int) → ch.length - 1 = 0 := fun h => by omega
        rw [bywashlaw14_DomTree.l1, if_pos o1, if_pos o3, if_pos o2, rd_getD, q4, if_pos rfl, if_neg o4, wrap_pred q5 (by omega), wrap_succ (by omega)]
        by_cases el : ((0 : Nat) : Int) = ((ch.length - 1 : Nat) : Int)
        · have e1 := e0 el
          rw [e1, q4] at q3
          rw [if_pos el, if_pos q3]
        · rw [if_neg el]
      | succ j =>
        have hj := q1 j (by omega)
        have hjn := hj.1
        have o3 : ¬ ((j + 1 : Nat) : Int) = 0 := by omega
        have o4 : ((j + 1 : Nat) : Int) > 0 := by omega
        have o5 : (0 : Int) ≤ (j : Int) := by omega
        have o6 : (j : Int) < (ch.length : Int) := by omega
        have o7 : ch.getD j 0 < (l.length : Int) := by rw [h.len]; exact hjn.2
        have e0 : ((j + 1 : Nat) : Int) = ((ch.length - 1 : Nat) : Int) → ch.length - 1 = j + 1 := fun h => by omega
        have o8 := q2 j (by omega)
        rw [bywashlaw14_DomTree.l1, if_pos o1, if_neg o3, if_pos o4, if_pos o2, wrap_pred (n := j + 1) (by omega) (by omega), Nat.add_sub_cancel, if_pos o5, if_pos o6, rd_getD, rd_getD, if_pos hjn.1, if_pos o7, if_pos o8, wrap_pred q5 (by omega), wrap_succ (i := j + 1) (by omega)]
        by_cases el : ((j + 1 : Nat) : Int) = ((ch.length - 1 : Nat) : Int)
        · have e1 := e0 el
          rw [e1] at q3
          rw [if_pos el, if_pos q3]
        · rw [if_neg el]

theorem tree_l0 {c : List (List Int)} {l : List Int} (h : IsDom c l) (hln : l.length ≤ 900) {a : Int} (ha : Node c a) (n0 : Nat) (h0 : n0 = if rd l a = -2 then 0 else 1) :
    ∀ d i : Nat, i + d = l.length → Ev (fun k => bywashlaw14_DomTree.l0 k a true l ((n0 + sumB l a i : Nat) : Int) (i : Int)) true := by
  have hn0 : n0 ≤ 1 := by rw [h0]; split <;> omega
  intro d
  induction d with
  | zero =>
    intro i hd
    obtain rfl : i = l.length := by omega
    refine Ev.step (f := fun k => (dom_Chain.f k l a).bind fun t => bywashlaw14_DomTree.l1 k a true l ((n0 + sumB l a l.length : Nat) : Int) t ((0 : Nat) : Int)) (fun k => by rw [bywashlaw14_DomTree.l0, if_neg (by omega)]; rfl) ?_
    refine Ev.bind (chain_ev l (by omega) a) ?_
    exact tree_l1 h hln ha _ (by rw [h0]; exact h.below_sum ha) (chainB l a).length 0 (by omega)
  | succ d ih =>
    intro i hd
    have hi : i < l.length := by omega
    have next := ih (i + 1) (by omega)
    have hw := wrap_succ (i := i) (by omega)
    have hle := sumB_le l a i
    have hle2 : i * l.length ≤ 900 * 900 := Nat.mul_le_mul (by omega) hln
    have hbl := below_len l (i : Int)
    rw [sumB] at next
    by_cases e : rd l (i : Int) = a
    · rw [if_pos e] at next
      refine Ev.step (f := fun k => (dom_Below.f k l (i : Int)).bind fun t => bywashlaw14_DomTree.l0 k a true l (wrap64 (((n0 + sumB l a i : Nat) : Int) + (t.length : Int))) ((i + 1 : Nat) : Int)) (fun k => by rw [bywashlaw14_DomTree.l0, if_pos (by omega), if_pos (by omega), if_pos e, hw]) ?_
      refine Ev.bind (below_ev l (by omega) _) ?_
      have : wrap64 (((n0 + sumB l a i : Nat) : Int) + ((belowB l (i : Int)).length : Int)) = ((n0 + (sumB l a i + (belowB l (i : Int)).length) : Nat) : Int) := by unfold wrap64; omega
      rw [this]
      exact next
    · rw [if_neg e, Nat.add_zero] at next
      exact Ev.step (fun k => by rw [bywashlaw14_DomTree.l0, if_pos (by omega), if_pos (by omega), if_neg e, hw]) next

theorem DomTree_pure (l0 : List (List Int)) (a1 : Int) (hb : l0.length ≤ 9223372036854775807) (_hw : ∀ r ∈ l0, r.length ≤ 9223372036854775807 ∧ ∀ y ∈ r, (Lit.int .i64 y).wf = true) (_ : (Lit.int .i64 a1).wf = true) :
    ∃ k, bywashlaw14_DomTree.f k l0 a1 = some true := by
  refine Ev.rounds (g := fun k => bywashlaw14_DomTree.f k l0 a1) ?_
  unfold bywashlaw14_DomTree.f
  refine Ev.bind awake14_ev ?_
  refine Ev.bind (few_ev l0 hb) ?_
  by_cases hf : few l0 = true
  · simp only [hf, if_true]
    have hs := few_small hf
    obtain ⟨l, hl, h⟩ := idoms_now hs
    have hll : l.length = l0.length := by rw [h.len, clean_len]
    have hln : l.length ≤ 900 := by rw [hll]; exact hs.2
    refine Ev.bind hl ?_
    refine Ev.bind (sane_ev l (by omega)) ?_
    simp only [h.sane, if_true]
    rw [show ((l.length : Int) != (l0.length : Int)) = false from by simp [hll]]
    have out : ¬ Node (clean l0) a1 → Ev (fun k => bywashlaw14_DomTree.j1 k a1 true l true) true := by
      intro hn
      have hr : ¬ Rc (clean l0) a1 := fun k => hn k.1
      refine Ev.step (f := fun k => (dom_Below.f k l a1).bind fun t => if (t.length : Int) = 0 then (dom_Chain.f k l a1).bind fun u => some ((u.length : Int) == 0) else some false) (fun k => by rw [bywashlaw14_DomTree.j1, if_pos rfl, if_pos rfl]) ?_
      refine Ev.bind (below_ev l (by omega) a1) ?_
      have e1 : belowB l a1 = [] := by
        unfold belowB
        rw [List.map_eq_nil_iff, List.filter_eq_nil_iff]
        intro x _
        simp only [decide_eq_true_eq]
        exact fun k => hr (h.dm_rc (h.dm.1 k))
      rw [e1]
      simp only [List.length_nil, if_pos (show ((0 : Nat) : Int) = 0 from rfl)]
      refine Ev.bind (chain_ev l (by omega) a1) ?_
      rw [h.chain_nil hr]
      exact Ev.now _
    by_cases h1 : a1 < 0
    · exact Ev.step (fun k => by rw [bywashlaw14_DomTree.j0, if_neg (by simp), if_pos h1]) (out (fun hn => by have := hn.1; omega))
    · by_cases h2 : a1 ≥ (l0.length : Int)
      · exact Ev.step (fun k => by rw [bywashlaw14_DomTree.j0, if_neg (by simp), if_neg h1, decide_eq_true h2]) (out (fun hn => by have := hn.2; rw [clean_len] at this; omega))
      · have hn : Node (clean l0) a1 := ⟨by omega, by rw [clean_len]; omega⟩
        refine Ev.step (f := fun k => bywashlaw14_DomTree.j1 k a1 true l false) (fun k => by rw [bywashlaw14_DomTree.j0, if_neg (by simp), if_neg h1, decide_eq_false h2]) ?_
        have fin : ∀ n0 : Nat, (n0 = if rd l a1 = -2 then 0 else 1) → Ev (fun k => bywashlaw14_DomTree.j2 k a1 true l (n0 : Int)) true := by
          intro n0 h0
          have := tree_l0 h hln hn n0 h0 l.length 0 (by omega)
          rw [sumB, Nat.add_zero] at this
          exact Ev.step (f := fun k => bywashlaw14_DomTree.l0 k a1 true l (n0 : Int) ((0 : Nat) : Int)) (fun k => by rw [bywashlaw14_DomTree.j2]; rfl) this
        by_cases e : rd l a1 = -2
        · exact Ev.step (fun k => by rw [bywashlaw14_DomTree.j1, if_neg (by simp), if_pos (by omega), if_pos (by omega), if_pos e]; rfl) (fin 0 (by rw [if_pos e]))
        · exact Ev.step (fun k => by rw [bywashlaw14_DomTree.j1, if_neg (by simp), if_pos (by omega), if_pos (by omega), if_neg e]; rfl) (fin 1 (by rw [if_neg e]))
  · simp only [hf]
    exact Ev.now _

end Go.Proofs.Ytemcmcnhpdkdfaa.P
