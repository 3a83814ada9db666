/- The reference of layer 10: what is cleaned, and what is reached, by definition. Plain laws. -/
import Derived.Test.YtemcmcnhpdkdfaaGrefs
namespace Go.Proofs.Ytemcmcnhpdkdfaa.P
open Go.RowKit Go.Lib Go.Proofs.YtemcmcnhpdkdfaaW.PrintWords

/-! #### bywashref10.Clean -/
theorem nodes_snoc (n : Nat) : nodes (n + 1) = nodes n ++ [(n : Int)] := by simp [nodes, List.range_succ]
theorem nodes_take {n i : Nat} (h : i ≤ n) : (nodes n).take i = nodes i := by
  unfold nodes
  rw [← List.map_take, List.take_range, Nat.min_eq_left h]
theorem cleanRow_filter (n : Nat) (l : List Int) : cleanRow n l = (nodes n).filter fun b => decide (b ∈ l) := by
  refine cleanRow_eq ((nodes_rise n).filter _) (fun x => ?_)
  rw [List.mem_filter, mem_nodes, decide_eq_true_iff]
  exact and_comm
theorem refclean_l1 (g : List (List Int)) (hn : g.length ≤ 900) (hr : ∀ r ∈ g, r.length ≤ 900) (out : List (List Int)) (ho : out.length ≤ 900) (a : Nat) (ha : a < g.length) (r : List (List Int))
    (hk : Ev (fun k => bywashref10_Clean.l0 k g (out ++ [cleanRow g.length g[a]]) ((a + 1 : Nat) : Int)) r) : ∀ d i : Nat, i + d = g.length → Ev (fun k => bywashref10_Clean.l1 k g out (a : Int) ((nodes i).filter fun b => decide (b ∈ g[a])) (i : Int)) r := by
  have hw : wrap64 ((a : Int) + 1) = ((a + 1 : Nat) : Int) := wrap_succ (by omega)
  intro d
  induction d with
  | zero =>
    intro i hd
    obtain rfl : i = g.length := by omega
    rw [cleanRow_filter] at hk
    exact Ev.step (fun k => by rw [bywashref10_Clean.l1, if_neg (by omega), if_pos (by omega), hw]) hk
  | succ d ih =>
    intro i hd
    have hi : i < g.length := by omega
    have next := ih (i + 1) (by omega)
    have hf := List.length_filter_le (fun b => decide (b ∈ g[a])) (nodes i)
    rw [nodes_len] at hf
    refine Ev.step (f := fun k => (bywashref10_Has.f k g[a] (i : Int)).bind fun t => if t = true then (if ((nodes i).filter fun b => decide (b ∈ g[a])).length < 17592186044416 then bywashref10_Clean.l1 k g out (a : Int) (((nodes i).filter fun b => decide (b ∈ g[a])) ++ [(i : Int)]) ((i + 1 : Nat) : Int) else none) else bywashref10_Clean.l1 k g out (a : Int) ((nodes i).filter fun b => decide (b ∈ g[a])) ((i + 1 : Nat) : Int)) (fun k => by rw [bywashref10_Clean.l1, if_pos (by omega), if_pos (by omega), if_pos (by omega), rdL1_nat ha, wrap_succ (by omega)]) ?_
    refine Ev.bind (has_ev g[a] (i : Int) (by have := hr g[a] (List.getElem_mem ha); omega)) ?_
    rw [nodes_snoc, List.filter_append] at next
    by_cases e : (i : Int) ∈ g[a]
    · simp only [decide_eq_true e, if_true, if_pos (show ((nodes i).filter fun b => decide (b ∈ g[a])).length < 17592186044416 by omega)]
      rw [List.filter_cons_of_pos (by exact decide_eq_true e), List.filter_nil] at next
      exact next
    · simp only [decide_eq_false e, Bool.false_eq_true, if_false]
      rw [List.filter_cons_of_neg (by simpa using e), List.filter_nil, List.append_nil] at next
      exact next
theorem refclean_l0 (g : List (List Int)) (hn : g.length ≤ 900) (hr : ∀ r ∈ g, r.length ≤ 900) : ∀ d i : Nat, i + d = g.length → Ev (fun k => bywashref10_Clean.l0 k g ((clean g).take i) (i : Int)) (clean g) := by
  intro d
  induction d with
  | zero =>
    intro i hd
    rw [List.take_of_length_le (by rw [clean_len]; omega)]
    exact Ev.step (f := fun _ => some (clean g)) (fun k => by rw [bywashref10_Clean.l0, if_neg (by omega)]) (Ev.now _)
  | succ d ih =>
    intro i hd
    have hi : i < g.length := by omega
    have next := ih (i + 1) (by omega)
    rw [List.take_succ_eq_append_getElem (by rw [clean_len]; exact hi)] at next
    have e : (clean g)[i]'(by rw [clean_len]; exact hi) = cleanRow g.length g[i] := by simp [clean]
    rw [e] at next
    have h1 := refclean_l1 g hn hr ((clean g).take i) (by rw [List.length_take]; omega) i hi (clean g) next g.length 0 (by omega)
    refine Ev.step (f := fun k => bywashref10_Clean.l1 k g ((clean g).take i) (i : Int) ((nodes 0).filter fun b => decide (b ∈ g[i])) ((0 : Nat) : Int)) (fun k => by rw [bywashref10_Clean.l0, if_pos (by omega)]; rfl) h1
theorem refclean_ev (g : List (List Int)) (hn : g.length ≤ 900) (hr : ∀ r ∈ g, r.length ≤ 900) : Ev (fun k => bywashref10_Clean.f k g) (clean g) := by
  have := refclean_l0 g hn hr g.length 0 (by omega)
  rw [List.take_zero] at this
  exact this

/-! #### bywashref10.Reach -/
/-- What follows a node that is there is there. -/
def stepN (c : List (List Int)) (m : List Bool) (a : Nat) : List Bool := if m.getD a false = true then (row c (a : Int)).foldl (fun m b => m.set b.toNat true) m else m
def passN (c : List (List Int)) (n : Nat) (m : List Bool) : List Bool := (List.range n).foldl (stepN c) m
def itN (c : List (List Int)) (n : Nat) : Nat → List Bool → List Bool
  | 0, m => m
  | k + 1, m => itN c n k (passN c n m)
theorem stepN_len (c : List (List Int)) (m : List Bool) (a : Nat) : (stepN c m a).length = m.length := by
  unfold stepN
  split
  · exact foldl_set_len _ _
  · rfl
theorem foldl_stepN_len (c : List (List Int)) : ∀ (l : List Nat) (m : List Bool), (l.foldl (stepN c) m).length = m.length
  | [], _ => rfl
  | a :: l, m => by rw [List.foldl_cons, foldl_stepN_len c l, stepN_len]
theorem getD_set_true (m : List Bool) (i j : Nat) : (m.set i true).getD j false = true ↔ m.getD j false = true ∨ (i = j ∧ j < m.length) := by
  rw [List.getD_eq_getElem?_getD, List.getElem?_set, List.getD_eq_getElem?_getD]
  by_cases e : i = j
  · subst e
    rw [if_pos rfl]
    by_cases h : i < m.length
    · simp [h]
    · rw [if_neg h, List.getElem?_eq_none (by omega)]
      simp [h]
  · rw [if_neg e]
    simp [e]
theorem foldl_set_getD : ∀ (l : List Int) (m : List Bool) (j : Nat), (l.foldl (fun m b => m.set b.toNat true) m).getD j false = true ↔ m.getD j false = true ∨ (j < m.length ∧ ∃ b ∈ l, b.toNat = j)
  | [], m, j => by simp
  | b :: l, m, j => by
    rw [List.foldl_cons, foldl_set_getD l, getD_set_true, List.length_set]
    constructor
    · rintro ((h | ⟨h1, h2⟩) | ⟨h1, b', h2, h3⟩)
      · exact .inl h
      · exact .inr ⟨h2, b, List.mem_cons_self, h1⟩
      · exact .inr ⟨h1, b', List.mem_cons_of_mem _ h2, h3⟩
    · rintro (h | ⟨h1, b', h2, h3⟩)
      · exact .inl (.inl h)
      · rcases List.mem_cons.1 h2 with rfl | h2
        · exact .inl (.inr ⟨h3, h1⟩)
        · exact .inr ⟨h1, b', h2, h3⟩
theorem stepN_mono (c : List (List Int)) (m : List Bool) (a j : Nat) (h : m.getD j false = true) : (stepN c m a).getD j false = true := by
  unfold stepN
  split
  · exact (foldl_set_getD _ _ _).2 (.inl h)
  · exact h
theorem foldl_stepN_mono (c : List (List Int)) : ∀ (l : List Nat) (m : List Bool) (j : Nat), m.getD j false = true → (l.foldl (stepN c) m).getD j false = true
  | [], _, _, h => h
  | a :: l, m, j, h => by rw [List.foldl_cons]; exact foldl_stepN_mono c l _ j (stepN_mono c m a j h)
theorem foldl_stepN_does (c : List (List Int)) : ∀ (l : List Nat) (m : List Bool) (a j : Nat), a ∈ l → m.getD a false = true → j < m.length → (∃ b ∈ row c (a : Int), b.toNat = j) → (l.foldl (stepN c) m).getD j false = true
  | [], _, _, _, h, _, _, _ => by simp at h
  | x :: l, m, a, j, h, hm, hj, hb => by
    rw [List.foldl_cons]
    by_cases e : a = x
    · subst e
      refine foldl_stepN_mono c l _ j ?_
      unfold stepN
      rw [if_pos hm]
      exact (foldl_set_getD _ _ _).2 (.inr ⟨hj, hb⟩)
    · refine foldl_stepN_does c l _ a j ?_ (stepN_mono c m x a hm) (by rw [stepN_len]; exact hj) hb
      rcases List.mem_cons.1 h with h | h
      · exact absurd h e
      · exact h
theorem foldl_stepN_sound {c : List (List Int)} {P : Int → Prop} (hc : ∀ a b, P a → b ∈ row c a → P b) (hv : ∀ a b, b ∈ row c a → 0 ≤ b) : ∀ (l : List Nat) (m : List Bool), (∀ j : Nat, m.getD j false = true → P (j : Int)) → ∀ j : Nat, (l.foldl (stepN c) m).getD j false = true → P (j : Int)
  | [], _, h => h
  | a :: l, m, h => by
    rw [List.foldl_cons]
    refine foldl_stepN_sound hc hv l _ (fun j hj => ?_)
    unfold stepN at hj
    split at hj
    · rename_i ha
      rcases (foldl_set_getD _ _ _).1 hj with k | ⟨_, b, hb, e⟩
      · exact h j k
      · have := hv _ _ hb
        rw [show (j : Int) = b by omega]
        exact hc _ _ (h a ha) hb
    · exact h j hj
/-- What is marked is closed. -/
def ClosedN (c : List (List Int)) (n : Nat) (m : List Bool) : Prop := ∀ a j : Nat, a < n → j < n → m.getD a false = true → (∃ b ∈ row c (a : Int), b.toNat = j) → m.getD j false = true
theorem bools_eq {m m' : List Bool} (hl : m.length = m'.length) (h : ∀ j, j < m.length → (m.getD j false = true ↔ m'.getD j false = true)) : m = m' := by
  refine List.ext_getElem hl (fun i h1 h2 => ?_)
  have := h i h1
  rw [List.getD_eq_getElem?_getD, List.getElem?_eq_getElem h1, List.getD_eq_getElem?_getD, List.getElem?_eq_getElem h2] at this
  simp only [Option.getD_some] at this
  rw [Bool.eq_iff_iff]
  exact this
theorem foldl_stepN_closed {c : List (List Int)} {n : Nat} {m : List Bool} (hl : m.length = n) (hc : ClosedN c n m) : ∀ l : List Nat, (∀ a ∈ l, a < n) → l.foldl (stepN c) m = m
  | [], _ => rfl
  | a :: l, h => by
    have e : stepN c m a = m := by
      refine bools_eq (stepN_len _ _ _) (fun j hj => ⟨fun k => ?_, stepN_mono c m a j⟩)
      rw [stepN_len] at hj
      unfold stepN at k
      split at k
      · rename_i ha
        rcases (foldl_set_getD _ _ _).1 k with k | ⟨_, hb⟩
        · exact k
        · exact hc a j (h a List.mem_cons_self) (by omega) ha hb
      · exact k
    rw [List.foldl_cons, e]
    exact foldl_stepN_closed hl hc l (fun x hx => h x (List.mem_cons_of_mem _ hx))
theorem count_lt {m m' : List Bool} (hl : m.length = m'.length) (h : ∀ j, m.getD j false = true → m'.getD j false = true) : m.count true ≤ m'.count true ∧ (m.count true = m'.count true → m = m') := by
  induction m generalizing m' with
  | nil =>
    cases m' with
    | nil => exact ⟨Nat.le_refl _, fun _ => rfl⟩
    | cons b m' => simp at hl
  | cons a m ih =>
    cases m' with
    | nil => simp at hl
    | cons b m' =>
      have i := ih (m' := m') (by simpa using hl) (fun j hj => by have := h (j + 1); simp only [List.getD_cons_succ] at this; exact this hj)
      have h0 := h 0
      simp only [List.getD_cons_zero] at h0
      rw [List.count_cons, List.count_cons]
      cases a <;> cases b <;> simp at h0 ⊢
      · exact ⟨i.1, i.2⟩
      · have := i.1; omega
      · exact ⟨i.1, i.2⟩
theorem passN_or {c : List (List Int)} {n : Nat} {m : List Bool} (hl : m.length = n) : ClosedN c n m ∨ m.count true < (passN c n m).count true := by
  have hlen : (passN c n m).length = m.length := foldl_stepN_len c _ m
  have k := count_lt hlen.symm (foldl_stepN_mono c (List.range n) m)
  by_cases e : m.count true = (passN c n m).count true
  · refine .inl (fun a j ha hj hm hb => ?_)
    have e2 := k.2 e
    have := foldl_stepN_does c (List.range n) m a j (List.mem_range.2 ha) hm (by omega) hb
    rw [e2]
    exact this
  · have := k.1
    exact .inr (by unfold passN at *; omega)
theorem itN_closed {c : List (List Int)} {n : Nat} : ∀ (k : Nat) (m : List Bool), m.length = n → (ClosedN c n m ∨ n < k + m.count true) → ClosedN c n (itN c n k m)
  | 0, m, hl, h => by
    rcases h with h | h
    · exact h
    · have := List.count_le_length (a := true) (l := m)
      omega
  | k + 1, m, hl, h => by
    have hlen : (passN c n m).length = n := (foldl_stepN_len c _ m).trans hl
    rw [itN]
    refine itN_closed k _ hlen ?_
    rcases h with h | h
    · left
      have e : passN c n m = m := foldl_stepN_closed hl h _ (fun a ha => List.mem_range.1 ha)
      rw [e]
      exact h
    · rcases passN_or (c := c) hl with q | q
      · left
        have e : passN c n m = m := foldl_stepN_closed hl q _ (fun a ha => List.mem_range.1 ha)
        rw [e]
        exact q
      · right; omega
theorem itN_len (c : List (List Int)) (n : Nat) : ∀ (k : Nat) (m : List Bool), (itN c n k m).length = m.length
  | 0, _ => rfl
  | k + 1, m => by rw [itN, itN_len c n k]; exact foldl_stepN_len c _ m
theorem itN_mono (c : List (List Int)) (n : Nat) : ∀ (k : Nat) (m : List Bool) (j : Nat), m.getD j false = true → (itN c n k m).getD j false = true
  | 0, _, _, h => h
  | k + 1, m, j, h => by rw [itN]; exact itN_mono c n k _ j (foldl_stepN_mono c _ m j h)
theorem itN_sound {c : List (List Int)} {n : Nat} {P : Int → Prop} (hc : ∀ a b, P a → b ∈ row c a → P b) (hv : ∀ a b, b ∈ row c a → 0 ≤ b) : ∀ (k : Nat) (m : List Bool), (∀ j : Nat, m.getD j false = true → P (j : Int)) → ∀ j : Nat, (itN c n k m).getD j false = true → P (j : Int)
  | 0, _, h => h
  | k + 1, m, h => by rw [itN]; exact itN_sound hc hv k _ (foldl_stepN_sound hc hv _ m h)

/-- What is there at first. -/
def startN (n : Nat) (a : Int) : List Bool := if isN n a = true then (List.replicate n false).set a.toNat true else List.replicate n false
theorem startN_len (n : Nat) (a : Int) : (startN n a).length = n := by
  unfold startN
  split <;> simp
theorem startN_get (n : Nat) (a : Int) (j : Nat) : (startN n a).getD j false = true ↔ isN n a = true ∧ a = (j : Int) := by
  have e0 : (List.replicate n false).getD j false = true ↔ False := by
    rw [List.getD_eq_getElem?_getD, List.getElem?_replicate]
    split <;> simp
  unfold startN
  by_cases h : isN n a = true
  · rw [if_pos h, getD_set_true, e0, List.length_replicate]
    have := isN_iff.1 h
    constructor
    · rintro (k | ⟨k1, _⟩)
      · exact k.elim
      · exact ⟨h, by omega⟩
    · rintro ⟨_, k⟩
      exact .inr ⟨by omega, by omega⟩
  · rw [if_neg h, e0]
    exact ⟨fun k => k.elim, fun k => h k.1⟩
/-- What the reference tells is there, is what there is a way to. -/
def reachN (c : List (List Int)) (n : Nat) (a : Int) : List Bool := itN c n n (startN n a)
theorem reachN_len (c : List (List Int)) (n : Nat) (a : Int) : (reachN c n a).length = n := by unfold reachN; rw [itN_len, startN_len]
theorem reachN_get {c : List (List Int)} (hv : Valid c) {a : Int} {j : Nat} : (reachN c c.length a).getD j false = true ↔ Node c a ∧ Way c a (j : Int) := by
  have hn : ∀ a, isN c.length a = true ↔ Node c a := fun a => isN_iff
  constructor
  · intro h
    exact itN_sound (P := fun x => Node c a ∧ Way c a x) (fun x y hx he => ⟨hx.1, hx.2.trans (.edge he)⟩) (fun x y he => (row_node hv he).1) c.length _ (fun j hj => by
      obtain ⟨h1, h2⟩ := (startN_get c.length a j).1 hj
      exact ⟨(hn a).1 h1, by rw [h2]; exact .refl _⟩) j h
  · rintro ⟨h1, h2⟩
    have hcl : ClosedN c c.length (reachN c c.length a) := by
      refine itN_closed c.length _ (startN_len _ _) (.inr ?_)
      have : 0 < (startN c.length a).count true := by
        rw [List.count_pos_iff]
        have := (startN_get c.length a a.toNat).2 ⟨(hn a).2 h1, by have := h1.1; omega⟩
        rw [List.getD_eq_getElem?_getD] at this
        cases hx : (startN c.length a)[a.toNat]? with
        | none => rw [hx] at this; simp at this
        | some b =>
          rw [hx] at this
          simp only [Option.getD_some] at this
          rw [← this]
          exact List.mem_of_getElem? hx
      omega
    have key : ∀ x, Way c a x → Node c x ∧ (reachN c c.length a).getD x.toNat false = true := by
      intro x hx
      have := hx.closed (P := fun x => Node c x ∧ (reachN c c.length a).getD x.toNat false = true) (fun x y hx he => by
        have hy := row_node hv he
        refine ⟨hy, hcl x.toNat y.toNat ?_ ?_ hx.2 ⟨y, ?_, rfl⟩⟩
        · have := hx.1.1; have := hx.1.2; omega
        · have := hy.1; have := hy.2; omega
        · rw [show ((x.toNat : Nat) : Int) = x from by have := hx.1.1; omega]; exact he) ⟨h1, itN_mono c _ _ _ _ ((startN_get c.length a a.toNat).2 ⟨(hn a).2 h1, by have := h1.1; omega⟩)⟩
      exact this
    have := (key _ h2).2
    rwa [Int.toNat_natCast] at this

theorem refreach_l2 {x0 c : List (List Int)} (hn : x0.length ≤ 900) (hcl : c.length = x0.length) (hv : Valid c) (hr : ∀ r ∈ c, r.length ≤ 900) (nr a : Nat) (ha : a < c.length) (m : List Bool) (hml : m.length = c.length) (r : List Bool)
    (hk : Ev (fun k => bywashref10_Reach.l1 k x0 (stepN c m a) c (nr : Int) ((a + 1 : Nat) : Int)) r) : ∀ d i : Nat, i + d = (row c (a : Int)).length → ∀ m' : List Bool, m' = (if m.getD a false = true then ((row c (a : Int)).take i).foldl (fun m b => m.set b.toNat true) m else m) → Ev (fun k => bywashref10_Reach.l2 k x0 m' c (nr : Int) (a : Int) (i : Int)) r := by
  have hrow : rd_L1 c (a : Int) = row c (a : Int) := rfl
  have hrl : (row c (a : Int)).length ≤ 900 := by
    unfold row
    rw [Int.toNat_natCast, List.getD_eq_getElem?_getD, List.getElem?_eq_getElem ha]
    exact hr _ (List.getElem_mem ha)
  intro d
  induction d with
  | zero =>
    intro i hd m' hm'
    rw [List.take_of_length_le (by omega)] at hm'
    have e : m' = stepN c m a := by rw [hm']; rfl
    rw [e]
    exact Ev.step (fun k => by rw [bywashref10_Reach.l2, if_pos (by omega), if_pos (by omega), if_neg (by rw [hrow]; omega), wrap_succ (by omega)]) hk
  | succ d ih =>
    intro i hd m' hm'
    have hi : i < (row c (a : Int)).length := by omega
    have hml' : m'.length = c.length := by
      rw [hm']
      split
      · rw [foldl_set_len, hml]
      · exact hml
    have hrd : rdOf false m' (a : Int) = m'.getD a false := by
      rw [rdOf_nat (by omega), List.getD_eq_getElem?_getD, List.getElem?_eq_getElem (by omega)]
      rfl
    by_cases hma : m.getD a false = true
    · have hma' : m'.getD a false = true := by
        rw [hm', if_pos hma]
        exact (foldl_set_getD _ _ _).2 (.inl hma)
      have hnode := row_node hv (List.getElem_mem hi)
      refine Ev.step (f := fun k => bywashref10_Reach.l2 k x0 (m'.set ((row c (a : Int))[i]).toNat true) c (nr : Int) (a : Int) ((i + 1 : Nat) : Int)) (fun k => by rw [bywashref10_Reach.l2, if_pos (by omega), if_pos (by omega), hrow, if_pos (by omega), if_pos (by omega), hrd, if_pos hma', if_pos (by omega), rd_nat' hi, if_pos hnode.1, if_pos (by rw [hml']; exact hnode.2), wrap_succ (by omega)]) ?_
      refine ih (i + 1) (by omega) _ ?_
      rw [if_pos hma] at hm' ⊢
      rw [hm', List.take_succ_eq_append_getElem hi, List.foldl_append]
      rfl
    · rw [if_neg hma] at hm'
      subst hm'
      have e : m' = stepN c m' a := by unfold stepN; rw [if_neg hma]
      rw [← e] at hk
      exact Ev.step (fun k => by rw [bywashref10_Reach.l2, if_pos (by omega), if_pos (by omega), hrow, if_pos (by omega), if_pos (by omega), hrd, if_neg hma, wrap_succ (by omega)]) hk
theorem refreach_l1 {x0 c : List (List Int)} (hn : x0.length ≤ 900) (hcl : c.length = x0.length) (hv : Valid c) (hr : ∀ r ∈ c, r.length ≤ 900) (nr : Nat) (hnr : nr ≤ 900) (r : List Bool) : ∀ d i : Nat, i + d = c.length → ∀ m : List Bool, m.length = c.length →
    Ev (fun k => bywashref10_Reach.l0 k x0 (((List.range c.length).drop i).foldl (stepN c) m) c ((nr + 1 : Nat) : Int)) r → Ev (fun k => bywashref10_Reach.l1 k x0 m c (nr : Int) (i : Int)) r := by
  intro d
  induction d with
  | zero =>
    intro i hd m hm hk
    rw [List.drop_eq_nil_of_le (by simp; omega), List.foldl_nil] at hk
    exact Ev.step (fun k => by rw [bywashref10_Reach.l1, if_neg (by omega), wrap_succ (by omega)]) hk
  | succ d ih =>
    intro i hd m hm hk
    have hi : i < c.length := by omega
    rw [List.drop_eq_getElem_cons (by simpa using hi), List.foldl_cons] at hk
    simp only [List.getElem_range] at hk
    have next := ih (i + 1) (by omega) (stepN c m i) (by rw [stepN_len, hm]) hk
    have h2 := refreach_l2 hn hcl hv hr nr i hi m hm r next (row c (i : Int)).length 0 (by omega) m (by split <;> rfl)
    exact Ev.step (f := fun k => bywashref10_Reach.l2 k x0 m c (nr : Int) (i : Int) ((0 : Nat) : Int)) (fun k => by rw [bywashref10_Reach.l1, if_pos (by omega)]; rfl) h2
theorem refreach_l0 {x0 c : List (List Int)} (hn : x0.length ≤ 900) (hcl : c.length = x0.length) (hv : Valid c) (hr : ∀ r ∈ c, r.length ≤ 900) : ∀ d i : Nat, i + d = c.length → ∀ m : List Bool, m.length = c.length → Ev (fun k => bywashref10_Reach.l0 k x0 m c (i : Int)) (itN c c.length d m) := by
  intro d
  induction d with
  | zero =>
    intro i hd m hm
    exact Ev.step (f := fun _ => some m) (fun k => by rw [bywashref10_Reach.l0, if_neg (by omega)]) (Ev.now _)
  | succ d ih =>
    intro i hd m hm
    have next := ih (i + 1) (by omega) (passN c c.length m) ((foldl_stepN_len c _ m).trans hm)
    have h1 := refreach_l1 hn hcl hv hr i (by omega) _ c.length 0 (by omega) m hm (by rw [List.drop_zero]; exact next)
    exact Ev.step (f := fun k => bywashref10_Reach.l1 k x0 m c (i : Int) ((0 : Nat) : Int)) (fun k => by rw [bywashref10_Reach.l0, if_pos (by omega)]; rfl) h1
theorem refreach_ev (g : List (List Int)) (hn : g.length ≤ 900) (hr : ∀ r ∈ g, r.length ≤ 900) (a : Int) : Ev (fun k => bywashref10_Reach.f k g a) (reachN (clean g) g.length a) := by
  have hcl := clean_len g
  have h0 := refreach_l0 hn hcl (clean_Valid g) (fun r hr => Nat.le_trans (clean_row_le r hr) hn) g.length 0 (by omega) (startN g.length a) (by rw [startN_len, hcl])
  rw [hcl] at h0
  have hj : Ev (fun k => bywashref10_Reach.j0 k g (startN g.length a)) (reachN (clean g) g.length a) := by
    refine Ev.step (f := fun k => (bywashref10_Clean.f k g).bind fun t => bywashref10_Reach.l0 k g (startN g.length a) t ((0 : Nat) : Int)) (fun k => by rw [bywashref10_Reach.j0]; rfl) ?_
    exact Ev.bind (refclean_ev g hn hr) h0
  have e1 : ((g.length : Int) : Int).toNat = g.length := Int.toNat_natCast _
  unfold bywashref10_Reach.f bywashref10_is.f
  rw [e1]
  simp only [if_pos (show (0 : Int) ≤ (g.length : Int) by omega), if_pos (show g.length ≤ 281474976710656 by omega), Option.bind_some, List.length_replicate]
  unfold startN at hj
  by_cases h1 : a ≥ 0
  · simp only [if_pos h1, Option.bind_some]
    by_cases h2 : a < (g.length : Int)
    · rw [if_pos (isN_yes h1 h2)] at hj
      simp only [decide_eq_true h2, if_true, if_pos h2]
      exact hj
    · rw [if_neg (by rw [isN_no (fun h => h2 h.2)]; simp)] at hj
      simp only [decide_eq_false h2, Bool.false_eq_true, if_false]
      exact hj
  · rw [if_neg (by rw [isN_no (fun h => h1 h.1)]; simp)] at hj
    simp only [if_neg h1, Option.bind_some, Bool.false_eq_true, if_false]
    exact hj

end Go.Proofs.Ytemcmcnhpdkdfaa.P
