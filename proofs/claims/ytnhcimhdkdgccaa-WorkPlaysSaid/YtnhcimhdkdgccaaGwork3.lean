/- What is left, as a list in order: plain words. -/
import Derived.Test.YtnhcimhdkdgccaaGwork2
namespace Go.Proofs.Ytnhcimhdkdgccaa.P
open Go.Proofs.YtnhcimhdkdgccaaW.PrintWords

/-- The places of those that are left, among the first k. -/
def sel (ord : List Int) (g : Int → Bool) (k : Nat) : List Nat := (List.range k).filter fun c => decide (ord.idxOf (ord.getD c 0) = c) && g (ord.getD c 0)
def lstK (ord : List Int) (g : Int → Bool) (k : Nat) : List Int := (sel ord g k).map fun c => ord.getD c 0
def lst (ord : List Int) (g : Int → Bool) : List Int := lstK ord g ord.length

theorem sel_succ (ord : List Int) (g : Int → Bool) (k : Nat) : sel ord g (k + 1) = sel ord g k ++ (if decide (ord.idxOf (ord.getD k 0) = k) && g (ord.getD k 0) then [k] else []) := by
  unfold sel
  rw [List.range_succ, List.filter_append, List.filter_cons, List.filter_nil]
theorem lstK_succ (ord : List Int) (g : Int → Bool) (k : Nat) : lstK ord g (k + 1) = lstK ord g k ++ (if decide (ord.idxOf (ord.getD k 0) = k) && g (ord.getD k 0) then [ord.getD k 0] else []) := by
  unfold lstK
  rw [sel_succ, List.map_append]
  split <;> simp
theorem lstK_zero (ord : List Int) (g : Int → Bool) : lstK ord g 0 = [] := rfl
theorem getD_idxOf {ord : List Int} {a : Int} (h : a ∈ ord) : ord.getD (ord.idxOf a) 0 = a := by
  have hlt := List.idxOf_lt_length_of_mem h
  rw [List.getD_eq_getElem?_getD, List.getElem?_eq_getElem hlt]
  exact List.getElem_idxOf hlt
theorem getD_mem {ord : List Int} {c : Nat} (h : c < ord.length) : ord.getD c 0 ∈ ord := by
  rw [List.getD_eq_getElem?_getD, List.getElem?_eq_getElem h]
  exact List.getElem_mem h
theorem mem_sel {ord : List Int} {g : Int → Bool} {k c : Nat} : c ∈ sel ord g k ↔ c < k ∧ ord.idxOf (ord.getD c 0) = c ∧ g (ord.getD c 0) = true := by
  unfold sel
  rw [List.mem_filter, List.mem_range]
  simp
theorem mem_lstK {ord : List Int} {g : Int → Bool} {k : Nat} (hk : k ≤ ord.length) {a : Int} : a ∈ lstK ord g k ↔ a ∈ ord ∧ g a = true ∧ ord.idxOf a < k := by
  unfold lstK
  rw [List.mem_map]
  constructor
  · rintro ⟨c, hc, rfl⟩
    obtain ⟨h1, h2, h3⟩ := mem_sel.1 hc
    exact ⟨getD_mem (by omega), h3, by omega⟩
  · rintro ⟨h1, h2, h3⟩
    exact ⟨ord.idxOf a, mem_sel.2 ⟨h3, by rw [getD_idxOf h1], by rw [getD_idxOf h1]; exact h2⟩, getD_idxOf h1⟩
theorem mem_lst {ord : List Int} {g : Int → Bool} {a : Int} : a ∈ lst ord g ↔ a ∈ ord ∧ g a = true := by
  unfold lst
  rw [mem_lstK (Nat.le_refl _)]
  exact ⟨fun h => ⟨h.1, h.2.1⟩, fun h => ⟨h.1, h.2, List.idxOf_lt_length_of_mem h.1⟩⟩
theorem lstK_len (ord : List Int) (g : Int → Bool) (k : Nat) : (lstK ord g k).length ≤ k := by
  unfold lstK sel
  rw [List.length_map]
  exact Nat.le_trans (List.length_filter_le _ _) (by simp)
theorem idx_le {ord : List Int} {j : Nat} (hj : j < ord.length) : ord.idxOf ord[j] ≤ j := by
  rcases Nat.lt_or_ge j (ord.idxOf ord[j]) with h | h
  · have := List.not_of_lt_findIdx (p := fun x => x == ord[j]) (xs := ord) (i := j) (by simpa [List.idxOf] using h)
    simp at this
  · exact h
/-- Has: does order[:k] hold order[k]? -/
theorem idx_take {ord : List Int} {k : Nat} (hk : k < ord.length) : ord.idxOf (ord.getD k 0) = k ↔ ¬ ord.getD k 0 ∈ ord.take k := by
  have hm := getD_mem hk
  have hlt := List.idxOf_lt_length_of_mem hm
  constructor
  · intro h hc
    obtain ⟨j, hj, e⟩ := List.getElem_of_mem hc
    rw [List.length_take] at hj
    rw [List.getElem_take] at e
    have : ord.idxOf (ord.getD k 0) ≤ j := by
      rw [← e]
      exact idx_le (by omega)
    omega
  · intro h
    have hle : ord.idxOf (ord.getD k 0) ≤ k := by
      conv => lhs; rw [List.getD_eq_getElem?_getD, List.getElem?_eq_getElem hk]
      exact idx_le hk
    rcases Nat.lt_or_ge (ord.idxOf (ord.getD k 0)) k with h1 | h1
    · exact absurd (by
        have := getD_idxOf hm
        rw [← this]
        rw [List.getD_eq_getElem?_getD, List.getElem?_eq_getElem hlt]
        rw [List.mem_iff_getElem]
        refine ⟨ord.idxOf (ord.getD k 0), by rw [List.length_take]; omega, ?_⟩
        rw [List.getElem_take]
        simp) h
    · omega
theorem sel_pairwise (ord : List Int) (g : Int → Bool) (k : Nat) : (sel ord g k).Pairwise (· < ·) := List.Pairwise.filter _ List.pairwise_lt_range
theorem sorted_unique : ∀ {a b : List Int}, a.Pairwise (· ≤ ·) → b.Pairwise (· ≤ ·) → a.Perm b → a = b
  | [], b, _, _, h => (List.Perm.nil_eq h)
  | x :: a, [], _, _, h => by have := h.length_eq; simp at this
  | x :: a, y :: b, ha, hb, h => by
    have hx : x ∈ y :: b := h.mem_iff.1 (List.mem_cons_self ..)
    have hy : y ∈ x :: a := h.mem_iff.2 (List.mem_cons_self ..)
    rw [List.pairwise_cons] at ha hb
    have e : x = y := by
      rcases List.mem_cons.1 hx with e | e
      · exact e
      · rcases List.mem_cons.1 hy with e2 | e2
        · exact e2.symm
        · have := ha.1 y e2
          have := hb.1 x e
          omega
    subst e
    rw [sorted_unique ha.2 hb.2 (List.Perm.cons_inv h)]
theorem WInv.sorted {ord xs : List Int} {g : Int → Bool} (h : WInv ord (plc ord) g xs) : (xs.mergeSort fun x y => decide (x ≤ y)) = (sel ord g ord.length).map fun c : Nat => (c : Int) := by
  refine sorted_unique ?_ ?_ ((List.mergeSort_perm _ _).trans ?_)
  · have := List.pairwise_mergeSort (le := fun x y : Int => decide (x ≤ y)) (fun a b c => by simp; omega) (fun a b => by simp; omega) xs
    exact this.imp (fun h => of_decide_eq_true h)
  · rw [List.pairwise_map]
    exact (sel_pairwise ord g _).imp (fun h => by omega)
  · refine (List.perm_ext_iff_of_nodup h.nodup ?_).2 (fun c => ?_)
    · unfold List.Nodup
      rw [List.pairwise_map]
      exact (sel_pairwise ord g _).imp (fun h => by omega)
    · rw [h.mem, List.mem_map]
      constructor
      · rintro ⟨a, ha, hp⟩
        obtain ⟨hm, rfl⟩ := plc_mem hp
        exact ⟨ord.idxOf a, mem_sel.2 ⟨List.idxOf_lt_length_of_mem hm, by rw [getD_idxOf hm], by rw [getD_idxOf hm]; exact ha⟩, rfl⟩
      · rintro ⟨c', hc, rfl⟩
        obtain ⟨h1, h2, h3⟩ := mem_sel.1 hc
        exact ⟨ord.getD c' 0, h3, by unfold plc; rw [if_pos (getD_mem h1), h2]⟩
theorem WInv.list {ord xs : List Int} {g : Int → Bool} (h : WInv ord (plc ord) g xs) : (xs.mergeSort fun x y => decide (x ≤ y)).map (rd ord) = lst ord g := by
  rw [h.sorted, List.map_map]
  rfl
theorem WInv.length {ord xs : List Int} {g : Int → Bool} (h : WInv ord (plc ord) g xs) : xs.length = (lst ord g).length := by
  rw [← h.list, List.length_map, List.length_mergeSort]

theorem find_lst (ord : List Int) (g : Int → Bool) : ord.find? g = (lst ord g).head? := by
  cases hf : ord.find? g with
  | none =>
    have : lst ord g = [] := by
      rw [List.eq_nil_iff_forall_not_mem]
      intro a ha
      obtain ⟨h1, h2⟩ := mem_lst.1 ha
      exact (List.find?_eq_none.1 hf) a h1 h2
    rw [this]; rfl
  | some a =>
    cases hl : lst ord g with
    | nil =>
      have : a ∈ lst ord g := mem_lst.2 ⟨List.mem_of_find?_eq_some hf, List.find?_some hf⟩
      rw [hl] at this
      simp at this
    | cons b t =>
      have hb : b ∈ lst ord g := by rw [hl]; simp
      obtain ⟨hbm, hbg⟩ := mem_lst.1 hb
      have : ord.find? g = some b := find_least hbm hbg (fun x hx hxm => by
        have hxl : x ∈ lst ord g := mem_lst.2 ⟨hxm, hx⟩
        unfold lst lstK at hl hxl
        obtain ⟨c, t', hs, hc, ht⟩ := List.map_eq_cons_iff.1 hl
        rw [hs] at hxl
        have hcm : c ∈ sel ord g ord.length := by rw [hs]; simp
        have h2 := (mem_sel.1 hcm).2.1
        rw [hc] at h2
        rw [h2]
        rcases List.mem_map.1 hxl with ⟨d, hd, he⟩
        have hdm : d ∈ sel ord g ord.length := by rw [hs]; exact hd
        have h3 := (mem_sel.1 hdm).2.1
        rw [he] at h3
        rw [h3]
        have hp := sel_pairwise ord g ord.length
        rw [hs, List.pairwise_cons] at hp
        rcases List.mem_cons.1 hd with e | e
        · omega
        · have := hp.1 d e; omega)
      rw [hf] at this
      rw [this]; rfl
theorem lst_takeg (ord : List Int) (g : Int → Bool) : lst ord (takeg ord g) = (lst ord g).tail := by
  have hf := find_lst ord g
  unfold lst lstK at hf ⊢
  cases hs : sel ord g ord.length with
  | nil =>
    rw [hs] at hf
    have : takeg ord g = g := by
      funext x
      unfold takeg
      rw [hf]
      simp
    rw [this, hs]
    rfl
  | cons c t =>
    rw [hs] at hf
    have hp := sel_pairwise ord g ord.length
    rw [hs, List.pairwise_cons] at hp
    have hcm : c ∈ sel ord g ord.length := by rw [hs]; simp
    have h2 := (mem_sel.1 hcm).2.1
    have e : sel ord (takeg ord g) ord.length = (sel ord g ord.length).filter (fun d => decide (d ≠ c)) := by
      unfold sel
      rw [List.filter_filter]
      refine List.filter_congr (fun d hd => ?_)
      have hfc : ord.find? g = some (ord.getD c 0) := hf
      by_cases hd2 : ord.idxOf (ord.getD d 0) = d
      · unfold takeg
        rw [hfc]
        by_cases e : d = c
        · subst e; simp
        · have : ¬ (ord.getD c 0 = ord.getD d 0) := by
            intro e2
            rw [← e2, h2] at hd2
            exact e hd2.symm
          have hne : ¬ (some (ord.getD c 0) = some (ord.getD d 0)) := fun h => this (Option.some.inj h)
          rw [if_neg hne]
          simp [e]
      · have hd3 : decide (ord.idxOf (ord.getD d 0) = d) = false := by simpa using hd2
        rw [hd3]
        simp
    rw [e, hs, List.filter_cons]
    have ht : t.filter (fun d => decide (d ≠ c)) = t := by
      rw [List.filter_eq_self]
      intro d hd
      have := hp.1 d hd
      simp
      omega
    simp only [ne_eq, not_true_eq_false, decide_false, Bool.false_eq_true, if_false]
    simp only [ne_eq] at ht
    rw [ht]
    rfl

theorem lst_congr {ord : List Int} {g g' : Int → Bool} (h : ∀ x ∈ ord, g x = g' x) : lst ord g = lst ord g' := by
  unfold lst lstK sel
  congr 1
  refine List.filter_congr (fun c hc => ?_)
  rw [h _ (getD_mem (List.mem_range.1 hc))]

theorem lstK_step {ord : List Int} {g : Int → Bool} {q : Nat} (hq : q < ord.length) {x : Int} (hx : x = ord.getD q 0) {m1 m2 : Bool} (h1 : m1 = g x) (h2 : m2 = decide (x ∈ ord.take q)) : lstK ord g (q + 1) = lstK ord g q ++ (if m1 && !m2 then [x] else []) := by
  rw [lstK_succ, ← hx, ← h1, h2]
  have h := idx_take hq
  rw [← hx] at h
  by_cases hm : x ∈ ord.take q
  · have : ¬ ord.idxOf x = q := fun e => h.1 e hm
    simp [hm, this]
  · have : ord.idxOf x = q := h.2 hm
    simp [hm, this]

theorem lst_nodup (ord : List Int) (g : Int → Bool) : (lst ord g).Nodup := by
  unfold lst lstK List.Nodup
  rw [List.pairwise_map]
  refine (sel_pairwise ord g ord.length).imp_of_mem (fun {a b} ha hb hlt e => ?_)
  have h1 := (mem_sel.1 ha).2.1
  have h2 := (mem_sel.1 hb).2.1
  rw [e, h2] at h1
  omega

end Go.Proofs.Ytnhcimhdkdgccaa.P
