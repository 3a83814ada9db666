/- A heap in a list: up and down keep it. The plain law. -/
import Derived.Test.YtnhcimhdkdgccaaGheap
namespace Go.Proofs.Ytnhcimhdkdgccaa.P

theorem swp_get {xs : List Int} {i j : Nat} (hi : i < xs.length) (hj : j < xs.length) (k : Nat) : (swp xs i j).getD k 0 = if k = j then xs.getD i 0 else if k = i then xs.getD j 0 else xs.getD k 0 := by
  unfold swp
  simp only [List.getD_eq_getElem?_getD, List.getElem?_set, List.length_set]
  by_cases h1 : k = j
  · subst h1
    simp [hj]
  · by_cases h2 : k = i
    · subst h2
      simp [hi, h1, Ne.symm h1]
    · simp [h1, h2, Ne.symm h1, Ne.symm h2]
theorem swp_perm {xs : List Int} {i j : Nat} (hi : i < xs.length) (hj : j < xs.length) : (swp xs i j).Perm xs := by
  have h := List.set_set_perm hi hj
  unfold swp
  rw [List.getD_eq_getElem?_getD, List.getD_eq_getElem?_getD, List.getElem?_eq_getElem hi, List.getElem?_eq_getElem hj]
  exact h

/-- The first n are a heap. -/
def Heap (n : Nat) (xs : List Int) : Prop := ∀ i, 0 < i → i < n → xs.getD ((i - 1) / 2) 0 ≤ xs.getD i 0
def UpInv (n : Nat) (xs : List Int) (j : Nat) : Prop :=
  (∀ i, 0 < i → i < n → i ≠ j → xs.getD ((i - 1) / 2) 0 ≤ xs.getD i 0) ∧ ∀ i, 0 < i → i < n → (i - 1) / 2 = j → 0 < j → xs.getD ((j - 1) / 2) 0 ≤ xs.getD i 0
theorem up_spec : ∀ (j : Nat) (xs : List Int), j < xs.length → UpInv xs.length xs j → ∃ k ys, upN k xs j = some ys ∧ ys.Perm xs ∧ Heap xs.length ys := by
  intro j
  induction j using Nat.strongRecOn with
  | _ j ih =>
    intro xs hj hu
    by_cases h0 : (j - 1) / 2 = j
    · refine ⟨1, xs, by rw [upN, if_pos h0], .refl _, fun i hi hn => hu.1 i hi hn (by omega)⟩
    · by_cases hlt : xs.getD j 0 < xs.getD ((j - 1) / 2) 0
      · obtain ⟨q, hq⟩ : ∃ q, q = (j - 1) / 2 := ⟨_, rfl⟩
        rw [← hq] at hlt h0
        have hql : q < xs.length := by omega
        have hg := swp_get hql hj
        have hl := swp_len xs q j
        obtain ⟨k, ys, h1, h2, h3⟩ := ih q (by omega) (swp xs q j) (by omega) (by
          rw [hl]
          refine ⟨fun i hi hn hiq => ?_, fun i hi hn hiq hq0 => ?_⟩
          · rw [hg, hg]
            by_cases e : i = j
            · subst e
              rw [← hq, if_neg (by omega), if_pos rfl, if_pos rfl]
              omega
            · rw [if_neg e, if_neg hiq]
              by_cases e1 : (i - 1) / 2 = j
              · rw [if_pos e1]
                have := hu.2 i hi hn e1 (by omega)
                rw [← hq] at this
                exact this
              · rw [if_neg e1]
                have := hu.1 i hi hn e
                by_cases e2 : (i - 1) / 2 = q
                · rw [if_pos e2]
                  rw [e2] at this
                  omega
                · rw [if_neg e2]
                  exact this
          · rw [hg, hg, if_neg (by omega), if_neg (by omega)]
            have hp := hu.1 q hq0 (by omega) (by omega)
            by_cases e : i = j
            · rw [if_pos e]
              exact hp
            · rw [if_neg e, if_neg (by omega)]
              have := hu.1 i hi hn e
              rw [hiq] at this
              omega)
        refine ⟨k + 1, ys, by rw [upN, ← hq, if_neg h0, if_pos hlt]; exact h1, h2.trans (swp_perm hql hj), by rw [hl] at h3; exact h3⟩
      · refine ⟨1, xs, by rw [upN, if_neg h0, if_neg hlt], .refl _, fun i hi hn => ?_⟩
        by_cases e : i = j
        · subst e
          omega
        · exact hu.1 i hi hn e

def DownInv (n : Nat) (xs : List Int) (i : Nat) : Prop :=
  (∀ c, 0 < c → c < n → (c - 1) / 2 ≠ i → xs.getD ((c - 1) / 2) 0 ≤ xs.getD c 0) ∧ ∀ c, 0 < c → c < n → (c - 1) / 2 = i → 0 < i → xs.getD ((i - 1) / 2) 0 ≤ xs.getD c 0
theorem lesser_spec (xs : List Int) (i n : Nat) (h : 2 * i + 1 < n) : (lesser xs i n = 2 * i + 1 ∨ lesser xs i n = 2 * i + 2) ∧ lesser xs i n < n ∧ ∀ c, 0 < c → c < n → (c - 1) / 2 = i → xs.getD (lesser xs i n) 0 ≤ xs.getD c 0 := by
  unfold lesser
  split
  · rename_i h2
    refine ⟨.inr rfl, h2.1, fun c h0 hc hci => ?_⟩
    rcases (by omega : c = 2 * i + 1 ∨ c = 2 * i + 2) with e | e
    · rw [e]; omega
    · rw [e]; omega
  · rename_i h2
    refine ⟨.inl rfl, h, fun c h0 hc hci => ?_⟩
    rcases (by omega : c = 2 * i + 1 ∨ c = 2 * i + 2) with e | e
    · rw [e]; omega
    · rw [e]
      rw [e] at hc
      have : ¬ xs.getD (2 * i + 2) 0 < xs.getD (2 * i + 1) 0 := fun h3 => h2 ⟨hc, h3⟩
      omega
theorem down_spec (n : Nat) : ∀ (d i : Nat) (xs : List Int), n - i ≤ d → i < xs.length → n ≤ xs.length → DownInv n xs i → ∃ k ys, downN k xs i n = some ys ∧ ys.Perm xs ∧ Heap n ys ∧ ∀ m, n ≤ m → m ≠ i → ys.getD m 0 = xs.getD m 0 := by
  intro d
  induction d with
  | zero =>
    intro i xs hd hi hn hu
    refine ⟨1, xs, by rw [downN, if_pos (by omega)], .refl _, fun c h0 hc => hu.1 c h0 hc (by omega), fun _ _ _ => rfl⟩
  | succ d ih =>
    intro i xs hd hi hn hu
    by_cases hA : n ≤ 2 * i + 1
    · exact ⟨1, xs, by rw [downN, if_pos hA], .refl _, fun c h0 hc => hu.1 c h0 hc (by omega), fun _ _ _ => rfl⟩
    · obtain ⟨hj, hjn, hmin⟩ := lesser_spec xs i n (by omega)
      obtain ⟨j, ej⟩ : ∃ j, j = lesser xs i n := ⟨_, rfl⟩
      rw [← ej] at hj hjn hmin
      by_cases hlt : xs.getD j 0 < xs.getD i 0
      · have hg := swp_get (xs := xs) hi (show j < xs.length by omega)
        have hl := swp_len xs i j
        obtain ⟨k, ys, h1, h2, h3, h4⟩ := ih j (swp xs i j) (by omega) (by omega) (by omega) (by
          refine ⟨fun c h0 hc hcj => ?_, fun c h0 hc hcj hj0 => ?_⟩
          · rw [hg, hg, if_neg hcj]
            by_cases e1 : (c - 1) / 2 = i
            · rw [if_pos e1]
              by_cases e2 : c = j
              · rw [if_pos e2]; omega
              · rw [if_neg e2, if_neg (by omega)]
                exact hmin c h0 hc e1
            · rw [if_neg e1]
              have := hu.1 c h0 hc e1
              rw [if_neg (by omega)]
              by_cases e2 : c = i
              · rw [if_pos e2]
                have := hu.2 j (by omega) hjn (by omega) (by omega)
                rw [e2]
                exact this
              · rw [if_neg e2]
                exact this
          · rw [hg, hg, if_neg (by omega), if_pos (by omega), if_neg (by omega), if_neg (by omega)]
            have := hu.1 c h0 hc (by omega)
            rw [hcj] at this
            exact this)
        refine ⟨k + 1, ys, by rw [downN, if_neg hA, ← ej, if_pos hlt]; exact h1, h2.trans (swp_perm hi (by omega)), h3, fun m hm hmi => ?_⟩
        rw [h4 m hm (by omega), hg, if_neg (by omega), if_neg hmi]
      · refine ⟨1, xs, by rw [downN, if_neg hA, ← ej, if_neg hlt], .refl _, fun c h0 hc => ?_, fun _ _ _ => rfl⟩
        by_cases e : (c - 1) / 2 = i
        · have := hmin c h0 hc e
          rw [e]
          omega
        · exact hu.1 c h0 hc e
/-- The first one is the least. -/
theorem Heap.least {n : Nat} {xs : List Int} (h : Heap n xs) : ∀ i, i < n → xs.getD 0 0 ≤ xs.getD i 0 := by
  intro i
  induction i using Nat.strongRecOn with
  | _ i ih =>
    intro hi
    by_cases h0 : i = 0
    · rw [h0]; exact Int.le_refl _
    · have h1 := ih ((i - 1) / 2) (by omega) (by omega)
      have h2 := h i (by omega) hi
      omega

end Go.Proofs.Ytnhcimhdkdgccaa.P
