/- What the claim uses of: Gshr3 PureSccIs -/
import Derived.Test.YtdknhgbjgdmfkaaQFSccIs2
namespace Go.Proofs.Ytdknhgbjgdmfkaa.P
open Go.RowKit Go.Lib Go.Proofs.YtdknhgbjgdmfkaaW.PrintWords
theorem shrRow_longer {inn : List Int} {a : Int} {L : Nat} : ∀ (l : List Int) (o : List (List Int)) (b : Nat), l.length ≤ L → NoLonger o b → NoLonger (l.foldl (shrStep inn a) o) (b + l.length) := by
  intro l
  induction l with
  | nil => intro o b _ h; exact h
  | cons x l ih =>
    intro o b hl h
    rw [List.foldl_cons, List.length_cons]
    have := ih (shrStep inn a o x) (b + 1) (by rw [List.length_cons] at hl; omega) h.shr
    rwa [show b + 1 + l.length = b + (l.length + 1) by omega] at this
theorem shrSo_longer {m L : Nat} {inn : List Int} {c : List (List Int)} (hL : ∀ l ∈ c, l.length ≤ L) : ∀ k, k ≤ c.length → NoLonger (shrSo m inn c k) (k * L)
  | 0, _ => fun j => by
    rw [shrSo]
    simp [List.getD_eq_getElem?_getD, List.getElem?_replicate]
    split <;> simp
  | k + 1, hk => by
    have hg : (c.getD k []).length ≤ L := by
      rw [List.getD_eq_getElem?_getD, List.getElem?_eq_getElem (by omega)]
      exact hL _ (List.getElem_mem _)
    intro j
    rw [shrSo]
    have := shrRow_longer (inn := inn) (a := (k : Int)) (c.getD k []) _ _ hg (shrSo_longer (m := m) (inn := inn) hL k (by omega)) j
    rw [Nat.succ_mul]
    omega
theorem shrink_now {g : List (List Int)} (h : few g = true) : scc_Shrink.f g = some (shr (clean g), inB (clean g)) := by
  have hf := few_fits h
  have hl := (few_iff.1 h).2
  have h2 : fits (shrB (clean g)) = true := by
    have hs : (shrB (clean g)).length ≤ 40 := by
      unfold shrB
      rw [shrSo_len]
      have := (parts_small hf).2.2.2.1
      omega
    unfold fits
    rw [Bool.and_eq_true, decide_eq_true_iff, List.all_eq_true]
    refine ⟨by omega, fun l hl' => decide_eq_true ?_⟩
    obtain ⟨j, hj, rfl⟩ := List.getElem_of_mem hl'
    have := shrSo_longer (m := (partsB (clean g)).length) (inn := inB (clean g)) (c := clean g) (L := 40) (fun l hl => by have := clean_row_le l hl; omega) (clean g).length (Nat.le_refl _) j
    rw [clean_len] at this
    have e : ((shrB (clean g)).getD j []) = (shrB (clean g))[j] := by rw [List.getD_eq_getElem?_getD, List.getElem?_eq_getElem hj]; rfl
    rw [← e]
    have h3 : (shrSo (partsB (clean g)).length (inB (clean g)) (clean g) g.length) = shrB (clean g) := by unfold shrB; rw [clean_len]
    rw [h3] at this
    have h4 : g.length * 40 ≤ 1600 := Nat.mul_le_mul_right 40 hl
    omega
  unfold scc_Shrink.f
  rw [if_pos hf, if_pos h2]
  rfl
theorem shr_small {g : List (List Int)} (h : few g = true) : Small (shr (clean g)) ∧ (shr (clean g)).length ≤ g.length := by
  have hf := few_fits h
  have hl := (few_iff.1 h).2
  have := (parts_small hf).2.2.2.1
  refine ⟨small_of shr_Valid shr_rises (by rw [shr_len]; omega), by rw [shr_len]; exact this⟩
theorem inB_len {c : List (List Int)} : (inB c).length = c.length := by unfold inB; rw [inSo_len]
theorem parts_rows {g : List (List Int)} (hf : few g = true) : ∀ l ∈ partsB (clean g), l.length ≤ 9223372036854775807 := fun l hl => by
  have := ((parts_small (few_fits hf)).2.2.1 l hl).1
  have := (few_iff.1 hf).2
  omega
end Go.Proofs.Ytdknhgbjgdmfkaa.P
namespace Go.Proofs.Ytdknhgbjgdmfkaa.P
open Go.RowKit Go.Lib Go.Proofs.YtdknhgbjgdmfkaaW.PrintWords
theorem SccIs_pure (l0 : List (List Int)) (hb : l0.length ≤ 9223372036854775807) (_hw : ∀ r ∈ l0, r.length ≤ 9223372036854775807 ∧ ∀ y ∈ r, (Lit.int .i64 y).wf = true) :
    ∃ k, bywashlaw11_SccIs.f k l0 = some true := by
  refine Ev.rounds (g := fun k => bywashlaw11_SccIs.f k l0) ?_
  unfold bywashlaw11_SccIs.f
  refine Ev.bind awake11_ev ?_
  refine Ev.bind (few_ev l0 hb) ?_
  have stop : Ev (fun k => bywashlaw11_SccIs.j0 k l0 true true) true := Ev.step (f := fun _ => some true) (fun k => by rw [bywashlaw11_SccIs.j0, if_pos rfl]) (Ev.now _)
  by_cases hf : few l0 = true
  · simp only [hf, if_true]
    by_cases h24 : (l0.length : Int) > 24
    · rw [decide_eq_true h24]
      exact stop
    · rw [decide_eq_false h24]
      have hfit := few_fits hf
      have hn : l0.length ≤ 24 := by omega
      have hr : ∀ r ∈ l0, r.length ≤ 900 := fun r hr => by have := (few_iff.1 hf).1 r hr; omega
      have hP := parts_small hfit
      have hPr := parts_rows hf
      have hPl := hP.2.2.2.1
      have hS := shr_small hf
      have hSr : ∀ l ∈ shr (clean l0), l.length ≤ 9223372036854775807 := fun l hl => by
        have := hS.1.1
        obtain ⟨j, hj, rfl⟩ := List.getElem_of_mem hl
        have := fits_row this hj
        omega
      refine Ev.step (fun k => by rw [bywashlaw11_SccIs.j0, if_neg (by simp), shrink_now hf, leads_now hfit, parts_now hfit, loops_now hfit]) ?_
      simp only [Option.bind_some]
      refine Ev.bind (refshrink_ev l0 (by omega) hr) ?_
      simp only [if_true]
      refine Ev.bind (refleads_ev l0 (by omega) hr) ?_
      refine Ev.bind (ints_ev _ _ (by rw [leadB_len, clean_len]; omega)) ?_
      simp only [decide_true, if_true]
      refine Ev.bind (refparts_ev l0 (by omega) hr) ?_
      refine Ev.bind (same_ev _ _ (by omega) hPr) ?_
      simp only [decide_true, if_true]
      refine Ev.bind (same_ev _ _ (by omega) hSr) ?_
      simp only [decide_true, if_true]
      refine Ev.bind (ints_ev _ _ (by rw [inB_len, clean_len]; omega)) ?_
      simp only [decide_true, if_true]
      refine Ev.bind (refloops_ev l0 (by omega) hr) ?_
      refine Ev.bind (bools_ev _ _ (by rw [loopsB_len, clean_len]; omega)) ?_
      rw [decide_eq_true rfl]
      exact Ev.now _
  · simp only [hf]
    exact stop
end Go.Proofs.Ytdknhgbjgdmfkaa.P
