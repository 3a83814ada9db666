/- What is left to be done, told by the order alone: plain words. -/
import Derived.Test.YtnhcimhdkdgccaaGwork
namespace Go.Proofs.Ytnhcimhdkdgccaa.P
open Go.Proofs.YtnhcimhdkdgccaaW.PrintWords

/-- Where a number stands first. -/
def plc (xs : List Int) (a : Int) : Option Int := if a ∈ xs then some (xs.idxOf a : Int) else none
def putr (ord : List Int) (g : Int → Bool) (i : Int) : Bool := decide (i ∈ ord) && !g i
def putg (ord : List Int) (g : Int → Bool) (i : Int) : Int → Bool := fun x => if putr ord g i = true ∧ x = i then true else g x
def takeg (ord : List Int) (g : Int → Bool) : Int → Bool := fun x => if ord.find? g = some x then false else g x

theorem plc_none {ord : List Int} {a : Int} : plc ord a = none ↔ ¬ a ∈ ord := by
  unfold plc
  split <;> simp_all
theorem plc_mem {ord : List Int} {a c : Int} (h : plc ord a = some c) : a ∈ ord ∧ c = (ord.idxOf a : Int) := by
  unfold plc at h
  split at h
  · rename_i hm
    exact ⟨hm, (Option.some.inj h).symm⟩
  · cases h
theorem plc_place (ord : List Int) (a c : Int) (h : plc ord a = some c) : 0 ≤ c ∧ c < (ord.length : Int) ∧ rd ord c = a := by
  obtain ⟨hm, rfl⟩ := plc_mem h
  have hlt := List.idxOf_lt_length_of_mem hm
  refine ⟨by omega, by omega, ?_⟩
  show ord.getD (Int.toNat (ord.idxOf a : Int)) 0 = a
  rw [Int.toNat_natCast, List.getD_eq_getElem?_getD, List.getElem?_eq_getElem hlt]
  exact List.getElem_idxOf hlt
theorem WInv.start (ord : List Int) : WInv ord (plc ord) (fun _ => false) [] :=
  ⟨fun i _ hi => by simp at hi, List.nodup_nil, fun c => ⟨fun h => by simp at h, fun ⟨_, h, _⟩ => by simp at h⟩, fun a c h => plc_place ord a c h⟩
theorem putg_no {ord : List Int} {g : Int → Bool} {i : Int} (h : putr ord g i = false) : putg ord g i = g := by
  funext x
  unfold putg
  rw [h]
  simp
theorem putg_yes {ord : List Int} {g : Int → Bool} {i : Int} (h : putr ord g i = true) : putg ord g i = fun x => if x = i then true else g x := by
  funext x
  unfold putg
  rw [h]
  simp
theorem putr_true {ord : List Int} {g : Int → Bool} {i : Int} (h : putr ord g i = true) : i ∈ ord ∧ g i = false := by
  unfold putr at h
  simpa using h
theorem putr_false {ord : List Int} {g : Int → Bool} {i : Int} (h : putr ord g i = false) : g i = true ∨ plc ord i = none := by
  unfold putr at h
  by_cases hm : i ∈ ord
  · left; simpa [hm] using h
  · right; exact plc_none.2 hm

/-- What stands first of those that are left. -/
theorem idx_ne {x a : Int} (xs : List Int) (h : x ≠ a) : (x :: xs).idxOf a = xs.idxOf a + 1 := by
  rw [List.idxOf_cons, show (x == a) = false from by simpa using h]
  rfl
theorem find_least {ord : List Int} {g : Int → Bool} : ∀ {a : Int}, a ∈ ord → g a = true → (∀ b, g b = true → b ∈ ord → ord.idxOf a ≤ ord.idxOf b) → ord.find? g = some a := by
  induction ord with
  | nil => intro a h; simp at h
  | cons x xs ih =>
    intro a hm hg hle
    by_cases hx : g x = true
    · have h0 := hle x hx (by simp)
      rw [List.idxOf_cons_self] at h0
      have : x = a := by
        by_cases e : x = a
        · exact e
        · rw [idx_ne _ e] at h0; omega
      rw [List.find?_cons_of_pos hx, this]
    · have hne : x ≠ a := by intro e; rw [e] at hx; exact hx hg
      rw [List.find?_cons_of_neg hx]
      refine ih (by simpa [Ne.symm hne] using hm) hg (fun b hb hbm => ?_)
      have hbne : x ≠ b := by intro e; rw [e] at hx; exact hx hb
      have := hle b hb (by simp [hbm])
      rw [idx_ne _ hne, idx_ne _ hbne] at this
      omega
theorem WInv.none {ord xs : List Int} {g : Int → Bool} (h : WInv ord (plc ord) g xs) (hx : xs.length = 0) : ord.find? g = none := by
  rw [List.find?_eq_none]
  intro a ha hg
  have hp : plc ord a = some (ord.idxOf a : Int) := by unfold plc; rw [if_pos ha]
  have := (h.mem _).2 ⟨a, hg, hp⟩
  rw [List.eq_nil_of_length_eq_zero hx] at this
  simp at this
theorem WInv.some {ord xs : List Int} {g : Int → Bool} (_h : WInv ord (plc ord) g xs) {c : Nat} (hg : g (rd ord (c : Int)) = true) (hf : plc ord (rd ord (c : Int)) = some (c : Int)) (hle : ∀ a c', g a = true → plc ord a = some c' → (c : Int) ≤ c') :
    ord.find? g = some (rd ord (c : Int)) := by
  obtain ⟨hm, e⟩ := plc_mem hf
  refine find_least hm hg (fun b hb hbm => ?_)
  have := hle b _ hb (by unfold plc; rw [if_pos hbm])
  omega

theorem takeg_taken {ord : List Int} {g : Int → Bool} {i : Int} (h : ord.find? g = some i) : takeg ord g i = false := by
  unfold takeg
  rw [if_pos h]
theorem putr_taken {ord : List Int} {g : Int → Bool} {i : Int} (h : ord.find? g = some i) : putr ord (takeg ord g) i = true := by
  unfold putr
  rw [takeg_taken h]
  simpa using List.mem_of_find?_eq_some h
theorem putg_taken {ord : List Int} {g : Int → Bool} {i : Int} (h : ord.find? g = some i) : putg ord (takeg ord g) i = g := by
  rw [putg_yes (putr_taken h)]
  funext x
  by_cases e : x = i
  · rw [if_pos e, e]
    exact (List.find?_some h).symm
  · rw [if_neg e]
    unfold takeg
    rw [if_neg (fun e2 => e (Option.some.inj (e2.symm.trans h)))]

end Go.Proofs.Ytnhcimhdkdgccaa.P
