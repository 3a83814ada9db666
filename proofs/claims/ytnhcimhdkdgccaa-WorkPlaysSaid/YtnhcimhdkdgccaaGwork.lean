/- What is left to be done: the plain law of Put and Take. -/
import Derived.Test.YtnhcimhdkdgccaaGheap2
namespace Go.Proofs.Ytnhcimhdkdgccaa.P
open Go.Proofs.YtnhcimhdkdgccaaW.PrintWords

/-- The order, the places, what is left (as numbers, and as a heap of places). -/
structure WInv (ord : List Int) (f : Int → Option Int) (g : Int → Bool) (xs : List Int) : Prop where
  heap : Heap xs.length xs
  nodup : xs.Nodup
  mem : ∀ c, c ∈ xs ↔ ∃ a, g a = true ∧ f a = some c
  place : ∀ a c, f a = some c → 0 ≤ c ∧ c < (ord.length : Int) ∧ rd ord c = a

theorem WInv.put {ord xs : List Int} {f : Int → Option Int} {g : Int → Bool} (h : WInv ord f g xs) {a c : Int} (hg : g a = false) (hf : f a = some c) :
    ∃ k ys, upN k (xs ++ [c]) xs.length = some ys ∧ ys.length = xs.length + 1 ∧ WInv ord f (fun x => if x = a then true else g x) ys := by
  have hl : (xs ++ [c]).length = xs.length + 1 := by simp
  obtain ⟨k, ys, h1, h2, h3⟩ := up_spec xs.length (xs ++ [c]) (by omega) (by
    rw [hl]
    refine ⟨fun i h0 hi hne => ?_, fun i h0 hi hp _ => by omega⟩
    have := h.heap i h0 (by omega)
    simp only [List.getD_eq_getElem?_getD] at this ⊢
    rw [List.getElem?_append_left (by omega), List.getElem?_append_left (by omega)]
    exact this)
  have hcn : ¬ c ∈ xs := by
    intro hc
    obtain ⟨b, hb, hbf⟩ := (h.mem c).1 hc
    have e1 := (h.place a c hf).2.2
    have e2 := (h.place b c hbf).2.2
    rw [e1.symm.trans e2, hb] at hg
    cases hg
  refine ⟨k, ys, h1, by rw [h2.length_eq, hl], ?_, ?_, fun d => ?_, h.place⟩
  · rw [h2.length_eq]; exact h3
  · refine (h2.nodup_iff).2 ?_
    rw [List.nodup_append]
    exact ⟨h.nodup, by simp, fun x hx y hy => by rw [List.mem_singleton] at hy; rw [hy]; exact fun e => hcn (by rw [← e]; exact hx)⟩
  · rw [h2.mem_iff, List.mem_append, List.mem_singleton, h.mem]
    constructor
    · rintro (⟨b, hb, hbf⟩ | e)
      · refine ⟨b, ?_, hbf⟩
        show (if b = a then true else g b) = true
        rw [hb]
        simp
      · exact ⟨a, by simp, by rw [e]; exact hf⟩
    · rintro ⟨b, hb, hbf⟩
      by_cases e : b = a
      · right
        rw [e, hf] at hbf
        exact (Option.some.inj hbf).symm
      · left
        refine ⟨b, ?_, hbf⟩
        have hb' : (if b = a then true else g b) = true := hb
        rw [if_neg e] at hb'
        exact hb'

theorem WInv.take {ord xs : List Int} {f : Int → Option Int} {g : Int → Bool} (h : WInv ord f g xs) {n : Nat} (hn : xs.length = n + 1) :
    ∃ k ys, ∃ c : Nat, downN k (swp xs 0 n) 0 n = some ys ∧ ys.getD n 0 = (c : Int) ∧ c < ord.length ∧ g (rd ord (c : Int)) = true ∧ f (rd ord (c : Int)) = some (c : Int) ∧ (ys.take n).length = n ∧
      WInv ord f (fun x => if x = rd ord (c : Int) then false else g x) (ys.take n) ∧ ∀ a c', g a = true → f a = some c' → (c : Int) ≤ c' := by
  have h0l : 0 < xs.length := by omega
  have hnl : n < xs.length := by omega
  have hg := swp_get h0l hnl
  have hl := swp_len xs 0 n
  obtain ⟨k, ys, h1, h2, h3, h4⟩ := down_spec n n 0 (swp xs 0 n) (by omega) (by omega) (by omega) (by
    refine ⟨fun c h0 hc hp => ?_, fun c _ _ _ h0 => by omega⟩
    rw [hg, hg, if_neg (by omega), if_neg (by omega), if_neg (by omega), if_neg (by omega)]
    exact h.heap c h0 (by omega))
  have hyl : ys.length = n + 1 := by rw [h2.length_eq, hl, hn]
  have hyp : ys.Perm xs := h2.trans (swp_perm h0l hnl)
  have hlast : ys.getD n 0 = xs.getD 0 0 := by
    by_cases e : n = 0
    · subst e
      have hx := hyp.length_eq
      match xs, ys, hn, hyl, hyp with
      | [x], [y], _, _, hp =>
        have := List.singleton_perm_singleton.1 hp
        simp [this]
    · rw [h4 n (Nat.le_refl _) e, hg, if_pos rfl]
  have hx0 : xs.getD 0 0 ∈ xs := by
    rw [List.getD_eq_getElem?_getD, List.getElem?_eq_getElem h0l]
    exact List.getElem_mem _
  obtain ⟨a, ha, haf⟩ := (h.mem _).1 hx0
  obtain ⟨p0, p1, p2⟩ := h.place a _ haf
  obtain ⟨c, hc⟩ : ∃ c : Nat, xs.getD 0 0 = (c : Int) := ⟨(xs.getD 0 0).toNat, by omega⟩
  rw [hc] at hlast haf p1 p2 hx0
  have hsplit : ys = ys.take n ++ [(c : Int)] := by
    have e := (List.take_append_drop n ys).symm
    have e2 : ys.drop n = [(c : Int)] := by
      rw [List.drop_eq_getElem_cons (by omega), List.drop_eq_nil_of_le (by omega)]
      have : ys.getD n 0 = ys[n] := by rw [List.getD_eq_getElem?_getD, List.getElem?_eq_getElem (by omega)]; rfl
      rw [← this, hlast]
    rw [e2] at e
    exact e
  have hnd : (ys.take n ++ [(c : Int)]).Nodup := by rw [← hsplit]; exact (hyp.nodup_iff).2 h.nodup
  rw [List.nodup_append] at hnd
  have htl : (ys.take n).length = n := by rw [List.length_take]; omega
  refine ⟨k, ys, c, h1, hlast, by omega, by rw [p2]; exact ha, by rw [p2]; exact haf, htl, ⟨?_, hnd.1, fun d => ?_, h.place⟩, fun b c' hb hbf => ?_⟩
  · rw [htl]
    intro i hi0 hin
    have := h3 i hi0 hin
    simp only [List.getD_eq_getElem?_getD] at this ⊢
    rw [List.getElem?_take_of_lt (by omega), List.getElem?_take_of_lt (by omega)]
    exact this
  · rw [p2]
    have hd : d ∈ xs ↔ d ∈ ys.take n ∨ d = (c : Int) := by
      rw [← hyp.mem_iff]
      conv => lhs; rw [hsplit]
      rw [List.mem_append, List.mem_singleton]
    constructor
    · intro hm
      obtain ⟨b, hb, hbf⟩ := (h.mem d).1 (hd.2 (.inl hm))
      refine ⟨b, ?_, hbf⟩
      have hne : b ≠ a := by
        intro e
        rw [e, haf] at hbf
        exact hnd.2.2 d hm _ (List.mem_singleton.2 rfl) (Option.some.inj hbf).symm
      show (if b = a then false else g b) = true
      rw [if_neg hne]
      exact hb
    · rintro ⟨b, hb, hbf⟩
      have hb' : (if b = a then false else g b) = true := hb
      by_cases e : b = a
      · rw [if_pos e] at hb'
        cases hb'
      · rw [if_neg e] at hb'
        rcases hd.1 ((h.mem d).2 ⟨b, hb', hbf⟩) with hm | hm
        · exact hm
        · exfalso
          rw [hm] at hbf
          exact e (((h.place b _ hbf).2.2).symm.trans p2)
  · have hm := (h.mem c').2 ⟨b, hb, hbf⟩
    obtain ⟨i, hi, hie⟩ := List.getElem_of_mem hm
    have := h.heap.least i hi
    rw [hc, List.getD_eq_getElem?_getD, List.getElem?_eq_getElem hi, Option.getD_some, hie] at this
    exact this

end Go.Proofs.Ytnhcimhdkdgccaa.P
