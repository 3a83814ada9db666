/- A Work that New has made, told by its order and by which numbers are left. -/
import Derived.Test.YtnhcimhdkdgccaaHnew
namespace Go.Proofs.Ytnhcimhdkdgccaa.P
open Go.RowKit Go.Shelf Go.Lib Go.Sort Go.Maps Go.Proofs.YtnhcimhdkdgccaaW.PrintWords Go.Proofs.YtnhcimhdkdgccaaW.PrintLast Go.Proofs.YtnhcimhdkdgccaaW.PrintMore

theorem mapOf_down {xs : List Int} (hw : ∀ y ∈ xs, (Lit.int .i64 y).wf = true) (hl : xs.length ≤ 1000000) (a : Int) : ∀ k, k ≤ xs.length →
    mapOf (down (mkP xs) xs.length k) a = if a ∈ xs.drop (xs.length - k) then some (((xs.length - k : Nat) : Int) + ((xs.drop (xs.length - k)).idxOf a : Int)) else none := by
  intro k
  induction k with
  | zero => intro _; simp [mapOf, down]
  | succ k ih =>
    intro hk
    have hm : xs.length - 1 - k < xs.length := by omega
    have hmk := mkP_val hw hl (xs.length - 1 - k) hm
    rw [down_succ, mapOf_snoc, hmk]
    have hd : xs.drop (xs.length - (k + 1)) = xs.getD (xs.length - 1 - k) 0 :: xs.drop (xs.length - k) := by
      rw [show xs.length - (k + 1) = xs.length - 1 - k by omega, List.drop_eq_getElem_cons hm, List.getD_eq_getElem?_getD, List.getElem?_eq_getElem hm, show xs.length - 1 - k + 1 = xs.length - k by omega]
      rfl
    rw [hd]
    show (if a = xs.getD (xs.length - 1 - k) 0 then _ else _) = _
    by_cases e : a = xs.getD (xs.length - 1 - k) 0
    · rw [if_pos e, ← e, if_pos (List.mem_cons_self ..), List.idxOf_cons_self]
      congr 1
      show ((xs.length - 1 - k : Nat) : Int) = _
      omega
    · rw [if_neg e, ih (by omega)]
      by_cases hm2 : a ∈ xs.drop (xs.length - k)
      · rw [if_pos hm2, if_pos (List.mem_cons_of_mem _ hm2), idx_ne _ (Ne.symm e)]
        congr 1
        omega
      · rw [if_neg hm2, if_neg (by rw [List.mem_cons]; rintro (h | h); exact e h; exact hm2 h)]
theorem mapOf_all {xs : List Int} (hw : ∀ y ∈ xs, (Lit.int .i64 y).wf = true) (hl : xs.length ≤ 1000000) : mapOf (down (mkP xs) xs.length xs.length) = plc xs := by
  funext a
  rw [mapOf_down hw hl a _ (Nat.le_refl _), Nat.sub_self, List.drop_zero]
  unfold plc
  simp

def WK (w0 w : World) (T : Nat → Prop) (b : Nat) (ord : List Int) (g : Int → Bool) (n m : Nat) : Prop :=
  ∃ p BA BI na ni So vo v xs, WS w0 w b p BA BI na ni (fun k => some k = v.ownBlock) So vo v ord xs (plc ord) g ∧ WInv ord (plc ord) g xs ∧ xs.length = n ∧ ni ≤ m ∧ (∀ a, g a = true → a ∈ ord) ∧ (∀ y ∈ ord, (Lit.int .i64 y).wf = true) ∧ ord.length ≤ 1000000 ∧
    (∀ k, (k = b ∨ k = p ∨ k = BA ∨ k = BI ∨ some k = v.ownBlock ∨ So k) → T k) ∧ ∀ k, T k → w0.heap.size ≤ k ∧ k < w.heap.size

section
variable {w0 w w' : World} {T U : Nat → Prop} {b : Nat} {ord : List Int} {g : Int → Bool} {n m : Nat}
theorem WS.tight {p BA BI na ni : Nat} {S So : Nat → Prop} {vo v : Value} {xs : List Int} {f : Int → Option Int} (h : WS w0 w b p BA BI na ni S So vo v ord xs f g) : WS w0 w b p BA BI na ni (fun k => some k = v.ownBlock) So vo v ord xs f g :=
  have hS : ∀ k, some k = v.ownBlock → S k := fun k e => h.hq.own.1 k e.symm
  ⟨h.blk, ⟨h.hq.hp, Kd.R_tight rfl h.hq.own, h.hq.bel, fun e => h.hq.ne (hS _ e), h.hq.pb⟩, h.ma, h.mi, h.own, fun k e => h.sep k (e.imp (hS k) id), h.sepm, h.low, h.old⟩
theorem WK.bel (h : WK w0 w T b ord g n m) : Below w0.heap.size w0 w := by
  obtain ⟨_, _, _, _, _, _, _, _, _, hs, _⟩ := h
  exact hs.hq.bel
theorem WK.lt (h : WK w0 w T b ord g n m) : ∀ k, T k → w0.heap.size ≤ k ∧ k < w.heap.size := by
  obtain ⟨_, _, _, _, _, _, _, _, _, _, _, _, _, _, _, _, _, h⟩ := h
  exact h
theorem WK.sub (h : WK w0 w T b ord g n m) : ∀ a, g a = true → a ∈ ord := by
  obtain ⟨_, _, _, _, _, _, _, _, _, _, _, _, _, h, _⟩ := h
  exact h
theorem WK.same {g' : Int → Bool} (h : WK w0 w T b ord g n m) (e : g' = g) {m' : Nat} (hm : m ≤ m') : WK w0 w T b ord g' n m' := by
  subst e
  obtain ⟨p, BA, BI, na, ni, So, vo, v, xs, hs, hv, hl, hni, h⟩ := h
  exact ⟨p, BA, BI, na, ni, So, vo, v, xs, hs, hv, hl, by omega, h⟩
theorem WK.move (h : WK w0 w T b ord g n m) (hk : Kept w w' U) (hU : ∀ k, T k → ¬ U k) (hb : Below w0.heap.size w0 w') : WK w0 w' T b ord g n m := by
  obtain ⟨p, BA, BI, na, ni, So, vo, v, xs, hs, hv, hl, hni, hg, hw, ho, hT, hTl⟩ := h
  have hne : ∀ k, (k = b ∨ k = p ∨ k = BA ∨ k = BI ∨ some k = v.ownBlock ∨ So k) → ¬ U k := fun k e => hU k (hT k e)
  have hsz := hk.1
  obtain ⟨o1, o2, o3, o4⟩ := hs.old
  refine ⟨p, BA, BI, na, ni, So, vo, v, xs, ⟨blk_kept hs.blk hk (hne b (by simp)), ⟨blk_kept hs.hq.hp hk (hne p (by simp)), Kd.R_kept hs.hq.own hk (fun k e => hne k (by simp [e])), hb, hs.hq.ne, hs.hq.pb⟩, hs.ma.kept hk (hne BA (by simp)), hs.mi.kept hk (hne BI (by simp)),
    Kd.R_kept hs.own hk (fun k e => hne k (by simp [e])), hs.sep, hs.sepm, hs.low, ⟨by omega, by omega, by omega, fun k e => by have := o4 k e; omega⟩⟩, hv, hl, hni, hg, hw, ho, hT, fun k e => by have := hTl k e; omega⟩

theorem WK.new {A : Option Addr} {c : Nat} (hC : dI.C w A ord.length ord) (hb0 : Below w0.heap.size w0 w) (hl : ord.length ≤ 1000000) (hw : ∀ y ∈ ord, (Lit.int .i64 y).wf = true) :
    Calls Try.prog 15 #[.slice A ord.length c] w fun e w' => ∃ b T, e = .returned (.pointer (some ⟨b, 0, none⟩)) ∧ WK w0 w' T b ord (fun _ => false) 0 0 ∧ (∀ k, T k → w.heap.size ≤ k) ∧ Below w.heap.size w w' := by
  refine (callsIn_wide.1 (new_in hC hb0 hl hw)).mono ?_
  rintro e w' ⟨b, p, BA, BI, na, S, So, vo, v, rfl, hs, hlow, hbel⟩
  have ht := hs.tight
  rw [mapOf_all hw hl] at ht
  have hlv : ∀ k, some k = v.ownBlock → k < w'.heap.size := fun k e => Kd.R_lt hs.hq.own k e.symm
  have hs0 := hb0.size
  obtain ⟨o1, o2, o3, o4⟩ := hs.old
  refine ⟨b, fun k => k = b ∨ k = p ∨ k = BA ∨ k = BI ∨ some k = v.ownBlock ∨ So k, rfl, ⟨p, BA, BI, na, 0, So, vo, v, [], ht, WInv.start ord, rfl, Nat.le_refl _, fun a h => by simp at h, hw, hl, fun k e => e, ?_⟩, ?_, hbel⟩
  · rintro k e
    refine ⟨by have := hlow k (e.imp id (Or.imp id (Or.imp id (Or.imp id (Or.imp (fun e => hs.hq.own.1 k e.symm) id))))); omega, ?_⟩
    rcases e with e | e | e | e | e | e
    · omega
    · have := hs.hq.lt; omega
    · omega
    · omega
    · exact hlv k e
    · exact o4 k e
  · rintro k e
    exact hlow k (e.imp id (Or.imp id (Or.imp id (Or.imp id (Or.imp (fun e => hs.hq.own.1 k e.symm) id)))))

theorem WK.put (h : WK w0 w T b ord g n m) {i : Int} (hi : (Lit.int .i64 i).wf = true) (hn : n < 1000000) (hm : m < maxLen) :
    Calls Try.prog 16 #[.pointer (some ⟨b, 0, none⟩), .int .i64 i] w fun e w' => e = .returned (.bool (putr ord g i)) ∧ (∃ T', WK w0 w' T' b ord (putg ord g i) (n + if putr ord g i then 1 else 0) (m + 1) ∧ (∀ k, T' k → T k ∨ w.heap.size ≤ k)) ∧ Kept w w' T := by
  have hh := h
  obtain ⟨p, BA, BI, na, ni, So, vo, v, xs, hs, hv, hl, hni, hg, hw, ho, hT, hTl⟩ := h
  cases e : putr ord g i with
  | false =>
    refine (put_no hs hi (putr_false e)).mono ?_
    rintro e' w' ⟨rfl, rfl⟩
    exact ⟨rfl, ⟨T, hh.same (putg_no e) (by omega), fun k => .inl⟩, Kept.refl _ _⟩
  | true =>
    obtain ⟨him, hgi⟩ := putr_true e
    have hf : plc ord i = some (ord.idxOf i : Int) := by unfold plc; rw [if_pos him]
    obtain ⟨k, ys, hu, hyl, hv'⟩ := hv.put hgi hf
    refine (put_yes hs hi hgi hf (by omega) (by omega) hu).mono ?_
    rintro e' w' ⟨rfl, S2, v2, hs2, hS2, hk⟩
    have hsz := hk.1
    obtain ⟨o1, o2, o3, o4⟩ := hs2.old
    have hkT : Kept w w' T := hk.mono (fun k e => hT k (by rcases e with e | e | e <;> simp [e]))
    rw [putg_yes e]
    refine ⟨rfl, ⟨fun k => T k ∨ (w.heap.size ≤ k ∧ k < w'.heap.size), ⟨p, BA, BI, na, ni + 1, So, vo, v2, ys, hs2.tight, hv', by rw [hyl, hl]; rfl, by omega, ?_, hw, ho, ?_, ?_⟩, fun k e => e.imp id (fun e => e.1)⟩, hkT⟩
    · intro a ha
      have ha' : (if a = i then true else g a) = true := ha
      by_cases e2 : a = i
      · rw [e2]; exact him
      · rw [if_neg e2] at ha'; exact hg a ha'
    · rintro k (e | e | e | e | e | e)
      · exact .inl (hT k (by simp [e]))
      · exact .inl (hT k (by simp [e]))
      · exact .inl (hT k (by simp [e]))
      · exact .inl (hT k (by simp [e]))
      · have h1 := hS2 k (hs2.hq.own.1 k e.symm)
        have h2 := Kd.R_lt hs2.hq.own k e.symm
        rcases h1 with h1 | h1
        · exact .inl (hT k (by simp [h1]))
        · exact .inr ⟨h1, h2⟩
      · exact .inl (hT k (by simp [e]))
    · have hbs := hs.hq.bel.size
      rintro k (e | e)
      · have := hTl k e; omega
      · omega

theorem WK.has (h : WK w0 w T b ord g n m) {i : Int} (hi : (Lit.int .i64 i).wf = true) :
    Calls Try.prog 19 #[.pointer (some ⟨b, 0, none⟩), .int .i64 i] w fun e w' => e = .returned (.bool (g i)) ∧ w' = w := by
  obtain ⟨p, BA, BI, na, ni, So, vo, v, xs, hs, _⟩ := h
  exact has_w hs hi
theorem WK.len (h : WK w0 w T b ord g n m) :
    Calls Try.prog 17 #[.pointer (some ⟨b, 0, none⟩)] w fun e w' => e = .returned (.int .i64 n) ∧ w' = w := by
  obtain ⟨p, BA, BI, na, ni, So, vo, v, xs, hs, _, rfl, _⟩ := h
  exact len_w hs
theorem WK.take_no (h : WK w0 w T b ord g n m) (hn : n = 0) :
    ord.find? g = none ∧ Calls Try.prog 18 #[.pointer (some ⟨b, 0, none⟩)] w fun e w' => e = .returned (.tuple #[.int .i64 0, .bool false]) ∧ w' = w := by
  obtain ⟨p, BA, BI, na, ni, So, vo, v, xs, hs, hv, hl, _⟩ := h
  exact ⟨hv.none (by omega), P.take_no hs (by omega)⟩
theorem WK.take_yes (h : WK w0 w T b ord g (n + 1) m) (hn : n < 1000000) (hm : m < maxLen) :
    ∃ i, ord.find? g = some i ∧ Calls Try.prog 18 #[.pointer (some ⟨b, 0, none⟩)] w fun e w' => e = .returned (.tuple #[.int .i64 i, .bool true]) ∧ WK w0 w' T b ord (takeg ord g) n (m + 1) ∧ Kept w w' T := by
  obtain ⟨p, BA, BI, na, ni, So, vo, v, xs, hs, hv, hl, hni, hg, hw, ho, hT, hTl⟩ := h
  obtain ⟨k, ys, c, hu, hc, hcl, hgc, hfc, htl, hv', hle⟩ := hv.take hl
  have hfi := hv.some hgc hfc hle
  have hiw : (Lit.int .i64 (rd ord (c : Int))).wf = true := hw _ (hg _ hgc)
  refine ⟨_, hfi, (P.take_yes hs hl hn (by omega) hu hc hcl rfl hiw ho).mono ?_⟩
  rintro e' w' ⟨rfl, v2, hs2, hk⟩
  have hsz := hk.1
  have hgt : takeg ord g = fun x => if x = rd ord (c : Int) then false else g x := by
    funext x
    unfold takeg
    rw [hfi]
    by_cases e : x = rd ord (c : Int)
    · rw [if_pos (by rw [e]), if_pos e]
    · rw [if_neg (fun h => e (Option.some.inj h).symm), if_neg e]
  have hkT : Kept w w' T := hk.mono (fun k e => hT k (by rcases e with e | e | e <;> simp [e]))
  rw [hgt]
  refine ⟨rfl, ⟨p, BA, BI, na, ni + 1, So, vo, v2, ys.take n, hs2.tight, hv', htl, by omega, ?_, hw, ho, ?_, fun k e => by have := hTl k e; omega⟩, hkT⟩
  · intro a ha
    have ha' : (if a = rd ord (c : Int) then false else g a) = true := ha
    by_cases e2 : a = rd ord (c : Int)
    · rw [if_pos e2] at ha'; cases ha'
    · rw [if_neg e2] at ha'; exact hg a ha'
  · rintro k (e | e | e | e | e | e)
    · exact hT k (by simp [e])
    · exact hT k (by simp [e])
    · exact hT k (by simp [e])
    · exact hT k (by simp [e])
    · exact hT k (by have := hs2.hq.own.1 k e.symm; simp [this])
    · exact hT k (by simp [e])
end

end Go.Proofs.Ytnhcimhdkdgccaa.P
