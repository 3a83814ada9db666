/- A closest dominator is common to all that come ahead: the plain law. -/
import Derived.Test.YtemcmcnhpdkdfaaGawake14
namespace Go.Proofs.Ytemcmcnhpdkdfaa.P
open Go.RowKit Go.Lib Go.Proofs.YtemcmcnhpdkdfaaW.PrintWords

theorem Av.last {c : List (List Int)} {x s b : Int} (h : Av c x s b) : b = s ∨ ∃ a, Av c x s a ∧ b ∈ row c a := by
  have := h.closed (P := fun z => Av c x s z ∧ (z = s ∨ ∃ a, Av c x s a ∧ z ∈ row c a)) (fun a b ha he hb => ⟨ha.1.snoc he hb, .inr ⟨a, ha.1, he⟩⟩) ⟨.refl h.left, .inl rfl⟩
  exact this.2
/-- Where a way first comes to b. -/
theorem Way.first {c : List (List Int)} {s b : Int} (h : Way c s b) (hb : b ≠ s) : ∃ a, Av c b s a ∧ b ∈ row c a := by
  have := h.closed (P := fun z => Av c b s z ∨ ∃ a, Av c b s a ∧ b ∈ row c a) (fun x y hx he => by
    rcases hx with hx | hx
    · by_cases e : y = b
      · exact .inr ⟨x, hx, by rw [← e]; exact he⟩
      · exact .inl (hx.snoc he e)
    · exact .inr hx) (.inl (.refl (Ne.symm hb)))
  rcases this with k | k
  · exact absurd rfl k.right
  · exact k

section
variable {c : List (List Int)} {l : List Int}
/-- The closest dominator of b dominates all that come ahead of it. -/
theorem IsDom.par_pred (h : IsDom c l) {a b : Int} (hb : Rc c b) (hb0 : b ≠ 0) (ha : Rc c a) (he : b ∈ row c a) : Dm c (rd l b) a := by
  have hp : Dm c (rd l b) b := (h.dm_par hb hb0).2 (.inr (by
    obtain ⟨p, _, h2, h3, h4⟩ := h.par b hb.1 hb.2 hb0
    rw [h2]
    exact h.dm_refl.2 ⟨h3, h4⟩))
  refine ⟨ha, fun k => hp.2 (k.snoc he (fun e => ?_))⟩
  obtain ⟨f, hf, _⟩ := h.rank
  obtain ⟨p, h1, h2, _, _⟩ := h.par b hb.1 hb.2 hb0
  have := hf b p h1
  rw [← h2, ← e] at this
  omega
/-- What is the first one on all their ways up is the closest dominator. -/
theorem IsDom.par_common (h : IsDom c l) {b x : Int} (hb : Rc c b) (hb0 : b ≠ 0) (h1 : ∀ a, Rc c a → b ∈ row c a → Dm c x a) (h2 : ∀ y, (∀ a, Rc c a → b ∈ row c a → Dm c y a) → Dm c y x) : x = rd l b := by
  have hpx : Dm c (rd l b) x := h2 _ (fun a ha he => h.par_pred hb hb0 ha he)
  have hxb : Dm c x b := by
    refine ⟨hb, fun k => ?_⟩
    rcases k.last with e | ⟨a, k2, he⟩
    · exact hb0 e
    · have ha : Rc c a := by
        have hn : Node c 0 := (h.rc0 hb).1
        have : ∀ {s t : Int}, Av c x s t → Node c s → Valid c → Node c t := fun k hn hv => k.way.node hv hn
        by_cases hna : Node c a
        · exact ⟨hna, k2.way⟩
        · -- a has a row, so it is a node
          exfalso
          have hne : row c a ≠ [] := fun e => by rw [e] at he; simp at he
          have h0 : 0 ≤ a := Classical.byContradiction fun hneg => by
            have e0 : a.toNat = 0 := by omega
            -- the way comes to a from the entry: a node, or the entry
            rcases k2.last with e | ⟨a', k3, he'⟩
            · omega
            · exact hneg (by
                have := h1 0 (h.rc0 hb)
                have hz : row c a = row c 0 := by unfold row; rw [e0]; rfl
                exact absurd (h1 0 (h.rc0 hb) (by rw [← hz]; exact he)).2 (fun q => q (by
                  have := k2.left
                  exact .refl this)))
          have h3 : a < (c.length : Int) := Classical.byContradiction fun hge => hne (by
            unfold row
            rw [List.getD_eq_getElem?_getD, List.getElem?_eq_none (by omega)]
            rfl)
          exact hna ⟨h0, h3⟩
      exact (h1 a ha he).2 k2
  rcases (h.dm_par hb hb0).1 hxb with e | e
  · exfalso
    obtain ⟨a, k, he⟩ := hb.2.first hb0
    subst e
    have hw := k.way
    have hna : Node c a := by
      refine ⟨?_, ?_⟩
      · exact Classical.byContradiction fun hneg => by
          have e0 : a.toNat = 0 := by omega
          have hz : row c a = row c 0 := by unfold row; rw [e0]; rfl
          exact (h1 0 (h.rc0 hb) (by rw [← hz]; exact he)).2 (.refl k.left)
      · exact Classical.byContradiction fun hge => by
          unfold row at he
          rw [List.getD_eq_getElem?_getD, List.getElem?_eq_none (by omega)] at he
          simp at he
    exact (h1 a ⟨hna, hw⟩ he).2 k
  · exact h.dm_anti e hpx
end

/-- What is known behind some of those ahead. -/
def PInv (c : List (List Int)) (ps : List Int) (x : Int) : Prop :=
  (x = -1 ∧ ∀ a ∈ ps, ¬ Rc c a) ∨ ((∃ a ∈ ps, Rc c a) ∧ Rc c x ∧ (∀ a ∈ ps, Rc c a → Dm c x a) ∧ ∀ y, (∀ a ∈ ps, Rc c a → Dm c y a) → Dm c y x)

theorem preds_l0 {c T : List (List Int)} {l : List Int} (h : IsDom c l) (hln : l.length ≤ 900) {b : Int} (hb : Rc c b) (hb0 : b ≠ 0) (hv : Valid c) (htl : T.length = l.length) (hmem : ∀ a, a ∈ row T b ↔ Node c a ∧ b ∈ row c a) (hlenrow : (row T b).length ≤ 900) :
    ∀ d i : Nat, i + d = (row T b).length → ∀ x : Int, PInv c ((row T b).take i) x → Ev (fun k => bywashlaw14_DomPreds.l0 k b true l T x (i : Int)) true := by
  have hbn := hb.1
  have hb1 : b < (l.length : Int) := by rw [h.len]; exact hbn.2
  have hrow : rd_L1 T b = row T b := rfl
  intro d
  induction d with
  | zero =>
    intro i hd x hx
    rw [List.take_of_length_le (by omega)] at hx
    have e : x = rd l b := by
      rcases hx with ⟨_, hno⟩ | ⟨_, _, h1, h2⟩
      · exfalso
        obtain ⟨p, h1, h2, h3, h4⟩ := h.par b hb.1 hb.2 hb0
        rcases hb.2.last with e | ⟨a, ha, he⟩
        · exact hb0 e.symm
        · have hna : Node c a := ha.node hv (h.rc0 hb).1
          exact hno a ((hmem a).2 ⟨hna, he⟩) ⟨hna, ha⟩
      · exact h.par_common hb hb0 (fun a ha he => h1 a ((hmem a).2 ⟨ha.1, he⟩) ha) (fun y hy => h2 y (fun a ha hra => hy a hra ((hmem a).1 ha).2))
    refine Ev.step (f := fun _ => some (x == rd l b)) (fun k => by rw [bywashlaw14_DomPreds.l0, if_pos hbn.1, if_pos (by rw [htl]; exact hb1), if_neg (by rw [hrow]; omega), if_pos rfl, if_pos hb1]) ?_
    rw [e, beq_self_eq_true]
    exact Ev.now _
  | succ d ih =>
    intro i hd x hx
    have hi : i < (row T b).length := by omega
    obtain ⟨a, ea⟩ : ∃ a, a = (row T b)[i] := ⟨_, rfl⟩
    have hrd : rd (row T b) (i : Int) = a := by rw [rd_nat' hi, ea]
    have hm := (hmem a).1 (by rw [ea]; exact List.getElem_mem hi)
    have han : Node c a := hm.1
    have ha1 : a < (l.length : Int) := by rw [h.len]; exact han.2
    have htake : ∀ P : Int → Prop, (∀ z ∈ (row T b).take (i + 1), P z) ↔ (∀ z ∈ (row T b).take i, P z) ∧ P a := fun P => by
      rw [List.take_succ_eq_append_getElem hi, ← ea]
      constructor
      · exact fun k => ⟨fun z hz => k z (List.mem_append_left _ hz), k a (List.mem_append_right _ (List.mem_singleton.2 rfl))⟩
      · rintro ⟨k1, k2⟩ z hz
        rcases List.mem_append.1 hz with hz | hz
        · exact k1 z hz
        · rw [List.mem_singleton.1 hz]; exact k2
    have hin : a ∈ (row T b).take (i + 1) := by rw [List.take_succ_eq_append_getElem hi, ← ea]; exact List.mem_append_right _ (List.mem_singleton.2 rfl)
    have hw := wrap_succ (i := i) (by omega)
    by_cases hra : Rc c a
    · have hdom := h.par_pred hb hb0 hra hm.2
      refine Ev.step (f := fun k => (dom_Dominates.f k l (rd l b) a).bind fun t => if t = true then (if x < 0 then bywashlaw14_DomPreds.l0 k b true l T a ((i + 1 : Nat) : Int) else (dom_Common.f k l x a).bind fun u => bywashlaw14_DomPreds.l0 k b true l T u ((i + 1 : Nat) : Int)) else some false) (fun k => by rw [bywashlaw14_DomPreds.l0, if_pos hbn.1, if_pos (by rw [htl]; exact hb1), hrow, if_pos (by omega), if_pos (by omega), hrd, if_pos han.1, if_pos ha1, if_neg (h.rd0 hra), if_pos hb1, hw]) ?_
      refine Ev.bind (dominates_ev l (by omega) _ _) ?_
      simp only [decide_eq_true (h.dm.2 hdom), if_true]
      rcases hx with ⟨hx1, hno⟩ | ⟨hex, hxr, h1, h2⟩
      · simp only [if_pos (show x < 0 by omega)]
        refine ih (i + 1) (by omega) a (.inr ⟨⟨a, hin, hra⟩, hra, ?_, fun y hy => (((htake fun z => Rc c z → Dm c y z).1 hy).2 hra)⟩)
        exact (htake fun z => Rc c z → Dm c a z).2 ⟨fun z hz hrz => absurd hrz (hno z hz), fun _ => h.dm_refl.2 hra⟩
      · have hxn := hxr.1.1
        simp only [if_neg (show ¬ x < 0 by omega)]
        refine Ev.bind (common_ev l (by omega) x a) ?_
        have hcm := (h.common (a := x) (b := a)).1 ⟨hxr, hra⟩
        refine ih (i + 1) (by omega) _ (.inr ⟨⟨a, hin, hra⟩, h.dm_rc hcm.1, ?_, fun y hy => ?_⟩)
        · exact (htake fun z => Rc c z → Dm c _ z).2 ⟨fun z hz hrz => h.dm_trans hcm.1 (h1 z hz hrz), fun _ => hcm.2.1⟩
        · have k := (htake fun z => Rc c z → Dm c y z).1 hy
          exact hcm.2.2 y (h2 y k.1) (k.2 hra)
    · have hlost : rd l a = -2 := h.lost a han (fun hw => hra ⟨han, hw⟩)
      refine Ev.step (f := fun k => bywashlaw14_DomPreds.l0 k b true l T x ((i + 1 : Nat) : Int)) (fun k => by rw [bywashlaw14_DomPreds.l0, if_pos hbn.1, if_pos (by rw [htl]; exact hb1), hrow, if_pos (by omega), if_pos (by omega), hrd, if_pos han.1, if_pos ha1, if_pos hlost, hw]) ?_
      refine ih (i + 1) (by omega) x ?_
      rcases hx with ⟨hx1, hno⟩ | ⟨⟨a', ha', hra'⟩, hxr, h1, h2⟩
      · exact .inl ⟨hx1, (htake fun z => ¬ Rc c z).2 ⟨hno, hra⟩⟩
      · refine .inr ⟨⟨a', by rw [List.take_succ_eq_append_getElem hi]; exact List.mem_append_left _ ha', hra'⟩, hxr, (htake fun z => Rc c z → Dm c x z).2 ⟨h1, fun k => absurd k hra⟩, fun y hy => h2 y ((htake fun z => Rc c z → Dm c y z).1 hy).1⟩

theorem DomPreds_pure (l0 : List (List Int)) (a1 : Int) (hb : l0.length ≤ 9223372036854775807) (_hw : ∀ r ∈ l0, r.length ≤ 9223372036854775807 ∧ ∀ y ∈ r, (Lit.int .i64 y).wf = true) (_ : (Lit.int .i64 a1).wf = true) :
    ∃ k, bywashlaw14_DomPreds.f k l0 a1 = some true := by
  refine Ev.rounds (g := fun k => bywashlaw14_DomPreds.f k l0 a1) ?_
  unfold bywashlaw14_DomPreds.f
  refine Ev.bind awake14_ev ?_
  refine Ev.bind (few_ev l0 hb) ?_
  by_cases hf : few l0 = true
  · simp only [hf, if_true]
    have hs := few_small hf
    obtain ⟨l, hl, h⟩ := idoms_now hs
    have hll : l.length = l0.length := by rw [h.len, clean_len]
    have hln : l.length ≤ 900 := by rw [hll]; exact hs.2
    refine Ev.bind hl ?_
    have ht : graph_Turn.f l0 = some (turn (clean l0)) := by unfold graph_Turn.f; rw [if_pos hs.1]
    have htl : (turn (clean l0)).length = l0.length := by rw [turn_len, clean_len]
    simp only [ht, Option.bind_some, hll, htl, if_true]
    rw [show ((l0.length : Int) != (l0.length : Int)) = false from by simp]
    have stop : Ev (fun k => bywashlaw14_DomPreds.j1 k a1 true l (turn (clean l0)) true) true := Ev.step (f := fun _ => some true) (fun k => by rw [bywashlaw14_DomPreds.j1, if_pos rfl]) (Ev.now _)
    by_cases h1 : a1 ≤ 0
    · exact Ev.step (fun k => by rw [bywashlaw14_DomPreds.j0, if_neg (by simp), if_pos h1]) stop
    · by_cases h2 : a1 ≥ (l0.length : Int)
      · exact Ev.step (fun k => by rw [bywashlaw14_DomPreds.j0, if_neg (by simp), if_neg h1, if_pos h2]) stop
      · refine Ev.step (f := fun k => bywashlaw14_DomPreds.j1 k a1 true l (turn (clean l0)) (rd l a1 == -2)) (fun k => by rw [bywashlaw14_DomPreds.j0, if_neg (by simp), if_neg h1, if_neg h2, if_pos (by omega), if_pos (by omega)]) ?_
        have hn : Node (clean l0) a1 := ⟨by omega, by rw [clean_len]; omega⟩
        by_cases e : rd l a1 = -2
        · rw [e]
          exact stop
        · rw [show (rd l a1 == -2) = false from by simpa using e]
          refine Ev.step (f := fun k => bywashlaw14_DomPreds.l0 k a1 true l (turn (clean l0)) (-1) ((0 : Nat) : Int)) (fun k => by rw [bywashlaw14_DomPreds.j1, if_neg (by simp)]; rfl) ?_
          have hw : Way (clean l0) 0 a1 := Classical.byContradiction fun hw => e (h.lost a1 hn hw)
          have hv := clean_Valid l0
          have hri := clean_rises l0
          have hmem : ∀ a, a ∈ row (turn (clean l0)) a1 ↔ Node (clean l0) a ∧ a1 ∈ row (clean l0) a := fun a => mem_turn hv hri hn.1
          have hlenrow : (row (turn (clean l0)) a1).length ≤ 900 := by
            have hm := few_nodes (n := (clean l0).length) (t := row (turn (clean l0)) a1) ?_ (fun a ha => ((hmem a).1 ha).1)
            · rw [clean_len] at hm
              exact Nat.le_trans hm hs.2
            · unfold row
              rw [List.getD_eq_getElem?_getD, List.getElem?_eq_getElem (by rw [htl]; omega)]
              exact ((turn_rises hv hri) _ (List.getElem_mem _)).imp (fun h => by omega)
          exact preds_l0 h hln ⟨hn, hw⟩ (by omega) hv (by rw [htl, hll]) hmem hlenrow (row (turn (clean l0)) a1).length 0 (by omega) (-1) (.inl ⟨rfl, fun a ha => by simp at ha⟩)
  · simp only [hf]
    exact Ev.now _

end Go.Proofs.Ytemcmcnhpdkdfaa.P
