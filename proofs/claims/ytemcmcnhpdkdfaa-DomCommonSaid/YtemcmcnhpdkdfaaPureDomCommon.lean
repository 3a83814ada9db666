/- The first one on both ways dominates both: the plain law. -/
import Derived.Test.YtemcmcnhpdkdfaaGawake14
namespace Go.Proofs.Ytemcmcnhpdkdfaa.P
open Go.RowKit Go.Lib Go.Proofs.YtemcmcnhpdkdfaaW.PrintWords

theorem common_j1 {x0 : List (List Int)} {l : List Int} (h : IsDom (clean x0) l) (hln : l.length ≤ 1000000) (a b : Int) : Ev (fun k => bywashlaw14_DomCommon.j1 k a b true l (commonB l a b) false) true := by
  have ex := h.common_pos (a := a) (b := b)
  have e0a : decide ((0 : Int) ∈ chainB l a) = true ↔ Rc (clean x0) a := by rw [decide_eq_true_iff, h.dm, h.dm_zero]
  have e0b : decide ((0 : Int) ∈ chainB l b) = true ↔ Rc (clean x0) b := by rw [decide_eq_true_iff, h.dm, h.dm_zero]
  have eab : decide (a ∈ chainB l b) = true ↔ Dm (clean x0) a b := by rw [decide_eq_true_iff, h.dm]
  have eaa : decide (a ∈ chainB l a) = true ↔ Rc (clean x0) a := by rw [decide_eq_true_iff, h.dm, h.dm_refl]
  have hcm := h.common (a := a) (b := b)
  have huniq : Dm (clean x0) a b → commonB l a b = a := fun k => h.common_unique (h.dm_refl.2 (h.dm_rc k)) k (fun y h1 _ => h1)
  obtain ⟨x, hx⟩ : ∃ x, x = commonB l a b := ⟨_, rfl⟩
  rw [← hx] at ex hcm huniq ⊢
  -- what is claimed of the last part
  have last : Ev (fun k => (dom_Dominates.f k l a b).bind fun t => if x = a then (if x ≥ 0 then (dom_Dominates.f k l a a).bind fun u => if (t == u) = true then some true else some (decide (x < 0)) else (if (t == false) = true then some true else some (decide (x < 0)))) else (if (t == false) = true then some true else some (decide (x < 0)))) true := by
    refine Ev.bind (dominates_ev l hln a b) ?_
    obtain ⟨t, ht⟩ : ∃ t, t = decide (a ∈ chainB l b) := ⟨_, rfl⟩
    rw [← ht] at eab ⊢
    by_cases hr : Rc (clean x0) a ∧ Rc (clean x0) b
    · have hx0 := ex.2 hr
      by_cases e : x = a
      · simp only [if_pos e, if_pos (show x ≥ 0 from hx0)]
        refine Ev.bind (dominates_ev l hln a a) ?_
        rw [eaa.2 hr.1]
        have : t = true := eab.2 (by have := (hcm.1 hr).2.1; rw [e] at this; exact this)
        rw [this]
        exact Ev.now _
      · simp only [if_neg e]
        have : t = false := by
          cases t with
          | false => rfl
          | true => exact absurd (huniq (eab.1 rfl)) e
        rw [this]
        exact Ev.now _
    · have hx1 : x = -1 := hcm.2 hr
      have : t = false := by
        cases t with
        | false => rfl
        | true =>
          have k := eab.1 rfl
          exact absurd ⟨h.dm_rc k, k.1⟩ hr
      rw [this, hx1]
      by_cases e : (-1 : Int) = a
      · simp only [if_pos e]
        exact Ev.now _
      · simp only [if_neg e]
        exact Ev.now _
  refine Ev.step (fun k => by rw [bywashlaw14_DomCommon.j1, if_neg (by simp), if_pos rfl]) ?_
  refine Ev.bind (dominates_ev l hln 0 a) ?_
  by_cases ha : Rc (clean x0) a
  · simp only [e0a.2 ha, if_true]
    refine Ev.bind (dominates_ev l hln 0 b) ?_
    have : (decide (x ≥ 0) == decide ((0 : Int) ∈ chainB l b)) = true := by
      rw [beq_iff_eq, Bool.eq_iff_iff, e0b, decide_eq_true_iff]
      exact ⟨fun k => (ex.1 k).2, fun k => ex.2 ⟨ha, k⟩⟩
    simp only [this, if_true]
    exact last
  · have e1 : decide ((0 : Int) ∈ chainB l a) = false := by
      rw [← Bool.not_eq_true, e0a]; exact ha
    have e2 : (decide (x ≥ 0) == false) = true := by
      rw [decide_eq_false (fun k => ha (ex.1 k).1)]; rfl
    simp only [e1, e2, Bool.false_eq_true, if_false, if_true]
    exact last

theorem common_j0 {x0 : List (List Int)} {l : List Int} (h : IsDom (clean x0) l) (hln : l.length ≤ 1000000) (a b c : Int) (q : Bool) (hq : q = true → Dm (clean x0) c a ∧ Dm (clean x0) c b) : Ev (fun k => bywashlaw14_DomCommon.j0 k a b c true l (commonB l a b) q) true := by
  have fin := common_j1 h hln a b
  have hcm := h.common (a := a) (b := b)
  have ex := h.common_pos (a := a) (b := b)
  have mid : Ev (fun k => if commonB l a b ≥ 0 then (dom_Dominates.f k l (commonB l a b) a).bind fun t => if t = true then (dom_Dominates.f k l (commonB l a b) b).bind fun u => bywashlaw14_DomCommon.j1 k a b true l (commonB l a b) (!u) else bywashlaw14_DomCommon.j1 k a b true l (commonB l a b) true else bywashlaw14_DomCommon.j1 k a b true l (commonB l a b) false) true := by
    by_cases h0 : commonB l a b ≥ 0
    · have k := hcm.1 (ex.1 h0)
      simp only [if_pos h0]
      refine Ev.bind (dominates_ev l hln _ a) ?_
      simp only [decide_eq_true (h.dm.2 k.1), if_true]
      refine Ev.bind (dominates_ev l hln _ b) ?_
      rw [decide_eq_true (h.dm.2 k.2.1), Bool.not_true]
      exact fin
    · simp only [if_neg h0]
      exact fin
  refine Ev.step (fun k => by rw [bywashlaw14_DomCommon.j0]) ?_
  refine Ev.bind (common_ev l hln b a) ?_
  simp only [if_pos (h.common_comm a b)]
  cases q with
  | true =>
    obtain ⟨h1, h2⟩ := hq rfl
    have k := (hcm.1 ⟨h1.1, h2.1⟩).2.2 c h1 h2
    simp only [if_true]
    refine Ev.bind (dominates_ev l hln c _) ?_
    simp only [decide_eq_true (h.dm.2 k), if_true]
    exact mid
  | false =>
    simp only [Bool.false_eq_true, if_false]
    exact mid

theorem DomCommon_pure (l0 : List (List Int)) (a1 a2 a3 : Int) (hb : l0.length ≤ 9223372036854775807) (_hw : ∀ r ∈ l0, r.length ≤ 9223372036854775807 ∧ ∀ y ∈ r, (Lit.int .i64 y).wf = true) (_ : (Lit.int .i64 a1).wf = true) (_ : (Lit.int .i64 a2).wf = true) (_ : (Lit.int .i64 a3).wf = true) :
    ∃ k, bywashlaw14_DomCommon.f k l0 a1 a2 a3 = some true := by
  refine Ev.rounds (g := fun k => bywashlaw14_DomCommon.f k l0 a1 a2 a3) ?_
  unfold bywashlaw14_DomCommon.f
  refine Ev.bind awake14_ev ?_
  refine Ev.bind (few_ev l0 hb) ?_
  by_cases hf : few l0 = true
  · simp only [hf, if_true]
    obtain ⟨l, hl, h⟩ := idoms_now (few_small hf)
    have hln : l.length ≤ 1000000 := by rw [h.len, clean_len]; have := (few_small hf).2; omega
    refine Ev.bind hl ?_
    refine Ev.bind (common_ev l hln a1 a2) ?_
    refine Ev.bind (dominates_ev l hln a3 a1) ?_
    by_cases e : a3 ∈ chainB l a1
    · simp only [decide_eq_true e, if_true]
      refine Ev.bind (dominates_ev l hln a3 a2) ?_
      exact common_j0 h hln a1 a2 a3 _ (fun k => ⟨h.dm.1 e, h.dm.1 (of_decide_eq_true k)⟩)
    · simp only [decide_eq_false e, Bool.false_eq_true, if_false]
      exact common_j0 h hln a1 a2 a3 _ (fun k => by cases k)
  · simp only [hf]
    exact Ev.now _

end Go.Proofs.Ytemcmcnhpdkdfaa.P
