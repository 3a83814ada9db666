/- What the claim uses of: PlawDomupFoundF PureDomupFound -/
import Derived.Test.YtemcmcnhpdkdfaaQU4
namespace Go.Proofs.Ytemcmcnhpdkdfaa.P
open Go.RowKit Go.Proofs.YtemcmcnhpdkdfaaW.PrintWords Go.Proofs.YtemcmcnhpdkdfaaW.PrintLast Go.Proofs.YtemcmcnhpdkdfaaW.PrintMore
attribute [local go_sem] max2_int min2_int max_two min_two max_three min_three max_four min_four
set_option linter.unusedVariables false
set_option linter.unusedSimpArgs false
mutual
def bywashlaw15_DomupFound.j0 : Nat → List (List Int) → Int → Bool → List Bool → List Bool → Bool → List (List Int) → List Int → Bool → List (List Int) → List Int → Bool → List (List Int) → List Int → Bool → Option (Bool)
 | 0, _, _, _, _, _, _, _, _, _, _, _, _, _, _, _ => none
 | k + 1, x0, x3, x9, x15, x16, x77, x496000, x496001, x496002, x507000, x507001, x507002, x518000, x518001, x518002 => if x77 = true then (some false) else (bywashlaw15_DomupFound.l0 k x0 x3 x9 x15 x16 0 x496000 x496001 x496002 x507000 x507001 x507002 x518000 x518001 x518002)
def bywashlaw15_DomupFound.l0 : Nat → List (List Int) → Int → Bool → List Bool → List Bool → Int → List (List Int) → List Int → Bool → List (List Int) → List Int → Bool → List (List Int) → List Int → Bool → Option (Bool)
 | 0, _, _, _, _, _, _, _, _, _, _, _, _, _, _, _ => none
 | k + 1, x0, x3, x9, x15, x16, x17, x496000, x496001, x496002, x507000, x507001, x507002, x518000, x518001, x518002 => if x17 < (x0.length : Int) then (if 0 ≤ x17 then (if x17 < (x15.length : Int) then (if x17 < (x507001.length : Int) then (if ((rdOf false x15 x17) == ((rd x507001 x17) == (-2))) = true then (some false) else (if x17 < (x16.length : Int) then (if x17 < (x518001.length : Int) then (if ((rdOf false x16 x17) == ((rd x518001 x17) == (-2))) = true then (some false) else (bywashlaw15_DomupFound.l0 k x0 x3 x9 x15 x16 (wrap64 (x17 + 1)) x496000 x496001 x496002 x507000 x507001 x507002 x518000 x518001 x518002)) else (none)) else (none))) else (none)) else (none)) else (none)) else ((dom_Chain.f k x496001 x3).bind fun t528 => ((dom_Chain.f k x507001 x3).bind fun t531 => ((dom_Chain.f k x518001 x3).bind fun t534 => (if x9 = true then (if (t528.length : Int) = 0 then (if (t534.length : Int) = 0 then ((dom_Idoms.f k x507000).bind fun t537 => ((bywashref01_Ints.f k t537 x507001).bind fun t540 => (some t540))) else (if (t534.length : Int) ≥ (t528.length : Int) then ((dom_Idoms.f k x507000).bind fun t541 => ((bywashref01_Ints.f k t541 x507001).bind fun t544 => (some t544))) else (some false))) else (if (t531.length : Int) ≤ (t528.length : Int) then (if (t531.length : Int) > 0 then (if (t534.length : Int) = 0 then ((dom_Idoms.f k x507000).bind fun t545 => ((bywashref01_Ints.f k t545 x507001).bind fun t548 => (some t548))) else (if (t534.length : Int) ≥ (t528.length : Int) then ((dom_Idoms.f k x507000).bind fun t549 => ((bywashref01_Ints.f k t549 x507001).bind fun t552 => (some t552))) else (some false))) else (some false)) else (some false))) else (some false)))))
end
def bywashlaw15_DomupFound.f (k : Nat) (l0 : List (List Int)) (a1 : Int) (a2 : Int) (a3 : Int) : Option (Bool) := (bywashlaw15_awake.f k).bind fun t486 => ((bywashref10_Few.f k l0).bind fun t487 => (if t487 = true then ((domup_New.f k l0).bind fun bt488 => ((domup_Add.f k bt488.1 bt488.2.1 bt488.2.2 a1 a2).bind fun bt496 => ((domup_Del.f k bt488.1 bt488.2.1 bt488.2.2 a1 a2).bind fun bt507 => ((graph_Reach.f bt496.1 0).bind fun t518 => ((graph_Reach.f bt507.1 0).bind fun t521 => (if (t518.length : Int) = (bt496.2.1.length : Int) then (if (t521.length : Int) = (bt507.2.1.length : Int) then (if (bt496.2.1.length : Int) = (l0.length : Int) then (bywashlaw15_DomupFound.j0 k l0 a3 t486 t518 t521 ((bt507.2.1.length : Int) != (l0.length : Int)) bt488.1 bt488.2.1 bt488.2.2 bt496.1 bt496.2.1 bt496.2.2.1 bt507.1 bt507.2.1 bt507.2.2.1) else (bywashlaw15_DomupFound.j0 k l0 a3 t486 t518 t521 true bt488.1 bt488.2.1 bt488.2.2 bt496.1 bt496.2.1 bt496.2.2.1 bt507.1 bt507.2.1 bt507.2.2.1)) else (bywashlaw15_DomupFound.j0 k l0 a3 t486 t518 t521 true bt488.1 bt488.2.1 bt488.2.2 bt496.1 bt496.2.1 bt496.2.2.1 bt507.1 bt507.2.1 bt507.2.2.1)) else (bywashlaw15_DomupFound.j0 k l0 a3 t486 t518 t521 true bt488.1 bt488.2.1 bt488.2.2 bt496.1 bt496.2.1 bt496.2.2.1 bt507.1 bt507.2.1 bt507.2.2.1))))))) else (some t486)))
theorem bywashlaw15_DomupFound.mono_l : ∀ k, (∀ y0 y1 y2 y3 y4 y5 y6 y7 y8 y9 y10 y11 y12 y13 y14, LeO (bywashlaw15_DomupFound.j0 k y0 y1 y2 y3 y4 y5 y6 y7 y8 y9 y10 y11 y12 y13 y14) (bywashlaw15_DomupFound.j0 (k + 1) y0 y1 y2 y3 y4 y5 y6 y7 y8 y9 y10 y11 y12 y13 y14)) ∧ (∀ y0 y1 y2 y3 y4 y5 y6 y7 y8 y9 y10 y11 y12 y13 y14, LeO (bywashlaw15_DomupFound.l0 k y0 y1 y2 y3 y4 y5 y6 y7 y8 y9 y10 y11 y12 y13 y14) (bywashlaw15_DomupFound.l0 (k + 1) y0 y1 y2 y3 y4 y5 y6 y7 y8 y9 y10 y11 y12 y13 y14))
 | 0 => ⟨fun _ _ _ _ _ _ _ _ _ _ _ _ _ _ _ r h => by simp [bywashlaw15_DomupFound.j0] at h, fun _ _ _ _ _ _ _ _ _ _ _ _ _ _ _ r h => by simp [bywashlaw15_DomupFound.l0] at h⟩
 | k + 1 => by
  obtain ⟨ih0, ih1⟩ := bywashlaw15_DomupFound.mono_l k
  refine ⟨?_, ?_⟩
  ·
   intro y0 y1 y2 y3 y4 y5 y6 y7 y8 y9 y10 y11 y12 y13 y14
   unfold bywashlaw15_DomupFound.j0
   repeat' first
   | (with_reducible exact ih0 _ _ _ _ _ _ _ _ _ _ _ _ _ _ _)
   | (with_reducible exact ih1 _ _ _ _ _ _ _ _ _ _ _ _ _ _ _)
   | (with_reducible exact bywashlaw15_awake.mono _)
   | (with_reducible exact bywashref01_Ints.mono _ _ _)
   | (with_reducible exact bywashref10_Few.mono _ _)
   | (with_reducible exact dom_Chain.mono _ _ _)
   | (with_reducible exact dom_Idoms.mono _ _)
   | (with_reducible exact domup_Add.mono _ _ _ _ _ _)
   | (with_reducible exact domup_Del.mono _ _ _ _ _ _)
   | (with_reducible exact domup_New.mono _ _)
   | (with_reducible exact LeO.refl _)
   | (with_reducible exact LeO.none _)
   | (with_reducible refine LeO.ite ?_ ?_)
   | (with_reducible refine LeO.bind ?_ (fun _ => ?_))
   | exact ih0 _ _ _ _ _ _ _ _ _ _ _ _ _ _ _
   | exact ih1 _ _ _ _ _ _ _ _ _ _ _ _ _ _ _
   | exact bywashlaw15_awake.mono _
   | exact bywashref01_Ints.mono _ _ _
   | exact bywashref10_Few.mono _ _
   | exact dom_Chain.mono _ _ _
   | exact dom_Idoms.mono _ _
   | exact domup_Add.mono _ _ _ _ _ _
   | exact domup_Del.mono _ _ _ _ _ _
   | exact domup_New.mono _ _
   | exact LeO.none _
   | refine LeO.ite ?_ ?_
   | refine LeO.bind ?_ (fun _ => ?_)
  ·
   intro y0 y1 y2 y3 y4 y5 y6 y7 y8 y9 y10 y11 y12 y13 y14
   unfold bywashlaw15_DomupFound.l0
   repeat' first
   | (with_reducible exact ih0 _ _ _ _ _ _ _ _ _ _ _ _ _ _ _)
   | (with_reducible exact ih1 _ _ _ _ _ _ _ _ _ _ _ _ _ _ _)
   | (with_reducible exact bywashlaw15_awake.mono _)
   | (with_reducible exact bywashref01_Ints.mono _ _ _)
   | (with_reducible exact bywashref10_Few.mono _ _)
   | (with_reducible exact dom_Chain.mono _ _ _)
   | (with_reducible exact dom_Idoms.mono _ _)
   | (with_reducible exact domup_Add.mono _ _ _ _ _ _)
   | (with_reducible exact domup_Del.mono _ _ _ _ _ _)
   | (with_reducible exact domup_New.mono _ _)
   | (with_reducible exact LeO.refl _)
   | (with_reducible exact LeO.none _)
   | (with_reducible refine LeO.ite ?_ ?_)
   | (with_reducible refine LeO.bind ?_ (fun _ => ?_))
   | exact ih0 _ _ _ _ _ _ _ _ _ _ _ _ _ _ _
   | exact ih1 _ _ _ _ _ _ _ _ _ _ _ _ _ _ _
   | exact bywashlaw15_awake.mono _
   | exact bywashref01_Ints.mono _ _ _
   | exact bywashref10_Few.mono _ _
   | exact dom_Chain.mono _ _ _
   | exact dom_Idoms.mono _ _
   | exact domup_Add.mono _ _ _ _ _ _
   | exact domup_Del.mono _ _ _ _ _ _
   | exact domup_New.mono _ _
   | exact LeO.none _
   | refine LeO.ite ?_ ?_
   | refine LeO.bind ?_ (fun _ => ?_)
theorem bywashlaw15_DomupFound.mono : ∀ a0 a1 a2 a3 k, LeO (bywashlaw15_DomupFound.f k a0 a1 a2 a3) (bywashlaw15_DomupFound.f (k + 1) a0 a1 a2 a3) := by
 intro a0 a1 a2 a3 k
 obtain ⟨ih0, ih1⟩ := bywashlaw15_DomupFound.mono_l k
 unfold bywashlaw15_DomupFound.f
 repeat' first
   | (with_reducible exact ih0 _ _ _ _ _ _ _ _ _ _ _ _ _ _ _)
   | (with_reducible exact ih1 _ _ _ _ _ _ _ _ _ _ _ _ _ _ _)
   | (with_reducible exact bywashlaw15_awake.mono _)
   | (with_reducible exact bywashref01_Ints.mono _ _ _)
   | (with_reducible exact bywashref10_Few.mono _ _)
   | (with_reducible exact dom_Chain.mono _ _ _)
   | (with_reducible exact dom_Idoms.mono _ _)
   | (with_reducible exact domup_Add.mono _ _ _ _ _ _)
   | (with_reducible exact domup_Del.mono _ _ _ _ _ _)
   | (with_reducible exact domup_New.mono _ _)
   | (with_reducible exact LeO.refl _)
   | (with_reducible exact LeO.none _)
   | (with_reducible refine LeO.ite ?_ ?_)
   | (with_reducible refine LeO.bind ?_ (fun _ => ?_))
   | exact ih0 _ _ _ _ _ _ _ _ _ _ _ _ _ _ _
   | exact ih1 _ _ _ _ _ _ _ _ _ _ _ _ _ _ _
   | exact bywashlaw15_awake.mono _
   | exact bywashref01_Ints.mono _ _ _
   | exact bywashref10_Few.mono _ _
   | exact dom_Chain.mono _ _ _
   | exact dom_Idoms.mono _ _
   | exact domup_Add.mono _ _ _ _ _ _
   | exact domup_Del.mono _ _ _ _ _ _
   | exact domup_New.mono _ _
   | exact LeO.none _
   | refine LeO.ite ?_ ?_
   | refine LeO.bind ?_ (fun _ => ?_)
end Go.Proofs.Ytemcmcnhpdkdfaa.P
namespace Go.Proofs.Ytemcmcnhpdkdfaa.P
open Go.RowKit Go.Lib Go.Proofs.YtemcmcnhpdkdfaaW.PrintWords
theorem nodup_le {xs : List Int} : ∀ {ys : List Int}, xs.Nodup → (∀ a ∈ xs, a ∈ ys) → xs.length ≤ ys.length := by
  induction xs with
  | nil => intro _ _ _; simp
  | cons x xs ih =>
    intro ys hn hs
    rw [List.nodup_cons] at hn
    have hx := hs x (by simp)
    have := ih (ys := ys.erase x) hn.2 (fun a ha => (List.mem_erase_of_ne (fun e => hn.1 (by rw [← e]; exact ha))).2 (hs a (by simp [ha])))
    rw [List.length_erase_of_mem hx] at this
    have := List.length_pos_of_mem hx
    rw [List.length_cons]
    omega
theorem IsDom.chain_nodup {c : List (List Int)} {l : List Int} (h : IsDom c l) (b : Int) : (chainB l b).Nodup := by
  obtain ⟨f, hf, _⟩ := h.rank
  have key : ∀ (m : Nat) (b : Int), f b ≤ m → (chainB l b).Nodup := by
    intro m
    induction m with
    | zero =>
      intro b hm
      by_cases hb : Rc c b
      · rw [h.chain_cons hb]
        by_cases h0 : b = 0
        · rw [if_pos h0]; simp
        · obtain ⟨p, hp, _⟩ := h.par b hb.1 hb.2 h0
          have := hf b p hp
          omega
      · rw [h.chain_nil hb]; exact List.nodup_nil
    | succ m ih =>
      intro b hm
      by_cases hb : Rc c b
      · rw [h.chain_cons hb]
        by_cases h0 : b = 0
        · rw [if_pos h0]; simp
        · rw [if_neg h0]
          obtain ⟨p, hp, e, _⟩ := h.par b hb.1 hb.2 h0
          have hlt := hf b p hp
          rw [e, List.nodup_cons]
          refine ⟨fun hm => ?_, ih p (by omega)⟩
          have k1 := h.dm.1 hm
          have k2 : Dm c p b := h.dm_up.2 ⟨hb, .step hp (.refl _)⟩
          have := h.dm_anti k1 k2
          rw [this] at hlt
          omega
      · rw [h.chain_nil hb]; exact List.nodup_nil
  exact key (f b) b (Nat.le_refl _)
theorem IsDom.chain_len0 {c : List (List Int)} {l : List Int} (h : IsDom c l) {b : Int} : (chainB l b).length = 0 ↔ ¬ Rc c b := by
  constructor
  · intro k hb
    rw [h.chain_cons hb] at k
    simp at k
  · intro k
    rw [h.chain_nil k]
    rfl
theorem dm_less' {big small : List (List Int)} {a b x y : Int} (hdf : Dif big small a b) (hy : Rc small y) (h : Dm big x y) : Dm small x y := ⟨hy, fun k => h.2 (hdf.av k (Int.le_refl 0))⟩
theorem chain_less {big small : List (List Int)} {a b : Int} {lb ls : List Int} (hdf : Dif big small a b) (hb : IsDom big lb) (hs : IsDom small ls) {x : Int} (hx : Rc small x) : (chainB lb x).length ≤ (chainB ls x).length :=
  nodup_le (hb.chain_nodup x) (fun _ hy => hs.dm.2 (dm_less' hdf hx (hb.dm.1 hy)))
theorem found_l0 (x0 : List (List Int)) {c : List (List Int)} {l : List Int} (h : Stt c l) {a b : Int} {l3 l4 : List Int} (h3 : Stt (withE c a b) l3) (h4 : Stt (withoutE c a b) l4) (hx0 : x0.length = c.length) (x3 : Int) (r q : List Bool) (hr : r.length = x0.length) (hq : q.length = x0.length)
    (hri : ∀ x, 0 ≤ x → x < (x0.length : Int) → (rdOf false r x = true ↔ Way (withE c a b) 0 x)) (hqi : ∀ x, 0 ≤ x → x < (x0.length : Int) → (rdOf false q x = true ↔ Way (withoutE c a b) 0 x)) (k1 k2 k3 : Bool) :
    ∀ d i : Nat, i + d = x0.length → Ev (fun k => bywashlaw15_DomupFound.l0 k x0 x3 true r q (i : Int) c l k1 (withE c a b) l3 k2 (withoutE c a b) l4 k3) true
  | 0, i, hd => by
    have hn := h.n
    have hll := h.len
    have hl3 : l3.length = c.length := by rw [h3.len, withE_len]
    have hl4 : l4.length = c.length := by rw [h4.len, withoutE_len]
    have last : Ev (fun k => (dom_Idoms.f k (withE c a b)).bind fun t => (bywashref01_Ints.f k t l3).bind fun u => some u) true := by
      refine Ev.bind h3.idoms (Ev.bind (ints_ev l3 l3 (by omega)) ?_)
      rw [decide_eq_true rfl]
      exact Ev.now _
    have e1 := h.d.chain_len0 (b := x3)
    have e3 := h3.d.chain_len0 (b := x3)
    have e4 := h4.d.chain_len0 (b := x3)
    have d3 := dif_with h.v a b
    have d4 := dif_without h.v a b
    refine Ev.step (fun k => by rw [bywashlaw15_DomupFound.l0, if_neg (by omega)]) ?_
    refine Ev.bind (chain_ev l (by omega) x3) (Ev.bind (chain_ev l3 (by omega) x3) (Ev.bind (chain_ev l4 (by omega) x3) ?_))
    simp only [if_true]
    by_cases hx : Rc c x3
    · have hx3 : Rc (withE c a b) x3 := ⟨by unfold Node; rw [withE_len]; exact hx.1, d3.way hx.2 (Int.le_refl 0)⟩
      have hle := chain_less d3 h3.d h.d hx
      have hp : (chainB l3 x3).length ≠ 0 := fun k => (e3.1 k) hx3
      simp only [if_neg (show ¬ ((chainB l x3).length : Int) = 0 from fun k => (e1.1 (by omega)) hx), if_pos (show ((chainB l3 x3).length : Int) ≤ ((chainB l x3).length : Int) by omega), if_pos (show ((chainB l3 x3).length : Int) > 0 by omega)]
      by_cases hz : (chainB l4 x3).length = 0
      · simp only [if_pos (show ((chainB l4 x3).length : Int) = 0 by omega)]
        exact last
      · have hx4 : Rc (withoutE c a b) x3 := by
          by_cases k : Rc (withoutE c a b) x3
          · exact k
          · exact absurd (e4.2 k) hz
        have hle4 := chain_less d4 h.d h4.d hx4
        simp only [if_neg (show ¬ ((chainB l4 x3).length : Int) = 0 by omega), if_pos (show ((chainB l4 x3).length : Int) ≥ ((chainB l x3).length : Int) by omega)]
        exact last
    · have hz : (chainB l4 x3).length = 0 := e4.2 (fun k => hx ⟨by have := k.1; unfold Node at this ⊢; rw [withoutE_len] at this; exact this, d4.way k.2 (Int.le_refl 0)⟩)
      simp only [if_pos (show ((chainB l x3).length : Int) = 0 from by have := e1.2 hx; omega), if_pos (show ((chainB l4 x3).length : Int) = 0 by omega)]
      exact last
  | d + 1, i, hd => by
    have hl3 : l3.length = c.length := by rw [h3.len, withE_len]
    have hl4 : l4.length = c.length := by rw [h4.len, withoutE_len]
    have hn3 : Node (withE c a b) (i : Int) := by unfold Node; rw [withE_len]; omega
    have hn4 : Node (withoutE c a b) (i : Int) := by unfold Node; rw [withoutE_len]; omega
    have f3 : ¬ ((rdOf false r (i : Int) == (rd l3 (i : Int) == -2)) = true) := fun k => by
      rw [beq_iff_eq, Bool.eq_iff_iff, hri _ (by omega) (by omega), beq_iff_eq, h3.d.lost_iff hn3] at k
      by_cases q : Way (withE c a b) 0 (i : Int)
      · exact k.1 q q
      · exact q (k.2 q)
    have f4 : ¬ ((rdOf false q (i : Int) == (rd l4 (i : Int) == -2)) = true) := fun k => by
      rw [beq_iff_eq, Bool.eq_iff_iff, hqi _ (by omega) (by omega), beq_iff_eq, h4.d.lost_iff hn4] at k
      by_cases q : Way (withoutE c a b) 0 (i : Int)
      · exact k.1 q q
      · exact q (k.2 q)
    have := found_l0 x0 h h3 h4 hx0 x3 r q hr hq hri hqi k1 k2 k3 d (i + 1) (by omega)
    refine Ev.step (fun k => ?_) this
    rw [bywashlaw15_DomupFound.l0, if_pos (by omega), if_pos (by omega), if_pos (by omega), if_pos (by omega), if_neg f3, if_pos (by omega), if_pos (by omega), if_neg f4, wrap_succ (by have := h.n; omega)]
theorem found_ev (l0 : List (List Int)) (a1 a2 a3 : Int) (hm0 : l0.length ≤ 9223372036854775807) : Ev (fun k => bywashlaw15_DomupFound.f k l0 a1 a2 a3) true := by
  refine Ev.bind awake15_ev (Ev.bind (few_ev l0 hm0) ?_)
  by_cases hf : few l0 = true
  · simp only [hf, if_true]
    have hs := few_small hf
    obtain ⟨l, h⟩ := stt_clean hs
    have hcl := clean_len l0
    obtain ⟨l3, h3⟩ := h.with_ a1 a2
    obtain ⟨l4, h4⟩ := h.without a1 a2
    have hl3 : l3.length = l0.length := by rw [h3.len, withE_len, hcl]
    have hl4 : l4.length = l0.length := by rw [h4.len, withoutE_len, hcl]
    obtain ⟨r, r1, r2, r3⟩ := reach_now h3.small 0
    obtain ⟨q, q1, q2, q3⟩ := reach_now h4.small 0
    rw [h3.self] at r3
    rw [h4.self] at q3
    rw [withE_len, hcl] at r2 r3
    rw [withoutE_len, hcl] at q2 q3
    refine Ev.bind (new_ev hs h) (Ev.bind (add_ev h h3) (Ev.bind (del_ev h h4) ?_))
    refine Ev.bind (f := fun k t => (graph_Reach.f (withoutE (clean l0) a1 a2) 0).bind fun u => if (t.length : Int) = (l3.length : Int) then (if (u.length : Int) = (l4.length : Int) then (if (l3.length : Int) = (l0.length : Int) then bywashlaw15_DomupFound.j0 k l0 a3 true t u ((l4.length : Int) != (l0.length : Int)) (clean l0) l true (withE (clean l0) a1 a2) l3 true (withoutE (clean l0) a1 a2) l4 true else bywashlaw15_DomupFound.j0 k l0 a3 true t u true (clean l0) l true (withE (clean l0) a1 a2) l3 true (withoutE (clean l0) a1 a2) l4 true) else bywashlaw15_DomupFound.j0 k l0 a3 true t u true (clean l0) l true (withE (clean l0) a1 a2) l3 true (withoutE (clean l0) a1 a2) l4 true) else bywashlaw15_DomupFound.j0 k l0 a3 true t u true (clean l0) l true (withE (clean l0) a1 a2) l3 true (withoutE (clean l0) a1 a2) l4 true) (g := fun _ => graph_Reach.f (withE (clean l0) a1 a2) 0) (a := r) (by rw [r1]; exact Ev.now _) ?_
    refine Ev.bind (g := fun _ => graph_Reach.f (withoutE (clean l0) a1 a2) 0) (a := q) (by rw [q1]; exact Ev.now _) ?_
    simp only [if_pos (show (r.length : Int) = (l3.length : Int) by omega), if_pos (show (q.length : Int) = (l4.length : Int) by omega), if_pos (show (l3.length : Int) = (l0.length : Int) by omega)]
    rw [show ((l4.length : Int) != (l0.length : Int)) = false from by simp; omega]
    refine Ev.step (f := fun k => bywashlaw15_DomupFound.l0 k l0 a3 true r q ((0 : Nat) : Int) (clean l0) l true (withE (clean l0) a1 a2) l3 true (withoutE (clean l0) a1 a2) l4 true) (fun k => by rw [bywashlaw15_DomupFound.j0, if_neg (by simp)]; rfl) ?_
    by_cases hz : l0.length = 0
    · refine found_l0 l0 h h3 h4 hcl.symm a3 r q r2 q2 (fun x h1 h2 => by omega) (fun x h1 h2 => by omega) true true true l0.length 0 (by omega)
    · exact found_l0 l0 h h3 h4 hcl.symm a3 r q r2 q2 (fun x h1 h2 => (r3 x h1 h2).trans ⟨fun k => k.2, fun k => ⟨⟨Int.le_refl 0, by omega⟩, k⟩⟩) (fun x h1 h2 => (q3 x h1 h2).trans ⟨fun k => k.2, fun k => ⟨⟨Int.le_refl 0, by omega⟩, k⟩⟩) true true true l0.length 0 (by omega)
  · simp only [Bool.not_eq_true] at hf
    simp only [hf, Bool.false_eq_true, if_false]
    exact Ev.now _
end Go.Proofs.Ytemcmcnhpdkdfaa.P
