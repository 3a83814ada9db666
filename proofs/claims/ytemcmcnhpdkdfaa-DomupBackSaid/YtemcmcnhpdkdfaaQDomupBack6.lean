/- What the claim uses of: Gdup4 Gawake15 PureDomupBack Hopen -/
import Derived.Deep.Matrix
import Derived.ChangeOld
import Derived.Test.YtemcmcnhpdkdfaaQDomupBack5
namespace Go.Proofs.Ytemcmcnhpdkdfaa.P
open Go.RowKit Go.Lib Go.Proofs.YtemcmcnhpdkdfaaW.PrintWords
structure Stt (c : List (List Int)) (l : List Int) : Prop where
  v : Valid c
  r : ∀ l ∈ c, l.Pairwise (· < ·)
  n : c.length ≤ 900
  d : IsDom c l
theorem Stt.self {c : List (List Int)} {l : List Int} (h : Stt c l) : clean c = c := clean_self h.v h.r
theorem Stt.small {c : List (List Int)} {l : List Int} (h : Stt c l) : Small c := small_of h.v h.r h.n
theorem Stt.len {c : List (List Int)} {l : List Int} (h : Stt c l) : l.length = c.length := h.d.len
theorem idoms_ev {g : List (List Int)} (hs : Small g) {l : List Int} (h : IsDom (clean g) l) : Ev (fun k => dom_Idoms.f k g) l := by
  obtain ⟨l', he, hd⟩ := idoms_now hs
  rw [h.unique hd]
  exact he
theorem Stt.idoms {c : List (List Int)} {l : List Int} (h : Stt c l) : Ev (fun k => dom_Idoms.f k c) l := idoms_ev h.small (by rw [h.self]; exact h.d)
theorem stt_of {c : List (List Int)} (hv : Valid c) (hr : ∀ l ∈ c, l.Pairwise (· < ·)) (hn : c.length ≤ 900) : ∃ l, Stt c l := by
  obtain ⟨l, _, hd⟩ := idoms_now (small_of hv hr hn)
  rw [clean_self hv hr] at hd
  exact ⟨l, hv, hr, hn, hd⟩
theorem stt_clean {g : List (List Int)} (hs : Small g) : ∃ l, Stt (clean g) l := stt_of (clean_Valid g) (clean_rises g) (by rw [clean_len]; exact hs.2)
theorem Stt.with_ {c : List (List Int)} {l : List Int} (h : Stt c l) (a b : Int) : ∃ l3, Stt (withE c a b) l3 := stt_of (withE_Valid h.v) (withE_rises h.r) (by rw [withE_len]; exact h.n)
theorem Stt.without {c : List (List Int)} {l : List Int} (h : Stt c l) (a b : Int) : ∃ l3, Stt (withoutE c a b) l3 := stt_of (withoutE_Valid h.v) (withoutE_rises h.r) (by rw [withoutE_len]; exact h.n)
theorem new_ev {g : List (List Int)} (hs : Small g) {l : List Int} (h : Stt (clean g) l) : Ev (fun k => domup_New.f k g) (clean g, l, true) := by
  refine Ev.congr (f := fun k => (dom_Idoms.f k g).bind fun t => some (clean g, t, true)) (fun k => by unfold domup_New.f; rw [clean_now hs.1, Option.bind_some]) ?_
  exact Ev.bind (idoms_ev hs h.d) (Ev.now _)
theorem made_self {c : List (List Int)} {l : List Int} (h : Stt c l) : smallB c = true ∧ l.length ≤ 100000 ∧ madeB c l l true = true :=
  ⟨smallB_iff.2 h.small, by rw [h.len]; have := h.n; omega, by simp [madeB, h.self]⟩
theorem add_ev {c : List (List Int)} {l l3 : List Int} (h : Stt c l) {a b : Int} (h3 : Stt (withE c a b) l3) : Ev (fun k => domup_Add.f k c l true a b) (withE c a b, l3, true, changedB l l3) := by
  unfold domup_Add.f
  rw [h.self]
  refine Ev.bind h.idoms (Ev.bind h3.idoms ?_)
  rw [if_pos (made_self h)]
  exact Ev.now _
theorem del_ev {c : List (List Int)} {l l3 : List Int} (h : Stt c l) {a b : Int} (h3 : Stt (withoutE c a b) l3) : Ev (fun k => domup_Del.f k c l true a b) (withoutE c a b, l3, true, changedB l l3) := by
  unfold domup_Del.f
  rw [h.self]
  refine Ev.bind h.idoms (Ev.bind h3.idoms ?_)
  rw [if_pos (made_self h)]
  exact Ev.now _
theorem saneU_ev {c : List (List Int)} {l : List Int} (h : Stt c l) (kp : Bool) : Ev (fun k => domup_Sane.f k c l kp) true := by
  refine Ev.congr (f := fun k => (dom_Idoms.f k c).bind fun l2 => if l2.length ≤ 100000 then some (decide (c = clean c) && decide (l = l2)) else none) (fun k => by unfold domup_Sane.f; rw [if_pos ⟨h.small.1, (made_self h).2.1⟩]) ?_
  refine Ev.bind h.idoms ?_
  rw [if_pos (made_self h).2.1, h.self]
  simp only [decide_true, Bool.and_self]
  exact Ev.now _
theorem top_ev {c : List (List Int)} {l : List Int} (h : Stt c l) (a b : Int) : Ev (fun k => domup_Top.f k c l true a b) (commonB l a b) := by
  unfold domup_Top.f
  refine Ev.bind h.idoms ?_
  rw [if_pos (made_self h)]
  exact Ev.now _
theorem changedB_self (l : List Int) : changedB l l = [] := by
  unfold changedB
  rw [List.filter_eq_nil_iff.2 (fun i _ => by simp)]
  rfl
theorem changedB_comm {l l3 : List Int} (h : l3.length = l.length) : changedB l3 l = changedB l l3 := by
  unfold changedB
  rw [h]
  congr 1
  refine List.filter_congr (fun i _ => ?_)
  exact decide_eq_decide.2 ⟨fun k e => k e.symm, fun k e => k e.symm⟩
theorem changedB_len (l l3 : List Int) : (changedB l l3).length ≤ l.length := by
  unfold changedB
  rw [List.length_map]
  refine Nat.le_trans (List.length_filter_le _ _) ?_
  rw [List.length_range]
  exact Nat.le_refl _
theorem withE_self {c : List (List Int)} {a b : Int} (h : ¬ (Node c a ∧ Node c b) ∨ b ∈ row c a) : withE c a b = c := by
  unfold withE
  refine if_neg (fun k => ?_)
  rcases h with h | h
  · exact h ⟨isN_iff.1 k.1, isN_iff.1 k.2.1⟩
  · exact k.2.2 h
theorem withoutE_self {c : List (List Int)} (hr : ∀ l ∈ c, l.Pairwise (· < ·)) {a b : Int} (h : ¬ Node c a ∨ ¬ b ∈ row c a) : withoutE c a b = c := by
  by_cases ha : Node c a
  · have hb : ¬ b ∈ row c a := h.elim (fun k => absurd ha k) id
    refine graph_ext withoutE_len (withoutE_rises hr) hr (fun x y hx _ => ?_)
    rw [mem_withoutE ha hx]
    exact ⟨fun k => k.1, fun k => ⟨k, fun e => hb (by rw [e.1, e.2] at k; exact k)⟩⟩
  · unfold withoutE
    exact if_neg (fun k => ha (isN_iff.1 k))
end Go.Proofs.Ytemcmcnhpdkdfaa.P
namespace Go.Proofs.Ytemcmcnhpdkdfaa.P
open Go.RowKit Go.Lib Go.Proofs.YtemcmcnhpdkdfaaW.PrintWords
def exU : List (List Int) := [[1], [2], []]
def exU2 : List (List Int) := [[1, 2], [2], []]
theorem exU_clean : clean exU = exU := clean_self (by intro l hl; simp only [exU, List.mem_cons, List.not_mem_nil, or_false] at hl; rcases hl with rfl | rfl | rfl <;> intro b hb <;> simp at hb <;> (try subst hb) <;> decide) (by decide)
theorem exU2_clean : clean exU2 = exU2 := clean_self (by intro l hl; simp only [exU2, List.mem_cons, List.not_mem_nil, or_false] at hl; rcases hl with rfl | rfl | rfl <;> intro b hb <;> simp at hb <;> (try rcases hb with rfl | rfl) <;> (try subst hb) <;> decide) (by decide)
theorem exU_fits : fits exU = true := by decide
theorem exU2_fits : fits exU2 = true := by decide
theorem exU_told0 : toldOf exU 0 = some [2, 1, 0] := by rfl
theorem exU2_told0 : toldOf exU2 0 = some [2, 1, 0] := by rfl
theorem exU_f : dom_Idoms.f 20 exU = some [-1, 0, 1] := by
  have h0 : graph_Order.f exU 0 = some [0, 1, 2] := by unfold graph_Order.f; rw [if_pos exU_fits, exU_clean, exU_told0]; rfl
  unfold dom_Idoms.f idF
  rw [if_pos exU_fits, if_neg (by decide), h0, Option.bind_some, exU_clean, if_pos (by decide)]
  rfl
theorem exU2_f : dom_Idoms.f 20 exU2 = some [-1, 0, 0] := by
  have h0 : graph_Order.f exU2 0 = some [0, 1, 2] := by unfold graph_Order.f; rw [if_pos exU2_fits, exU2_clean, exU2_told0]; rfl
  unfold dom_Idoms.f idF
  rw [if_pos exU2_fits, if_neg (by decide), h0, Option.bind_some, exU2_clean, if_pos (by decide)]
  rfl
theorem exU_stt : Stt exU [-1, 0, 1] := by
  have h := idoms_dom (g := exU) ⟨exU_fits, by decide⟩ exU_f
  rw [exU_clean] at h
  exact ⟨by have := clean_Valid exU; rwa [exU_clean] at this, by have := clean_rises exU; rwa [exU_clean] at this, by decide, h⟩
theorem exU2_stt : Stt exU2 [-1, 0, 0] := by
  have h := idoms_dom (g := exU2) ⟨exU2_fits, by decide⟩ exU2_f
  rw [exU2_clean] at h
  exact ⟨by have := clean_Valid exU2; rwa [exU2_clean] at this, by have := clean_rises exU2; rwa [exU2_clean] at this, by decide, h⟩
theorem exU_with : withE exU 0 2 = exU2 := by decide
theorem awake15_ev : Ev (fun k => bywashlaw15_awake.f k) true := by
  have h1 := new_ev (g := exU) ⟨exU_fits, by decide⟩ (l := [-1, 0, 1]) (by rw [exU_clean]; exact exU_stt)
  rw [exU_clean] at h1
  have h2 := add_ev (a := 0) (b := 2) exU_stt (l3 := [-1, 0, 0]) (by rw [exU_with]; exact exU2_stt)
  rw [exU_with, show changedB [-1, 0, 1] [-1, 0, 0] = [2] from by decide] at h2
  unfold bywashlaw15_awake.f
  refine Ev.bind h1 (Ev.bind h2 ?_)
  refine Ev.bind (ints_ev _ _ (by decide)) ?_
  simp only [decide_true, if_true]
  refine Ev.bind (ints_ev _ _ (by decide)) ?_
  simp only [decide_true, if_true]
  refine Ev.bind (saneU_ev exU2_stt true) ?_
  simp only [if_true]
  refine Ev.bind (top_ev exU_stt 0 2) ?_
  rw [show commonB [-1, 0, 1] 0 2 = 0 from by decide]
  exact Ev.now _
end Go.Proofs.Ytemcmcnhpdkdfaa.P
namespace Go.Proofs.Ytemcmcnhpdkdfaa.P
open Go.RowKit Go.Lib Go.Proofs.YtemcmcnhpdkdfaaW.PrintWords
theorem same15_ev (g : List (List Int)) (l : List Int) (g' : List (List Int)) (l' : List Int) (hg : g.length ≤ 9223372036854775807) (hr : ∀ r ∈ g, r.length ≤ 9223372036854775807) (hl : l.length ≤ 9223372036854775807) : Ev (fun k => bywashref15_Same.f k g l g' l') (decide (g = g') && decide (l = l')) := by
  refine Ev.bind (same_ev g g' hg hr) ?_
  by_cases e : g = g'
  · simp only [decide_eq_true e, if_true, Bool.true_and]
    exact Ev.bind (ints_ev l l' hl) (Ev.now _)
  · simp only [decide_eq_false e, Bool.false_eq_true, if_false, Bool.false_and]
    exact Ev.now _
theorem dm_less {big small : List (List Int)} {a b x y : Int} (hdf : Dif big small a b) (hy : Rc small y) (h : Dm big x y) : Dm small x y := ⟨hy, fun k => h.2 (hdf.av k (Int.le_refl 0))⟩
theorem back_j0 {c : List (List Int)} {l l3 : List Int} (hs : Stt c l) {a b : Int} (h3 : Stt (withE c a b) l3) {l4 : List Int} (h4 : Stt (withoutE (withE c a b) a b) l4) (l0 : List (List Int)) (hl0 : l0.length = c.length) (x : Int) (kp1 kp2 kp3 : Bool) :
    Ev (fun k => bywashlaw15_DomupBack.j0 k l0 a b x true (changedB l l3) (changedB l3 l4) false c l kp1 (withE c a b) l3 kp2 (withoutE (withE c a b) a b) l4 kp3) true := by
  have hn := hs.n
  have hll := hs.len
  have hl3 : l3.length = c.length := by rw [h3.len, withE_len]
  have hl4 : l4.length = c.length := by rw [h4.len, withoutE_len, withE_len]

  have j2 : Ev (fun k => bywashlaw15_DomupBack.j2 k true (changedB l l3) (changedB l3 l4) false c l kp1 (withoutE (withE c a b) a b) l4 kp3) true ∨ (Node c a ∧ b ∈ row c a) := by
    by_cases hh : Node c a ∧ b ∈ row c a
    · exact .inr hh
    · left
      have hc4 : withoutE (withE c a b) a b = c := by
        by_cases ha : Node c a
        · have hb : ¬ b ∈ row c a := fun k => hh ⟨ha, k⟩
          by_cases hbn : Node c b
          · rw [without_with hs.r ha hbn]
            exact withoutE_self hs.r (.inr hb)
          · rw [withE_self (.inl (fun k => hbn k.2))]
            exact withoutE_self hs.r (.inr hb)
        · rw [withE_self (.inl (fun k => ha k.1))]
          exact withoutE_self hs.r (.inl ha)
      have e4 : l4 = l := by
        have := h4.d
        rw [hc4] at this
        exact this.unique hs.d
      refine Ev.step (f := fun k => (bywashref15_Same.f k c l (withoutE (withE c a b) a b) l4).bind fun t => if t = true then (bywashref01_Ints.f k (changedB l l3) (changedB l3 l4)).bind fun u => some u else some false) (fun k => by rw [bywashlaw15_DomupBack.j2, if_neg (by simp), if_pos rfl]; rfl) ?_
      refine Ev.bind (same15_ev _ _ _ _ (by omega) (fun r hr => by have := hs.small.1; have := (fits_rows this).2 r hr; omega) (by omega)) ?_
      rw [decide_eq_true hc4.symm, decide_eq_true e4.symm]
      simp only [Bool.and_self, if_true]
      refine Ev.bind (ints_ev _ _ (by have := changedB_len l l3; omega)) ?_
      rw [e4, changedB_comm (by omega), decide_eq_true rfl]
      exact Ev.now _

  have j1 : Ev (fun k => bywashlaw15_DomupBack.j1 k a b true (changedB l l3) (changedB l3 l4) false c l kp1 (withoutE (withE c a b) a b) l4 kp3) true := by
    by_cases ha : Node c a
    · refine Ev.step (f := fun k => (bywashref10_Has.f k (rd_L1 c a) b).bind fun t => bywashlaw15_DomupBack.j2 k true (changedB l l3) (changedB l3 l4) t c l kp1 (withoutE (withE c a b) a b) l4 kp3) (fun k => by rw [bywashlaw15_DomupBack.j1, if_neg (by simp), if_pos ha.1, if_pos ha.2, if_pos ha.1]) ?_
      refine Ev.bind (has_ev _ _ (by
        have h1 := (fits_rows hs.small.1).2 (row c a) (row_at ha)
        show (row c a).length ≤ _
        omega)) ?_
      show Ev (fun k => bywashlaw15_DomupBack.j2 k true (changedB l l3) (changedB l3 l4) (decide (b ∈ row c a)) c l kp1 (withoutE (withE c a b) a b) l4 kp3) true
      by_cases hb : b ∈ row c a
      · have ec := withE_self (c := c) (a := a) (b := b) (.inr hb)
        have e3 : l3 = l := by
          have := h3.d
          rw [ec] at this
          exact this.unique hs.d
        rw [decide_eq_true hb, e3, changedB_self]
        exact Ev.step (f := fun _ => some true) (fun k => by rw [bywashlaw15_DomupBack.j2, if_pos rfl, if_pos rfl]; rfl) (Ev.now _)
      · rw [decide_eq_false hb]
        exact j2.elim id (fun k => absurd k.2 hb)
    · refine Ev.step (f := fun k => bywashlaw15_DomupBack.j2 k true (changedB l l3) (changedB l3 l4) false c l kp1 (withoutE (withE c a b) a b) l4 kp3) (fun k => ?_) (j2.elim id (fun k => absurd k.1 ha))
      rw [bywashlaw15_DomupBack.j1, if_neg (by simp)]
      by_cases h0 : a ≥ 0
      · rw [if_pos h0, if_neg (fun h1 => ha ⟨h0, h1⟩)]
      · rw [if_neg h0]
  have go : ∀ (P : Nat → Option Bool), (∀ k, P (k + 1) = bywashlaw15_DomupBack.j1 k a b true (changedB l l3) (changedB l3 l4) false c l kp1 (withoutE (withE c a b) a b) l4 kp3) → Ev P true := fun P h => Ev.step h j1
  by_cases hx0 : x ≥ 0
  · by_cases hx1 : x < (l0.length : Int)
    · have hxn : Node c x := ⟨hx0, by omega⟩
      by_cases hx2 : rd l x ≥ 0
      · refine Ev.step (f := fun k => (dom_Dominates.f k l (rd l3 x) x).bind fun t => bywashlaw15_DomupBack.j1 k a b true (changedB l l3) (changedB l3 l4) (!t) c l kp1 (withoutE (withE c a b) a b) l4 kp3) (fun k => by rw [bywashlaw15_DomupBack.j0, if_neg (by simp), if_pos hx0, if_pos hx1, if_pos hx0, if_pos (by omega), if_pos hx2, if_pos (by omega)]) ?_
        refine Ev.bind (dominates_ev l (by omega) _ _) ?_
        have hrx : Rc c x := by
          refine ⟨hxn, ?_⟩
          by_cases hw : Way c 0 x
          · exact hw
          · have := hs.d.lost x hxn hw
            omega
        have hx00 : x ≠ 0 := fun e => by
          have := hs.d.zero (by have := hxn.1; have := hxn.2; omega)
          rw [e] at hx2
          omega
        have hdf := dif_with hs.v a b
        have hrx3 : Rc (withE c a b) x := ⟨by unfold Node; rw [withE_len]; exact hxn, hdf.way hrx.2 (Int.le_refl 0)⟩
        obtain ⟨p, hp, e, _⟩ := h3.d.par x hrx3.1 hrx3.2 hx00
        have hd3 : Dm (withE c a b) (rd l3 x) x := (h3.d.dm_par hrx3 hx00).2 (.inr (by rw [e]; exact h3.d.dm_refl.2 (h3.d.idT_par hrx3 hp).1))
        have hd : rd l3 x ∈ chainB l x := hs.d.dm.2 (dm_less hdf hrx hd3)
        rw [decide_eq_true hd]
        exact j1
      · exact go _ (fun k => by rw [bywashlaw15_DomupBack.j0, if_neg (by simp), if_pos hx0, if_pos hx1, if_pos hx0, if_pos (by omega), if_neg hx2])
    · exact go _ (fun k => by rw [bywashlaw15_DomupBack.j0, if_neg (by simp), if_pos hx0, if_neg hx1])
  · exact go _ (fun k => by rw [bywashlaw15_DomupBack.j0, if_neg (by simp), if_neg hx0])
theorem DomupBack_pure (l0 : List (List Int)) (a1 a2 a3 : Int) (hm0 : l0.length ≤ 9223372036854775807) (_hw : ∀ r ∈ l0, r.length ≤ 9223372036854775807 ∧ ∀ y ∈ r, (Lit.int .i64 y).wf = true) (_ : (Lit.int .i64 a1).wf = true) (_ : (Lit.int .i64 a2).wf = true) (_ : (Lit.int .i64 a3).wf = true) : ∃ k, bywashlaw15_DomupBack.f k l0 a1 a2 a3 = some true := by
  refine Ev.rounds ?_
  refine Ev.bind awake15_ev (Ev.bind (few_ev l0 hm0) ?_)
  by_cases hf : few l0 = true
  · simp only [hf, if_true]
    have hs := few_small hf
    obtain ⟨l, h⟩ := stt_clean hs
    obtain ⟨l3, h3⟩ := h.with_ a1 a2
    obtain ⟨l4, h4⟩ := h3.without a1 a2
    have hl : l.length = l0.length := by rw [h.len, clean_len]
    have hl3 : l3.length = l0.length := by rw [h3.len, withE_len, clean_len]
    refine Ev.bind (new_ev hs h) (Ev.bind (add_ev h h3) (Ev.bind (del_ev h3 h4) ?_))
    simp only [if_pos (show (l.length : Int) = (l0.length : Int) by omega)]
    rw [show ((l3.length : Int) != (l0.length : Int)) = false from by simp; omega]
    exact back_j0 h h3 h4 l0 (clean_len l0).symm a3 _ _ _
  · simp only [Bool.not_eq_true] at hf
    simp only [hf, Bool.false_eq_true, if_false]
    exact Ev.now _
end Go.Proofs.Ytemcmcnhpdkdfaa.P
namespace Go.Proofs.Ytemcmcnhpdkdfaa.P
open Go.RowKit Go.Lib Go.Sort Go.Deep Go.Proofs.YtemcmcnhpdkdfaaW.PrintWords Go.Proofs.YtemcmcnhpdkdfaaW.PrintLast Go.Proofs.YtemcmcnhpdkdfaaW.PrintMore
theorem C_of_cells {w : World} {A : Option Addr} {n : Nat} {zs : List Int} (hn : n ≤ 9223372036854775807) (hl : n ≤ zs.length) (hA : A = none → zs.length = 0) (hc : ∀ a, A = some a → ∀ c, c < zs.length → w.cell? (a.add c) = some (.int .i64 (zs.getD c 0))) : dI.C w A (zs.take n).length (zs.take n) := by
  have e : (zs.take n).length = n := by rw [List.length_take]; omega
  refine ⟨rfl, by rw [e]; exact hn, fun hp => ?_⟩
  cases A with
  | none => have := hA rfl; omega
  | some a =>
    refine ⟨a, rfl, fun j p hj => ⟨[.int .i64 p], rfl, rfl, fun i u hu => ?_⟩⟩
    have hjl : j < (zs.take n).length := (List.getElem?_eq_some_iff.1 hj).1
    match i, hu with
    | 0, hu =>
      injection hu with hu
      subst hu
      have hjz : j < zs.length := by omega
      have h1 := hc a rfl j hjz
      rw [List.getElem?_take, if_pos (by omega), List.getElem?_eq_getElem hjz] at hj
      injection hj with hj
      rw [List.getD_eq_getElem?_getD, List.getElem?_eq_getElem hjz, Option.getD_some, hj] at h1
      rw [show j * dI.sz + 0 = j from by show j * 1 + 0 = j; omega]
      exact h1
    | i + 1, hu => simp at hu
theorem open_rows {H : Type} {enc : TypeId × Value → H} {P : Program} {w : World} {base : Nat} {held : Bool} {t e q : TypeId} {fuel : Nat} {a0 : Option Addr} {len cap : Nat} {x : DataW H × List MemPlace} (ht : P.underlying t = some (.slice e)) (he : P.underlying e = some (.slice q)) (hq : P.underlying q = some (.int .i64))
    (ce : P.cellsOf e = 1) (cq : P.cellsOf q = 1) (h : DataW.trod enc P w base (fun _ => true) held fuel t [.slice a0 len cap] = some x) :
    ∃ l : List (List Int), l.length = len ∧ (Kd.slice 3 (Kd.int .i64)).C w a0 l.length l ∧ l.length ≤ cap ∧ l.length ≤ 9223372036854775807 ∧ (∀ r ∈ l, r.length ≤ 9223372036854775807 ∧ ∀ y ∈ r, (Lit.int .i64 y).wf = true) := by
  rcases open_int_rows ht he hq ce cq h with ⟨hcs, _⟩ | ⟨a, len', cap', A, L, C, Z, hcs, _, hl, hm, _, hr⟩
  · simp at hcs
    obtain ⟨rfl, rfl, rfl⟩ := hcs
    exact ⟨[], rfl, ⟨rfl, by simp, fun hp => absurd hp (by simp)⟩, Nat.le_refl _, by simp, fun r hr => by simp at hr⟩
  · simp at hcs
    obtain ⟨rfl, rfl, rfl⟩ := hcs
    have hm' : cap ≤ 9223372036854775807 := hm
    have hrow : ∀ r, r < cap → dI.C w (A r) ((Z r).take (L r)).length ((Z r).take (L r)) ∧ ((Z r).take (L r)).length = L r := by
      intro r hrc
      obtain ⟨_, h2, h3, h4, _, h6, h7⟩ := hr r hrc
      have h3' : C r ≤ 9223372036854775807 := h3
      exact ⟨C_of_cells (by omega) (by omega) (fun e => by rw [h4]; exact h6 e) (fun a' ha c hc => (h7 a' ha).2 c (by omega)), by rw [List.length_take]; omega⟩
    refine ⟨(List.range len).map fun r => (Z r).take (L r), by simp, ?_, by simpa using hl, by simp; omega, ?_⟩
    · refine ⟨rfl, by simp; omega, fun hp => ⟨a, rfl, fun j p hj => ?_⟩⟩
      rw [List.getElem?_map] at hj
      have hjl : j < len := by
        rcases Nat.lt_or_ge j len with h1 | h1
        · exact h1
        · rw [List.getElem?_eq_none (by simpa using h1)] at hj
          cases hj
      rw [List.getElem?_eq_getElem (by simpa using hjl)] at hj
      simp only [List.getElem_range, Option.map_some, Option.some.injEq] at hj
      subst hj
      obtain ⟨h1, h2, _⟩ := hr j (by omega)
      obtain ⟨hc, hcl⟩ := hrow j (by omega)
      refine ⟨[.slice (A j) (L j) (C j)], rfl, ⟨A j, C j, by rw [hcl], by rw [hcl]; exact h2, hc⟩, fun i u hu => ?_⟩
      match i, hu with
      | 0, hu =>
        injection hu with hu
        subst hu
        rw [show j * (Kd.slice 3 (Kd.int .i64)).sz + 0 = j from by show j * 1 + 0 = j; omega]
        exact h1
      | i + 1, hu => simp at hu
    · intro r hrm
      rw [List.mem_map] at hrm
      obtain ⟨j, hj, rfl⟩ := hrm
      rw [List.mem_range] at hj
      obtain ⟨_, h2, h3, h4, h5, _⟩ := hr j (by omega)
      have h3' : C j ≤ 9223372036854775807 := h3
      exact ⟨by rw [(hrow j (by omega)).2]; omega, fun y hy => h5 y (List.mem_of_mem_take hy)⟩
end Go.Proofs.Ytemcmcnhpdkdfaa.P
namespace Go.Proofs.Ytemcmcnhpdkdfaa.P
open Go.RowKit Go.Lib Go.Sort Go.Deep Go.ChangeShapes Go.WideShapes Go.Proofs.YtemcmcnhpdkdfaaW.PrintWords Go.Proofs.YtemcmcnhpdkdfaaW.PrintLast Go.Proofs.YtemcmcnhpdkdfaaW.PrintMore
end Go.Proofs.Ytemcmcnhpdkdfaa.P
