/- What the claim uses of: PureSccTurned Hopen -/
import Derived.Deep.Matrix
import Derived.ChangeOld
import Derived.Test.YtdknhgbjgdmfkaaQE5
namespace Go.Proofs.Ytdknhgbjgdmfkaa.P
open Go.RowKit Go.Lib Go.Proofs.YtdknhgbjgdmfkaaW.PrintWords
theorem parts_congr {c d : List (List Int)} (hl : c.length = d.length) (hc : Valid c) (hd : Valid d) (h : ∀ a b, Node c a → Node c b → ((Way c a b ∧ Way c b a) ↔ (Way d a b ∧ Way d b a))) : partsB c = partsB d := by
  have hN : ∀ {x}, Node c x ↔ Node d x := by intro x; unfold Node; rw [hl]
  have he : ∀ a b, Node c a → Node c b → eqvB c a b = eqvB d a b := fun a b ha hb => by
    rw [Bool.eq_iff_iff, eqvB_iff hc ha hb, eqvB_iff hd (hN.1 ha) (hN.1 hb)]
    exact h a b ha hb
  have hp : ∀ a, Node c a → partOf c a = partOf d a := fun a ha => by
    unfold partOf
    rw [← hl]
    exact List.filter_congr (fun x hx => he a x ha (mem_nodes.1 hx))
  have hi : ∀ a, Node c a → isLead c a = isLead d a := fun a ha => by
    unfold isLead
    rw [← hl, Bool.eq_iff_iff, List.all_eq_true, List.all_eq_true]
    exact ⟨fun k x hx => by rw [← he a x ha (mem_nodes.1 hx)]; exact k x hx, fun k x hx => by rw [he a x ha (mem_nodes.1 hx)]; exact k x hx⟩
  unfold partsB
  rw [← hl]
  have e : (nodes c.length).filter (isLead c) = (nodes c.length).filter (isLead d) := List.filter_congr (fun x hx => hi x (mem_nodes.1 hx))
  rw [← e]
  exact List.map_congr_left (fun x hx => hp x (mem_nodes.1 (List.mem_filter.1 hx).1))
theorem parts_turn {c : List (List Int)} (hv : Valid c) (hr : ∀ l ∈ c, l.Pairwise (· < ·)) : partsB (turn c) = partsB c := by
  have hvt := turn_Valid hv hr
  have hrt := turn_rises hv hr
  refine (parts_congr (turn_len c).symm hv hvt (fun a b ha hb => ?_)).symm
  have hNt : ∀ {x}, Node c x → Node (turn c) x := by intro x hx; unfold Node; rw [turn_len]; exact hx
  constructor
  · exact fun h => ⟨way_turn hv hr h.2 hb, way_turn hv hr h.1 ha⟩
  · intro h
    have h1 := way_turn hvt hrt h.1 (hNt ha)
    have h2 := way_turn hvt hrt h.2 (hNt hb)
    rw [turn_turn hv hr] at h1 h2
    exact ⟨h2, h1⟩
theorem loops_turn {c : List (List Int)} (hv : Valid c) (hr : ∀ l ∈ c, l.Pairwise (· < ·)) : loopsB (turn c) = loopsB c := by
  unfold loopsB
  rw [turn_len]
  refine List.map_congr_left (fun x hx => ?_)
  have hN : Node c x := mem_nodes.1 hx
  obtain ⟨p, hp, hxp⟩ := (partsB_facts hv).2.1 x hN
  rw [loop_part hv hp hxp, loop_part (turn_Valid hv hr) (by rw [parts_turn hv hr]; exact hp) hxp]
  congr 1
  rw [decide_eq_decide, mem_turn hv hr hN.1]
  exact ⟨fun h => h.2, fun h => ⟨hN, h⟩⟩
section
variable {c : List (List Int)} {a b : Int}
theorem parts_with_same (hv : Valid c) (ha : Node c a) (hb : Node c b) (h : (Way c a b ∧ Way c b a) ∨ ¬ Way c b a) : partsB (withE c a b) = partsB c := by
  refine (parts_congr (withE_len).symm hv (withE_Valid hv) (fun s t hs ht => ?_)).symm
  rw [way_with hv ha hb hs, way_with hv ha hb ht]
  constructor
  · exact fun k => ⟨.inl k.1, .inl k.2⟩
  · rcases h with h | h
    · rintro ⟨k1, k2⟩
      refine ⟨?_, ?_⟩
      · rcases k1 with k | k
        · exact k
        · exact (k.1.trans h.1).trans k.2
      · rcases k2 with k | k
        · exact k
        · exact (k.1.trans h.1).trans k.2
    · rintro ⟨k1, k2⟩
      rcases k1 with k1 | k1 <;> rcases k2 with k2 | k2
      · exact ⟨k1, k2⟩
      · exact absurd ((k2.2.trans k1).trans k2.1) h
      · exact absurd ((k1.2.trans k2).trans k1.1) h
      · exact absurd (k1.2.trans k2.1) h
theorem parts_with_len (hv : Valid c) (ha : Node c a) (hb : Node c b) : (partsB (withE c a b)).length ≤ (partsB c).length := by
  have hw := withE_Valid (a := a) (b := b) hv
  unfold partsB
  rw [List.length_map, List.length_map, withE_len, ← List.countP_eq_length_filter, ← List.countP_eq_length_filter]
  refine List.countP_mono_left (fun x hx h => ?_)
  have hN : Node c x := mem_nodes.1 hx
  have hN' : Node (withE c a b) x := by unfold Node; rw [withE_len]; exact hN
  rw [isLead_iff hv hN]
  intro y h1 h2
  have hy := h1.node hv hN
  exact (isLead_iff hw hN').1 h y ((way_with hv ha hb hN).2 (.inl h1)) ((way_with hv ha hb hy).2 (.inl h2))
theorem withE_none (h : ¬ (Node c a ∧ Node c b)) : withE c a b = c := by
  unfold withE
  rw [if_neg (fun k => h ⟨isN_iff.1 k.1, isN_iff.1 k.2.1⟩)]
end
theorem parts_rows {g : List (List Int)} (hf : few g = true) : ∀ l ∈ partsB (clean g), l.length ≤ 9223372036854775807 := fun l hl => by
  have := ((parts_small (few_fits hf)).2.2.1 l hl).1
  have := (few_iff.1 hf).2
  omega
theorem SccTurned_pure (l0 : List (List Int)) (a1 a2 : Int) (hm : l0.length ≤ 9223372036854775807) (_hw : ∀ r ∈ l0, r.length ≤ 9223372036854775807 ∧ ∀ y ∈ r, (Lit.int .i64 y).wf = true) (_h1 : (Lit.int .i64 a1).wf = true) (_h2 : (Lit.int .i64 a2).wf = true) : ∃ k, bywashlaw11_SccTurned.f k l0 a1 a2 = some true := by
  refine Ev.rounds (g := fun k => bywashlaw11_SccTurned.f k l0 a1 a2) ?_
  unfold bywashlaw11_SccTurned.f
  refine Ev.bind awake11_ev ?_
  refine Ev.bind (few_ev l0 hm) ?_
  by_cases hf : few l0 = true
  · simp only [hf, if_true]
    have hs := few_small hf
    have hv := clean_Valid l0
    have hr := clean_rises l0
    have h40 := (few_iff.1 hf).2
    have hPl := (parts_small hs.1).2.2.2.1
    have hPr := parts_rows hf
    have hvt := turn_Valid hv hr
    have hrt := turn_rises hv hr
    have hct : clean (turn (clean l0)) = turn (clean l0) := clean_self hvt hrt
    have hst : Small (turn (clean l0)) := small_of hvt hrt (by rw [turn_len, clean_len]; omega)
    have hvw := withE_Valid (a := a1) (b := a2) hv
    have hrw := withE_rises (a := a1) (b := a2) hr
    have hcw : clean (withE (clean l0) a1 a2) = withE (clean l0) a1 a2 := clean_self hvw hrw
    have hsw : Small (withE (clean l0) a1 a2) := small_of hvw hrw (by rw [withE_len, clean_len]; omega)
    have e1 : graph_Turn.f l0 = some (turn (clean l0)) := by unfold graph_Turn.f; rw [if_pos hs.1]
    have e2 : graph_With.f l0 a1 a2 = some (withE (clean l0) a1 a2) := by unfold graph_With.f; rw [if_pos hs.1]
    have e3 : scc_Parts.f (withE (clean l0) a1 a2) = some (partsB (withE (clean l0) a1 a2)) := by rw [parts_now hsw.1, hcw]
    rw [e1, e2, parts_now hs.1]
    simp only [Option.bind_some]
    rw [parts_now hst.1, hct, parts_turn hv hr]
    simp only [Option.bind_some]
    refine Ev.bind (same_ev _ _ (by omega) hPr) ?_
    simp only [decide_true, if_true]
    rw [loops_now hs.1, loops_now hst.1, hct, loops_turn hv hr]
    simp only [Option.bind_some]
    refine Ev.bind (bools_ev _ _ (by rw [loopsB_len, clean_len]; omega)) ?_
    simp only [decide_true, Bool.not_true]
    by_cases hin : (0 ≤ a1 ∧ a1 < (l0.length : Int)) ∧ (0 ≤ a2 ∧ a2 < (l0.length : Int))
    · obtain ⟨⟨p1, p2⟩, p3, p4⟩ := hin
      have hNa : Node (clean l0) a1 := clean_node.2 ⟨p1, p2⟩
      have hNb : Node (clean l0) a2 := clean_node.2 ⟨p3, p4⟩
      have hlen := parts_with_len (a := a1) (b := a2) hv hNa hNb
      obtain ⟨y, hy1, hy2, hy3⟩ := reach_now hs a2
      have h7 := lead_eq hv hNa hNb
      have h6 := hy3 a1 p1 p2
      have hll : (leadB (clean l0)).length = l0.length := by rw [leadB_len, clean_len]
      have e4 : ((y.length : Int) != (l0.length : Int)) = false := by rw [hy2]; simp
      refine Ev.step (f := fun k => bywashlaw11_SccTurned.j1 k l0 a1 a2 true (withE (clean l0) a1 a2) (partsB (clean l0)) false) (fun k => ?_) ?_
      · rw [bywashlaw11_SccTurned.j0, if_neg (by decide), if_neg (by omega), if_neg (by omega), if_neg (by omega), decide_eq_false (by omega)]
      refine Ev.step (f := fun k => bywashlaw11_SccTurned.j2 k a1 a2 true (withE (clean l0) a1 a2) (partsB (clean l0)) (leadB (clean l0)) y false) (fun k => ?_) ?_
      · rw [bywashlaw11_SccTurned.j1, if_neg (by decide), leads_now hs.1, Option.bind_some, hy1, Option.bind_some, if_pos (by omega), e4]
      have hrd1 := leadB_get hNa
      have hrd2 := leadB_get hNb
      by_cases hl : leadOf (clean l0) a1 = leadOf (clean l0) a2
      · have hsm := parts_with_same hv hNa hNb (.inl (h7.1 hl))
        refine Ev.step (f := fun k => (bywashref10_Same.f k (partsB (clean l0)) (partsB (clean l0))).bind fun t => if t = true then some (decide (((partsB (clean l0)).length : Int) ≤ ((partsB (clean l0)).length : Int))) else some false) (fun k => ?_) ?_
        · rw [bywashlaw11_SccTurned.j2, if_neg (by decide), if_pos rfl, if_pos p1, if_pos (by omega), if_pos p3, if_pos (by omega), hrd1, hrd2, if_pos hl, e3, hsm]
          rfl
        · refine Ev.bind (same_ev _ _ (by omega) hPr) ?_
          simp only [decide_true, if_true, Int.le_refl]
          exact Ev.now _
      · by_cases hb : rdOf false y a1 = true
        · refine Ev.step (f := fun _ => some true) (fun k => ?_) (Ev.now _)
          rw [bywashlaw11_SccTurned.j2, if_neg (by decide), if_pos rfl, if_pos p1, if_pos (by omega), if_pos p3, if_pos (by omega), hrd1, hrd2, if_neg hl, if_pos (by omega), if_pos hb, e3, Option.bind_some, decide_eq_true (by omega)]
        · have hnw : ¬ Way (clean l0) a2 a1 := fun hw => hb (h6.2 ⟨⟨p3, p4⟩, hw⟩)
          have hsm := parts_with_same hv hNa hNb (.inr hnw)
          refine Ev.step (f := fun k => (bywashref10_Same.f k (partsB (clean l0)) (partsB (clean l0))).bind fun t => if t = true then some (decide (((partsB (clean l0)).length : Int) ≤ ((partsB (clean l0)).length : Int))) else some false) (fun k => ?_) ?_
          · rw [bywashlaw11_SccTurned.j2, if_neg (by decide), if_pos rfl, if_pos p1, if_pos (by omega), if_pos p3, if_pos (by omega), hrd1, hrd2, if_neg hl, if_pos (by omega), if_neg hb, e3, hsm]
            rfl
          · refine Ev.bind (same_ev _ _ (by omega) hPr) ?_
            simp only [decide_true, if_true, Int.le_refl]
            exact Ev.now _
    · have hwn : withE (clean l0) a1 a2 = clean l0 := withE_none (fun k => hin ⟨clean_node.1 k.1, clean_node.1 k.2⟩)
      refine Ev.step (f := fun k => bywashlaw11_SccTurned.j1 k l0 a1 a2 true (withE (clean l0) a1 a2) (partsB (clean l0)) true) (fun k => ?_) ?_
      · rw [bywashlaw11_SccTurned.j0, if_neg (by decide)]
        by_cases p1 : a1 < 0
        · rw [if_pos p1]
        · rw [if_neg p1]
          by_cases p2 : a1 ≥ (l0.length : Int)
          · rw [if_pos p2]
          · rw [if_neg p2]
            by_cases p3 : a2 < 0
            · rw [if_pos p3]
            · rw [if_neg p3, decide_eq_true (by omega)]
      · refine Ev.step (f := fun k => (bywashref10_Same.f k (partsB (clean l0)) (partsB (clean l0))).bind fun t => some t) (fun k => ?_) ?_
        · rw [bywashlaw11_SccTurned.j1, if_pos rfl, if_pos rfl, e3, hwn]
          rfl
        · refine Ev.bind (same_ev _ _ (by omega) hPr) ?_
          simp only [decide_true]
          exact Ev.now _
  · rw [Bool.not_eq_true] at hf
    simp only [hf, Bool.false_eq_true, if_false]
    exact Ev.now _
end Go.Proofs.Ytdknhgbjgdmfkaa.P
namespace Go.Proofs.Ytdknhgbjgdmfkaa.P
open Go.RowKit Go.Lib Go.Sort Go.Deep Go.Proofs.YtdknhgbjgdmfkaaW.PrintWords Go.Proofs.YtdknhgbjgdmfkaaW.PrintLast Go.Proofs.YtdknhgbjgdmfkaaW.PrintMore
theorem C_of_cells {w : World} {A : Option Addr} {n : Nat} {zs : List Int} (hn : n ≤ 9223372036854775807) (hl : n ≤ zs.length) (hA : A = none → zs.length = 0) (hc : ∀ a, A = some a → ∀ c, c < zs.length → w.cell? (a.add c) = some (.int .i64 (zs.getD c 0))) : dI.C w A (zs.take n).length (zs.take n) := by
  have e : (zs.take n).length = n := by rw [List.length_take]; omega
  refine ⟨rfl, by rw [e]; exact hn, fun hp => ?_⟩
  cases A with
  | none => have := hA rfl; omega
  | some a =>
    refine ⟨a, rfl, fun j p hj => ⟨[.int .i64 p], rfl, rfl, fun i u hu => ?_⟩⟩
    have hjl : j < (zs.take n).length := (List.getElem?_eq_some_iff.1 hj).1
    match i, hu with
    | 0, hu =>
      injection hu with hu
      subst hu
      have hjz : j < zs.length := by omega
      have h1 := hc a rfl j hjz
      rw [List.getElem?_take, if_pos (by omega), List.getElem?_eq_getElem hjz] at hj
      injection hj with hj
      rw [List.getD_eq_getElem?_getD, List.getElem?_eq_getElem hjz, Option.getD_some, hj] at h1
      rw [show j * dI.sz + 0 = j from by show j * 1 + 0 = j; omega]
      exact h1
    | i + 1, hu => simp at hu
theorem open_rows {H : Type} {enc : TypeId × Value → H} {P : Program} {w : World} {base : Nat} {held : Bool} {t e q : TypeId} {fuel : Nat} {a0 : Option Addr} {len cap : Nat} {x : DataW H × List MemPlace} (ht : P.underlying t = some (.slice e)) (he : P.underlying e = some (.slice q)) (hq : P.underlying q = some (.int .i64))
    (ce : P.cellsOf e = 1) (cq : P.cellsOf q = 1) (h : DataW.trod enc P w base (fun _ => true) held fuel t [.slice a0 len cap] = some x) :
    ∃ l : List (List Int), l.length = len ∧ (Kd.slice 3 (Kd.int .i64)).C w a0 l.length l ∧ l.length ≤ cap ∧ l.length ≤ 9223372036854775807 ∧ (∀ r ∈ l, r.length ≤ 9223372036854775807 ∧ ∀ y ∈ r, (Lit.int .i64 y).wf = true) := by
  rcases open_int_rows ht he hq ce cq h with ⟨hcs, _⟩ | ⟨a, len', cap', A, L, C, Z, hcs, _, hl, hm, _, hr⟩
  · simp at hcs
    obtain ⟨rfl, rfl, rfl⟩ := hcs
    exact ⟨[], rfl, ⟨rfl, by simp, fun hp => absurd hp (by simp)⟩, Nat.le_refl _, by simp, fun r hr => by simp at hr⟩
  · simp at hcs
    obtain ⟨rfl, rfl, rfl⟩ := hcs
    have hm' : cap ≤ 9223372036854775807 := hm
    have hrow : ∀ r, r < cap → dI.C w (A r) ((Z r).take (L r)).length ((Z r).take (L r)) ∧ ((Z r).take (L r)).length = L r := by
      intro r hrc
      obtain ⟨_, h2, h3, h4, _, h6, h7⟩ := hr r hrc
      have h3' : C r ≤ 9223372036854775807 := h3
      exact ⟨C_of_cells (by omega) (by omega) (fun e => by rw [h4]; exact h6 e) (fun a' ha c hc => (h7 a' ha).2 c (by omega)), by rw [List.length_take]; omega⟩
    refine ⟨(List.range len).map fun r => (Z r).take (L r), by simp, ?_, by simpa using hl, by simp; omega, ?_⟩
    · refine ⟨rfl, by simp; omega, fun hp => ⟨a, rfl, fun j p hj => ?_⟩⟩
      rw [List.getElem?_map] at hj
      have hjl : j < len := by
        rcases Nat.lt_or_ge j len with h1 | h1
        · exact h1
        · rw [List.getElem?_eq_none (by simpa using h1)] at hj
          cases hj
      rw [List.getElem?_eq_getElem (by simpa using hjl)] at hj
      simp only [List.getElem_range, Option.map_some, Option.some.injEq] at hj
      subst hj
      obtain ⟨h1, h2, _⟩ := hr j (by omega)
      obtain ⟨hc, hcl⟩ := hrow j (by omega)
      refine ⟨[.slice (A j) (L j) (C j)], rfl, ⟨A j, C j, by rw [hcl], by rw [hcl]; exact h2, hc⟩, fun i u hu => ?_⟩
      match i, hu with
      | 0, hu =>
        injection hu with hu
        subst hu
        rw [show j * (Kd.slice 3 (Kd.int .i64)).sz + 0 = j from by show j * 1 + 0 = j; omega]
        exact h1
      | i + 1, hu => simp at hu
    · intro r hrm
      rw [List.mem_map] at hrm
      obtain ⟨j, hj, rfl⟩ := hrm
      rw [List.mem_range] at hj
      obtain ⟨_, h2, h3, h4, h5, _⟩ := hr j (by omega)
      have h3' : C j ≤ 9223372036854775807 := h3
      exact ⟨by rw [(hrow j (by omega)).2]; omega, fun y hy => h5 y (List.mem_of_mem_take hy)⟩
end Go.Proofs.Ytdknhgbjgdmfkaa.P
namespace Go.Proofs.Ytdknhgbjgdmfkaa.P
open Go.RowKit Go.Lib Go.Sort Go.Deep Go.ChangeShapes Go.WideShapes Go.Proofs.YtdknhgbjgdmfkaaW.PrintWords Go.Proofs.YtdknhgbjgdmfkaaW.PrintLast Go.Proofs.YtdknhgbjgdmfkaaW.PrintMore
end Go.Proofs.Ytdknhgbjgdmfkaa.P
