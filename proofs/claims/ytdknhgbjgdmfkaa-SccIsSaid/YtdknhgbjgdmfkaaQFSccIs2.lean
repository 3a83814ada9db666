/- What the claim uses of: Gshr2 Gref11 Gsame Grefs2 Gedges -/
import Derived.Test.YtdknhgbjgdmfkaaQFSccIs1
namespace Go.Proofs.Ytdknhgbjgdmfkaa.P
open Go.RowKit Go.Lib Go.Proofs.YtdknhgbjgdmfkaaW.PrintWords
theorem turnStep_getD (a : Int) (o : List (List Int)) (b : Int) (j : Nat) (hb : 0 ≤ b ∧ b < (o.length : Int)) : (turnStep a o b).getD j [] = if (j : Int) = b then o.getD j [] ++ [a] else o.getD j [] := turnStep_get a o b j hb
section
variable {m : Nat} {inn : List Int} {c : List (List Int)}
theorem shrRow_mem (a : Int) (ha : 0 ≤ rd inn a ∧ rd inn a < (m : Int)) (l : List Int) : ∀ (o : List (List Int)), o.length = m → ∀ (i : Nat) (y : Int), y ∈ (l.foldl (shrStep inn a) o).getD i [] ↔ y ∈ o.getD i [] ∨ ∃ b ∈ l, rd inn a = (i : Int) ∧ rd inn b = y ∧ rd inn a ≠ rd inn b := by
  induction l with
  | nil => intro o _ i y; simp
  | cons b l ih =>
    intro o ho i y
    rw [List.foldl_cons, ih _ (by rw [shrStep_len, ho]) i y]
    unfold shrStep
    by_cases e : rd inn a = rd inn b
    · rw [if_pos e]
      constructor
      · rintro (h | ⟨b', hb', h⟩)
        · exact .inl h
        · exact .inr ⟨b', List.mem_cons_of_mem _ hb', h⟩
      · rintro (h | ⟨b', hb', h1, h2, h3⟩)
        · exact .inl h
        · rcases List.mem_cons.1 hb' with e' | e'
          · rw [e'] at h3; exact absurd e h3
          · exact .inr ⟨b', e', h1, h2, h3⟩
    · rw [if_neg e, turnStep_getD _ _ _ _ (by rw [ho]; exact ha)]
      by_cases ei : (i : Int) = rd inn a
      · rw [if_pos ei, List.mem_append, List.mem_singleton]
        constructor
        · rintro ((h | h) | ⟨b', hb', h⟩)
          · exact .inl h
          · exact .inr ⟨b, List.mem_cons_self, ei.symm, h.symm, e⟩
          · exact .inr ⟨b', List.mem_cons_of_mem _ hb', h⟩
        · rintro (h | ⟨b', hb', h1, h2, h3⟩)
          · exact .inl (.inl h)
          · rcases List.mem_cons.1 hb' with e' | e'
            · rw [e'] at h2; exact .inl (.inr h2.symm)
            · exact .inr ⟨b', e', h1, h2, h3⟩
      · rw [if_neg ei]
        constructor
        · rintro (h | ⟨b', hb', h⟩)
          · exact .inl h
          · exact .inr ⟨b', List.mem_cons_of_mem _ hb', h⟩
        · rintro (h | ⟨b', hb', h1, h2, h3⟩)
          · exact .inl h
          · exact absurd h1.symm ei
theorem shrSo_mem (hi : ∀ a, Node c a → 0 ≤ rd inn a ∧ rd inn a < (m : Int)) : ∀ k, k ≤ c.length → ∀ (i : Nat) (y : Int), y ∈ (shrSo m inn c k).getD i [] ↔ ∃ a : Nat, a < k ∧ ∃ b ∈ c.getD a [], rd inn (a : Int) = (i : Int) ∧ rd inn b = y ∧ rd inn (a : Int) ≠ rd inn b := by
  intro k
  induction k with
  | zero =>
    intro _ i y
    constructor
    · intro h
      rw [shrSo, List.getD_eq_getElem?_getD, List.getElem?_replicate] at h
      split at h <;> simp at h
    · rintro ⟨a, ha, _⟩; omega
  | succ k ih =>
    intro hk i y
    rw [shrSo, shrRow_mem (k : Int) (hi _ ⟨by omega, by omega⟩) _ _ (shrSo_len _ _ _ _) i y, ih (by omega) i y]
    constructor
    · rintro (⟨a, ha, h⟩ | h)
      · exact ⟨a, by omega, h⟩
      · exact ⟨k, by omega, h⟩
    · rintro ⟨a, ha, h⟩
      rcases Nat.lt_or_ge a k with e | e
      · exact .inl ⟨a, e, h⟩
      · obtain rfl : a = k := by omega
        exact .inr h
end
section
variable {c : List (List Int)}
def shr (c : List (List Int)) : List (List Int) := clean (shrB c)
theorem shr_len : (shr c).length = (partsB c).length := by unfold shr shrB; rw [clean_len, shrSo_len]
theorem inB_range (hv : Valid c) {a : Int} (ha : Node c a) : 0 ≤ rd (inB c) a ∧ rd (inB c) a < ((partsB c).length : Int) := by
  obtain ⟨j, h1, h2, _⟩ := inB_spec hv ha
  omega
theorem mem_shr (hv : Valid c) {x y : Int} (hx : 0 ≤ x) : y ∈ row (shr c) x ↔ ∃ a, Node c a ∧ ∃ b ∈ row c a, rd (inB c) a = x ∧ rd (inB c) b = y ∧ x ≠ y := by
  have hrow : row (shr c) x = if x.toNat < (partsB c).length then cleanRow (partsB c).length ((shrB c).getD x.toNat []) else [] := by
    have hl : (shrB c).length = (partsB c).length := by unfold shrB; rw [shrSo_len]
    unfold row shr clean
    rw [List.getD_eq_getElem?_getD, List.getElem?_map]
    by_cases h : x.toNat < (partsB c).length
    · rw [if_pos h, List.getElem?_eq_getElem (by rw [hl]; exact h), List.getD_eq_getElem?_getD, List.getElem?_eq_getElem (by rw [hl]; exact h)]
      exact congrArg (fun n => cleanRow n (shrB c)[x.toNat]) hl
    · rw [if_neg h, List.getElem?_eq_none (by rw [hl]; omega)]
      rfl
  have hr : ∀ a, Node c a → 0 ≤ rd (inB c) a ∧ rd (inB c) a < ((partsB c).length : Int) := fun a ha => inB_range hv ha
  have hsm := shrSo_mem (m := (partsB c).length) (inn := inB c) hr c.length (Nat.le_refl _) x.toNat y
  have hxt : ((x.toNat : Nat) : Int) = x := by omega
  rw [hxt] at hsm
  rw [hrow]
  constructor
  · intro h
    split at h
    · rw [mem_cleanRow] at h
      obtain ⟨a, ha, b, hb, h1, h2, h3⟩ := hsm.1 h.1
      refine ⟨(a : Int), ⟨by omega, by omega⟩, b, ?_, h1, h2, fun e => h3 (by rw [h1, h2, e])⟩
      show b ∈ c.getD (Int.toNat (a : Int)) []
      rw [Int.toNat_natCast]
      exact hb
    · cases h
  · rintro ⟨a, ha, b, hb, h1, h2, h3⟩
    have hbN := row_node hv hb
    have ra := hr a ha
    have rb := hr b hbN
    rw [if_pos (by omega), mem_cleanRow]
    refine ⟨hsm.2 ⟨a.toNat, by have := ha.1; have := ha.2; omega, b, hb, ?_, h2, fun e => h3 ?_⟩, by omega, by omega⟩
    · rw [show ((a.toNat : Nat) : Int) = a by have := ha.1; omega]; exact h1
    · rw [show ((a.toNat : Nat) : Int) = a by have := ha.1; omega] at e
      rw [← h1, ← h2, e]
theorem shr_Valid : Valid (shr c) := clean_Valid _
theorem shr_rises : ∀ l ∈ shr c, l.Pairwise (· < ·) := clean_rises _
end
end Go.Proofs.Ytdknhgbjgdmfkaa.P
namespace Go.Proofs.Ytdknhgbjgdmfkaa.P
open Go.RowKit Go.Lib Go.Proofs.YtdknhgbjgdmfkaaW.PrintWords
section
variable {c : List (List Int)}
theorem reachN_rd (_ : Valid c) {a b : Int} (_ : Node c a) (_ : Node c b) : rdOf false (reachN c c.length a) b = wayB c a b := rfl
end
def allB (c : List (List Int)) (i : Nat) : List (List Bool) := (nodes i).map (reachN c c.length)
theorem allB_len (c : List (List Int)) (i : Nat) : (allB c i).length = i := by unfold allB; rw [List.length_map, nodes_len]
theorem allB_snoc (c : List (List Int)) (i : Nat) : allB c (i + 1) = allB c i ++ [reachN c c.length (i : Int)] := by unfold allB; rw [nodes_snoc, List.map_append]; rfl
theorem allB_get (c : List (List Int)) {n i : Nat} (h : i < n) : rd_L3 (allB c n) (i : Int) = reachN c c.length (i : Int) := by
  unfold rd_L3 allB
  rw [Int.toNat_natCast]
  exact nodes_map_get [] _ h
theorem leadB_take_snoc (c : List (List Int)) {i : Nat} (h : i < c.length) : (leadB c).take (i + 1) = (leadB c).take i ++ [leadOf c (i : Int)] := by
  have hl : i < (leadB c).length := by rw [leadB_len]; exact h
  rw [List.take_succ_eq_append_getElem hl]
  have := leadB_get (c := c) (a := (i : Int)) ⟨by omega, by omega⟩
  rw [rd_nat' hl] at this
  rw [this]
section
variable {x0 c : List (List Int)}
theorem refleads_l2 (hv : Valid c) (hcl : c.length = x0.length) (hn : x0.length ≤ 900) (i : Nat) (hi : i < c.length) {r : List Int} (o : List Int) (ho : o.length ≤ 900)
    (hnext : Ev (fun k => bywashref11_Leads.l1 k x0 (allB c c.length) (o ++ [leadOf c (i : Int)]) ((i + 1 : Nat) : Int)) r) :
    ∀ d j : Nat, (j : Int) + d = leadOf c (i : Int) → Ev (fun k => bywashref11_Leads.l2 k x0 (allB c c.length) o (i : Int) (j : Int)) r := by
  have hN : Node c (i : Int) := ⟨by omega, by omega⟩
  have hL := lead_node hv hN
  have hlm := lead_mem hv hN
  have hw := (mem_partOf hv hN).1 hlm.1
  have hL2 := hL.2
  intro d
  induction d with
  | zero =>
    intro j hj
    have hjl : j < c.length := by omega
    have hjN : Node c (j : Int) := ⟨by omega, by omega⟩
    have e : leadOf c (i : Int) = (j : Int) := by omega
    rw [e] at hw
    have h1 : rdOf false (reachN c c.length (i : Int)) (j : Int) = true := by rw [reachN_rd hv hN hjN]; exact (wayB_iff hv hjN).2 ⟨hN, hw.1⟩
    have h2 : rdOf false (reachN c c.length (j : Int)) (i : Int) = true := by rw [reachN_rd hv hjN hN]; exact (wayB_iff hv hN).2 ⟨hjN, hw.2⟩
    refine Ev.step (f := fun k => bywashref11_Leads.l1 k x0 (allB c c.length) (o ++ [leadOf c (i : Int)]) ((i + 1 : Nat) : Int)) (fun k => ?_) hnext
    rw [bywashref11_Leads.l2, if_pos (by omega), if_pos (by rw [allB_len]; omega), if_pos (by omega), allB_get c hi, if_pos (by rw [reachN_len]; omega), if_pos h1, if_pos (by rw [allB_len]; omega), allB_get c hjl, if_pos (by rw [reachN_len]; omega), if_pos h2, if_pos (by omega), wrap_succ (by omega), e]
  | succ d ih =>
    intro j hj
    have hjl : j < c.length := by omega
    have hjN : Node c (j : Int) := ⟨by omega, by omega⟩
    refine Ev.step (f := fun k => bywashref11_Leads.l2 k x0 (allB c c.length) o (i : Int) ((j + 1 : Nat) : Int)) (fun k => ?_) (ih (j + 1) (by omega))
    rw [bywashref11_Leads.l2, if_pos (by omega), if_pos (by rw [allB_len]; omega), if_pos (by omega), allB_get c hi, if_pos (by rw [reachN_len]; omega)]
    by_cases h1 : rdOf false (reachN c c.length (i : Int)) (j : Int) = true
    · have h2 : ¬ rdOf false (reachN c c.length (j : Int)) (i : Int) = true := fun h2 => by
        rw [reachN_rd hv hN hjN, wayB_iff hv hjN] at h1
        rw [reachN_rd hv hjN hN, wayB_iff hv hN] at h2
        have := hlm.2 (j : Int) ((mem_partOf hv hN).2 ⟨h1.2, h2.2⟩)
        omega
      rw [if_pos h1, if_pos (by rw [allB_len]; omega), allB_get c hjl, if_pos (by rw [reachN_len]; omega), if_neg h2, wrap_succ (by omega)]
    · rw [if_neg h1, wrap_succ (by omega)]
theorem refleads_l1 (hv : Valid c) (hcl : c.length = x0.length) (hn : x0.length ≤ 900) : ∀ d i : Nat, i + d = c.length → Ev (fun k => bywashref11_Leads.l1 k x0 (allB c c.length) ((leadB c).take i) (i : Int)) (leadB c)
  | 0, i, hi => by
    refine Ev.step (f := fun _ => some (leadB c)) (fun k => ?_) (Ev.now _)
    rw [bywashref11_Leads.l1, if_neg (by omega), List.take_of_length_le (by rw [leadB_len]; omega)]
  | d + 1, i, hi => by
    have hil : i < c.length := by omega
    have hN : Node c (i : Int) := ⟨by omega, by omega⟩
    have ih := refleads_l1 hv hcl hn d (i + 1) (by omega)
    rw [leadB_take_snoc c hil] at ih
    refine Ev.step (f := fun k => bywashref11_Leads.l2 k x0 (allB c c.length) ((leadB c).take i) (i : Int) ((0 : Nat) : Int)) (fun k => by rw [bywashref11_Leads.l1, if_pos (by omega)]; rfl) ?_
    have h0 := (lead_node hv hN).1
    exact refleads_l2 hv hcl hn i hil _ (by rw [List.length_take, leadB_len]; omega) ih (leadOf c (i : Int)).toNat 0 (by omega)
end
theorem refleads_l0 (g : List (List Int)) (hn : g.length ≤ 900) (hr : ∀ r ∈ g, r.length ≤ 900) : ∀ d i : Nat, i + d = g.length → Ev (fun k => bywashref11_Leads.l0 k g (allB (clean g) i) (i : Int)) (leadB (clean g))
  | 0, i, hi => by
    have hcl := clean_len g
    obtain rfl : i = g.length := by omega
    refine Ev.step (f := fun k => bywashref11_Leads.l1 k g (allB (clean g) (clean g).length) ((leadB (clean g)).take 0) ((0 : Nat) : Int)) (fun k => by rw [bywashref11_Leads.l0, if_neg (by omega), hcl]; rfl) ?_
    exact refleads_l1 (clean_Valid g) hcl hn (clean g).length 0 (by omega)
  | d + 1, i, hi => by
    have hcl := clean_len g
    refine Ev.step (f := fun k => (bywashref10_Reach.f k g (i : Int)).bind fun t => bywashref11_Leads.l0 k g (allB (clean g) i ++ [t]) ((i + 1 : Nat) : Int)) (fun k => ?_) ?_
    · rw [bywashref11_Leads.l0, if_pos (by omega), wrap_succ (by omega)]
      congr 1
      funext t
      rw [if_pos (by rw [allB_len]; omega)]
    · refine Ev.bind (refreach_ev g hn hr (i : Int)) ?_
      have ih := refleads_l0 g hn hr d (i + 1) (by omega)
      rw [allB_snoc, hcl] at ih
      exact ih
theorem refleads_ev (g : List (List Int)) (hn : g.length ≤ 900) (hr : ∀ r ∈ g, r.length ≤ 900) : Ev (fun k => bywashref11_Leads.f k g) (leadB (clean g)) := refleads_l0 g hn hr g.length 0 (by omega)
theorem lead_filter {c : List (List Int)} (hv : Valid c) {a : Int} (ha : Node c a) : (nodes c.length).filter (fun b => decide (leadOf c b = a)) = if isLead c a = true then partOf c a else [] := by
  by_cases hl : isLead c a = true
  · rw [if_pos hl]
    unfold partOf
    refine List.filter_congr (fun b hb => ?_)
    have hN := mem_nodes.1 hb
    rw [Bool.eq_iff_iff, decide_eq_true_iff, eqvB_iff hv ha hN]
    have h1 := lead_eq hv hN ha
    have h2 : leadOf c a = a := by
      have hm := lead_mem hv ha
      have hw := (mem_partOf hv ha).1 hm.1
      have := (isLead_iff hv ha).1 hl _ hw.1 hw.2
      have := hm.2 a ((mem_partOf hv ha).2 ⟨.refl _, .refl _⟩)
      omega
    rw [h2] at h1
    rw [h1]
    exact ⟨fun h => ⟨h.2, h.1⟩, fun h => ⟨h.2, h.1⟩⟩
  · rw [if_neg hl, List.filter_eq_nil_iff]
    intro b hb h
    have hN := mem_nodes.1 hb
    rw [decide_eq_true_iff] at h
    refine hl ((isLead_iff hv ha).2 (fun x h1 h2 => ?_))
    have hm := lead_mem hv hN
    have hw := (mem_partOf hv hN).1 hm.1
    rw [h] at hm hw
    exact hm.2 x ((mem_partOf hv hN).2 ⟨hw.1.trans h1, h2.trans hw.2⟩)
section
variable {x0 c : List (List Int)}
theorem refparts_l1 (hcl : c.length = x0.length) (hn : x0.length ≤ 900) (i : Nat) (hi : i < c.length) (o r : List (List Int)) (ho : o.length ≤ 900)
    (hnext : Ev (fun k => bywashref11_Parts.l0 k x0 (leadB c) (if (((nodes c.length).filter (fun b => decide (leadOf c b = (i : Int)))).length : Int) > 0 then o ++ [(nodes c.length).filter (fun b => decide (leadOf c b = (i : Int)))] else o) ((i + 1 : Nat) : Int)) r) :
    ∀ d j : Nat, j + d = c.length → Ev (fun k => bywashref11_Parts.l1 k x0 (leadB c) o (i : Int) ((nodes j).filter (fun b => decide (leadOf c b = (i : Int)))) (j : Int)) r
  | 0, j, hj => by
    obtain rfl : j = c.length := by omega
    refine Ev.step (f := fun k => bywashref11_Parts.l0 k x0 (leadB c) (if (((nodes c.length).filter (fun b => decide (leadOf c b = (i : Int)))).length : Int) > 0 then o ++ [(nodes c.length).filter (fun b => decide (leadOf c b = (i : Int)))] else o) ((i + 1 : Nat) : Int)) (fun k => ?_) hnext
    rw [bywashref11_Parts.l1, if_neg (by omega), wrap_succ (by omega)]
    split
    · rw [if_pos (by omega)]
    · rfl
  | d + 1, j, hj => by
    have hjN : Node c (j : Int) := ⟨by omega, by omega⟩
    have ih := refparts_l1 hcl hn i hi o r ho hnext d (j + 1) (by omega)
    rw [nodes_snoc, List.filter_append] at ih
    have hfl : ((nodes j).filter (fun b => decide (leadOf c b = (i : Int)))).length ≤ 900 := by
      have := List.length_filter_le (fun b => decide (leadOf c b = (i : Int))) (nodes j)
      rw [nodes_len] at this
      omega
    by_cases e : leadOf c (j : Int) = (i : Int)
    · rw [List.filter_cons_of_pos (by simpa using e), List.filter_nil] at ih
      refine Ev.step (f := fun k => bywashref11_Parts.l1 k x0 (leadB c) o (i : Int) ((nodes j).filter (fun b => decide (leadOf c b = (i : Int))) ++ [(j : Int)]) ((j + 1 : Nat) : Int)) (fun k => ?_) ih
      rw [bywashref11_Parts.l1, if_pos (by omega), if_pos (by omega), if_pos (by rw [leadB_len]; omega), leadB_get hjN, if_pos e, if_pos (by omega), wrap_succ (by omega)]
    · rw [List.filter_cons_of_neg (by simpa using e), List.filter_nil, List.append_nil] at ih
      refine Ev.step (f := fun k => bywashref11_Parts.l1 k x0 (leadB c) o (i : Int) ((nodes j).filter (fun b => decide (leadOf c b = (i : Int)))) ((j + 1 : Nat) : Int)) (fun k => ?_) ih
      rw [bywashref11_Parts.l1, if_pos (by omega), if_pos (by omega), if_pos (by rw [leadB_len]; omega), leadB_get hjN, if_neg e, wrap_succ (by omega)]
theorem refparts_l0 (hv : Valid c) (hcl : c.length = x0.length) (hn : x0.length ≤ 900) : ∀ d i : Nat, i + d = c.length → Ev (fun k => bywashref11_Parts.l0 k x0 (leadB c) (((nodes i).filter (isLead c)).map (partOf c)) (i : Int)) (partsB c)
  | 0, i, hi => by
    obtain rfl : i = c.length := by omega
    exact Ev.step (f := fun _ => some (partsB c)) (fun k => by rw [bywashref11_Parts.l0, if_neg (by omega)]; rfl) (Ev.now _)
  | d + 1, i, hi => by
    have hil : i < c.length := by omega
    have hN : Node c (i : Int) := ⟨by omega, by omega⟩
    have ih := refparts_l0 hv hcl hn d (i + 1) (by omega)
    rw [nodes_snoc, List.filter_append, List.map_append] at ih
    have hol : (((nodes i).filter (isLead c)).map (partOf c)).length ≤ 900 := by
      rw [List.length_map]
      have := List.length_filter_le (isLead c) (nodes i)
      rw [nodes_len] at this
      omega
    refine Ev.step (f := fun k => bywashref11_Parts.l1 k x0 (leadB c) (((nodes i).filter (isLead c)).map (partOf c)) (i : Int) ((nodes 0).filter (fun b => decide (leadOf c b = (i : Int)))) ((0 : Nat) : Int)) (fun k => by rw [bywashref11_Parts.l0, if_pos (by omega)]; rfl) ?_
    refine refparts_l1 hcl hn i hil _ _ hol ?_ c.length 0 (by omega)
    rw [lead_filter hv hN]
    by_cases hl : isLead c (i : Int) = true
    · rw [List.filter_cons_of_pos hl, List.filter_nil] at ih
      have hpos : 0 < (partOf c (i : Int)).length := List.length_pos_iff.2 (fun e => by
        have : (i : Int) ∈ partOf c (i : Int) := (mem_partOf hv hN).2 ⟨.refl _, .refl _⟩
        rw [e] at this
        cases this)
      rw [if_pos hl, if_pos (by omega)]
      exact ih
    · rw [List.filter_cons_of_neg hl, List.filter_nil, List.map_nil, List.append_nil] at ih
      rw [if_neg hl]
      exact ih
end
theorem refparts_ev (g : List (List Int)) (hn : g.length ≤ 900) (hr : ∀ r ∈ g, r.length ≤ 900) : Ev (fun k => bywashref11_Parts.f k g) (partsB (clean g)) := by
  unfold bywashref11_Parts.f
  refine Ev.bind (refleads_ev g hn hr) ?_
  exact refparts_l0 (clean_Valid g) (clean_len g) hn (clean g).length 0 (by omega)
theorem refpath_l0 (g : List (List Int)) (hn : g.length ≤ 900) (hr : ∀ r ∈ g, r.length ≤ 900) {a b : Int} (ha : Node (clean g) a) (hb : Node (clean g) b) : ∀ d j : Nat, j + d = (row (clean g) a).length → Ev (fun k => bywashref10_Path.l0 k g a b (clean g) (j : Int)) (((row (clean g) a).drop j).any fun x => wayB (clean g) x b)
  | 0, j, hj => by
    have h0 := ha.1
    have h1 := ha.2
    rw [List.drop_eq_nil_of_le (by omega)]
    refine Ev.step (f := fun _ => some false) (fun k => ?_) (Ev.now _)
    rw [bywashref10_Path.l0, if_pos h0, if_pos h1, if_neg (by show ¬ (j : Int) < ((row (clean g) a).length : Int); omega)]
  | d + 1, j, hj => by
    have h0 := ha.1
    have h1 := ha.2
    have hjl : j < (row (clean g) a).length := by omega
    have hrl : (row (clean g) a).length ≤ 900 := Nat.le_trans (clean_row_le _ (row_mem (List.getElem_mem hjl))) hn
    have hx := List.drop_eq_getElem_cons hjl
    have hg : rd (row (clean g) a) (j : Int) = (row (clean g) a)[j] := rd_nat' hjl
    have hcl := clean_len g
    rw [hx, List.any_cons]
    refine Ev.step (f := fun k => (bywashref10_Reach.f k g (row (clean g) a)[j]).bind fun t => if 0 ≤ b then (if b < (t.length : Int) then (if rdOf false t b = true then some true else bywashref10_Path.l0 k g a b (clean g) ((j + 1 : Nat) : Int)) else none) else none) (fun k => ?_) ?_
    · rw [bywashref10_Path.l0, if_pos h0, if_pos h1, if_pos (by show (j : Int) < ((row (clean g) a).length : Int); omega), if_pos (by omega), wrap_succ (by omega)]
      show (bywashref10_Reach.f k g (rd (row (clean g) a) (j : Int))).bind _ = _
      rw [hg]
    · refine Ev.bind (refreach_ev g hn hr _) ?_
      have hlen : (reachN (clean g) g.length (row (clean g) a)[j]).length = g.length := reachN_len _ _ _
      have hb2 := hb.2
      simp only [if_pos hb.1, hlen, if_pos (show b < (g.length : Int) by omega)]
      have hw : rdOf false (reachN (clean g) g.length (row (clean g) a)[j]) b = wayB (clean g) (row (clean g) a)[j] b := by
        unfold wayB
        rw [hcl]
        rfl
      rw [hw]
      by_cases e : wayB (clean g) (row (clean g) a)[j] b = true
      · simp only [e, if_true, Bool.true_or]
        exact Ev.now _
      · rw [Bool.not_eq_true] at e
        simp only [e, Bool.false_eq_true, if_false, Bool.false_or]
        exact refpath_l0 g hn hr ha hb d (j + 1) (by omega)
def pathB (g : List (List Int)) (a b : Int) : Bool := isN g.length a && isN g.length b && (row (clean g) a).any fun x => wayB (clean g) x b
theorem refpath_ev (g : List (List Int)) (hn : g.length ≤ 900) (hr : ∀ r ∈ g, r.length ≤ 900) (a b : Int) : Ev (fun k => bywashref10_Path.f k g a b) (pathB g a b) := by
  have hno : Ev (fun k => bywashref10_Path.j0 k g a b true) false := Ev.step (f := fun _ => some false) (fun k => by rw [bywashref10_Path.j0, if_pos rfl]) (Ev.now _)
  have his : ∀ x, bywashref10_is.f g x = some (isN g.length x) := fun x => by
    unfold bywashref10_is.f
    by_cases h1 : x ≥ 0
    · rw [if_pos h1]
      by_cases h2 : x < (g.length : Int)
      · rw [decide_eq_true h2, isN_yes h1 h2]
      · rw [decide_eq_false h2, isN_no (fun h => h2 h.2)]
    · rw [if_neg h1, isN_no (fun h => h1 h.1)]
  unfold bywashref10_Path.f pathB
  simp only [his, Option.bind_some]
  by_cases ha : isN g.length a = true
  · simp only [ha, if_true, Bool.true_and]
    by_cases hb : isN g.length b = true
    · simp only [hb, Bool.not_true, Bool.true_and]
      refine Ev.step (f := fun k => (bywashref10_Clean.f k g).bind fun t => bywashref10_Path.l0 k g a b t ((0 : Nat) : Int)) (fun k => by rw [bywashref10_Path.j0, if_neg (by decide)]; rfl) ?_
      refine Ev.bind (refclean_ev g hn hr) ?_
      exact refpath_l0 g hn hr (clean_node.2 (isN_iff.1 ha)) (clean_node.2 (isN_iff.1 hb)) (row (clean g) a).length 0 (by omega)
    · rw [Bool.not_eq_true] at hb
      simp only [hb, Bool.not_false, Bool.false_and]
      exact hno
  · rw [Bool.not_eq_true] at ha
    simp only [ha, Bool.false_eq_true, if_false, Bool.false_and]
    exact hno
theorem refloops_l0 (g : List (List Int)) (hn : g.length ≤ 900) (hr : ∀ r ∈ g, r.length ≤ 900) : ∀ d i : Nat, i + d = g.length → Ev (fun k => bywashref11_Loops.l0 k g ((loopsB (clean g)).take i) (i : Int)) (loopsB (clean g))
  | 0, i, hi => by
    refine Ev.step (f := fun _ => some (loopsB (clean g))) (fun k => ?_) (Ev.now _)
    rw [bywashref11_Loops.l0, if_neg (by omega), List.take_of_length_le (by rw [loopsB_len, clean_len]; omega)]
  | d + 1, i, hi => by
    have hil : i < (loopsB (clean g)).length := by rw [loopsB_len, clean_len]; omega
    have hN : Node (clean g) (i : Int) := clean_node.2 ⟨by omega, by omega⟩
    have ih := refloops_l0 g hn hr d (i + 1) (by omega)
    have hgt := loopsB_get hN
    rw [rdOf_nat hil] at hgt
    rw [List.take_succ_eq_append_getElem hil, hgt] at ih
    have hpb : pathB g (i : Int) (i : Int) = loopB (clean g) (i : Int) := by
      unfold pathB
      rw [isN_yes (by omega) (by omega), Bool.true_and, Bool.true_and]
      rfl
    refine Ev.step (f := fun k => (bywashref10_Path.f k g (i : Int) (i : Int)).bind fun t => bywashref11_Loops.l0 k g ((loopsB (clean g)).take i ++ [t]) ((i + 1 : Nat) : Int)) (fun k => ?_) ?_
    · rw [bywashref11_Loops.l0, if_pos (by omega), wrap_succ (by omega)]
      congr 1
      funext t
      rw [if_pos (by rw [List.length_take]; omega)]
    · refine Ev.bind (refpath_ev g hn hr (i : Int) (i : Int)) ?_
      rw [hpb]
      exact ih
theorem refloops_ev (g : List (List Int)) (hn : g.length ≤ 900) (hr : ∀ r ∈ g, r.length ≤ 900) : Ev (fun k => bywashref11_Loops.f k g) (loopsB (clean g)) := refloops_l0 g hn hr g.length 0 (by omega)
theorem inRow_putR (k : Int) (l o : List Int) : inRow k l o = putR (fun _ => k) l o := rfl
section
variable {x0 c P : List (List Int)} {n : Nat} {r : List (List Int) × List Int}
theorem refshr_l1 (hP : P.length ≤ 900) (hn : ∀ p ∈ P, ∀ x ∈ p, 0 ≤ x ∧ x < (n : Int)) (hl : ∀ p ∈ P, p.length ≤ 900) (i : Nat) (hi : i < P.length) (o : List Int) (ho : o.length = n)
    (hnext : Ev (fun k => bywashref11_Shrink.l0 k x0 P (inRow (i : Int) P[i] o) ((i + 1 : Nat) : Int)) r) :
    ∀ d j : Nat, j + d = P[i].length → Ev (fun k => bywashref11_Shrink.l1 k x0 P (inRow (i : Int) (P[i].take j) o) (i : Int) (j : Int)) r
  | 0, j, hj => by
    refine Ev.step (f := fun k => bywashref11_Shrink.l0 k x0 P (inRow (i : Int) P[i] o) ((i + 1 : Nat) : Int)) (fun k => ?_) hnext
    rw [bywashref11_Shrink.l1, if_pos (by omega), if_pos (by omega), rdL1_nat hi, if_neg (by omega), wrap_succ (by omega), List.take_of_length_le (by omega)]
  | d + 1, j, hj => by
    have hjl : j < P[i].length := by omega
    have hm : P[i] ∈ P := List.getElem_mem hi
    have hx := hn _ hm _ (List.getElem_mem hjl)
    have hll := hl _ hm
    have ih := refshr_l1 hP hn hl i hi o ho hnext d (j + 1) (by omega)
    rw [List.take_succ_eq_append_getElem hjl, inRow_putR, putR_snoc, ← inRow_putR] at ih
    refine Ev.step (f := fun k => bywashref11_Shrink.l1 k x0 P ((inRow (i : Int) (P[i].take j) o).set P[i][j].toNat (i : Int)) (i : Int) ((j + 1 : Nat) : Int)) (fun k => ?_) ih
    rw [bywashref11_Shrink.l1, if_pos (by omega), if_pos (by omega), rdL1_nat hi, if_pos (by omega), if_pos (by omega), rd_nat' hjl, if_pos hx.1, if_pos (by rw [inRow_len, ho]; exact hx.2), wrap_succ (by omega)]
theorem refshr_l0 (hP : P.length ≤ 900) (hn : ∀ p ∈ P, ∀ x ∈ p, 0 ≤ x ∧ x < (n : Int)) (hl : ∀ p ∈ P, p.length ≤ 900) (hend : Ev (fun k => bywashref11_Shrink.l0 k x0 P (inSo n P P.length) (P.length : Int)) r) :
    ∀ d i : Nat, i + d = P.length → Ev (fun k => bywashref11_Shrink.l0 k x0 P (inSo n P i) (i : Int)) r
  | 0, i, hi => by
    obtain rfl : i = P.length := by omega
    exact hend
  | d + 1, i, hi => by
    have hil : i < P.length := by omega
    have hg : P.getD i [] = P[i] := by rw [List.getD_eq_getElem?_getD, List.getElem?_eq_getElem hil]; rfl
    have ih := refshr_l0 hP hn hl hend d (i + 1) (by omega)
    rw [inSo, hg] at ih
    refine Ev.step (f := fun k => bywashref11_Shrink.l1 k x0 P (inRow (i : Int) (P[i].take 0) (inSo n P i)) (i : Int) ((0 : Nat) : Int)) (fun k => by rw [bywashref11_Shrink.l0, if_pos (by omega)]; rfl) ?_
    exact refshr_l1 hP hn hl i hil _ (inSo_len _ _ _) ih P[i].length 0 (by omega)
def folA (c : List (List Int)) (inn : List Int) (i : Int) (a : Int) : List Int := ((row c a).map (rd inn)).filter fun y => !decide (y = i)
def folR (c : List (List Int)) (inn : List Int) (i : Int) (l : List Int) : List Int := l.flatMap (folA c inn i)
theorem folA_len (inn : List Int) (i a : Int) (hc : ∀ l ∈ c, l.length ≤ 30) : (folA c inn i a).length ≤ 30 := by
  unfold folA
  refine Nat.le_trans (List.length_filter_le _ _) ?_
  rw [List.length_map]
  by_cases h : (row c a) ∈ c
  · exact hc _ h
  · have : row c a = [] := by
      cases e : row c a with
      | nil => rfl
      | cons x l => exact absurd (row_mem (b := x) (by rw [e]; exact List.mem_cons_self)) h
    rw [this]
    exact Nat.zero_le _
theorem folR_len (inn : List Int) (i : Int) (hc : ∀ l ∈ c, l.length ≤ 30) (l : List Int) : (folR c inn i l).length ≤ l.length * 30 := by
  unfold folR
  induction l with
  | nil => simp
  | cons a l ih =>
    rw [List.flatMap_cons, List.length_append, List.length_cons, Nat.succ_mul]
    have := folA_len (c := c) inn i a hc
    omega
theorem refshr_l4 {inn : List Int} (hc30 : ∀ l ∈ c, l.length ≤ 30) (hin : inn.length = c.length) (hv : Valid c) (i : Nat) (a : Int) (ha : Node c a) (o : List (List Int)) (x11 : List Int) (hx : x11.length ≤ 900) (q : Int)
    (hnext : Ev (fun k => bywashref11_Shrink.l3 k P inn c o (i : Int) (x11 ++ folA c inn (i : Int) a) (wrap64 (q + 1))) r) :
    ∀ d j : Nat, j + d = (row c a).length → Ev (fun k => bywashref11_Shrink.l4 k P inn c o (i : Int) (x11 ++ (((row c a).take j).map (rd inn)).filter fun y => !decide (y = (i : Int))) q a (j : Int)) r
  | 0, j, hj => by
    have h0 := ha.1
    have h1 := ha.2
    refine Ev.step (f := fun k => bywashref11_Shrink.l3 k P inn c o (i : Int) (x11 ++ folA c inn (i : Int) a) (wrap64 (q + 1))) (fun k => ?_) hnext
    rw [bywashref11_Shrink.l4, if_pos h0, if_pos h1, if_neg (by show ¬ (j : Int) < ((row c a).length : Int); omega), List.take_of_length_le (by omega)]
    rfl
  | d + 1, j, hj => by
    have h0 := ha.1
    have h1 := ha.2
    have hjl : j < (row c a).length := by omega
    have hmem : (row c a)[j] ∈ row c a := List.getElem_mem hjl
    have hbN := row_node hv hmem
    have hrl := hc30 _ (row_mem hmem)
    have hg : rd (rd_L1 c a) (j : Int) = (row c a)[j] := rd_nat' hjl
    have ih := refshr_l4 hc30 hin hv i a ha o x11 hx q hnext d (j + 1) (by omega)
    have hb2 := hbN.2
    have hlen : (x11 ++ (((row c a).take j).map (rd inn)).filter fun y => !decide (y = (i : Int))).length ≤ 930 := by
      rw [List.length_append]
      have h3 := List.length_filter_le (fun y => !decide (y = (i : Int))) (((row c a).take j).map (rd inn))
      rw [List.length_map, List.length_take] at h3
      omega
    rw [List.take_succ_eq_append_getElem hjl, List.map_append, List.filter_append, ← List.append_assoc] at ih
    by_cases e : rd inn (row c a)[j] = (i : Int)
    · rw [List.map_cons, List.map_nil, List.filter_cons_of_neg (by simpa using e), List.filter_nil, List.append_nil] at ih
      refine Ev.step (f := fun k => bywashref11_Shrink.l4 k P inn c o (i : Int) (x11 ++ (((row c a).take j).map (rd inn)).filter fun y => !decide (y = (i : Int))) q a ((j + 1 : Nat) : Int)) (fun k => ?_) ih
      rw [bywashref11_Shrink.l4, if_pos h0, if_pos h1, if_pos (by show (j : Int) < ((row c a).length : Int); omega), if_pos (by omega), hg, if_pos hbN.1, if_pos (by omega), if_pos e, wrap_succ (by omega)]
    · rw [List.map_cons, List.map_nil, List.filter_cons_of_pos (by simpa using e), List.filter_nil] at ih
      refine Ev.step (f := fun k => bywashref11_Shrink.l4 k P inn c o (i : Int) ((x11 ++ (((row c a).take j).map (rd inn)).filter fun y => !decide (y = (i : Int))) ++ [rd inn (row c a)[j]]) q a ((j + 1 : Nat) : Int)) (fun k => ?_) ih
      rw [bywashref11_Shrink.l4, if_pos h0, if_pos h1, if_pos (by show (j : Int) < ((row c a).length : Int); omega), if_pos (by omega), hg, if_pos hbN.1, if_pos (by omega), if_neg e, if_pos (by omega), wrap_succ (by omega)]
theorem refshr_l3 {inn : List Int} (hc30 : ∀ l ∈ c, l.length ≤ 30) (hin : inn.length = c.length) (hv : Valid c) (hP : P.length ≤ 900) (hn : ∀ p ∈ P, ∀ x ∈ p, Node c x) (hl : ∀ p ∈ P, p.length ≤ 30) (i : Nat) (hi : i < P.length) (o : List (List Int)) (ho : o.length ≤ 900)
    (hnext : Ev (fun k => bywashref11_Shrink.l2 k P inn c (o ++ [folR c inn (i : Int) P[i]]) ((i + 1 : Nat) : Int)) r) :
    ∀ d j : Nat, j + d = P[i].length → Ev (fun k => bywashref11_Shrink.l3 k P inn c o (i : Int) (folR c inn (i : Int) (P[i].take j)) (j : Int)) r
  | 0, j, hj => by
    refine Ev.step (f := fun k => bywashref11_Shrink.l2 k P inn c (o ++ [folR c inn (i : Int) P[i]]) ((i + 1 : Nat) : Int)) (fun k => ?_) hnext
    rw [bywashref11_Shrink.l3, if_pos (by omega), if_pos (by omega), rdL1_nat hi, if_neg (by omega), if_pos (by omega), wrap_succ (by omega), List.take_of_length_le (by omega)]
  | d + 1, j, hj => by
    have hjl : j < P[i].length := by omega
    have hm : P[i] ∈ P := List.getElem_mem hi
    have hx := hn _ hm _ (List.getElem_mem hjl)
    have hll := hl _ hm
    have ih := refshr_l3 hc30 hin hv hP hn hl i hi o ho hnext d (j + 1) (by omega)
    have hs : folR c inn (i : Int) (P[i].take (j + 1)) = folR c inn (i : Int) (P[i].take j) ++ folA c inn (i : Int) P[i][j] := by
      unfold folR
      rw [List.take_succ_eq_append_getElem hjl, List.flatMap_append]
      simp
    have hlen := folR_len (c := c) inn (i : Int) hc30 (P[i].take j)
    rw [List.length_take] at hlen
    have hmin : min j P[i].length ≤ 29 := by omega
    have h3 : min j P[i].length * 30 ≤ 870 := Nat.mul_le_mul_right 30 hmin
    refine Ev.step (f := fun k => bywashref11_Shrink.l4 k P inn c o (i : Int) (folR c inn (i : Int) (P[i].take j) ++ (((row c P[i][j]).take 0).map (rd inn)).filter fun y => !decide (y = (i : Int))) (j : Int) P[i][j] ((0 : Nat) : Int)) (fun k => ?_) ?_
    · rw [bywashref11_Shrink.l3, if_pos (by omega), if_pos (by omega), rdL1_nat hi, if_pos (by omega), if_pos (by omega), rd_nat' hjl, List.take_zero, List.map_nil, List.filter_nil, List.append_nil]
      rfl
    · refine refshr_l4 hc30 hin hv i _ hx o _ (by omega) (j : Int) ?_ (row c P[i][j]).length 0 (by omega)
      rw [← hs, wrap_succ (by omega)]
      exact ih
def folSo (c : List (List Int)) (inn : List Int) (P : List (List Int)) (i : Nat) : List (List Int) := (List.range i).map fun j : Nat => folR c inn (j : Int) (P.getD j [])
theorem refshr_l2 {inn : List Int} (hc30 : ∀ l ∈ c, l.length ≤ 30) (hin : inn.length = c.length) (hv : Valid c) (hP : P.length ≤ 900) (hn : ∀ p ∈ P, ∀ x ∈ p, Node c x) (hl : ∀ p ∈ P, p.length ≤ 30)
    (hend : Ev (fun k => bywashref11_Shrink.l2 k P inn c (folSo c inn P P.length) (P.length : Int)) r) :
    ∀ d i : Nat, i + d = P.length → Ev (fun k => bywashref11_Shrink.l2 k P inn c (folSo c inn P i) (i : Int)) r
  | 0, i, hi => by
    obtain rfl : i = P.length := by omega
    exact hend
  | d + 1, i, hi => by
    have hil : i < P.length := by omega
    have hg : P.getD i [] = P[i] := by rw [List.getD_eq_getElem?_getD, List.getElem?_eq_getElem hil]; rfl
    have ih := refshr_l2 hc30 hin hv hP hn hl hend d (i + 1) (by omega)
    have hs : folSo c inn P (i + 1) = folSo c inn P i ++ [folR c inn (i : Int) P[i]] := by
      unfold folSo
      rw [List.range_succ, List.map_append, ← hg]
      rfl
    rw [hs] at ih
    refine Ev.step (f := fun k => bywashref11_Shrink.l3 k P inn c (folSo c inn P i) (i : Int) (folR c inn (i : Int) (P[i].take 0)) ((0 : Nat) : Int)) (fun k => by rw [bywashref11_Shrink.l2, if_pos (by omega)]; rfl) ?_
    exact refshr_l3 hc30 hin hv hP hn hl i hil _ (by unfold folSo; rw [List.length_map, List.length_range]; omega) ih P[i].length 0 (by omega)
end
theorem clean_fol {c : List (List Int)} (hv : Valid c) : clean (folSo c (inB c) (partsB c) (partsB c).length) = shr c := by
  have hlen : (folSo c (inB c) (partsB c) (partsB c).length).length = (partsB c).length := by unfold folSo; rw [List.length_map, List.length_range]
  refine graph_ext (by rw [clean_len, hlen, shr_len]) (clean_rises _) shr_rises (fun x y hx0 hx1 => ?_)
  rw [clean_len, hlen] at hx1
  have hxl : x.toNat < (partsB c).length := by omega
  have hxt : ((x.toNat : Nat) : Int) = x := by omega
  have hrow : row (clean (folSo c (inB c) (partsB c) (partsB c).length)) x = cleanRow (partsB c).length (folR c (inB c) x ((partsB c).getD x.toNat [])) := by
    unfold row clean
    rw [List.getD_eq_getElem?_getD, List.getElem?_map, hlen]
    unfold folSo
    rw [List.getElem?_map, List.getElem?_range hxl]
    show cleanRow _ (folR c (inB c) ((x.toNat : Nat) : Int) _) = _
    rw [hxt]
  obtain ⟨f1, f2, f3⟩ := partsB_facts hv
  have hm : (partsB c).getD x.toNat [] ∈ partsB c := by
    rw [List.getD_eq_getElem?_getD, List.getElem?_eq_getElem hxl]
    exact List.getElem_mem _
  have hin : ∀ a, Node c a → (a ∈ (partsB c).getD x.toNat [] ↔ rd (inB c) a = x) := fun a ha => by
    obtain ⟨j, h1, h2, h3, h4⟩ := inB_spec hv ha
    constructor
    · intro h; rw [h2, ← h4 _ h]; exact hxt
    · intro h
      have e : j = x.toNat := by omega
      rw [← e]; exact h3
  rw [hrow, mem_cleanRow, mem_shr hv hx0]
  constructor
  · rintro ⟨h, _⟩
    unfold folR folA at h
    rw [List.mem_flatMap] at h
    obtain ⟨a, ha, hy⟩ := h
    rw [List.mem_filter, List.mem_map] at hy
    obtain ⟨⟨b, hb, hby⟩, hne⟩ := hy
    have haN := f1 _ hm a ha
    exact ⟨a, haN, b, hb, (hin a haN).1 ha, hby, fun e => by simp [e] at hne⟩
  · rintro ⟨a, ha, b, hb, h1, h2, h3⟩
    have hbN := row_node hv hb
    have rb := inB_range hv hbN
    rw [h2] at rb
    refine ⟨?_, rb⟩
    unfold folR folA
    rw [List.mem_flatMap]
    refine ⟨a, (hin a ha).2 h1, ?_⟩
    rw [List.mem_filter, List.mem_map]
    exact ⟨⟨b, hb, h2⟩, by simpa using fun e => h3 e.symm⟩
theorem refshrink_ev (g : List (List Int)) (hn : g.length ≤ 30) (hr : ∀ r ∈ g, r.length ≤ 900) : Ev (fun k => bywashref11_Shrink.f k g) (shr (clean g), inB (clean g)) := by
  have hv := clean_Valid g
  have hcl := clean_len g
  obtain ⟨f1, f2, f3⟩ := partsB_facts hv
  have hpl : ∀ p ∈ partsB (clean g), p.length ≤ 30 := fun p hp => by
    have := few_nodes ((f3 p hp).2.1.imp (fun h => by omega)) (f1 p hp)
    omega
  have hPl : (partsB (clean g)).length ≤ 30 := by
    unfold partsB
    rw [List.length_map]
    have := List.length_filter_le (isLead (clean g)) (nodes (clean g).length)
    rw [nodes_len] at this
    omega
  have hc30 : ∀ l ∈ clean g, l.length ≤ 30 := fun l hl => by have := clean_row_le l hl; omega
  have e1 : ((g.length : Int) : Int).toNat = g.length := Int.toNat_natCast _
  unfold bywashref11_Shrink.f
  rw [e1]
  simp only [if_pos (show (0 : Int) ≤ (g.length : Int) by omega), if_pos (show g.length ≤ 35184372088832 by omega)]
  refine Ev.bind (refparts_ev g (by omega) hr) ?_
  have hin : inSo g.length (partsB (clean g)) (partsB (clean g)).length = inB (clean g) := by unfold inB; rw [hcl]
  refine refshr_l0 (n := g.length) (x0 := g) (by omega) (fun p hp x hx => clean_node.1 (f1 p hp x hx)) (fun p hp => by have := hpl p hp; omega) ?_ (partsB (clean g)).length 0 (by omega)
  rw [hin]
  refine Ev.step (f := fun k => (bywashref10_Clean.f k g).bind fun t => bywashref11_Shrink.l2 k (partsB (clean g)) (inB (clean g)) t ([] : List (List Int)) ((0 : Nat) : Int)) (fun k => by rw [bywashref11_Shrink.l0, if_neg (by omega)]; rfl) ?_
  refine Ev.bind (refclean_ev g (by omega) hr) ?_
  refine refshr_l2 (inn := inB (clean g)) hc30 (by unfold inB; rw [inSo_len]) hv (by omega) f1 hpl ?_ (partsB (clean g)).length 0 (by omega)
  refine Ev.step (f := fun k => (bywashref10_Clean.f k (folSo (clean g) (inB (clean g)) (partsB (clean g)) (partsB (clean g)).length)).bind fun t => some (t, inB (clean g))) (fun k => by rw [bywashref11_Shrink.l2, if_neg (by omega)]) ?_
  refine Ev.bind (refclean_ev _ (by unfold folSo; rw [List.length_map, List.length_range]; omega) (fun l hl => ?_)) ?_
  · unfold folSo at hl
    obtain ⟨j, hj, rfl⟩ := List.mem_map.1 hl
    rw [List.mem_range] at hj
    refine Nat.le_trans (folR_len _ _ hc30 _) ?_
    have := hpl ((partsB (clean g)).getD j []) (by
      rw [List.getD_eq_getElem?_getD, List.getElem?_eq_getElem hj]
      exact List.getElem_mem _)
    have := Nat.mul_le_mul_right 30 this
    omega
  · rw [clean_fol hv]
    exact Ev.now _
end Go.Proofs.Ytdknhgbjgdmfkaa.P
namespace Go.Proofs.Ytdknhgbjgdmfkaa.P
open Go.RowKit Go.Lib Go.Proofs.YtdknhgbjgdmfkaaW.PrintWords
theorem same_l0 (a b : List (List Int)) (hl : a.length = b.length) (hb : a.length ≤ 9223372036854775807) (hr : ∀ r ∈ a, r.length ≤ 9223372036854775807) : ∀ d i : Nat, i + d = a.length → Ev (fun k => bywashref10_Same.l0 k a b (i : Int)) (decide (a.drop i = b.drop i))
  | 0, i, h => by
    refine Ev.step (f := fun _ => some true) (fun k => by rw [bywashref10_Same.l0, if_neg (by omega)]) ?_
    rw [List.drop_eq_nil_of_le (by omega), List.drop_eq_nil_of_le (by omega), decide_eq_true rfl]
    exact Ev.now _
  | d + 1, i, h => by
    have hi : i < a.length := by omega
    have hj : i < b.length := by omega
    rw [List.drop_eq_getElem_cons hi, List.drop_eq_getElem_cons hj]
    refine Ev.step (f := fun k => (bywashref01_Ints.f k a[i] b[i]).bind fun t => if t = true then bywashref10_Same.l0 k a b ((i + 1 : Nat) : Int) else some false) (fun k => by rw [bywashref10_Same.l0, if_pos (by omega), if_pos (by omega), if_pos (by omega), rdL1_nat hi, rdL1_nat hj, wrap_succ (by omega)]) ?_
    refine Ev.bind (ints_ev _ _ (hr _ (List.getElem_mem hi))) ?_
    by_cases hs : a[i] = b[i]
    · simp only [decide_eq_true hs, if_true]
      rw [show decide (a[i] :: a.drop (i + 1) = b[i] :: b.drop (i + 1)) = decide (a.drop (i + 1) = b.drop (i + 1)) from by rw [hs]; exact decide_eq_decide.2 ⟨fun e => (List.cons.inj e).2, fun e => by rw [e]⟩]
      exact same_l0 a b hl hb hr d (i + 1) (by omega)
    · simp only [decide_eq_false hs, Bool.false_eq_true, if_false]
      rw [show decide (a[i] :: a.drop (i + 1) = b[i] :: b.drop (i + 1)) = false from decide_eq_false (fun e => hs (by injection e))]
      exact Ev.now _
theorem same_ev (a b : List (List Int)) (hb : a.length ≤ 9223372036854775807) (hr : ∀ r ∈ a, r.length ≤ 9223372036854775807) : Ev (fun k => bywashref10_Same.f k a b) (decide (a = b)) := by
  by_cases h : a.length = b.length
  · refine Ev.congr (f := fun k => bywashref10_Same.l0 k a b ((0 : Nat) : Int)) (fun k => by unfold bywashref10_Same.f; rw [if_pos (by omega)]; rfl) ?_
    have := same_l0 a b h hb hr a.length 0 (by omega)
    rwa [List.drop_zero, List.drop_zero] at this
  · refine Ev.congr (f := fun _ => some false) (fun k => by unfold bywashref10_Same.f; rw [if_neg (by omega)]) ?_
    rw [decide_eq_false (fun e => h (by rw [e]))]
    exact Ev.now _
end Go.Proofs.Ytdknhgbjgdmfkaa.P
namespace Go.Proofs.Ytdknhgbjgdmfkaa.P
open Go.RowKit Go.Lib Go.Proofs.YtdknhgbjgdmfkaaW.PrintWords
theorem bools_l0 (a b : List Bool) (hl : a.length = b.length) (hb : a.length ≤ 9223372036854775807) : ∀ d i : Nat, i + d = a.length → Ev (fun k => bywashref10_Bools.l0 k a b (i : Int)) (decide (a.drop i = b.drop i))
  | 0, i, h => by
    refine Ev.step (f := fun _ => some true) (fun k => by rw [bywashref10_Bools.l0, if_neg (by omega)]) ?_
    rw [List.drop_eq_nil_of_le (by omega), List.drop_eq_nil_of_le (by omega), decide_eq_true rfl]
    exact Ev.now _
  | d + 1, i, h => by
    have hi : i < a.length := by omega
    have hj : i < b.length := by omega
    rw [List.drop_eq_getElem_cons hi, List.drop_eq_getElem_cons hj]
    by_cases hs : a[i] = b[i]
    · refine Ev.step (f := fun k => bywashref10_Bools.l0 k a b ((i + 1 : Nat) : Int)) (fun k => by rw [bywashref10_Bools.l0, if_pos (by omega), if_pos (by omega), if_pos (by omega), rdOf_nat hi, rdOf_nat hj, if_neg (by simp [hs]), wrap_succ (by omega)]) ?_
      rw [show decide (a[i] :: a.drop (i + 1) = b[i] :: b.drop (i + 1)) = decide (a.drop (i + 1) = b.drop (i + 1)) from by rw [hs]; exact decide_eq_decide.2 ⟨fun e => (List.cons.inj e).2, fun e => by rw [e]⟩]
      exact bools_l0 a b hl hb d (i + 1) (by omega)
    · refine Ev.step (f := fun _ => some false) (fun k => by rw [bywashref10_Bools.l0, if_pos (by omega), if_pos (by omega), if_pos (by omega), rdOf_nat hi, rdOf_nat hj, if_pos (by simp [hs])]) ?_
      rw [show decide (a[i] :: a.drop (i + 1) = b[i] :: b.drop (i + 1)) = false from decide_eq_false (fun e => hs (by injection e))]
      exact Ev.now _
theorem bools_ev (a b : List Bool) (hb : a.length ≤ 9223372036854775807) : Ev (fun k => bywashref10_Bools.f k a b) (decide (a = b)) := by
  by_cases h : a.length = b.length
  · refine Ev.congr (f := fun k => bywashref10_Bools.l0 k a b ((0 : Nat) : Int)) (fun k => by unfold bywashref10_Bools.f; rw [if_pos (by omega)]; rfl) ?_
    have := bools_l0 a b h hb a.length 0 (by omega)
    rwa [List.drop_zero, List.drop_zero] at this
  · refine Ev.congr (f := fun _ => some false) (fun k => by unfold bywashref10_Bools.f; rw [if_neg (by omega)]) ?_
    rw [decide_eq_false (fun e => h (by rw [e]))]
    exact Ev.now _
end Go.Proofs.Ytdknhgbjgdmfkaa.P
namespace Go.Proofs.Ytdknhgbjgdmfkaa.P
open Go.RowKit Go.Lib Go.Proofs.YtdknhgbjgdmfkaaW.PrintWords
section
variable {c : List (List Int)} {a b x y : Int}
end
theorem small_of {g : List (List Int)} (hv : Valid g) (hr : ∀ l ∈ g, l.Pairwise (· < ·)) (hn : g.length ≤ 900) : Small g := by
  refine ⟨?_, hn⟩
  unfold fits
  rw [Bool.and_eq_true, decide_eq_true_iff, List.all_eq_true]
  refine ⟨by omega, fun l hl => decide_eq_true ?_⟩
  have := few_nodes ((hr l hl).imp (fun h => by omega)) (hv l hl)
  omega
end Go.Proofs.Ytdknhgbjgdmfkaa.P
