/- The order is of all that is reached, once: the plain law. -/
import Derived.Test.YtnhcimhdkdgccaaPureGraphWay
import Derived.Test.YtnhcimhdkdgccaaGclean2
import Derived.Test.YtnhcimhdkdgccaaPbywashlaw101
namespace Go.Proofs.Ytnhcimhdkdgccaa.P
open Go.RowKit Go.Lib Go.Proofs.YtnhcimhdkdgccaaW.PrintWords

theorem rd_set' {xs : List Int} {x y v : Int} (hx : 0 ≤ x) (hxl : x < (xs.length : Int)) (hy : 0 ≤ y) : rd (xs.set x.toNat v) y = if y = x then v else rd xs y := by
  unfold rd
  rw [List.getD_eq_getElem?_getD, List.getElem?_set]
  by_cases h : y = x
  · subst h
    rw [if_pos rfl, if_pos (by omega), if_pos rfl]
    rfl
  · rw [if_neg (by omega), if_neg h, List.getD_eq_getElem?_getD]
theorem rd_replicate (n : Nat) (x : Int) : rd (List.replicate n 0) x = 0 := by
  unfold rd
  rw [List.getD_eq_getElem?_getD, List.getElem?_replicate]
  split <;> rfl

theorem nodup_inj {o : List Int} (h : o.Nodup) {i j : Nat} (hi : i < o.length) (hj : j < o.length) (e : o[i] = o[j]) : i = j := by
  rcases Nat.lt_trichotomy i j with l | l | l
  · exact absurd e (List.pairwise_iff_getElem.1 h i j hi hj l)
  · exact l
  · exact absurd e.symm (List.pairwise_iff_getElem.1 h j i hj hi l)

/-- What is told and what is reached, as the law needs it. -/
structure Told (g : List (List Int)) (a1 : Int) (o : List Int) (r : List Bool) : Prop where
  len : r.length = g.length
  mem : ∀ x, x ∈ o ↔ (0 ≤ x ∧ x < (g.length : Int)) ∧ rdOf false r x = true
  nodup : o.Nodup
  back : ∀ o1 x o2, o = o1 ++ x :: o2 → ∀ y ∈ row (clean g) x, y = x ∨ y ∈ o1 → Way (clean g) y x
  fol : ∀ x y, (0 ≤ x ∧ x < (g.length : Int)) → rdOf false r x = true → y ∈ row (clean g) x → rdOf false r y = true
  first : 0 < o.length → rd o 0 = a1
theorem told_now {g : List (List Int)} (hs : Small g) (a1 : Int) : ∃ o r, graph_Order.f g a1 = some o ∧ graph_Reach.f g a1 = some r ∧ Told g a1 o r := by
  obtain ⟨r, hr, hrl, hrs⟩ := reach_now hs a1
  by_cases ha : 0 ≤ a1 ∧ a1 < (g.length : Int)
  · obtain ⟨o, ho, hm, hnd, hnn, hb⟩ := order_now hs ha
    refine ⟨_, r, ho, hr, ⟨hrl, fun x => ?_, hnd, hb, fun x y hx h hy => ?_, fun _ => rfl⟩⟩
    · constructor
      · intro h
        have hx := hnn x h
        exact ⟨hx, (hrs x hx.1 hx.2).2 ⟨ha, (hm x).1 h⟩⟩
      · rintro ⟨hx, h⟩
        exact (hm x).2 ((hrs x hx.1 hx.2).1 h).2
    · have hyn := clean_node.1 (row_node (clean_Valid g) hy)
      exact (hrs y hyn.1 hyn.2).2 ⟨ha, (((hrs x hx.1 hx.2).1 h).2).trans (.edge hy)⟩
  · refine ⟨[], r, order_none hs ha, hr, ⟨hrl, fun x => ?_, List.nodup_nil, fun o1 x o2 h => by simp at h, fun x y hx h => ?_, fun h => by simp at h⟩⟩
    · constructor
      · intro h; simp at h
      · rintro ⟨hx, h⟩
        exact absurd ((hrs x hx.1 hx.2).1 h).1 ha
    · exact absurd ((hrs x hx.1 hx.2).1 h).1 ha

/-- The places of the first of those that are told. -/
structure AtOk (n : Nat) (o at' : List Int) (i : Nat) : Prop where
  len : at'.length = n
  hit : ∀ j (hj : j < o.length), j < i → rd at' o[j] = ((j + 1 : Nat) : Int)
  miss : ∀ x, 0 ≤ x → x < (n : Int) → ¬ x ∈ o.take i → rd at' x = 0
theorem AtOk.step {n : Nat} {o at' : List Int} {i : Nat} (h : AtOk n o at' i) (hi : i < o.length) (hn : ∀ x ∈ o, 0 ≤ x ∧ x < (n : Int)) (hnd : o.Nodup) : AtOk n o (at'.set (o[i]).toNat ((i + 1 : Nat) : Int)) (i + 1) := by
  have hni := hn _ (List.getElem_mem hi)
  have hl := h.len
  refine ⟨by rw [List.length_set, h.len], fun j hj hji => ?_, fun x h0 h1 hx => ?_⟩
  · have hnj := hn _ (List.getElem_mem hj)
    rw [rd_set' hni.1 (by omega) hnj.1]
    by_cases e : j = i
    · subst e
      rw [if_pos rfl]
    · rw [if_neg (fun e' => e (nodup_inj hnd hj hi e')), h.hit j hj (by omega)]
  · have htake : o.take (i + 1) = o.take i ++ [o[i]] := by rw [List.take_succ_eq_append_getElem hi]
    rw [htake, List.mem_append, List.mem_singleton] at hx
    rw [rd_set' hni.1 (by omega) h0, if_neg (fun e => hx (.inr e)), h.miss x h0 h1 (fun e => hx (.inl e))]

section
variable {g : List (List Int)} {a1 : Int} {o : List Int} {r : List Bool}

theorem order_l0 (hs : Small g) (ht : Told g a1 o r) (hol : o.length ≤ 900) (hend : ∀ at', AtOk g.length o at' o.length → Ev (fun k => bywashlaw10_GraphOrder.l1 k g a1 true o r (clean g) at' 0 0) true) :
    ∀ d i : Nat, i + d = o.length → ∀ at', AtOk g.length o at' i → Ev (fun k => bywashlaw10_GraphOrder.l0 k g a1 true o r (clean g) at' (i : Int)) true
  | 0, i, hi, at', h => by
    obtain rfl : i = o.length := by omega
    exact Ev.step (f := fun k => bywashlaw10_GraphOrder.l1 k g a1 true o r (clean g) at' 0 0) (fun k => by rw [bywashlaw10_GraphOrder.l0, if_neg (by omega)]) (hend at' h)
  | d + 1, i, hi, at', h => by
    have hil : i < o.length := by omega
    have hm := (ht.mem _).1 (List.getElem_mem hil)
    have hnn : ∀ x ∈ o, 0 ≤ x ∧ x < (g.length : Int) := fun x hx => ((ht.mem x).1 hx).1
    have hl := h.len
    have hrl := ht.len
    have hz : rd at' o[i] = 0 := by
      refine h.miss _ hm.1.1 hm.1.2 (fun hx => ?_)
      obtain ⟨j, hj, e⟩ := List.getElem_of_mem hx
      rw [List.length_take] at hj
      rw [List.getElem_take] at e
      have := nodup_inj ht.nodup (by omega) hil e
      omega
    refine Ev.step (f := fun k => bywashlaw10_GraphOrder.l0 k g a1 true o r (clean g) (at'.set (o[i]).toNat ((i + 1 : Nat) : Int)) ((i + 1 : Nat) : Int)) (fun k => ?_) (order_l0 hs ht hol hend d (i + 1) (by omega) _ (h.step hil hnn ht.nodup))
    rw [bywashlaw10_GraphOrder.l0, if_pos (by omega), if_pos (by omega), rd_nat' hil, if_neg (by omega), if_neg (by omega), if_pos hm.1.1, if_pos (by omega), if_pos hz, if_pos (by omega), if_pos hm.2, wrap_succ (by omega)]

theorem order_l2 (hs : Small g) (ht : Told g a1 o r) (hol : o.length ≤ 900) {at' : List Int} (h : AtOk g.length o at' o.length) (n a : Nat) (ha : a < g.length) (hra : rdOf false r (a : Int) = true)
    (hnext : Ev (fun k => bywashlaw10_GraphOrder.l1 k g a1 true o r (clean g) at' (n : Int) ((a + 1 : Nat) : Int)) true) :
    ∀ d j : Nat, j + d = (row (clean g) (a : Int)).length → Ev (fun k => bywashlaw10_GraphOrder.l2 k g a1 true o r (clean g) at' (n : Int) (a : Int) (j : Int)) true
  | 0, j, hj => by
    have hcl := clean_len g
    refine Ev.step (f := fun k => bywashlaw10_GraphOrder.j5 k g a1 true o r (clean g) at' (n : Int) (a : Int) (j : Int) false) (fun k => ?_) ?_
    · rw [bywashlaw10_GraphOrder.l2, if_pos (by omega), if_pos (by omega), if_neg (by show ¬ (j : Int) < ((row (clean g) (a : Int)).length : Int); omega)]
    · refine Ev.step (f := fun k => bywashlaw10_GraphOrder.l1 k g a1 true o r (clean g) at' (n : Int) ((a + 1 : Nat) : Int)) (fun k => ?_) hnext
      rw [bywashlaw10_GraphOrder.j5, if_neg (by simp), wrap_succ (by have := hs.2; omega)]
  | d + 1, j, hj => by
    have hcl := clean_len g
    have hrl := ht.len
    have hl := h.len
    have hjl : j < (row (clean g) (a : Int)).length := by omega
    have hac : Node (clean g) (a : Int) := clean_node.2 ⟨by omega, by omega⟩
    have hjs : j < 900 := by
      have h1 := clean_row_le _ (row_mem (List.getElem_mem hjl))
      have := hs.2
      omega
    have hb : (row (clean g) (a : Int))[j] ∈ row (clean g) (a : Int) := List.getElem_mem hjl
    have hbn := clean_node.1 (row_node (clean_Valid g) hb)
    have hrb := ht.fol (a : Int) _ ⟨by omega, by omega⟩ hra hb
    have hao : (a : Int) ∈ o := (ht.mem _).2 ⟨⟨by omega, by omega⟩, hra⟩
    have hbo : (row (clean g) (a : Int))[j] ∈ o := (ht.mem _).2 ⟨hbn, hrb⟩
    have ih := order_l2 hs ht hol h n a ha hra hnext d (j + 1) (by omega)
    have erd : rd (rd_L1 (clean g) (a : Int)) (j : Int) = (row (clean g) (a : Int))[j] := rd_nat' hjl
    refine Ev.step (f := fun k => bywashlaw10_GraphOrder.j5 k g a1 true o r (clean g) at' (n : Int) (a : Int) (j : Int) true) (fun k => ?_) ?_
    · rw [bywashlaw10_GraphOrder.l2, if_pos (by omega), if_pos (by omega), if_pos (by show (j : Int) < ((row (clean g) (a : Int)).length : Int); omega), if_pos (by omega), hra]
    · refine Ev.step (f := fun k => bywashlaw10_GraphOrder.l2 k g a1 true o r (clean g) at' (n : Int) (a : Int) ((j + 1 : Nat) : Int)) (fun k => ?_) ih
      rw [bywashlaw10_GraphOrder.j5, if_pos rfl, if_pos (by omega), if_pos (by omega), if_pos (by omega), if_pos (by show (j : Int) < ((row (clean g) (a : Int)).length : Int); omega), erd, if_pos hbn.1, if_pos (by omega), if_pos hrb, if_pos (by omega), if_pos (by omega), wrap_succ (by omega)]
      by_cases hle : rd at' (row (clean g) (a : Int))[j] ≤ rd at' (a : Int)
      · rw [if_pos hle]
        obtain ⟨r', hr', hrl', hrs'⟩ := reach_now hs (row (clean g) (a : Int))[j]
        obtain ⟨pa, hpa, ea⟩ := List.getElem_of_mem hao
        obtain ⟨pb, hpb, eb⟩ := List.getElem_of_mem hbo
        have h1 := h.hit pa hpa hpa
        have h2 := h.hit pb hpb hpb
        rw [ea] at h1
        rw [eb] at h2
        have hw : Way (clean g) (row (clean g) (a : Int))[j] (a : Int) := by
          refine ht.back (o.take pa) (a : Int) (o.drop (pa + 1)) ?_ _ hb ?_
          · rw [← ea, List.getElem_cons_drop, List.take_append_drop]
          · by_cases e : pb = pa
            · subst e
              exact .inl (eb.symm.trans ea)
            · refine .inr ?_
              rw [← eb]
              have hlt : pb < pa := by omega
              exact List.mem_take_iff_getElem.2 ⟨pb, by omega, rfl⟩
        rw [hr', Option.bind_some, if_pos (by omega), if_pos ((hrs' (a : Int) (by omega) (by omega)).2 ⟨hbn, hw⟩)]
      · rw [if_neg hle]

/-- How many of the first nodes are reached. -/
def cntR (r : List Bool) (i : Nat) : Nat := ((nodes i).filter fun x => rdOf false r x).length
theorem nodes_succ (i : Nat) : nodes (i + 1) = nodes i ++ [(i : Int)] := by simp [nodes, List.range_succ]
theorem cntR_succ (r : List Bool) (i : Nat) : cntR r (i + 1) = cntR r i + (if rdOf false r (i : Int) = true then 1 else 0) := by
  unfold cntR
  rw [nodes_succ, List.filter_append, List.length_append]
  congr 1
  by_cases h : rdOf false r (i : Int) = true
  · simp [h]
  · simp [h]
theorem cntR_le (r : List Bool) (i : Nat) : cntR r i ≤ i := by
  unfold cntR
  refine Nat.le_trans (List.length_filter_le _ _) ?_
  rw [nodes_len]
  exact Nat.le_refl _
theorem nodes_nodup (n : Nat) : (nodes n).Nodup := (nodes_rise n).imp (fun h => by omega)
theorem cntR_all (ht : Told g a1 o r) : cntR r g.length = o.length := by
  have hm : ∀ x, x ∈ (nodes g.length).filter (fun x => rdOf false r x) ↔ x ∈ o := fun x => by rw [List.mem_filter, mem_nodes, ht.mem]
  refine Nat.le_antisymm (length_le_of_subset _ _ ((nodes_nodup _).filter _) (fun x hx => (hm x).1 hx)) (length_le_of_subset _ _ ht.nodup (fun x hx => (hm x).2 hx))

theorem order_l1 (hs : Small g) (ht : Told g a1 o r) (hol : o.length ≤ 900) {at' : List Int} (h : AtOk g.length o at' o.length) :
    ∀ d a : Nat, a + d = g.length → Ev (fun k => bywashlaw10_GraphOrder.l1 k g a1 true o r (clean g) at' ((cntR r a : Nat) : Int) (a : Int)) true
  | 0, a, ha => by
    obtain rfl : a = g.length := by omega
    refine Ev.step (f := fun _ => some true) (fun k => ?_) (Ev.now _)
    rw [bywashlaw10_GraphOrder.l1, if_neg (by omega), if_pos rfl, cntR_all ht, if_pos rfl]
    by_cases h0 : (o.length : Int) = 0
    · rw [if_pos h0]
    · rw [if_neg h0, if_pos (by omega), ht.first (by omega)]
      simp
  | d + 1, a, ha => by
    have hrl := ht.len
    have hsm := hs.2
    have hc := cntR_le r a
    have hcl := clean_len g
    have ih := order_l1 hs ht hol h d (a + 1) (by omega)
    rw [cntR_succ] at ih
    by_cases hra : rdOf false r (a : Int) = true
    · rw [if_pos hra] at ih
      refine Ev.step (f := fun k => bywashlaw10_GraphOrder.j3 k g a1 true o r (clean g) at' ((cntR r a + 1 : Nat) : Int) (a : Int)) (fun k => by rw [bywashlaw10_GraphOrder.l1, if_pos (by omega), if_pos (by omega), if_pos (by omega), if_pos hra, wrap_succ (by omega)]) ?_
      refine Ev.step (f := fun k => bywashlaw10_GraphOrder.l2 k g a1 true o r (clean g) at' ((cntR r a + 1 : Nat) : Int) (a : Int) ((0 : Nat) : Int)) (fun k => by rw [bywashlaw10_GraphOrder.j3]; rfl) ?_
      exact order_l2 hs ht hol h _ a (by omega) hra ih _ 0 (Nat.zero_add _)
    · rw [if_neg hra, Nat.add_zero] at ih
      have hra' : rdOf false r (a : Int) = false := by simpa using hra
      refine Ev.step (f := fun k => bywashlaw10_GraphOrder.j3 k g a1 true o r (clean g) at' ((cntR r a : Nat) : Int) (a : Int)) (fun k => by rw [bywashlaw10_GraphOrder.l1, if_pos (by omega), if_pos (by omega), if_pos (by omega), if_neg hra]) ?_
      refine Ev.step (f := fun k => bywashlaw10_GraphOrder.l2 k g a1 true o r (clean g) at' ((cntR r a : Nat) : Int) (a : Int) 0) (fun k => by rw [bywashlaw10_GraphOrder.j3]) ?_
      refine Ev.step (f := fun k => bywashlaw10_GraphOrder.j5 k g a1 true o r (clean g) at' ((cntR r a : Nat) : Int) (a : Int) 0 false) (fun k => ?_) ?_
      · rw [bywashlaw10_GraphOrder.l2, if_pos (by omega), if_pos (by omega), hra']
        by_cases h0 : (0 : Int) < ((rd_L1 (clean g) (a : Int)).length : Int)
        · rw [if_pos h0, if_pos (by omega)]
        · rw [if_neg h0]
      · refine Ev.step (f := fun k => bywashlaw10_GraphOrder.l1 k g a1 true o r (clean g) at' ((cntR r a : Nat) : Int) ((a + 1 : Nat) : Int)) (fun k => ?_) ih
        rw [bywashlaw10_GraphOrder.j5, if_neg (by simp), wrap_succ (by omega)]
end

theorem GraphOrder_pure (l0 : List (List Int)) (a1 : Int) (hm : l0.length ≤ 9223372036854775807) (_hw : ∀ r ∈ l0, r.length ≤ 9223372036854775807 ∧ ∀ y ∈ r, (Lit.int .i64 y).wf = true) (_h1 : (Lit.int .i64 a1).wf = true) : ∃ k, bywashlaw10_GraphOrder.f k l0 a1 = some true := by
  refine Ev.rounds (g := fun k => bywashlaw10_GraphOrder.f k l0 a1) ?_
  unfold bywashlaw10_GraphOrder.f
  refine Ev.bind awake10_ev ?_
  refine Ev.bind (few_ev l0 hm) ?_
  by_cases hf : few l0 = true
  · simp only [hf, if_true]
    have hs := few_small hf
    obtain ⟨o, r, ho, hr, ht⟩ := told_now hs a1
    have hol : o.length ≤ 900 := Nat.le_trans (few_nodes ht.nodup (fun x hx => ((ht.mem x).1 hx).1)) hs.2
    have hne : (((clean l0).length : Int) != (l0.length : Int)) = false := by rw [clean_len]; simp
    have hrl := ht.len
    simp only [ho, hr, clean_now hs.1, Option.bind_some, hrl, if_true, hne]
    refine Ev.step (f := fun k => bywashlaw10_GraphOrder.l0 k l0 a1 true o r (clean l0) (List.replicate ((l0.length : Int) : Int).toNat 0) ((0 : Nat) : Int)) (fun k => ?_) ?_
    · rw [bywashlaw10_GraphOrder.j0, if_neg (by simp), if_pos (by omega), if_pos (by have := hs.2; omega)]
      rfl
    · refine order_l0 hs ht hol (fun at' h => ?_) o.length 0 (Nat.zero_add _) _ ⟨by simp, fun j hj h => by omega, fun x _ _ _ => rd_replicate _ _⟩
      have := order_l1 hs ht hol h l0.length 0 (Nat.zero_add _)
      have e0 : cntR r 0 = 0 := rfl
      rw [e0] at this
      exact this
  · rw [Bool.not_eq_true] at hf
    simp only [hf, Bool.false_eq_true, if_false]
    exact Ev.now _

end Go.Proofs.Ytnhcimhdkdgccaa.P
