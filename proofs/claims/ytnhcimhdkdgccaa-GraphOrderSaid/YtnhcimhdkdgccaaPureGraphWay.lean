/- There is a way just if a first step has one: the plain law. -/
import Derived.Test.YtnhcimhdkdgccaaGawake10
import Derived.Test.YtnhcimhdkdgccaaPbywashlaw102
namespace Go.Proofs.Ytnhcimhdkdgccaa.P
open Go.RowKit Go.Lib Go.Proofs.YtnhcimhdkdgccaaW.PrintWords

theorem way_first {g : List (List Int)} {a b : Int} : Way g a b ↔ a = b ∨ ∃ c ∈ row g a, Way g c b := by
  constructor
  · intro h
    cases h with
    | refl => exact .inl rfl
    | step hc hw => exact .inr ⟨_, hc, hw⟩
  · rintro (rfl | ⟨c, hc, hw⟩)
    · exact .refl _
    · exact .step hc hw

theorem way_l0 (x0 : List (List Int)) (a1 : Int) (r : List Bool) (hb : r.length ≤ 9223372036854775807) (h : ∀ i : Nat, (hi : i < r.length) → r[i] = true → 0 ≤ a1 ∧ a1 < (x0.length : Int)) : ∀ d i : Nat, i + d = r.length → Ev (fun k => bywashlaw10_GraphWay.l0 k x0 a1 true r (i : Int)) true
  | 0, i, hd => Ev.step (f := fun _ => some true) (fun k => by rw [bywashlaw10_GraphWay.l0, if_neg (by omega)]) (Ev.now _)
  | d + 1, i, hd => by
    have hi : i < r.length := by omega
    refine Ev.step (f := fun k => bywashlaw10_GraphWay.l0 k x0 a1 true r ((i + 1 : Nat) : Int)) (fun k => ?_) (way_l0 x0 a1 r hb h d (i + 1) (by omega))
    rw [bywashlaw10_GraphWay.l0, if_pos (by omega), if_pos (by omega), rdOf_nat hi, wrap_succ (by omega)]
    by_cases hr : r[i] = true
    · have := h i hi hr
      rw [if_pos hr, if_neg (by omega), if_neg (by omega)]
    · rw [if_neg hr]

theorem way_l1 {x0 : List (List Int)} (hs : Small x0) {a1 a2 : Int} (h1 : 0 ≤ a1 ∧ a1 < (x0.length : Int)) (h2 : 0 ≤ a2 ∧ a2 < (x0.length : Int)) {r : List Bool} (hrl : r.length = x0.length) (hr : rdOf false r a2 = true ↔ Way (clean x0) a1 a2) :
    ∀ d i : Nat, i + d = (row (clean x0) a1).length → ∀ x11 : Bool, (x11 = true ↔ a1 = a2 ∨ ∃ c ∈ (row (clean x0) a1).take i, Way (clean x0) c a2) → Ev (fun k => bywashlaw10_GraphWay.l1 k x0 a1 a2 true r (clean x0) x11 (i : Int)) true
  | 0, i, hd, x11, hx => by
    refine Ev.step (f := fun _ => some ((rdOf false r a2) == x11)) (fun k => ?_) ?_
    · rw [bywashlaw10_GraphWay.l1, if_pos h1.1, if_pos (by rw [clean_len]; exact h1.2), if_neg (by show ¬ (i : Int) < ((row (clean x0) a1).length : Int); omega), if_pos rfl, if_pos h2.1, if_pos (by omega)]
    · rw [List.take_of_length_le (by omega), ← way_first, ← hr] at hx
      have : rdOf false r a2 = x11 := by
        rcases Bool.eq_false_or_eq_true x11 with e | e <;> rcases Bool.eq_false_or_eq_true (rdOf false r a2) with e' | e' <;> simp_all
      rw [this]
      simp only [beq_self_eq_true]
      exact Ev.now _
  | d + 1, i, hd, x11, hx => by
    have hi : i < (row (clean x0) a1).length := by omega
    have hmem : (row (clean x0) a1)[i] ∈ row (clean x0) a1 := List.getElem_mem hi
    have hn := clean_node.1 (row_node (clean_Valid x0) hmem)
    obtain ⟨r', hr', hrl', hrs'⟩ := reach_now hs ((row (clean x0) a1)[i])
    have hlen : (row (clean x0) a1).length ≤ 900 := Nat.le_trans (clean_row_le _ (row_mem hmem)) hs.2
    have hnext : ∀ y : Bool, (y = true ↔ a1 = a2 ∨ ∃ c ∈ (row (clean x0) a1).take (i + 1), Way (clean x0) c a2) → Ev (fun k => bywashlaw10_GraphWay.l1 k x0 a1 a2 true r (clean x0) y ((i + 1 : Nat) : Int)) true := fun y hy => way_l1 hs h1 h2 hrl hr d (i + 1) (by omega) y hy
    have htake : ∀ P : Int → Prop, (∃ c ∈ (row (clean x0) a1).take (i + 1), P c) ↔ (∃ c ∈ (row (clean x0) a1).take i, P c) ∨ P ((row (clean x0) a1)[i]) := by
      intro P
      rw [List.take_succ_eq_append_getElem hi]
      constructor
      · rintro ⟨c, hc, hp⟩
        rcases List.mem_append.1 hc with hc | hc
        · exact .inl ⟨c, hc, hp⟩
        · obtain rfl := List.mem_singleton.1 hc
          exact .inr hp
      · rintro (⟨c, hc, hp⟩ | hp)
        · exact ⟨c, List.mem_append_left _ hc, hp⟩
        · exact ⟨_, List.mem_append_right _ (List.mem_singleton.2 rfl), hp⟩
    cases x11 with
    | true =>
      refine Ev.step (f := fun k => bywashlaw10_GraphWay.l1 k x0 a1 a2 true r (clean x0) true ((i + 1 : Nat) : Int)) (fun k => ?_) (hnext true ?_)
      · rw [bywashlaw10_GraphWay.l1, if_pos h1.1, if_pos (by rw [clean_len]; exact h1.2), if_pos (by show (i : Int) < ((row (clean x0) a1).length : Int); omega), if_pos (by omega)]
        show (graph_Reach.f x0 (rd (row (clean x0) a1) (i : Int))).bind _ = _
        rw [rd_nat' hi, hr', Option.bind_some, if_pos rfl, wrap_succ (by omega)]
      · rw [htake]
        have := hx.1 rfl
        exact ⟨fun _ => this.elim .inl (fun h => .inr (.inl h)), fun _ => rfl⟩
    | false =>
      refine Ev.step (f := fun k => bywashlaw10_GraphWay.l1 k x0 a1 a2 true r (clean x0) (rdOf false r' a2) ((i + 1 : Nat) : Int)) (fun k => ?_) (hnext _ ?_)
      · rw [bywashlaw10_GraphWay.l1, if_pos h1.1, if_pos (by rw [clean_len]; exact h1.2), if_pos (by show (i : Int) < ((row (clean x0) a1).length : Int); omega), if_pos (by omega)]
        show (graph_Reach.f x0 (rd (row (clean x0) a1) (i : Int))).bind _ = _
        rw [rd_nat' hi, hr', Option.bind_some, if_neg (by simp), if_pos (by rw [hrl']), if_pos h2.1, if_pos (by omega), wrap_succ (by omega)]
      · rw [htake, hrs' a2 h2.1 h2.2]
        have hno : ¬ (a1 = a2 ∨ ∃ c ∈ (row (clean x0) a1).take i, Way (clean x0) c a2) := fun h => by have := hx.2 h; simp at this
        constructor
        · intro h
          exact .inr (.inr h.2)
        · rintro (h | h | h)
          · exact absurd (.inl h) hno
          · exact absurd (.inr h) hno
          · exact ⟨hn, h⟩

theorem GraphWay_pure (l0 : List (List Int)) (a1 a2 : Int) (hm : l0.length ≤ 9223372036854775807) (_hw : ∀ r ∈ l0, r.length ≤ 9223372036854775807 ∧ ∀ y ∈ r, (Lit.int .i64 y).wf = true) (_h1 : (Lit.int .i64 a1).wf = true) (_h2 : (Lit.int .i64 a2).wf = true) : ∃ k, bywashlaw10_GraphWay.f k l0 a1 a2 = some true := by
  refine Ev.rounds (g := fun k => bywashlaw10_GraphWay.f k l0 a1 a2) ?_
  unfold bywashlaw10_GraphWay.f
  refine Ev.bind awake10_ev ?_
  refine Ev.bind (few_ev l0 hm) ?_
  by_cases hf : few l0 = true
  · simp only [hf, if_true]
    have hs := few_small hf
    obtain ⟨r, hr, hrl, hrs⟩ := reach_now hs a1
    rw [hr]
    simp only [Option.bind_some, clean_now hs.1, hrl, if_true, clean_len]
    have hne : ((l0.length : Int) != (l0.length : Int)) = false := by simp
    rw [hne]
    have hout : Ev (fun k => bywashlaw10_GraphWay.l0 k l0 a1 true r 0) true :=
      way_l0 l0 a1 r (by omega) (fun i hi he => by
        refine ((hrs (i : Int) (by omega) (by omega)).1 ?_).1
        rw [rdOf_nat hi]
        exact he) r.length 0 (by omega)
    have hj1 : Ev (fun k => bywashlaw10_GraphWay.j1 k l0 a1 a2 true r (clean l0) true) true := Ev.step (f := fun k => bywashlaw10_GraphWay.l0 k l0 a1 true r 0) (fun k => by rw [bywashlaw10_GraphWay.j1, if_pos rfl]) hout
    by_cases h1 : 0 ≤ a1 ∧ a1 < (l0.length : Int)
    · by_cases h2 : 0 ≤ a2 ∧ a2 < (l0.length : Int)
      · refine Ev.step (f := fun k => bywashlaw10_GraphWay.j1 k l0 a1 a2 true r (clean l0) false) (fun k => by rw [bywashlaw10_GraphWay.j0, if_neg (by simp), if_neg (by omega), if_neg (by omega), if_neg (by omega), decide_eq_false (by omega)]) ?_
        refine Ev.step (f := fun k => bywashlaw10_GraphWay.l1 k l0 a1 a2 true r (clean l0) (a1 == a2) 0) (fun k => by rw [bywashlaw10_GraphWay.j1, if_neg (by simp)]) ?_
        exact way_l1 hs h1 h2 hrl (by rw [hrs a2 h2.1 h2.2]; exact ⟨fun h => h.2, fun h => ⟨h1, h⟩⟩) (row (clean l0) a1).length 0 (by omega) _ (by simp)
      · refine Ev.step (f := fun k => bywashlaw10_GraphWay.j1 k l0 a1 a2 true r (clean l0) true) (fun k => ?_) hj1
        rw [bywashlaw10_GraphWay.j0, if_neg (by simp), if_neg (by omega), if_neg (by omega)]
        by_cases h3 : a2 < 0
        · rw [if_pos h3]
        · rw [if_neg h3, decide_eq_true (by omega)]
    · refine Ev.step (f := fun k => bywashlaw10_GraphWay.j1 k l0 a1 a2 true r (clean l0) true) (fun k => ?_) hj1
      rw [bywashlaw10_GraphWay.j0, if_neg (by simp)]
      by_cases h3 : a1 < 0
      · rw [if_pos h3]
      · rw [if_neg h3, if_pos (by omega)]
  · rw [Bool.not_eq_true] at hf
    simp only [hf, Bool.false_eq_true, if_false]
    exact Ev.now _

end Go.Proofs.Ytnhcimhdkdgccaa.P
