/- What the claim uses of: PureDomupPlays Hacts3 -/
import Derived.Deep.SlicePairs
import Derived.Test.YtemcmcnhpdkdfaaQUDomupPlays0
namespace Go.Proofs.Ytemcmcnhpdkdfaa.P
open Go.RowKit Go.Lib Go.Proofs.YtemcmcnhpdkdfaaW.PrintWords
theorem row_grow (c : List (List Int)) (x : Int) : row (c ++ [[]]) x = row c x := by
  unfold row
  rw [List.getD_eq_getElem?_getD, List.getD_eq_getElem?_getD]
  rcases Nat.lt_trichotomy x.toNat c.length with h | h | h
  · rw [List.getElem?_append_left h]
  · rw [show (c ++ [[]])[x.toNat]? = some [] from by rw [h]; simp, show c[x.toNat]? = none from List.getElem?_eq_none (by omega)]
    rfl
  · rw [List.getElem?_eq_none (by simp; omega), List.getElem?_eq_none (by omega)]
theorem way_congr {c d : List (List Int)} (h : ∀ x, row c x = row d x) {s t : Int} (k : Way c s t) : Way d s t := by
  induction k with
  | refl => exact .refl _
  | step e _ ih => exact .step (by rw [← h]; exact e) ih
theorem av_congr {c d : List (List Int)} (h : ∀ x, row c x = row d x) {x s t : Int} (k : Av c x s t) : Av d x s t := by
  induction k with
  | refl k => exact .refl k
  | step k e _ ih => exact .step k (by rw [← h]; exact e) ih
theorem rd_grow (l : List Int) (o : Int) {b : Int} (hb : b < (l.length : Int)) (h0 : 0 ≤ b) : rd (l ++ [o]) b = rd l b := by
  show (l ++ [o]).getD b.toNat 0 = l.getD b.toNat 0
  rw [List.getD_eq_getElem?_getD, List.getD_eq_getElem?_getD, List.getElem?_append_left (by omega)]
theorem rd_last (l : List Int) (o : Int) : rd (l ++ [o]) (l.length : Int) = o := by
  show (l ++ [o]).getD (Int.toNat (l.length : Int)) 0 = o
  rw [Int.toNat_natCast, List.getD_eq_getElem?_getD, List.getElem?_append_right (Nat.le_refl _), Nat.sub_self]
  rfl
theorem idT_grow (l : List Int) (o : Int) (ho : o < 0) (b : Int) : idT (l ++ [o]) b = idT l b := by
  unfold idT
  rw [List.length_append, List.length_singleton]
  by_cases h1 : 0 ≤ b ∧ b < (l.length : Int)
  · rw [rd_grow l o h1.2 h1.1]
    by_cases h2 : 0 ≤ rd l b
    · rw [if_pos ⟨⟨h1.1, by omega⟩, h2⟩, if_pos ⟨h1, h2⟩]
    · rw [if_neg (fun k => h2 k.2), if_neg (fun k => h2 k.2)]
  · rw [show (if (0 ≤ b ∧ b < (l.length : Int)) ∧ 0 ≤ rd l b then some (rd l b) else none) = none from if_neg (fun k => h1 k.1)]
    refine if_neg (fun k => ?_)
    have e : b = (l.length : Int) := by have := k.1; omega
    rw [e, rd_last] at k
    omega
theorem up_fun {T T' : Int → Option Int} (h : ∀ b, T b = T' b) {b x : Int} (k : Up T b x) : Up T' b x := k.congr (fun _ => True) (fun b _ => h b) (fun _ _ _ _ => trivial) trivial
theorem stt_grow {c : List (List Int)} {l : List Int} (h : Stt c l) (hn : c.length + 1 ≤ 900) : Stt (c ++ [[]]) (l ++ [if c.length = 0 then -1 else -2]) := by
  obtain ⟨o, eo⟩ : ∃ o : Int, o = if c.length = 0 then -1 else -2 := ⟨_, rfl⟩
  rw [← eo]
  have ho : o < 0 := by rw [eo]; split <;> omega
  have hr := row_grow c
  have hr' := fun x => (hr x).symm
  have hll := h.len
  have hid := idT_grow l o ho
  have hid' := fun b => (hid b).symm
  have hnode : ∀ b, Node (c ++ [[]]) b ↔ (Node c b ∨ b = (c.length : Int)) := fun b => by
    unfold Node
    rw [List.length_append, List.length_singleton]
    omega
  have hin : ∀ b, Way c 0 b → b = 0 ∨ Node c b := fun b k => by
    rcases Classical.em (b = 0) with e | e
    · exact .inl e
    · have := k.closed (P := fun y => y = 0 ∨ Node c y) (fun x y _ hy => .inr (row_node h.v hy)) (.inl rfl)
      exact this
  refine ⟨fun l hl b hb => ?_, fun l hl => ?_, by rw [List.length_append, List.length_singleton]; exact hn, ?_⟩
  · rw [List.length_append, List.length_singleton]
    rcases List.mem_append.1 hl with k | k
    · have := h.v l k b hb
      omega
    · rw [List.mem_singleton.1 k] at hb
      simp at hb
  · rcases List.mem_append.1 hl with k | k
    · exact h.r l k
    · rw [List.mem_singleton.1 k]
      exact List.Pairwise.nil
  · refine ⟨by rw [List.length_append, List.length_append, List.length_singleton, List.length_singleton, hll], fun _ => ?_, fun b hb hw => ?_, fun b hb hw hb0 => ?_, fun b hb hw x => ?_, ?_⟩
    · by_cases hz : c.length = 0
      · have := rd_last l o
        rw [hll, hz] at this
        rw [eo, if_pos hz] at this ⊢
        exact this
      · rw [rd_grow l o (by omega) (by omega)]
        exact h.d.zero (by omega)
    · rcases (hnode b).1 hb with k | k
      · rw [rd_grow l o (by have := k.2; omega) k.1]
        exact h.d.lost b k (fun q => hw (way_congr hr' q))
      · by_cases hz : c.length = 0
        · exact absurd (by rw [k, hz]; exact .refl _) hw
        · have := rd_last l o
          rw [hll, ← k] at this
          rw [this, eo, if_neg hz]
    · have hw' := way_congr hr hw
      rcases hin b hw' with k | k
      · exact absurd k hb0
      · obtain ⟨p, h1, h2, h3, h4⟩ := h.d.par b k hw' hb0
        exact ⟨p, by rw [hid]; exact h1, by rw [rd_grow l o (by have := k.2; omega) k.1]; exact h2, (hnode p).2 (.inl h3), way_congr hr' h4⟩
    · have hw' := way_congr hr hw
      have hup : Up (idT (l ++ [o])) b x ↔ Up (idT l) b x := ⟨up_fun hid, up_fun hid'⟩
      have hav : Av (c ++ [[]]) x 0 b ↔ Av c x 0 b := ⟨av_congr hr, av_congr hr'⟩
      rw [hup, hav]
      by_cases hz : Node c b
      · exact h.d.doms b hz hw' x
      · have hb0 : b = 0 := (hin b hw').elim id (fun k => absurd k hz)
        subst hb0
        have hT : idT l 0 = none := by
          unfold idT
          refine if_neg (fun k => hz ⟨k.1.1, by have := k.1.2; omega⟩)
        constructor
        · intro k
          rcases k.cases with e | ⟨p, hp, _⟩
          · exact fun q => q.left e.symm
          · rw [hT] at hp; cases hp
        · intro k
          by_cases e : x = 0
          · rw [e]; exact .refl _
          · exact absurd (.refl (Ne.symm e)) k
    · obtain ⟨f, hf, hf2⟩ := h.d.rank
      by_cases hz : c.length = 0
      · refine ⟨fun _ => 0, fun b p hp => ?_, fun b _ _ => by rw [List.length_append, List.length_singleton]; show 0 < c.length + 1; omega⟩
        rw [hid] at hp
        unfold idT at hp
        split at hp
        · rename_i hc
          have := hc.1.1
          have := hc.1.2
          omega
        · cases hp
      · refine ⟨f, fun b p hp => hf b p (by rw [← hid]; exact hp), fun b hb hw => ?_⟩
        rw [List.length_append, List.length_singleton]
        have hw' := way_congr hr hw
        rcases hin b hw' with k | k
        · have := hf2 0 ⟨Int.le_refl 0, by omega⟩ (.refl 0)
          rw [k]
          omega
        · have := hf2 b k hw'
          omega
theorem grow_ev {c : List (List Int)} {l : List Int} (h : Stt c l) : Ev (fun k => domup_Grow.f k c l true) (c ++ [[]], l ++ [if c.length = 0 then -1 else -2], true) := by
  unfold domup_Grow.f
  rw [h.self]
  refine Ev.bind h.idoms ?_
  rw [if_pos (made_self h)]
  exact Ev.now _
theorem plays_l0 (x0 : List (List Int)) (acts : List (S53)) (ha : acts.length ≤ 40) : ∀ d i : Nat, i + d = acts.length → ∀ (c : List (List Int)) (l : List Int), Stt c l → c.length ≤ 30 + i → x0.length ≤ c.length →
    Ev (fun k => bywashlaw15_DomupPlays.l0 k x0 acts true (i : Int) c l true) true
  | 0, i, hd, c, l, h, hn, hx => by
    refine Ev.step (f := fun _ => some (decide ((c.length : Int) ≥ (x0.length : Int)))) (fun k => by rw [bywashlaw15_DomupPlays.l0, if_neg (by omega), if_pos rfl]) ?_
    rw [decide_eq_true (by omega)]
    exact Ev.now _
  | d + 1, i, hd, c, l, h, hn, hx => by
    have next : ∀ (c' : List (List Int)) (l' : List Int), Stt c' l' → c'.length ≤ 30 + (i + 1) → x0.length ≤ c'.length → Ev (fun k => bywashlaw15_DomupPlays.j2 k x0 acts true (i : Int) c' l' true) true := fun c' l' h' hn' hx' => by
      refine Ev.step (f := fun k => (dom_Idoms.f k c').bind fun t => (bywashref01_Ints.f k l' t).bind fun u => if u = true then (domup_Sane.f k c' l' true).bind fun v => if v = true then bywashlaw15_DomupPlays.l0 k x0 acts true ((i + 1 : Nat) : Int) c' l' true else some false else some false) (fun k => by rw [bywashlaw15_DomupPlays.j2, wrap_succ (by omega)]) ?_
      refine Ev.bind h'.idoms (Ev.bind (ints_ev l' l' (by rw [h'.len]; have := h'.n; omega)) ?_)
      simp only [decide_true, if_true]
      refine Ev.bind (saneU_ev h' true) ?_
      simp only [if_true]
      exact plays_l0 x0 acts ha d (i + 1) (by omega) c' l' h' hn' hx'
    obtain ⟨q, eq⟩ : ∃ q, q = rd_T53 acts (i : Int) := ⟨_, rfl⟩
    by_cases h0 : q.f0 = 0
    · obtain ⟨l3, h3⟩ := h.with_ q.f1 q.f2
      refine Ev.step (f := fun k => (domup_Add.f k c l true q.f1 q.f2).bind fun b => bywashlaw15_DomupPlays.j2 k x0 acts true (i : Int) b.1 b.2.1 b.2.2.1) (fun k => by rw [bywashlaw15_DomupPlays.l0, if_pos (by omega), if_pos (by omega), ← eq, if_pos h0]) ?_
      exact Ev.bind (add_ev h h3) (next _ _ h3 (by rw [withE_len]; omega) (by rw [withE_len]; exact hx))
    · by_cases h1 : q.f0 = 1
      · obtain ⟨l3, h3⟩ := h.without q.f1 q.f2
        refine Ev.step (f := fun k => (domup_Del.f k c l true q.f1 q.f2).bind fun b => bywashlaw15_DomupPlays.j2 k x0 acts true (i : Int) b.1 b.2.1 b.2.2.1) (fun k => by rw [bywashlaw15_DomupPlays.l0, if_pos (by omega), if_pos (by omega), ← eq, if_neg h0, if_pos h1]) ?_
        exact Ev.bind (del_ev h h3) (next _ _ h3 (by rw [withoutE_len]; omega) (by rw [withoutE_len]; exact hx))
      · have h3 := stt_grow h (by omega)
        refine Ev.step (f := fun k => (domup_Grow.f k c l true).bind fun b => bywashlaw15_DomupPlays.j2 k x0 acts true (i : Int) b.1 b.2.1 b.2.2) (fun k => by rw [bywashlaw15_DomupPlays.l0, if_pos (by omega), if_pos (by omega), ← eq, if_neg h0, if_neg h1]) ?_
        exact Ev.bind (grow_ev h) (next _ _ h3 (by rw [List.length_append, List.length_singleton]; omega) (by rw [List.length_append, List.length_singleton]; omega))
theorem plays_ev (l0 : List (List Int)) (l1 : List (S53)) (hm0 : l0.length ≤ 9223372036854775807) : Ev (fun k => bywashlaw15_DomupPlays.f k l0 l1) true := by
  refine Ev.bind awake15_ev (Ev.bind (few_ev l0 hm0) ?_)
  have no : Ev (fun k => bywashlaw15_DomupPlays.j0 k l0 l1 true true) true := Ev.step (f := fun _ => some true) (fun k => by rw [bywashlaw15_DomupPlays.j0, if_pos rfl]) (Ev.now _)
  by_cases hf : few l0 = true
  · simp only [hf, if_true]
    by_cases c1 : (l0.length : Int) > 30
    · simp only [if_pos c1]; exact no
    · simp only [if_neg c1]
      by_cases c2 : (l1.length : Int) > 40
      · simp only [decide_eq_true c2]; exact no
      · simp only [decide_eq_false c2]
        have hs := few_small hf
        obtain ⟨l, h⟩ := stt_clean hs
        refine Ev.step (f := fun k => (domup_New.f k l0).bind fun b => bywashlaw15_DomupPlays.l0 k l0 l1 true 0 b.1 b.2.1 b.2.2) (fun k => by rw [bywashlaw15_DomupPlays.j0, if_neg (by simp)]) ?_
        refine Ev.bind (new_ev hs h) ?_
        exact plays_l0 l0 l1 (by omega) l1.length 0 (by omega) _ _ h (by rw [clean_len]; omega) (by rw [clean_len]; exact Nat.le_refl _)
  · simp only [Bool.not_eq_true] at hf
    simp only [hf, Bool.false_eq_true, if_false]
    exact no
theorem DomupPlays_pure (l0 : List (List Int)) (l1 : List (S53)) (hm0 : l0.length ≤ 9223372036854775807) (_hw : ∀ r ∈ l0, r.length ≤ 9223372036854775807 ∧ ∀ y ∈ r, (Lit.int .i64 y).wf = true) (_ : l1.length ≤ 9223372036854775807) (_ : True) : ∃ k, bywashlaw15_DomupPlays.f k l0 l1 = some true := (plays_ev l0 l1 hm0).rounds
end Go.Proofs.Ytemcmcnhpdkdfaa.P
namespace Go.Proofs.Ytemcmcnhpdkdfaa.P
open Go.RowKit Go.Lib Go.Sort Go.Deep Go.ChangeShapes Go.WideShapes Go.Proofs.YtemcmcnhpdkdfaaW.PrintWords Go.Proofs.YtemcmcnhpdkdfaaW.PrintLast Go.Proofs.YtemcmcnhpdkdfaaW.PrintMore
instance : Inhabited S53 := ⟨z53⟩
theorem open_acts3 {H : Type} {enc : TypeId × Value → H} {P : Program} {w : World} {base : Nat} {held : Bool} {t e : TypeId} {f0 f1 f2 : Field} {fuel : Nat} {a0 : Option Addr} {len cap : Nat} {x : DataW H × List MemPlace} (ht : P.underlying t = some (.slice e)) (he : P.underlying e = some (.struct #[f0, f1, f2]))
    (ce : P.cellsOf e = 3) (o0 : f0.offset = 0) (o1 : f1.offset = 1) (o2 : f2.offset = 2) (c0 : P.cellsOf f0.type = 1) (c1 : P.cellsOf f1.type = 1) (c2 : P.cellsOf f2.type = 1) (i0 : P.underlying f0.type = some (.int .i64)) (i1 : P.underlying f1.type = some (.int .i64)) (i2 : P.underlying f2.type = some (.int .i64))
    (h : DataW.trod enc P w base (fun _ => true) held fuel t [.slice a0 len cap] = some x) :
    ∃ l : List S53, l.length = len ∧ Kd.C k53 w a0 l.length l ∧ l.length ≤ cap ∧ l.length ≤ 9223372036854775807 ∧ True := by
  rcases open_slice ht h with ⟨hcs, _⟩ | ⟨a, len', cap', m, n, D, Pl, hcs, hb, hl, hm, hz, _, hr⟩
  · simp at hcs
    obtain ⟨rfl, rfl, rfl⟩ := hcs
    exact ⟨[], rfl, ⟨rfl, by decide, fun k => absurd k (by simp)⟩, Nat.le_refl _, by simp, trivial⟩
  · simp at hcs
    obtain ⟨rfl, rfl, rfl⟩ := hcs
    have hm' : cap ≤ 9223372036854775807 := hm
    rw [if_pos rfl] at hz
    have each : ∀ i, i < len → ∃ p : S53, w.cell? (a.add (i * 3)) = some (.int .i64 p.f0) ∧ w.cell? (a.add (i * 3 + 1)) = some (.int .i64 p.f1) ∧ w.cell? (a.add (i * 3 + 2)) = some (.int .i64 p.f2) := by
      intro i hi
      obtain ⟨cs', h1, h2⟩ := hr i (by omega)
      rw [ce] at h1
      obtain ⟨_, hlen, hcell⟩ := World.cells?_some h1
      obtain ⟨xs, k, hk, hxy, _, hxl, hf⟩ := DataW.trod_struct he h2
      match xs, hxl, cs', hlen with
      | [y0, y1, y2], _, [v0, v1, v2], _ =>
        have g0 := hf 0 f0 rfl
        have g1 := hf 1 f1 rfl
        have g2 := hf 2 f2 rfl
        simp [o0, o1, o2, c0, c1, c2] at g0 g1 g2
        have e0 := hcell 0 (by omega)
        have e1 := hcell 1 (by omega)
        have e2 := hcell 2 (by omega)
        rw [Go.Deep.add_add] at e0 e1 e2
        obtain ⟨z0, q0, _⟩ := DataW.trod_int i0 g0
        obtain ⟨z1, q1, _⟩ := DataW.trod_int i1 g1
        obtain ⟨z2, q2, _⟩ := DataW.trod_int i2 g2
        simp at q0 q1 q2
        subst q0 q1 q2
        exact ⟨⟨z0, z1, z2⟩, by simpa using e0, by simpa using e1, by simpa using e2⟩
    obtain ⟨q, hq⟩ := choose_lt each
    refine ⟨(List.range len).map q, by simp, ⟨rfl, by simp; omega, fun _ => ⟨a, rfl, fun j p hj => ?_⟩⟩, by simpa using hl, by simp; omega, trivial⟩
    rw [List.getElem?_map] at hj
    obtain ⟨j', hj1, hj2⟩ := Option.map_eq_some_iff.1 hj
    have hjl : j < len := by
      have := (List.getElem?_eq_some_iff.1 hj1).1
      simpa using this
    have hjj : j' = j := by
      have := (List.getElem?_eq_some_iff.1 hj1).2
      simpa using this.symm
    subst hjj
    subst hj2
    obtain ⟨h0, h1, h2⟩ := hq j' hjl
    refine ⟨_, rfl, k53_mk w (q j'), fun i u hu => ?_⟩
    match i, hu with
    | 0, hu =>
      obtain rfl := Option.some.inj hu
      exact h0
    | 1, hu =>
      obtain rfl := Option.some.inj hu
      exact h1
    | 2, hu =>
      obtain rfl := Option.some.inj hu
      exact h2
    | i + 3, hu => simp at hu
end Go.Proofs.Ytemcmcnhpdkdfaa.P
