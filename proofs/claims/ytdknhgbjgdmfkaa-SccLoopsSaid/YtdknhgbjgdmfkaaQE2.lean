/- What the claim uses of: Gscc3 Gscc4 Gshr2 Gsame Grefs2 Gedges -/
import Derived.Test.YtdknhgbjgdmfkaaQE1
namespace Go.Proofs.Ytdknhgbjgdmfkaa.P
open Go.RowKit Go.Lib Go.Proofs.YtdknhgbjgdmfkaaW.PrintWords
def at0 (l : List Int) (x : Int) : Int := if 0 ≤ x ∧ x < (l.length : Int) then rd l x else 0
theorem at0_node {l : List Int} {x : Int} (h : 0 ≤ x ∧ x < (l.length : Int)) : at0 l x = rd l x := if_pos h
theorem at0_set {l : List Int} {b : Int} (v : Int) (h : 0 ≤ b ∧ b < (l.length : Int)) : at0 (l.set b.toNat v) = upd (at0 l) b v := by
  funext x
  unfold at0 upd
  rw [List.length_set]
  by_cases hx : 0 ≤ x ∧ x < (l.length : Int)
  · rw [if_pos hx]
    show (l.set b.toNat v).getD x.toNat 0 = _
    rw [List.getD_eq_getElem?_getD, List.getElem?_set]
    by_cases e : x = b
    · subst e
      rw [if_pos rfl, if_pos (by omega), if_pos rfl]
      rfl
    · rw [if_neg (by omega), if_neg e]
      show _ = if 0 ≤ x ∧ x < (l.length : Int) then rd l x else 0
      rw [if_pos hx, show rd l x = l.getD x.toNat 0 from rfl, List.getD_eq_getElem?_getD]
  · rw [if_neg hx, if_neg (fun e => hx (by rw [e]; exact h))]
    exact (if_neg hx).symm
structure TS where
  met : List Int
  low : List Int
  inn : List Bool
  opn : List Int
  clk : Int
  way : List (Int × Int)
  prt : List (List Int)
def TS.enter (s : TS) (a : Int) : TS := { s with met := s.met.set a.toNat (s.clk + 1), low := s.low.set a.toNat (s.clk + 1), inn := s.inn.set a.toNat true, opn := a :: s.opn, clk := s.clk + 1, way := (a, 0) :: s.way }
def TS.adv (s : TS) (a k : Int) (l : List (Int × Int)) : TS := { s with way := (a, k + 1) :: l }
structure SI (c : List (List Int)) (s : TS) : Prop where
  ti : TI c (at0 s.met) (at0 s.low) s.opn s.clk s.way s.prt
  ml : s.met.length = c.length
  ll : s.low.length = c.length
  il : s.inn.length = c.length
  ino : ∀ a, Node c a → rdOf false s.inn a = decide (a ∈ s.opn)
  cn : s.clk = (s.met.countP (fun x => decide (x ≠ 0)) : Nat)
theorem rdOf_set {α : Type} {d : α} {l : List α} {b x : Int} (v : α) (hb : 0 ≤ b ∧ b < (l.length : Int)) (hx : 0 ≤ x) : rdOf d (l.set b.toNat v) x = if x = b then v else rdOf d l x := by
  show (l.set b.toNat v).getD x.toNat d = if x = b then v else l.getD x.toNat d
  rw [List.getD_eq_getElem?_getD, List.getElem?_set]
  by_cases e : x = b
  · subst e
    rw [if_pos rfl, if_pos (by omega), if_pos rfl]
    rfl
  · rw [if_neg (by omega), if_neg e, List.getD_eq_getElem?_getD]
section
variable {c : List (List Int)} {s : TS}
theorem SI.mnode (h : SI c s) {a : Int} (ha : Node c a) : at0 s.met a = rd s.met a := at0_node (by rw [h.ml]; exact ha)
theorem SI.lnode (h : SI c s) {a : Int} (ha : Node c a) : at0 s.low a = rd s.low a := at0_node (by rw [h.ll]; exact ha)
theorem SI.white (h : SI c s) {a : Int} (ha : Node c a) (h0 : rd s.met a = 0) : s.clk < (c.length : Int) := by
  have h1 := List.countP_le_length (p := fun x : Int => decide (x ≠ 0)) (l := s.met)
  rw [h.cn]
  rcases Nat.lt_or_ge (s.met.countP (fun x => decide (x ≠ 0))) c.length with h2 | h2
  · omega
  · exfalso
    have h3 : s.met.countP (fun x => decide (x ≠ 0)) = s.met.length := by rw [h.ml] at h1 ⊢; omega
    have hal : a.toNat < s.met.length := by rw [h.ml]; have := ha.1; have := ha.2; omega
    have h4 := (List.countP_eq_length.1 h3) s.met[a.toNat] (List.getElem_mem hal)
    have h5 : rd s.met a = s.met[a.toNat] := by
      show s.met.getD a.toNat 0 = _
      rw [List.getD_eq_getElem?_getD, List.getElem?_eq_getElem hal]; rfl
    rw [← h5, h0] at h4
    simp at h4
theorem SI.clk_le (h : SI c s) : 0 ≤ s.clk ∧ s.clk ≤ (c.length : Int) := by
  have h1 := List.countP_le_length (p := fun x : Int => decide (x ≠ 0)) (l := s.met)
  rw [h.ml] at h1
  rw [h.cn]
  omega
theorem SI.enter {s1 : TS} {b : Int} (h : SI c s) (hb : Node c b) (hb0 : rd s.met b = 0)
    (hs : (s.way = [] ∧ s1 = s) ∨ ∃ a k l, s.way = (a, k) :: l ∧ s1 = s.adv a k l ∧ k < ((row c a).length : Int) ∧ (row c a).getD k.toNat 0 = b) : SI c (s1.enter b) := by
  have hbm : 0 ≤ b ∧ b < (s.met.length : Int) := by rw [h.ml]; exact hb
  have hbl : 0 ≤ b ∧ b < (s.low.length : Int) := by rw [h.ll]; exact hb
  have hbi : 0 ≤ b ∧ b < (s.inn.length : Int) := by rw [h.il]; exact hb
  have e : s1.met = s.met ∧ s1.low = s.low ∧ s1.inn = s.inn ∧ s1.opn = s.opn ∧ s1.clk = s.clk ∧ s1.prt = s.prt := by
    rcases hs with ⟨_, rfl⟩ | ⟨a, k, l, _, rfl, _⟩
    · exact ⟨rfl, rfl, rfl, rfl, rfl, rfl⟩
    · exact ⟨rfl, rfl, rfl, rfl, rfl, rfl⟩
  have ht := h.ti.enter (W' := s1.way) hb (by rw [h.mnode hb]; exact hb0) (by
    rcases hs with ⟨e1, rfl⟩ | ⟨a, k, l, e1, rfl, h1, h2⟩
    · exact .inl ⟨e1, e1⟩
    · exact .inr ⟨a, k, l, e1, rfl, h1, h2⟩)
  have hc := h.cn
  refine ⟨?_, ?_, ?_, ?_, ?_, ?_⟩
  · show TI c (at0 (s1.met.set b.toNat (s1.clk + 1))) (at0 (s1.low.set b.toNat (s1.clk + 1))) (b :: s1.opn) (s1.clk + 1) ((b, 0) :: s1.way) s1.prt
    rw [e.1, e.2.1, e.2.2.2.1, e.2.2.2.2.1, e.2.2.2.2.2, at0_set _ hbm, at0_set _ hbl]
    exact ht
  · show (s1.met.set _ _).length = _
    rw [List.length_set, e.1, h.ml]
  · show (s1.low.set _ _).length = _
    rw [List.length_set, e.2.1, h.ll]
  · show (s1.inn.set _ _).length = _
    rw [List.length_set, e.2.2.1, h.il]
  · intro a ha
    show rdOf false (s1.inn.set b.toNat true) a = decide (a ∈ b :: s1.opn)
    rw [e.2.2.1, e.2.2.2.1, rdOf_set _ hbi ha.1]
    by_cases ee : a = b
    · rw [if_pos ee, ee]; simp
    · rw [if_neg ee, h.ino a ha]
      simp [ee]
  · show s1.clk + 1 = (((s1.met.set b.toNat (s1.clk + 1)).countP (fun x => decide (x ≠ 0)) : Nat) : Int)
    have hbt : b.toNat < s.met.length := by omega
    have hb0' : s.met[b.toNat] = 0 := by
      rw [show rd s.met b = s.met.getD b.toNat 0 from rfl, List.getD_eq_getElem?_getD, List.getElem?_eq_getElem hbt] at hb0
      exact hb0
    rw [e.1, e.2.2.2.2.1, List.countP_set hbt, hb0', hc]
    have : decide (((s.met.countP (fun x => decide (x ≠ 0)) : Nat) : Int) + 1 ≠ 0) = true := decide_eq_true (by omega)
    rw [this]
    simp
theorem SI.seen {a k b : Int} {l : List (Int × Int)} (h : SI c s) (hw : s.way = (a, k) :: l) (hk : k < ((row c a).length : Int)) (hb : (row c a).getD k.toNat 0 = b) (hbN : Node c b) (hm : rd s.met b ≠ 0) :
    SI c (if b ∈ s.opn then { s.adv a k l with low := s.low.set a.toNat (min (rd s.low a) (rd s.met b)) } else s.adv a k l) := by
  have ht := h.ti
  rw [hw] at ht
  have haN : Node c a := (ht.on a (ht.wg (a, k) List.mem_cons_self)).1
  have hmb : 0 < at0 s.met b := by
    have := (ht.mc b hbN).1
    rw [h.mnode hbN] at this ⊢
    omega
  by_cases hbo : b ∈ s.opn
  · rw [if_pos hbo]
    have hal : 0 ≤ a ∧ a < (s.low.length : Int) := by rw [h.ll]; exact haN
    refine ⟨?_, h.ml, (List.length_set ..).trans h.ll, h.il, h.ino, h.cn⟩
    refine ht.seen hk hb hmb (.inl ⟨hbo, ?_⟩)
    show at0 (s.low.set a.toNat (min (rd s.low a) (rd s.met b))) = _
    rw [at0_set _ hal, h.lnode haN, h.mnode hbN]
  · rw [if_neg hbo]
    exact ⟨ht.seen hk hb hmb (.inr ⟨hbo, rfl⟩), h.ml, h.ll, h.il, h.ino, h.cn⟩
theorem SI.leave {a k : Int} {l : List (Int × Int)} (h : SI c s) (hw : s.way = (a, k) :: l) (hk : k = ((row c a).length : Int)) (hne : rd s.low a ≠ rd s.met a) :
    ∃ u ku l', l = (u, ku) :: l' ∧ u ≠ a ∧ Node c u ∧ SI c { s with way := l, low := s.low.set u.toNat (min (rd s.low u) (rd s.low a)) } := by
  have ht := h.ti
  rw [hw] at ht
  have haN : Node c a := (ht.on a (ht.wg (a, k) List.mem_cons_self)).1
  obtain ⟨u, ku, l', e, h2⟩ := ht.leave hk (by rw [h.lnode haN, h.mnode haN]; exact hne)
  have huN : Node c u := (ht.on u (ht.wg (u, ku) (by rw [e]; exact List.mem_cons_of_mem _ List.mem_cons_self))).1
  have hul : 0 ≤ u ∧ u < (s.low.length : Int) := by rw [h.ll]; exact huN
  have hua : u ≠ a := fun ee => by
    have := (ht.top (r := (u, ku)) (by rw [e]; exact List.mem_cons_of_mem _ List.mem_cons_self)).2 (by rw [e]; exact List.mem_cons_self)
    simp only [ee] at this
    omega
  refine ⟨u, ku, l', e, hua, huN, ?_, h.ml, (List.length_set ..).trans h.ll, h.il, h.ino, h.cn⟩
  show TI c (at0 s.met) (at0 (s.low.set u.toNat (min (rd s.low u) (rd s.low a)))) s.opn s.clk l s.prt
  rw [at0_set _ hul]
  rw [h.lnode huN, h.lnode haN] at h2
  exact h2
def outs (m : List Bool) (q : List Int) : List Bool := q.foldl (fun m x => m.set x.toNat false) m
theorem outs_len (q : List Int) : ∀ m : List Bool, (outs m q).length = m.length := by
  unfold outs
  induction q with
  | nil => intro m; rfl
  | cons x q ih => intro m; rw [List.foldl_cons, ih, List.length_set]
theorem outs_get (q : List Int) : ∀ m : List Bool, (∀ x ∈ q, 0 ≤ x ∧ x < (m.length : Int)) → ∀ a, 0 ≤ a → rdOf false (outs m q) a = (rdOf false m a && !decide (a ∈ q)) := by
  unfold outs
  induction q with
  | nil => intro m _ a _; simp
  | cons x q ih =>
    intro m hq a ha
    rw [List.foldl_cons, ih _ (fun y hy => by rw [List.length_set]; exact hq y (List.mem_cons_of_mem _ hy)) a ha, rdOf_set _ (hq x List.mem_cons_self) ha]
    by_cases e : a = x
    · simp [e]
    · simp [e]
theorem outs_snoc (m : List Bool) (q : List Int) (x : Int) : outs m (q ++ [x]) = (outs m q).set x.toNat false := by unfold outs; rw [List.foldl_append]; rfl
theorem SI.part {a k : Int} {l : List (Int × Int)} (h : SI c s) (hv : Valid c) (hw : s.way = (a, k) :: l) (hk : k = ((row c a).length : Int)) (he : rd s.low a = rd s.met a) {seg pre p : List Int} (hO : s.opn = seg ++ a :: pre)
    (hp : p.Pairwise (· < ·)) (hpm : ∀ x, x ∈ p ↔ x ∈ seg ∨ x = a) :
    (∀ u ku l', l = (u, ku) :: l' → u ≠ a ∧ Node c u ∧ s.low.set u.toNat (min (rd s.low u) (rd s.low a)) = s.low) ∧ SI c { s with way := l, opn := pre, inn := outs s.inn (seg ++ [a]), prt := s.prt ++ [p] } := by
  have ht := h.ti
  rw [hw] at ht
  have haN : Node c a := (ht.on a (ht.wg (a, k) List.mem_cons_self)).1
  have hod := ht.od
  rw [hO, List.pairwise_append, List.pairwise_cons] at hod
  refine ⟨fun u ku l' e => ?_, ?_, h.ml, h.ll, (outs_len _ _).trans h.il, fun x hx => ?_, h.cn⟩
  · have hm : (u, ku) ∈ (a, k) :: l := by rw [e]; exact List.mem_cons_of_mem _ List.mem_cons_self
    have huN : Node c u := (ht.on u (ht.wg (u, ku) hm)).1
    have hlt := (ht.top hm).2 (by rw [e]; exact List.mem_cons_self)
    simp only at hlt
    have hua : u ≠ a := fun ee => by rw [ee] at hlt; omega
    refine ⟨hua, huN, ?_⟩
    have h0 := ht.l0 _ hm
    simp only at h0
    rw [h.lnode huN] at h0
    rw [h.mnode haN] at hlt
    have hmin : min (rd s.low u) (rd s.low a) = rd s.low u := by omega
    rw [hmin]
    have hul : u.toNat < s.low.length := by rw [h.ll]; have := huN.1; have := huN.2; omega
    have : rd s.low u = s.low[u.toNat] := by
      show s.low.getD u.toNat 0 = _
      rw [List.getD_eq_getElem?_getD, List.getElem?_eq_getElem hul]; rfl
    rw [this]
    exact List.set_getElem_self hul
  · exact ht.part hv hk (by rw [h.lnode haN, h.mnode haN]; exact he) hO hp hpm
  · show rdOf false (outs s.inn (seg ++ [a])) x = decide (x ∈ pre)
    have hN : ∀ y ∈ seg ++ [a], 0 ≤ y ∧ y < (s.inn.length : Int) := fun y hy => by
      rw [h.il]
      refine (ht.on y ?_).1
      rw [hO]
      rcases List.mem_append.1 hy with e | e
      · exact List.mem_append_left _ e
      · rw [List.mem_singleton] at e
        rw [e]
        exact List.mem_append_right _ List.mem_cons_self
    rw [outs_get _ _ hN x hx.1, h.ino x hx, hO]
    by_cases h1 : x ∈ pre
    · have h2 : ¬ x ∈ seg ++ [a] := fun k => by
        rcases List.mem_append.1 k with e | e
        · have := hod.2.2 x e x (List.mem_cons_of_mem _ h1); omega
        · rw [List.mem_singleton] at e
          have := hod.2.1.1 x h1
          rw [e] at this; omega
      rw [decide_eq_true (show x ∈ seg ++ a :: pre from List.mem_append_right _ (List.mem_cons_of_mem _ h1)), decide_eq_false h2, decide_eq_true h1]
      rfl
    · by_cases h2 : x ∈ seg ++ [a]
      · rw [decide_eq_true h2, decide_eq_false h1, Bool.not_true, Bool.and_false]
      · have h3 : ¬ x ∈ seg ++ a :: pre := fun k => by
          rcases List.mem_append.1 k with e | e
          · exact h2 (List.mem_append_left _ e)
          · rcases List.mem_cons.1 e with e | e
            · exact h2 (by rw [e]; simp)
            · exact h1 e
        rw [decide_eq_false h3, decide_eq_false h1]
        rfl
end
def TS.left (c : List (List Int)) (s : TS) : Nat := ((c.length : Int) - s.clk).toNat * (c.length + 2) + (s.way.map fun q => c.length + 1 - q.2.toNat).sum
end Go.Proofs.Ytdknhgbjgdmfkaa.P
namespace Go.Proofs.Ytdknhgbjgdmfkaa.P
open Go.RowKit Go.Lib Go.Proofs.YtdknhgbjgdmfkaaW.PrintWords
section
variable {c : List (List Int)} {s : TS}
theorem SI.small (h : SI c s) : s.opn.length ≤ c.length ∧ s.way.length ≤ c.length ∧ s.prt.length ≤ c.length := by
  have ht := h.ti
  refine ⟨?_, ?_, ?_⟩
  · refine few_nodes (ht.od.imp (fun {a b} hab e => ?_)) (fun x hx => (ht.on x hx).1)
    rw [e] at hab; omega
  · have h1 : (s.way.map fun q => q.1).length ≤ c.length := by
      refine few_nodes (List.pairwise_map.2 (ht.wp.imp (fun {a b} hab e => ?_))) (fun x hx => ?_)
      · rw [e] at hab; omega
      · obtain ⟨q, hq, rfl⟩ := List.mem_map.1 hx
        exact (ht.on _ (ht.wg q hq)).1
    rwa [List.length_map] at h1
  · have hh : ∀ p ∈ s.prt, p.headD 0 ∈ p := fun p hp => by
      have := (ht.ps p hp).1
      cases p with
      | nil => exact absurd rfl this
      | cons x p => exact List.mem_cons_self
    have h1 : (s.prt.map fun p => p.headD 0).length ≤ c.length := by
      refine few_nodes (List.pairwise_map.2 (ht.pd.imp_of_mem (fun {p q} hp hq hpq e => ?_))) (fun x hx => ?_)
      · exact hpq _ (hh p hp) (by rw [e]; exact hh q hq)
      · obtain ⟨p, hp, rfl⟩ := List.mem_map.1 hx
        exact (ht.pn p hp _ (hh p hp)).1
    rwa [List.length_map] at h1
def MetS (s s' : TS) : Prop := ∀ x, 0 ≤ x → rd s.met x ≠ 0 → rd s'.met x ≠ 0
theorem MetS.refl (s : TS) : MetS s s := fun _ _ h => h
theorem MetS.trans {s s' s'' : TS} (h : MetS s s') (k : MetS s' s'') : MetS s s'' := fun x hx h1 => k x hx (h x hx h1)
theorem MetS.same {s s' : TS} (h : s'.met = s.met) : MetS s s' := fun x _ h1 => by rw [h]; exact h1
theorem rd_set {l : List Int} {b x : Int} (v : Int) (hb : 0 ≤ b ∧ b < (l.length : Int)) (hx : 0 ≤ x) : rd (l.set b.toNat v) x = if x = b then v else rd l x := by
  show (l.set b.toNat v).getD x.toNat 0 = if x = b then v else l.getD x.toNat 0
  rw [List.getD_eq_getElem?_getD, List.getElem?_set]
  by_cases e : x = b
  · subst e
    rw [if_pos rfl, if_pos (by omega), if_pos rfl]
    rfl
  · rw [if_neg (by omega), if_neg e, List.getD_eq_getElem?_getD]
theorem MetS.enter {s : TS} {b : Int} (hb : 0 ≤ b ∧ b < (s.met.length : Int)) (hk : 0 ≤ s.clk) : MetS s (s.enter b) ∧ rd (s.enter b).met b ≠ 0 := by
  refine ⟨fun x hx h => ?_, ?_⟩
  · show rd (s.met.set b.toNat (s.clk + 1)) x ≠ 0
    rw [rd_set _ hb hx]
    split <;> omega
  · show rd (s.met.set b.toNat (s.clk + 1)) b ≠ 0
    rw [rd_set _ hb hb.1, if_pos rfl]
    omega
theorem SI.at_ {a k : Int} {l : List (Int × Int)} (h : SI c s) (hw : s.way = (a, k) :: l) : Node c a ∧ 0 ≤ k ∧ k ≤ ((row c a).length : Int) := by
  have ht := h.ti
  have hm : (a, k) ∈ s.way := by rw [hw]; exact List.mem_cons_self
  exact ⟨(ht.on a (ht.wg _ hm)).1, (ht.wk _ hm).1, (ht.wk _ hm).2⟩
theorem left_way {m : Nat} {c : List (List Int)} {q : Int × Int} {l : List (Int × Int)} (hw : s.way = q :: l) (hm : m = ((c.length : Int) - s.clk).toNat * (c.length + 2)) : s.left c = m + (c.length + 1 - q.2.toNat) + (l.map fun q => c.length + 1 - q.2.toNat).sum := by
  unfold TS.left
  rw [hw, List.map_cons, List.sum_cons, hm]
  omega
theorem left_adv {a k : Int} {l : List (Int × Int)} (hw : s.way = (a, k) :: l) (hk : 0 ≤ k) (hkl : k < (c.length : Int)) : (s.adv a k l).left c + 1 ≤ s.left c := by
  rw [left_way hw rfl, left_way (s := s.adv a k l) (q := (a, k + 1)) (l := l) rfl rfl]
  show _ + (c.length + 1 - (k + 1).toNat) + _ + 1 ≤ _ + (c.length + 1 - k.toNat) + _
  have : (s.adv a k l).clk = s.clk := rfl
  rw [this]
  omega
theorem left_enter {b : Int} (hk : 0 ≤ s.clk) (hkl : s.clk < (c.length : Int)) : (s.enter b).left c + 1 ≤ s.left c := by
  unfold TS.left
  show ((c.length : Int) - (s.clk + 1)).toNat * (c.length + 2) + (((b, (0 : Int)) :: s.way).map fun q => c.length + 1 - q.2.toNat).sum + 1 ≤ _
  rw [List.map_cons, List.sum_cons]
  have e : ((c.length : Int) - s.clk).toNat = ((c.length : Int) - (s.clk + 1)).toNat + 1 := by omega
  rw [e, Nat.succ_mul]
  show _ + (c.length + 1 - (0 : Int).toNat + _) + 1 ≤ _
  have : (0 : Int).toNat = 0 := rfl
  omega
theorem left_pop {a k : Int} {l : List (Int × Int)} {s' : TS} (hw : s.way = (a, k) :: l) (hk : k ≤ (c.length : Int)) (hs : s'.way = l ∧ s'.clk = s.clk) : s'.left c + 1 ≤ s.left c := by
  rw [left_way hw rfl]
  unfold TS.left
  rw [hs.1, hs.2]
  show _ + 1 ≤ _ + (c.length + 1 - k.toNat) + _
  omega
end
def TS.start (n : Nat) : TS := { met := List.replicate n 0, low := List.replicate n 0, inn := List.replicate n false, opn := [], clk := 0, way := [], prt := [] }
theorem at0_zeros (n : Nat) (x : Int) : at0 (List.replicate n 0) x = 0 := by
  unfold at0
  split
  · show (List.replicate n (0 : Int)).getD x.toNat 0 = 0
    rw [List.getD_eq_getElem?_getD, List.getElem?_replicate]
    split <;> rfl
  · rfl
theorem SI_start (c : List (List Int)) : SI c (TS.start c.length) := by
  have hm : ∀ x, at0 (TS.start c.length).met x = 0 := at0_zeros _
  refine ⟨⟨fun a h => (by cases h), List.Pairwise.nil, Int.le_refl _, fun a _ => by rw [hm]; exact ⟨Int.le_refl _, Int.le_refl _⟩, fun a _ h => by rw [hm] at h; omega, fun p h => (by cases h), fun p h => (by cases h), fun p h => (by cases h), List.Pairwise.nil, fun q h => (by cases h), List.Pairwise.nil, fun q h => (by cases h), trivial, fun q h => (by cases h), fun a h => (by cases h), fun x h => (by cases h), fun y h => (by cases h), fun q h => (by cases h), fun q h => (by cases h), fun y h => (by cases h), fun q l h => (by cases h), fun s l h => (by cases h)⟩, ?_, ?_, ?_, fun a ha => ?_, ?_⟩
  · exact List.length_replicate ..
  · exact List.length_replicate ..
  · exact List.length_replicate ..
  · show (List.replicate c.length false).getD a.toNat false = decide (a ∈ ([] : List Int))
    rw [List.getD_eq_getElem?_getD, List.getElem?_replicate]
    split <;> rfl
  · show (0 : Int) = (((List.replicate c.length (0 : Int)).countP (fun x => decide (x ≠ 0)) : Nat) : Int)
    rw [List.countP_replicate]
    rfl
theorem parts_found {c : List (List Int)} {s : TS} (hv : Valid c) (h : SI c s) (hw : s.way = []) (hm : ∀ x : Nat, x < c.length → rd s.met (x : Int) ≠ 0) {P : List (List Int)} (hP : P.Perm s.prt) (hs : P.Pairwise (fun p q => p.headD 0 ≤ q.headD 0)) : P = partsB c := by
  have ht := h.ti
  rw [hw] at ht
  have ho := ht.open_nil
  have hh : ∀ p ∈ s.prt, p.headD 0 ∈ p := fun p hp => by
    have := (ht.ps p hp).1
    cases p with
    | nil => exact absurd rfl this
    | cons x p => exact List.mem_cons_self
  refine parts_unique hv (fun p hp a ha => (ht.pn p (hP.mem_iff.1 hp) a ha).1) (fun a ha => ?_) (fun p hp => ht.ps p (hP.mem_iff.1 hp)) ?_
  · have h1 := hm a.toNat (by have := ha.1; have := ha.2; omega)
    have e : ((a.toNat : Nat) : Int) = a := by have := ha.1; omega
    rw [e] at h1
    have h2 := (ht.mc a ha).1
    have h3 := ht.vis a ha (by rw [h.mnode ha] at h2 ⊢; omega)
    rcases h3 with h3 | ⟨p, hp, hpa⟩
    · rw [ho] at h3; cases h3
    · exact ⟨p, hP.mem_iff.2 hp, hpa⟩
  · have h1 : P.Pairwise (fun p q => p.headD 0 ≠ q.headD 0) := by
      refine (hP.pairwise_iff (R := fun p q : List Int => p.headD 0 ≠ q.headD 0) (fun h => Ne.symm h)).2 ?_
      exact ht.pd.imp_of_mem (fun {p q} hp hq hpq e => hpq _ (hh p hp) (by rw [e]; exact hh q hq))
    exact hs.imp₂ (fun a b h k => by omega) h1
end Go.Proofs.Ytdknhgbjgdmfkaa.P
namespace Go.Proofs.Ytdknhgbjgdmfkaa.P
open Go.RowKit Go.Lib Go.Proofs.YtdknhgbjgdmfkaaW.PrintWords
theorem turnStep_getD (a : Int) (o : List (List Int)) (b : Int) (j : Nat) (hb : 0 ≤ b ∧ b < (o.length : Int)) : (turnStep a o b).getD j [] = if (j : Int) = b then o.getD j [] ++ [a] else o.getD j [] := turnStep_get a o b j hb
section
variable {m : Nat} {inn : List Int} {c : List (List Int)}
theorem shrRow_mem (a : Int) (ha : 0 ≤ rd inn a ∧ rd inn a < (m : Int)) (l : List Int) : ∀ (o : List (List Int)), o.length = m → ∀ (i : Nat) (y : Int), y ∈ (l.foldl (shrStep inn a) o).getD i [] ↔ y ∈ o.getD i [] ∨ ∃ b ∈ l, rd inn a = (i : Int) ∧ rd inn b = y ∧ rd inn a ≠ rd inn b := by
  induction l with
  | nil => intro o _ i y; simp
  | cons b l ih =>
    intro o ho i y
    rw [List.foldl_cons, ih _ (by rw [shrStep_len, ho]) i y]
    unfold shrStep
    by_cases e : rd inn a = rd inn b
    · rw [if_pos e]
      constructor
      · rintro (h | ⟨b', hb', h⟩)
        · exact .inl h
        · exact .inr ⟨b', List.mem_cons_of_mem _ hb', h⟩
      · rintro (h | ⟨b', hb', h1, h2, h3⟩)
        · exact .inl h
        · rcases List.mem_cons.1 hb' with e' | e'
          · rw [e'] at h3; exact absurd e h3
          · exact .inr ⟨b', e', h1, h2, h3⟩
    · rw [if_neg e, turnStep_getD _ _ _ _ (by rw [ho]; exact ha)]
      by_cases ei : (i : Int) = rd inn a
      · rw [if_pos ei, List.mem_append, List.mem_singleton]
        constructor
        · rintro ((h | h) | ⟨b', hb', h⟩)
          · exact .inl h
          · exact .inr ⟨b, List.mem_cons_self, ei.symm, h.symm, e⟩
          · exact .inr ⟨b', List.mem_cons_of_mem _ hb', h⟩
        · rintro (h | ⟨b', hb', h1, h2, h3⟩)
          · exact .inl (.inl h)
          · rcases List.mem_cons.1 hb' with e' | e'
            · rw [e'] at h2; exact .inl (.inr h2.symm)
            · exact .inr ⟨b', e', h1, h2, h3⟩
      · rw [if_neg ei]
        constructor
        · rintro (h | ⟨b', hb', h⟩)
          · exact .inl h
          · exact .inr ⟨b', List.mem_cons_of_mem _ hb', h⟩
        · rintro (h | ⟨b', hb', h1, h2, h3⟩)
          · exact .inl h
          · exact absurd h1.symm ei
theorem shrSo_mem (hi : ∀ a, Node c a → 0 ≤ rd inn a ∧ rd inn a < (m : Int)) : ∀ k, k ≤ c.length → ∀ (i : Nat) (y : Int), y ∈ (shrSo m inn c k).getD i [] ↔ ∃ a : Nat, a < k ∧ ∃ b ∈ c.getD a [], rd inn (a : Int) = (i : Int) ∧ rd inn b = y ∧ rd inn (a : Int) ≠ rd inn b := by
  intro k
  induction k with
  | zero =>
    intro _ i y
    constructor
    · intro h
      rw [shrSo, List.getD_eq_getElem?_getD, List.getElem?_replicate] at h
      split at h <;> simp at h
    · rintro ⟨a, ha, _⟩; omega
  | succ k ih =>
    intro hk i y
    rw [shrSo, shrRow_mem (k : Int) (hi _ ⟨by omega, by omega⟩) _ _ (shrSo_len _ _ _ _) i y, ih (by omega) i y]
    constructor
    · rintro (⟨a, ha, h⟩ | h)
      · exact ⟨a, by omega, h⟩
      · exact ⟨k, by omega, h⟩
    · rintro ⟨a, ha, h⟩
      rcases Nat.lt_or_ge a k with e | e
      · exact .inl ⟨a, e, h⟩
      · obtain rfl : a = k := by omega
        exact .inr h
end
section
variable {c : List (List Int)}
def shr (c : List (List Int)) : List (List Int) := clean (shrB c)
theorem shr_len : (shr c).length = (partsB c).length := by unfold shr shrB; rw [clean_len, shrSo_len]
theorem inB_range (hv : Valid c) {a : Int} (ha : Node c a) : 0 ≤ rd (inB c) a ∧ rd (inB c) a < ((partsB c).length : Int) := by
  obtain ⟨j, h1, h2, _⟩ := inB_spec hv ha
  omega
theorem inB_eq (hv : Valid c) {a b : Int} (ha : Node c a) (hb : Node c b) : rd (inB c) a = rd (inB c) b ↔ Way c a b ∧ Way c b a := by
  obtain ⟨j, h1, h2, h3, h4⟩ := inB_spec hv ha
  obtain ⟨i, g1, g2, g3, g4⟩ := inB_spec hv hb
  have hm : (partsB c).getD j [] ∈ partsB c := by
    rw [List.getD_eq_getElem?_getD, List.getElem?_eq_getElem h1]
    exact List.getElem_mem _
  have hp := (partsB_facts hv).2.2 _ hm
  constructor
  · intro e
    have e' : j = i := by omega
    rw [← e'] at g3
    exact (hp.2.2 a h3 b).1 g3
  · intro h
    have := g4 j ((hp.2.2 a h3 b).2 h)
    rw [h2, g2, this]
theorem mem_shr (hv : Valid c) {x y : Int} (hx : 0 ≤ x) : y ∈ row (shr c) x ↔ ∃ a, Node c a ∧ ∃ b ∈ row c a, rd (inB c) a = x ∧ rd (inB c) b = y ∧ x ≠ y := by
  have hrow : row (shr c) x = if x.toNat < (partsB c).length then cleanRow (partsB c).length ((shrB c).getD x.toNat []) else [] := by
    have hl : (shrB c).length = (partsB c).length := by unfold shrB; rw [shrSo_len]
    unfold row shr clean
    rw [List.getD_eq_getElem?_getD, List.getElem?_map]
    by_cases h : x.toNat < (partsB c).length
    · rw [if_pos h, List.getElem?_eq_getElem (by rw [hl]; exact h), List.getD_eq_getElem?_getD, List.getElem?_eq_getElem (by rw [hl]; exact h)]
      exact congrArg (fun n => cleanRow n (shrB c)[x.toNat]) hl
    · rw [if_neg h, List.getElem?_eq_none (by rw [hl]; omega)]
      rfl
  have hr : ∀ a, Node c a → 0 ≤ rd (inB c) a ∧ rd (inB c) a < ((partsB c).length : Int) := fun a ha => inB_range hv ha
  have hsm := shrSo_mem (m := (partsB c).length) (inn := inB c) hr c.length (Nat.le_refl _) x.toNat y
  have hxt : ((x.toNat : Nat) : Int) = x := by omega
  rw [hxt] at hsm
  rw [hrow]
  constructor
  · intro h
    split at h
    · rw [mem_cleanRow] at h
      obtain ⟨a, ha, b, hb, h1, h2, h3⟩ := hsm.1 h.1
      refine ⟨(a : Int), ⟨by omega, by omega⟩, b, ?_, h1, h2, fun e => h3 (by rw [h1, h2, e])⟩
      show b ∈ c.getD (Int.toNat (a : Int)) []
      rw [Int.toNat_natCast]
      exact hb
    · cases h
  · rintro ⟨a, ha, b, hb, h1, h2, h3⟩
    have hbN := row_node hv hb
    have ra := hr a ha
    have rb := hr b hbN
    rw [if_pos (by omega), mem_cleanRow]
    refine ⟨hsm.2 ⟨a.toNat, by have := ha.1; have := ha.2; omega, b, hb, ?_, h2, fun e => h3 ?_⟩, by omega, by omega⟩
    · rw [show ((a.toNat : Nat) : Int) = a by have := ha.1; omega]; exact h1
    · rw [show ((a.toNat : Nat) : Int) = a by have := ha.1; omega] at e
      rw [← h1, ← h2, e]
theorem shr_Valid : Valid (shr c) := clean_Valid _
theorem shr_rises : ∀ l ∈ shr c, l.Pairwise (· < ·) := clean_rises _
theorem shr_clean : clean (shr c) = shr c := clean_clean _
theorem way_shr (hv : Valid c) {a b : Int} (h : Way c a b) (ha : Node c a) : Way (shr c) (rd (inB c) a) (rd (inB c) b) := by
  induction h with
  | refl => exact .refl _
  | @step a x b hx _ ih =>
    have hN := row_node hv hx
    by_cases e : rd (inB c) a = rd (inB c) x
    · rw [e]; exact ih hN
    · exact .step ((mem_shr hv (inB_range hv ha).1).2 ⟨a, ha, x, hx, rfl, rfl, e⟩) (ih hN)
theorem way_of_shr (hv : Valid c) {i j : Int} (h : Way (shr c) i j) : ∀ a b, Node c a → Node c b → rd (inB c) a = i → rd (inB c) b = j → Way c a b := by
  induction h with
  | refl => exact fun a b ha hb e1 e2 => ((inB_eq hv ha hb).1 (e1.trans e2.symm)).1
  | @step i k j hk _ ih =>
    intro a b ha hb e1 e2
    obtain ⟨a', ha', b', hb', h1, h2, _⟩ := (mem_shr hv (by rw [← e1]; exact (inB_range hv ha).1)).1 hk
    have h3 := ((inB_eq hv ha ha').1 (e1.trans h1.symm)).1
    exact h3.trans (.step hb' (ih b' b (row_node hv hb') hb h2 e2))
theorem way_shr_iff (hv : Valid c) {a b : Int} (ha : Node c a) (hb : Node c b) : Way (shr c) (rd (inB c) a) (rd (inB c) b) ↔ Way c a b :=
  ⟨fun h => way_of_shr hv h a b ha hb rfl rfl, fun h => way_shr hv h ha⟩
theorem shr_none (hv : Valid c) {x y : Int} (hx : 0 ≤ x) (hy : y ∈ row (shr c) x) : ¬ Way (shr c) y x := by
  intro h
  obtain ⟨a, ha, b, hb, h1, h2, h3⟩ := (mem_shr hv hx).1 hy
  have hbN := row_node hv hb
  have h4 := way_of_shr hv h b a hbN ha h2 h1
  exact h3 (by rw [← h1, ← h2]; exact (inB_eq hv ha hbN).2 ⟨.edge hb, h4⟩)
end
end Go.Proofs.Ytdknhgbjgdmfkaa.P
namespace Go.Proofs.Ytdknhgbjgdmfkaa.P
open Go.RowKit Go.Lib Go.Proofs.YtdknhgbjgdmfkaaW.PrintWords
theorem same_l0 (a b : List (List Int)) (hl : a.length = b.length) (hb : a.length ≤ 9223372036854775807) (hr : ∀ r ∈ a, r.length ≤ 9223372036854775807) : ∀ d i : Nat, i + d = a.length → Ev (fun k => bywashref10_Same.l0 k a b (i : Int)) (decide (a.drop i = b.drop i))
  | 0, i, h => by
    refine Ev.step (f := fun _ => some true) (fun k => by rw [bywashref10_Same.l0, if_neg (by omega)]) ?_
    rw [List.drop_eq_nil_of_le (by omega), List.drop_eq_nil_of_le (by omega), decide_eq_true rfl]
    exact Ev.now _
  | d + 1, i, h => by
    have hi : i < a.length := by omega
    have hj : i < b.length := by omega
    rw [List.drop_eq_getElem_cons hi, List.drop_eq_getElem_cons hj]
    refine Ev.step (f := fun k => (bywashref01_Ints.f k a[i] b[i]).bind fun t => if t = true then bywashref10_Same.l0 k a b ((i + 1 : Nat) : Int) else some false) (fun k => by rw [bywashref10_Same.l0, if_pos (by omega), if_pos (by omega), if_pos (by omega), rdL1_nat hi, rdL1_nat hj, wrap_succ (by omega)]) ?_
    refine Ev.bind (ints_ev _ _ (hr _ (List.getElem_mem hi))) ?_
    by_cases hs : a[i] = b[i]
    · simp only [decide_eq_true hs, if_true]
      rw [show decide (a[i] :: a.drop (i + 1) = b[i] :: b.drop (i + 1)) = decide (a.drop (i + 1) = b.drop (i + 1)) from by rw [hs]; exact decide_eq_decide.2 ⟨fun e => (List.cons.inj e).2, fun e => by rw [e]⟩]
      exact same_l0 a b hl hb hr d (i + 1) (by omega)
    · simp only [decide_eq_false hs, Bool.false_eq_true, if_false]
      rw [show decide (a[i] :: a.drop (i + 1) = b[i] :: b.drop (i + 1)) = false from decide_eq_false (fun e => hs (by injection e))]
      exact Ev.now _
theorem same_ev (a b : List (List Int)) (hb : a.length ≤ 9223372036854775807) (hr : ∀ r ∈ a, r.length ≤ 9223372036854775807) : Ev (fun k => bywashref10_Same.f k a b) (decide (a = b)) := by
  by_cases h : a.length = b.length
  · refine Ev.congr (f := fun k => bywashref10_Same.l0 k a b ((0 : Nat) : Int)) (fun k => by unfold bywashref10_Same.f; rw [if_pos (by omega)]; rfl) ?_
    have := same_l0 a b h hb hr a.length 0 (by omega)
    rwa [List.drop_zero, List.drop_zero] at this
  · refine Ev.congr (f := fun _ => some false) (fun k => by unfold bywashref10_Same.f; rw [if_neg (by omega)]) ?_
    rw [decide_eq_false (fun e => h (by rw [e]))]
    exact Ev.now _
end Go.Proofs.Ytdknhgbjgdmfkaa.P
namespace Go.Proofs.Ytdknhgbjgdmfkaa.P
open Go.RowKit Go.Lib Go.Proofs.YtdknhgbjgdmfkaaW.PrintWords
theorem bools_l0 (a b : List Bool) (hl : a.length = b.length) (hb : a.length ≤ 9223372036854775807) : ∀ d i : Nat, i + d = a.length → Ev (fun k => bywashref10_Bools.l0 k a b (i : Int)) (decide (a.drop i = b.drop i))
  | 0, i, h => by
    refine Ev.step (f := fun _ => some true) (fun k => by rw [bywashref10_Bools.l0, if_neg (by omega)]) ?_
    rw [List.drop_eq_nil_of_le (by omega), List.drop_eq_nil_of_le (by omega), decide_eq_true rfl]
    exact Ev.now _
  | d + 1, i, h => by
    have hi : i < a.length := by omega
    have hj : i < b.length := by omega
    rw [List.drop_eq_getElem_cons hi, List.drop_eq_getElem_cons hj]
    by_cases hs : a[i] = b[i]
    · refine Ev.step (f := fun k => bywashref10_Bools.l0 k a b ((i + 1 : Nat) : Int)) (fun k => by rw [bywashref10_Bools.l0, if_pos (by omega), if_pos (by omega), if_pos (by omega), rdOf_nat hi, rdOf_nat hj, if_neg (by simp [hs]), wrap_succ (by omega)]) ?_
      rw [show decide (a[i] :: a.drop (i + 1) = b[i] :: b.drop (i + 1)) = decide (a.drop (i + 1) = b.drop (i + 1)) from by rw [hs]; exact decide_eq_decide.2 ⟨fun e => (List.cons.inj e).2, fun e => by rw [e]⟩]
      exact bools_l0 a b hl hb d (i + 1) (by omega)
    · refine Ev.step (f := fun _ => some false) (fun k => by rw [bywashref10_Bools.l0, if_pos (by omega), if_pos (by omega), if_pos (by omega), rdOf_nat hi, rdOf_nat hj, if_pos (by simp [hs])]) ?_
      rw [show decide (a[i] :: a.drop (i + 1) = b[i] :: b.drop (i + 1)) = false from decide_eq_false (fun e => hs (by injection e))]
      exact Ev.now _
theorem bools_ev (a b : List Bool) (hb : a.length ≤ 9223372036854775807) : Ev (fun k => bywashref10_Bools.f k a b) (decide (a = b)) := by
  by_cases h : a.length = b.length
  · refine Ev.congr (f := fun k => bywashref10_Bools.l0 k a b ((0 : Nat) : Int)) (fun k => by unfold bywashref10_Bools.f; rw [if_pos (by omega)]; rfl) ?_
    have := bools_l0 a b h hb a.length 0 (by omega)
    rwa [List.drop_zero, List.drop_zero] at this
  · refine Ev.congr (f := fun _ => some false) (fun k => by unfold bywashref10_Bools.f; rw [if_neg (by omega)]) ?_
    rw [decide_eq_false (fun e => h (by rw [e]))]
    exact Ev.now _
end Go.Proofs.Ytdknhgbjgdmfkaa.P
namespace Go.Proofs.Ytdknhgbjgdmfkaa.P
open Go.RowKit Go.Lib Go.Proofs.YtdknhgbjgdmfkaaW.PrintWords
theorem insAt_lt {x b : Int} (l : List Int) (h : x < b) : insAt (x :: l) b = x :: insAt l b := by
  unfold insAt
  rw [List.countP_cons_of_pos (by simpa using h), List.take_succ_cons, List.drop_succ_cons, List.cons_append]
theorem insAt_ge {b : Int} (l : List Int) (h : ∀ y ∈ l, b ≤ y) : insAt l b = b :: l := by
  unfold insAt
  have h0 : l.countP (fun x => decide (x < b)) = 0 := List.countP_eq_zero.2 (fun y hy => by have := h y hy; simp; omega)
  rw [h0]
  rfl
theorem mem_insAt (b : Int) : ∀ (l : List Int) (x : Int), x ∈ insAt l b ↔ x ∈ l ∨ x = b := by
  intro l x
  unfold insAt
  constructor
  · intro h
    rcases List.mem_append.1 h with h | h
    · exact .inl (List.mem_of_mem_take h)
    · rcases List.mem_cons.1 h with h | h
      · exact .inr h
      · exact .inl (List.mem_of_mem_drop h)
  · rintro (h | h)
    · rw [← List.take_append_drop (l.countP (fun x => decide (x < b))) l] at h
      rcases List.mem_append.1 h with h | h
      · exact List.mem_append_left _ h
      · exact List.mem_append_right _ (List.mem_cons_of_mem _ h)
    · subst h
      exact List.mem_append_right _ List.mem_cons_self
theorem insAt_rises (b : Int) : ∀ (l : List Int), l.Pairwise (· < ·) → ¬ b ∈ l → (insAt l b).Pairwise (· < ·)
  | [], _, _ => by simp [insAt]
  | x :: l, h, hb => by
    rw [List.pairwise_cons] at h
    have hne : b ≠ x := fun e => hb (by rw [e]; exact List.mem_cons_self)
    have hnl : ¬ b ∈ l := fun e => hb (List.mem_cons_of_mem _ e)
    rcases Int.lt_or_lt_of_ne hne with hlt | hlt
    · rw [insAt_ge (x :: l) (fun y hy => by
        rcases List.mem_cons.1 hy with e | e
        · omega
        · have := h.1 y e; omega)]
      refine List.pairwise_cons.2 ⟨fun y hy => ?_, List.pairwise_cons.2 h⟩
      rcases List.mem_cons.1 hy with e | e
      · omega
      · have := h.1 y e; omega
    · rw [insAt_lt l hlt]
      refine List.pairwise_cons.2 ⟨fun y hy => ?_, insAt_rises b l h.2 hnl⟩
      rcases (mem_insAt b l y).1 hy with e | e
      · exact h.1 y e
      · omega
theorem row_set {c : List (List Int)} {a x : Int} {l : List Int} (ha : Node c a) (hx : 0 ≤ x) : row (c.set a.toNat l) x = if x = a then l else row c x := by
  unfold row
  rw [List.getD_eq_getElem?_getD, List.getElem?_set]
  have := ha.1
  have := ha.2
  by_cases h : x = a
  · subst h
    rw [if_pos rfl, if_pos (by omega), if_pos rfl]
    rfl
  · rw [if_neg (by omega), if_neg h, List.getD_eq_getElem?_getD]
theorem row_at {c : List (List Int)} {a : Int} (ha : Node c a) : row c a ∈ c := by
  unfold row
  have := ha.1
  have := ha.2
  rw [List.getD_eq_getElem?_getD, List.getElem?_eq_getElem (by omega), Option.getD_some]
  exact List.getElem_mem _
section
variable {c : List (List Int)} {a b x y : Int}
theorem withE_len : (withE c a b).length = c.length := by unfold withE; split <;> simp
theorem mem_withE (ha : Node c a) (hb : Node c b) (hx : 0 ≤ x) : y ∈ row (withE c a b) x ↔ y ∈ row c x ∨ (x = a ∧ y = b) := by
  unfold withE
  split
  · rw [row_set ha hx]
    by_cases h : x = a
    · subst h
      rw [if_pos rfl, mem_insAt]
      exact or_congr Iff.rfl ⟨fun h => ⟨rfl, h⟩, fun h => h.2⟩
    · rw [if_neg h]
      exact ⟨.inl, fun e => e.elim id (fun e => absurd e.1 h)⟩
  · rename_i h
    refine ⟨.inl, fun e => e.elim id (fun e => ?_)⟩
    obtain ⟨rfl, rfl⟩ := e
    by_cases hm : y ∈ c.getD x.toNat []
    · exact hm
    · exact absurd ⟨isN_iff.2 ha, isN_iff.2 hb, hm⟩ h
theorem set_all {P : List Int → Prop} (hc : ∀ l ∈ c, P l) {k : Nat} {l : List Int} (hl : P l) : ∀ l' ∈ c.set k l, P l' := by
  intro l' h
  rcases List.mem_or_eq_of_mem_set h with h | h
  · exact hc _ h
  · rw [h]; exact hl
theorem withE_rises (hr : ∀ l ∈ c, l.Pairwise (· < ·)) : ∀ l ∈ withE c a b, l.Pairwise (· < ·) := by
  unfold withE
  split
  · rename_i h
    exact set_all hr (insAt_rises b _ (hr _ (row_at (isN_iff.1 h.1))) h.2.2)
  · exact hr
theorem withE_Valid (hv : Valid c) : Valid (withE c a b) := by
  intro l hl
  rw [withE_len]
  revert l
  unfold withE
  split
  · rename_i h
    refine set_all hv (fun y hy => ?_)
    rcases (mem_insAt b _ y).1 hy with e | e
    · exact hv _ (row_at (isN_iff.1 h.1)) _ e
    · rw [e]; exact isN_iff.1 h.2.1
  · exact hv
end
theorem small_of {g : List (List Int)} (hv : Valid g) (hr : ∀ l ∈ g, l.Pairwise (· < ·)) (hn : g.length ≤ 900) : Small g := by
  refine ⟨?_, hn⟩
  unfold fits
  rw [Bool.and_eq_true, decide_eq_true_iff, List.all_eq_true]
  refine ⟨by omega, fun l hl => decide_eq_true ?_⟩
  have := few_nodes ((hr l hl).imp (fun h => by omega)) (hv l hl)
  omega
theorem way_with {c : List (List Int)} (hv : Valid c) {a b : Int} (ha : Node c a) (hb : Node c b) {s t : Int} (hs : Node c s) :
    Way (withE c a b) s t ↔ Way c s t ∨ (Way c s a ∧ Way c b t) := by
  have hup : ∀ {u v}, Way c u v → Node c u → Way (withE c a b) u v := by
    intro u v h hu
    refine (h.closed (P := fun v => Node c v ∧ Way (withE c a b) u v) (fun x y hx hy => ⟨row_node hv hy, hx.2.trans (.edge ((mem_withE ha hb hx.1.1).2 (.inl hy)))⟩) ⟨hu, .refl _⟩).2
  constructor
  · intro h
    refine (h.closed (P := fun t => Node c t ∧ (Way c s t ∨ (Way c s a ∧ Way c b t))) (fun x y hx hy => ?_) ⟨hs, .inl (.refl _)⟩).2
    rcases (mem_withE ha hb hx.1.1).1 hy with e | ⟨rfl, rfl⟩
    · refine ⟨row_node hv e, ?_⟩
      rcases hx.2 with h | ⟨h, k⟩
      · exact .inl (h.trans (.edge e))
      · exact .inr ⟨h, k.trans (.edge e)⟩
    · refine ⟨hb, ?_⟩
      rcases hx.2 with h | ⟨h, _⟩
      · exact .inr ⟨h, .refl _⟩
      · exact .inr ⟨h, .refl _⟩
  · rintro (h | ⟨h, k⟩)
    · exact hup h hs
    · exact (hup h hs).trans ((Way.edge ((mem_withE ha hb ha.1).2 (.inr ⟨rfl, rfl⟩))).trans (hup k hb))
end Go.Proofs.Ytdknhgbjgdmfkaa.P
