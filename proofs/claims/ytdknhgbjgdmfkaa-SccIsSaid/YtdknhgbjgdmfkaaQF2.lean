/- What the claim uses of: Gscc3 Gscc4 -/
import Derived.Test.YtdknhgbjgdmfkaaQF1
namespace Go.Proofs.Ytdknhgbjgdmfkaa.P
open Go.RowKit Go.Lib Go.Proofs.YtdknhgbjgdmfkaaW.PrintWords
def at0 (l : List Int) (x : Int) : Int := if 0 ≤ x ∧ x < (l.length : Int) then rd l x else 0
theorem at0_node {l : List Int} {x : Int} (h : 0 ≤ x ∧ x < (l.length : Int)) : at0 l x = rd l x := if_pos h
theorem at0_set {l : List Int} {b : Int} (v : Int) (h : 0 ≤ b ∧ b < (l.length : Int)) : at0 (l.set b.toNat v) = upd (at0 l) b v := by
  funext x
  unfold at0 upd
  rw [List.length_set]
  by_cases hx : 0 ≤ x ∧ x < (l.length : Int)
  · rw [if_pos hx]
    show (l.set b.toNat v).getD x.toNat 0 = _
    rw [List.getD_eq_getElem?_getD, List.getElem?_set]
    by_cases e : x = b
    · subst e
      rw [if_pos rfl, if_pos (by omega), if_pos rfl]
      rfl
    · rw [if_neg (by omega), if_neg e]
      show _ = if 0 ≤ x ∧ x < (l.length : Int) then rd l x else 0
      rw [if_pos hx, show rd l x = l.getD x.toNat 0 from rfl, List.getD_eq_getElem?_getD]
  · rw [if_neg hx, if_neg (fun e => hx (by rw [e]; exact h))]
    exact (if_neg hx).symm
structure TS where
  met : List Int
  low : List Int
  inn : List Bool
  opn : List Int
  clk : Int
  way : List (Int × Int)
  prt : List (List Int)
def TS.enter (s : TS) (a : Int) : TS := { s with met := s.met.set a.toNat (s.clk + 1), low := s.low.set a.toNat (s.clk + 1), inn := s.inn.set a.toNat true, opn := a :: s.opn, clk := s.clk + 1, way := (a, 0) :: s.way }
def TS.adv (s : TS) (a k : Int) (l : List (Int × Int)) : TS := { s with way := (a, k + 1) :: l }
structure SI (c : List (List Int)) (s : TS) : Prop where
  ti : TI c (at0 s.met) (at0 s.low) s.opn s.clk s.way s.prt
  ml : s.met.length = c.length
  ll : s.low.length = c.length
  il : s.inn.length = c.length
  ino : ∀ a, Node c a → rdOf false s.inn a = decide (a ∈ s.opn)
  cn : s.clk = (s.met.countP (fun x => decide (x ≠ 0)) : Nat)
theorem rdOf_set {α : Type} {d : α} {l : List α} {b x : Int} (v : α) (hb : 0 ≤ b ∧ b < (l.length : Int)) (hx : 0 ≤ x) : rdOf d (l.set b.toNat v) x = if x = b then v else rdOf d l x := by
  show (l.set b.toNat v).getD x.toNat d = if x = b then v else l.getD x.toNat d
  rw [List.getD_eq_getElem?_getD, List.getElem?_set]
  by_cases e : x = b
  · subst e
    rw [if_pos rfl, if_pos (by omega), if_pos rfl]
    rfl
  · rw [if_neg (by omega), if_neg e, List.getD_eq_getElem?_getD]
section
variable {c : List (List Int)} {s : TS}
theorem SI.mnode (h : SI c s) {a : Int} (ha : Node c a) : at0 s.met a = rd s.met a := at0_node (by rw [h.ml]; exact ha)
theorem SI.lnode (h : SI c s) {a : Int} (ha : Node c a) : at0 s.low a = rd s.low a := at0_node (by rw [h.ll]; exact ha)
theorem SI.white (h : SI c s) {a : Int} (ha : Node c a) (h0 : rd s.met a = 0) : s.clk < (c.length : Int) := by
  have h1 := List.countP_le_length (p := fun x : Int => decide (x ≠ 0)) (l := s.met)
  rw [h.cn]
  rcases Nat.lt_or_ge (s.met.countP (fun x => decide (x ≠ 0))) c.length with h2 | h2
  · omega
  · exfalso
    have h3 : s.met.countP (fun x => decide (x ≠ 0)) = s.met.length := by rw [h.ml] at h1 ⊢; omega
    have hal : a.toNat < s.met.length := by rw [h.ml]; have := ha.1; have := ha.2; omega
    have h4 := (List.countP_eq_length.1 h3) s.met[a.toNat] (List.getElem_mem hal)
    have h5 : rd s.met a = s.met[a.toNat] := by
      show s.met.getD a.toNat 0 = _
      rw [List.getD_eq_getElem?_getD, List.getElem?_eq_getElem hal]; rfl
    rw [← h5, h0] at h4
    simp at h4
theorem SI.clk_le (h : SI c s) : 0 ≤ s.clk ∧ s.clk ≤ (c.length : Int) := by
  have h1 := List.countP_le_length (p := fun x : Int => decide (x ≠ 0)) (l := s.met)
  rw [h.ml] at h1
  rw [h.cn]
  omega
theorem SI.enter {s1 : TS} {b : Int} (h : SI c s) (hb : Node c b) (hb0 : rd s.met b = 0)
    (hs : (s.way = [] ∧ s1 = s) ∨ ∃ a k l, s.way = (a, k) :: l ∧ s1 = s.adv a k l ∧ k < ((row c a).length : Int) ∧ (row c a).getD k.toNat 0 = b) : SI c (s1.enter b) := by
  have hbm : 0 ≤ b ∧ b < (s.met.length : Int) := by rw [h.ml]; exact hb
  have hbl : 0 ≤ b ∧ b < (s.low.length : Int) := by rw [h.ll]; exact hb
  have hbi : 0 ≤ b ∧ b < (s.inn.length : Int) := by rw [h.il]; exact hb
  have e : s1.met = s.met ∧ s1.low = s.low ∧ s1.inn = s.inn ∧ s1.opn = s.opn ∧ s1.clk = s.clk ∧ s1.prt = s.prt := by
    rcases hs with ⟨_, rfl⟩ | ⟨a, k, l, _, rfl, _⟩
    · exact ⟨rfl, rfl, rfl, rfl, rfl, rfl⟩
    · exact ⟨rfl, rfl, rfl, rfl, rfl, rfl⟩
  have ht := h.ti.enter (W' := s1.way) hb (by rw [h.mnode hb]; exact hb0) (by
    rcases hs with ⟨e1, rfl⟩ | ⟨a, k, l, e1, rfl, h1, h2⟩
    · exact .inl ⟨e1, e1⟩
    · exact .inr ⟨a, k, l, e1, rfl, h1, h2⟩)
  have hc := h.cn
  refine ⟨?_, ?_, ?_, ?_, ?_, ?_⟩
  · show TI c (at0 (s1.met.set b.toNat (s1.clk + 1))) (at0 (s1.low.set b.toNat (s1.clk + 1))) (b :: s1.opn) (s1.clk + 1) ((b, 0) :: s1.way) s1.prt
    rw [e.1, e.2.1, e.2.2.2.1, e.2.2.2.2.1, e.2.2.2.2.2, at0_set _ hbm, at0_set _ hbl]
    exact ht
  · show (s1.met.set _ _).length = _
    rw [List.length_set, e.1, h.ml]
  · show (s1.low.set _ _).length = _
    rw [List.length_set, e.2.1, h.ll]
  · show (s1.inn.set _ _).length = _
    rw [List.length_set, e.2.2.1, h.il]
  · intro a ha
    show rdOf false (s1.inn.set b.toNat true) a = decide (a ∈ b :: s1.opn)
    rw [e.2.2.1, e.2.2.2.1, rdOf_set _ hbi ha.1]
    by_cases ee : a = b
    · rw [if_pos ee, ee]; simp
    · rw [if_neg ee, h.ino a ha]
      simp [ee]
  · show s1.clk + 1 = (((s1.met.set b.toNat (s1.clk + 1)).countP (fun x => decide (x ≠ 0)) : Nat) : Int)
    have hbt : b.toNat < s.met.length := by omega
    have hb0' : s.met[b.toNat] = 0 := by
      rw [show rd s.met b = s.met.getD b.toNat 0 from rfl, List.getD_eq_getElem?_getD, List.getElem?_eq_getElem hbt] at hb0
      exact hb0
    rw [e.1, e.2.2.2.2.1, List.countP_set hbt, hb0', hc]
    have : decide (((s.met.countP (fun x => decide (x ≠ 0)) : Nat) : Int) + 1 ≠ 0) = true := decide_eq_true (by omega)
    rw [this]
    simp
theorem SI.seen {a k b : Int} {l : List (Int × Int)} (h : SI c s) (hw : s.way = (a, k) :: l) (hk : k < ((row c a).length : Int)) (hb : (row c a).getD k.toNat 0 = b) (hbN : Node c b) (hm : rd s.met b ≠ 0) :
    SI c (if b ∈ s.opn then { s.adv a k l with low := s.low.set a.toNat (min (rd s.low a) (rd s.met b)) } else s.adv a k l) := by
  have ht := h.ti
  rw [hw] at ht
  have haN : Node c a := (ht.on a (ht.wg (a, k) List.mem_cons_self)).1
  have hmb : 0 < at0 s.met b := by
    have := (ht.mc b hbN).1
    rw [h.mnode hbN] at this ⊢
    omega
  by_cases hbo : b ∈ s.opn
  · rw [if_pos hbo]
    have hal : 0 ≤ a ∧ a < (s.low.length : Int) := by rw [h.ll]; exact haN
    refine ⟨?_, h.ml, (List.length_set ..).trans h.ll, h.il, h.ino, h.cn⟩
    refine ht.seen hk hb hmb (.inl ⟨hbo, ?_⟩)
    show at0 (s.low.set a.toNat (min (rd s.low a) (rd s.met b))) = _
    rw [at0_set _ hal, h.lnode haN, h.mnode hbN]
  · rw [if_neg hbo]
    exact ⟨ht.seen hk hb hmb (.inr ⟨hbo, rfl⟩), h.ml, h.ll, h.il, h.ino, h.cn⟩
theorem SI.leave {a k : Int} {l : List (Int × Int)} (h : SI c s) (hw : s.way = (a, k) :: l) (hk : k = ((row c a).length : Int)) (hne : rd s.low a ≠ rd s.met a) :
    ∃ u ku l', l = (u, ku) :: l' ∧ u ≠ a ∧ Node c u ∧ SI c { s with way := l, low := s.low.set u.toNat (min (rd s.low u) (rd s.low a)) } := by
  have ht := h.ti
  rw [hw] at ht
  have haN : Node c a := (ht.on a (ht.wg (a, k) List.mem_cons_self)).1
  obtain ⟨u, ku, l', e, h2⟩ := ht.leave hk (by rw [h.lnode haN, h.mnode haN]; exact hne)
  have huN : Node c u := (ht.on u (ht.wg (u, ku) (by rw [e]; exact List.mem_cons_of_mem _ List.mem_cons_self))).1
  have hul : 0 ≤ u ∧ u < (s.low.length : Int) := by rw [h.ll]; exact huN
  have hua : u ≠ a := fun ee => by
    have := (ht.top (r := (u, ku)) (by rw [e]; exact List.mem_cons_of_mem _ List.mem_cons_self)).2 (by rw [e]; exact List.mem_cons_self)
    simp only [ee] at this
    omega
  refine ⟨u, ku, l', e, hua, huN, ?_, h.ml, (List.length_set ..).trans h.ll, h.il, h.ino, h.cn⟩
  show TI c (at0 s.met) (at0 (s.low.set u.toNat (min (rd s.low u) (rd s.low a)))) s.opn s.clk l s.prt
  rw [at0_set _ hul]
  rw [h.lnode huN, h.lnode haN] at h2
  exact h2
def outs (m : List Bool) (q : List Int) : List Bool := q.foldl (fun m x => m.set x.toNat false) m
theorem outs_len (q : List Int) : ∀ m : List Bool, (outs m q).length = m.length := by
  unfold outs
  induction q with
  | nil => intro m; rfl
  | cons x q ih => intro m; rw [List.foldl_cons, ih, List.length_set]
theorem outs_get (q : List Int) : ∀ m : List Bool, (∀ x ∈ q, 0 ≤ x ∧ x < (m.length : Int)) → ∀ a, 0 ≤ a → rdOf false (outs m q) a = (rdOf false m a && !decide (a ∈ q)) := by
  unfold outs
  induction q with
  | nil => intro m _ a _; simp
  | cons x q ih =>
    intro m hq a ha
    rw [List.foldl_cons, ih _ (fun y hy => by rw [List.length_set]; exact hq y (List.mem_cons_of_mem _ hy)) a ha, rdOf_set _ (hq x List.mem_cons_self) ha]
    by_cases e : a = x
    · simp [e]
    · simp [e]
theorem outs_snoc (m : List Bool) (q : List Int) (x : Int) : outs m (q ++ [x]) = (outs m q).set x.toNat false := by unfold outs; rw [List.foldl_append]; rfl
theorem SI.part {a k : Int} {l : List (Int × Int)} (h : SI c s) (hv : Valid c) (hw : s.way = (a, k) :: l) (hk : k = ((row c a).length : Int)) (he : rd s.low a = rd s.met a) {seg pre p : List Int} (hO : s.opn = seg ++ a :: pre)
    (hp : p.Pairwise (· < ·)) (hpm : ∀ x, x ∈ p ↔ x ∈ seg ∨ x = a) :
    (∀ u ku l', l = (u, ku) :: l' → u ≠ a ∧ Node c u ∧ s.low.set u.toNat (min (rd s.low u) (rd s.low a)) = s.low) ∧ SI c { s with way := l, opn := pre, inn := outs s.inn (seg ++ [a]), prt := s.prt ++ [p] } := by
  have ht := h.ti
  rw [hw] at ht
  have haN : Node c a := (ht.on a (ht.wg (a, k) List.mem_cons_self)).1
  have hod := ht.od
  rw [hO, List.pairwise_append, List.pairwise_cons] at hod
  refine ⟨fun u ku l' e => ?_, ?_, h.ml, h.ll, (outs_len _ _).trans h.il, fun x hx => ?_, h.cn⟩
  · have hm : (u, ku) ∈ (a, k) :: l := by rw [e]; exact List.mem_cons_of_mem _ List.mem_cons_self
    have huN : Node c u := (ht.on u (ht.wg (u, ku) hm)).1
    have hlt := (ht.top hm).2 (by rw [e]; exact List.mem_cons_self)
    simp only at hlt
    have hua : u ≠ a := fun ee => by rw [ee] at hlt; omega
    refine ⟨hua, huN, ?_⟩
    have h0 := ht.l0 _ hm
    simp only at h0
    rw [h.lnode huN] at h0
    rw [h.mnode haN] at hlt
    have hmin : min (rd s.low u) (rd s.low a) = rd s.low u := by omega
    rw [hmin]
    have hul : u.toNat < s.low.length := by rw [h.ll]; have := huN.1; have := huN.2; omega
    have : rd s.low u = s.low[u.toNat] := by
      show s.low.getD u.toNat 0 = _
      rw [List.getD_eq_getElem?_getD, List.getElem?_eq_getElem hul]; rfl
    rw [this]
    exact List.set_getElem_self hul
  · exact ht.part hv hk (by rw [h.lnode haN, h.mnode haN]; exact he) hO hp hpm
  · show rdOf false (outs s.inn (seg ++ [a])) x = decide (x ∈ pre)
    have hN : ∀ y ∈ seg ++ [a], 0 ≤ y ∧ y < (s.inn.length : Int) := fun y hy => by
      rw [h.il]
      refine (ht.on y ?_).1
      rw [hO]
      rcases List.mem_append.1 hy with e | e
      · exact List.mem_append_left _ e
      · rw [List.mem_singleton] at e
        rw [e]
        exact List.mem_append_right _ List.mem_cons_self
    rw [outs_get _ _ hN x hx.1, h.ino x hx, hO]
    by_cases h1 : x ∈ pre
    · have h2 : ¬ x ∈ seg ++ [a] := fun k => by
        rcases List.mem_append.1 k with e | e
        · have := hod.2.2 x e x (List.mem_cons_of_mem _ h1); omega
        · rw [List.mem_singleton] at e
          have := hod.2.1.1 x h1
          rw [e] at this; omega
      rw [decide_eq_true (show x ∈ seg ++ a :: pre from List.mem_append_right _ (List.mem_cons_of_mem _ h1)), decide_eq_false h2, decide_eq_true h1]
      rfl
    · by_cases h2 : x ∈ seg ++ [a]
      · rw [decide_eq_true h2, decide_eq_false h1, Bool.not_true, Bool.and_false]
      · have h3 : ¬ x ∈ seg ++ a :: pre := fun k => by
          rcases List.mem_append.1 k with e | e
          · exact h2 (List.mem_append_left _ e)
          · rcases List.mem_cons.1 e with e | e
            · exact h2 (by rw [e]; simp)
            · exact h1 e
        rw [decide_eq_false h3, decide_eq_false h1]
        rfl
end
def TS.left (c : List (List Int)) (s : TS) : Nat := ((c.length : Int) - s.clk).toNat * (c.length + 2) + (s.way.map fun q => c.length + 1 - q.2.toNat).sum
end Go.Proofs.Ytdknhgbjgdmfkaa.P
namespace Go.Proofs.Ytdknhgbjgdmfkaa.P
open Go.RowKit Go.Lib Go.Proofs.YtdknhgbjgdmfkaaW.PrintWords
section
variable {c : List (List Int)} {s : TS}
theorem SI.small (h : SI c s) : s.opn.length ≤ c.length ∧ s.way.length ≤ c.length ∧ s.prt.length ≤ c.length := by
  have ht := h.ti
  refine ⟨?_, ?_, ?_⟩
  · refine few_nodes (ht.od.imp (fun {a b} hab e => ?_)) (fun x hx => (ht.on x hx).1)
    rw [e] at hab; omega
  · have h1 : (s.way.map fun q => q.1).length ≤ c.length := by
      refine few_nodes (List.pairwise_map.2 (ht.wp.imp (fun {a b} hab e => ?_))) (fun x hx => ?_)
      · rw [e] at hab; omega
      · obtain ⟨q, hq, rfl⟩ := List.mem_map.1 hx
        exact (ht.on _ (ht.wg q hq)).1
    rwa [List.length_map] at h1
  · have hh : ∀ p ∈ s.prt, p.headD 0 ∈ p := fun p hp => by
      have := (ht.ps p hp).1
      cases p with
      | nil => exact absurd rfl this
      | cons x p => exact List.mem_cons_self
    have h1 : (s.prt.map fun p => p.headD 0).length ≤ c.length := by
      refine few_nodes (List.pairwise_map.2 (ht.pd.imp_of_mem (fun {p q} hp hq hpq e => ?_))) (fun x hx => ?_)
      · exact hpq _ (hh p hp) (by rw [e]; exact hh q hq)
      · obtain ⟨p, hp, rfl⟩ := List.mem_map.1 hx
        exact (ht.pn p hp _ (hh p hp)).1
    rwa [List.length_map] at h1
def MetS (s s' : TS) : Prop := ∀ x, 0 ≤ x → rd s.met x ≠ 0 → rd s'.met x ≠ 0
theorem MetS.refl (s : TS) : MetS s s := fun _ _ h => h
theorem MetS.trans {s s' s'' : TS} (h : MetS s s') (k : MetS s' s'') : MetS s s'' := fun x hx h1 => k x hx (h x hx h1)
theorem MetS.same {s s' : TS} (h : s'.met = s.met) : MetS s s' := fun x _ h1 => by rw [h]; exact h1
theorem rd_set {l : List Int} {b x : Int} (v : Int) (hb : 0 ≤ b ∧ b < (l.length : Int)) (hx : 0 ≤ x) : rd (l.set b.toNat v) x = if x = b then v else rd l x := by
  show (l.set b.toNat v).getD x.toNat 0 = if x = b then v else l.getD x.toNat 0
  rw [List.getD_eq_getElem?_getD, List.getElem?_set]
  by_cases e : x = b
  · subst e
    rw [if_pos rfl, if_pos (by omega), if_pos rfl]
    rfl
  · rw [if_neg (by omega), if_neg e, List.getD_eq_getElem?_getD]
theorem MetS.enter {s : TS} {b : Int} (hb : 0 ≤ b ∧ b < (s.met.length : Int)) (hk : 0 ≤ s.clk) : MetS s (s.enter b) ∧ rd (s.enter b).met b ≠ 0 := by
  refine ⟨fun x hx h => ?_, ?_⟩
  · show rd (s.met.set b.toNat (s.clk + 1)) x ≠ 0
    rw [rd_set _ hb hx]
    split <;> omega
  · show rd (s.met.set b.toNat (s.clk + 1)) b ≠ 0
    rw [rd_set _ hb hb.1, if_pos rfl]
    omega
theorem SI.at_ {a k : Int} {l : List (Int × Int)} (h : SI c s) (hw : s.way = (a, k) :: l) : Node c a ∧ 0 ≤ k ∧ k ≤ ((row c a).length : Int) := by
  have ht := h.ti
  have hm : (a, k) ∈ s.way := by rw [hw]; exact List.mem_cons_self
  exact ⟨(ht.on a (ht.wg _ hm)).1, (ht.wk _ hm).1, (ht.wk _ hm).2⟩
theorem left_way {m : Nat} {c : List (List Int)} {q : Int × Int} {l : List (Int × Int)} (hw : s.way = q :: l) (hm : m = ((c.length : Int) - s.clk).toNat * (c.length + 2)) : s.left c = m + (c.length + 1 - q.2.toNat) + (l.map fun q => c.length + 1 - q.2.toNat).sum := by
  unfold TS.left
  rw [hw, List.map_cons, List.sum_cons, hm]
  omega
theorem left_adv {a k : Int} {l : List (Int × Int)} (hw : s.way = (a, k) :: l) (hk : 0 ≤ k) (hkl : k < (c.length : Int)) : (s.adv a k l).left c + 1 ≤ s.left c := by
  rw [left_way hw rfl, left_way (s := s.adv a k l) (q := (a, k + 1)) (l := l) rfl rfl]
  show _ + (c.length + 1 - (k + 1).toNat) + _ + 1 ≤ _ + (c.length + 1 - k.toNat) + _
  have : (s.adv a k l).clk = s.clk := rfl
  rw [this]
  omega
theorem left_enter {b : Int} (hk : 0 ≤ s.clk) (hkl : s.clk < (c.length : Int)) : (s.enter b).left c + 1 ≤ s.left c := by
  unfold TS.left
  show ((c.length : Int) - (s.clk + 1)).toNat * (c.length + 2) + (((b, (0 : Int)) :: s.way).map fun q => c.length + 1 - q.2.toNat).sum + 1 ≤ _
  rw [List.map_cons, List.sum_cons]
  have e : ((c.length : Int) - s.clk).toNat = ((c.length : Int) - (s.clk + 1)).toNat + 1 := by omega
  rw [e, Nat.succ_mul]
  show _ + (c.length + 1 - (0 : Int).toNat + _) + 1 ≤ _
  have : (0 : Int).toNat = 0 := rfl
  omega
theorem left_pop {a k : Int} {l : List (Int × Int)} {s' : TS} (hw : s.way = (a, k) :: l) (hk : k ≤ (c.length : Int)) (hs : s'.way = l ∧ s'.clk = s.clk) : s'.left c + 1 ≤ s.left c := by
  rw [left_way hw rfl]
  unfold TS.left
  rw [hs.1, hs.2]
  show _ + 1 ≤ _ + (c.length + 1 - k.toNat) + _
  omega
end
def TS.start (n : Nat) : TS := { met := List.replicate n 0, low := List.replicate n 0, inn := List.replicate n false, opn := [], clk := 0, way := [], prt := [] }
theorem at0_zeros (n : Nat) (x : Int) : at0 (List.replicate n 0) x = 0 := by
  unfold at0
  split
  · show (List.replicate n (0 : Int)).getD x.toNat 0 = 0
    rw [List.getD_eq_getElem?_getD, List.getElem?_replicate]
    split <;> rfl
  · rfl
theorem SI_start (c : List (List Int)) : SI c (TS.start c.length) := by
  have hm : ∀ x, at0 (TS.start c.length).met x = 0 := at0_zeros _
  refine ⟨⟨fun a h => (by cases h), List.Pairwise.nil, Int.le_refl _, fun a _ => by rw [hm]; exact ⟨Int.le_refl _, Int.le_refl _⟩, fun a _ h => by rw [hm] at h; omega, fun p h => (by cases h), fun p h => (by cases h), fun p h => (by cases h), List.Pairwise.nil, fun q h => (by cases h), List.Pairwise.nil, fun q h => (by cases h), trivial, fun q h => (by cases h), fun a h => (by cases h), fun x h => (by cases h), fun y h => (by cases h), fun q h => (by cases h), fun q h => (by cases h), fun y h => (by cases h), fun q l h => (by cases h), fun s l h => (by cases h)⟩, ?_, ?_, ?_, fun a ha => ?_, ?_⟩
  · exact List.length_replicate ..
  · exact List.length_replicate ..
  · exact List.length_replicate ..
  · show (List.replicate c.length false).getD a.toNat false = decide (a ∈ ([] : List Int))
    rw [List.getD_eq_getElem?_getD, List.getElem?_replicate]
    split <;> rfl
  · show (0 : Int) = (((List.replicate c.length (0 : Int)).countP (fun x => decide (x ≠ 0)) : Nat) : Int)
    rw [List.countP_replicate]
    rfl
theorem parts_found {c : List (List Int)} {s : TS} (hv : Valid c) (h : SI c s) (hw : s.way = []) (hm : ∀ x : Nat, x < c.length → rd s.met (x : Int) ≠ 0) {P : List (List Int)} (hP : P.Perm s.prt) (hs : P.Pairwise (fun p q => p.headD 0 ≤ q.headD 0)) : P = partsB c := by
  have ht := h.ti
  rw [hw] at ht
  have ho := ht.open_nil
  have hh : ∀ p ∈ s.prt, p.headD 0 ∈ p := fun p hp => by
    have := (ht.ps p hp).1
    cases p with
    | nil => exact absurd rfl this
    | cons x p => exact List.mem_cons_self
  refine parts_unique hv (fun p hp a ha => (ht.pn p (hP.mem_iff.1 hp) a ha).1) (fun a ha => ?_) (fun p hp => ht.ps p (hP.mem_iff.1 hp)) ?_
  · have h1 := hm a.toNat (by have := ha.1; have := ha.2; omega)
    have e : ((a.toNat : Nat) : Int) = a := by have := ha.1; omega
    rw [e] at h1
    have h2 := (ht.mc a ha).1
    have h3 := ht.vis a ha (by rw [h.mnode ha] at h2 ⊢; omega)
    rcases h3 with h3 | ⟨p, hp, hpa⟩
    · rw [ho] at h3; cases h3
    · exact ⟨p, hP.mem_iff.2 hp, hpa⟩
  · have h1 : P.Pairwise (fun p q => p.headD 0 ≠ q.headD 0) := by
      refine (hP.pairwise_iff (R := fun p q : List Int => p.headD 0 ≠ q.headD 0) (fun h => Ne.symm h)).2 ?_
      exact ht.pd.imp_of_mem (fun {p q} hp hq hpq e => hpq _ (hh p hp) (by rw [e]; exact hh q hq))
    exact hs.imp₂ (fun a b h k => by omega) h1
end Go.Proofs.Ytdknhgbjgdmfkaa.P
