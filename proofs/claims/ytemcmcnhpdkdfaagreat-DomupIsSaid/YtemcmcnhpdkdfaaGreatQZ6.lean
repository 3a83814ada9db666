/- What the claim uses of: Gdup2 Gdup3 Hdup2 Hdup3 Hdup Gdup4 Ggrowu Hgrow Gawake15 Gref15 Hours Hours2 Hawake15 HDomupIs Hopen -/
import Derived.Deep.CutBlock
import Derived.Deep.Matrix
import Derived.ChangeOld
import Derived.Test.YtemcmcnhpdkdfaaGreatQZ5
namespace Go.Proofs.YtemcmcnhpdkdfaaGreat.P
open Go.Proofs.YtemcmcnhpdkdfaaGreatW.PrintWords
theorem IsDom.unique {c : List (List Int)} {l l' : List Int} (h : IsDom c l) (h' : IsDom c l') : l = l' := by
 have key : ∀ b, Node c b → rd l b = rd l' b := fun b hb => by
  by_cases hw : Way c 0 b
  ·have hr : Rc c b := ⟨hb, hw⟩
   by_cases h0 : b = 0
   ·subst h0
    rw [h.zero (by have := hb.2; omega), h'.zero (by have := hb.2; omega)]
   ·obtain ⟨p, hp, e, _⟩ := h.par b hb hw h0
    obtain ⟨p', hp', e', _⟩ := h'.par b hb hw h0
    have s1 : Dm c (rd l b) b := (h.dm_par hr h0).2 (.inr (by rw [e]; exact h.dm_refl.2 (h.idT_par hr hp).1))
    have s2 : Dm c (rd l' b) b := (h'.dm_par hr h0).2 (.inr (by rw [e']; exact h'.dm_refl.2 (h'.idT_par hr hp').1))
    obtain ⟨f, hf, _⟩ := h.rank
    obtain ⟨f', hf', _⟩ := h'.rank
    have n1 : rd l b ≠ b := fun k => by have := hf b p hp; rw [e] at k; rw [k] at this; omega
    have n2 : rd l' b ≠ b := fun k => by have := hf' b p' hp'; rw [e'] at k; rw [k] at this; omega
    have t1 : Dm c (rd l b) (rd l' b) := by
     rcases (h'.dm_par hr h0).1 s1 with k | k
     ·exact absurd k n1
     ·exact k
    have t2 : Dm c (rd l' b) (rd l b) := by
     rcases (h.dm_par hr h0).1 s2 with k | k
     ·exact absurd k n2
     ·exact k
    exact h.dm_anti t1 t2
  ·rw [h.lost b hb hw, h'.lost b hb hw]
 apply List.ext_getElem
 ·rw [h.len, h'.len]
 ·intro i h1 h2
  have := key (i : Int) ⟨by omega, by rw [← h.len]; omega⟩
  rw [rd_nat' h1, rd_nat' h2] at this
  exact this
theorem IsDom.same {c c2 : List (List Int)} {l : List Int} (h : IsDom c l) (hlen : c2.length = c.length) (hw : ∀ b, Way c 0 b ↔ Way c2 0 b) (hd : ∀ b x, Way c 0 b → (Av c x 0 b ↔ Av c2 x 0 b)) : IsDom c2 l := by
 have hn : ∀ b, Node c2 b ↔ Node c b := fun b => by unfold Node; rw [hlen]
 obtain ⟨f, hf, hf2⟩ := h.rank
 refine ⟨by rw [h.len, hlen], fun h0 => h.zero (by rw [← hlen]; exact h0), fun b hb hx => h.lost b ((hn b).1 hb) (fun k => hx ((hw b).1 k)), fun b hb hx h0 => ?_, fun b hb hx x => ?_, f, hf, fun b hb hx => by rw [hlen]; exact hf2 b ((hn b).1 hb) ((hw b).2 hx)⟩
 ·obtain ⟨p, h1, h2, h3, h4⟩ := h.par b ((hn b).1 hb) ((hw b).2 hx) h0
  exact ⟨p, h1, h2, (hn p).2 h3, (hw p).1 h4⟩
 ·rw [h.doms b ((hn b).1 hb) ((hw b).2 hx) x, hd b x ((hw b).2 hx)]
theorem Dfs.tree_av {g : List (List Int)} {o : List Int} {par : Int → Option Int} (hd : Dfs g o par) {x : Int} : ∀ (m : Nat) (b : Int), o.idxOf b ≤ m → b ∈ o → ¬ Up par b x → Av g x 0 b := by
 intro m
 induction m with
 | zero =>
  intro b hm hb hn
  by_cases e : b = 0
  ·rw [e] at hn ⊢
   exact .refl (fun e => hn (by rw [e]; exact .refl _))
  ·obtain ⟨u, hu⟩ := hd.has b hb e
   have := (hd.ok _ _ hu).2.2.2.2
   omega
 | succ m ih =>
  intro b hm hb hn
  by_cases e : b = 0
  ·rw [e] at hn ⊢
   exact .refl (fun e => hn (by rw [e]; exact .refl _))
  ·obtain ⟨u, hu⟩ := hd.has b hb e
   have h1 := hd.ok _ _ hu
   exact (ih u (by omega) h1.2.2.2.1 (fun k => hn (.step hu k))).snoc h1.2.2.1 (fun e => hn (by rw [e]; exact .refl _))
set_option maxHeartbeats 1000000 in
theorem anew_is {c : List (List Int)} {l : List Int} (h : IsDom c l) {g2 : List (List Int)} (hs : Small g2) (hlen : c.length = g2.length) (h0 : 0 < g2.length) (L : Int → Bool)
  (hL1 : ∀ b, L b = true → Rc c b ∧ b ≠ 0) (hL2 : ∀ b p, Rc c b → L b = false → idT l b = some p → L p = false)
  (hw : ∀ b, Way c 0 b ↔ Way (clean g2) 0 b) (hdd : ∀ b x, Rc c b → L b = false → (Av c x 0 b ↔ Av (clean g2) x 0 b))
  (d0 : List Int) (hd0l : d0.length = g2.length) (hd0 : ∀ b : Int, 0 ≤ b → b < (g2.length : Int) → rd d0 b = if L b = true then -3 else rd l b) :
  ∃ o l', graph_Order.f g2 0 = some o ∧ (∀ x ∈ o, 0 ≤ x ∧ x < (g2.length : Int)) ∧ (o.length ≤ g2.length ∧ 0 < o.length) ∧ Ev (fun k => itF g2.length (atSo o g2.length o.length) (turn (clean g2)) (o.filter L) k d0) l' ∧ IsDom (clean g2) l' := by
 obtain ⟨bs, par, h1, hd, hnd, ho⟩ := dfs_ctx hs h0
 obtain ⟨n, en⟩ : ∃ n, n = g2.length := ⟨_, rfl⟩
 have hcl := clean_len g2
 have hv := clean_Valid g2
 have hri := clean_rises g2
 rw [← en] at ho hcl h0 hd0 hd0l hlen ⊢
 have hp1 : ∀ b, b ∈ (0 :: bs) → ∀ a ∈ (turn (clean g2)).getD b.toNat [], 0 ≤ a ∧ a < (n : Int) := fun b hb a ha => by
  have := (mem_turn hv hri (ho b hb).1).1 ha
  rw [hcl] at this
  exact this.1
 have hp2 : ∀ a b, a ∈ (0 :: bs) → b ∈ (0 :: bs) → (a ∈ (turn (clean g2)).getD b.toNat [] ↔ b ∈ row (clean g2) a) := fun a b ha hb => by
  have := mem_turn hv hri (a := a) (ho b hb).1
  rw [hcl] at this
  exact ⟨fun h => (this.1 h).2, fun h => this.2 ⟨ho a ha, h⟩⟩
 have hg := atSo_get hnd ho (0 :: bs).length (Nat.le_refl _)
 have hmem : ∀ b, b ∈ (0 :: bs) ↔ Way (clean g2) 0 b := hd.mem
 have hmc : ∀ b, b ∈ (0 :: bs) ↔ Rc c b := fun b => ⟨fun hb => ⟨⟨(ho b hb).1, by rw [hlen]; exact (ho b hb).2⟩, (hw b).2 ((hmem b).1 hb)⟩, fun hb => (hmem b).2 ((hw b).1 hb.2)⟩
 have hLf : L 0 = false := by
  cases hL : L 0 with
  | false => rfl
  | true => exact absurd rfl (hL1 0 hL).2
 have hidc : ∀ b p, idT l b = some p → Rc c b ∧ Rc c p ∧ rd l b = p ∧ b ≠ 0 := fun b p hp => by
  have hb : Rc c b := by
   have hp2 := hp
   unfold idT at hp2
   split at hp2
   ·rename_i hc
    have hb : Node c b := ⟨hc.1.1, by have := hc.1.2; rw [h.len] at this; exact this⟩
    refine ⟨hb, ?_⟩
    by_cases hw2 : Way c 0 b
    ·exact hw2
    ·have := h.lost b hb hw2
     omega
   ·cases hp2
  exact ⟨hb, h.idT_par hb hp⟩
 obtain ⟨T, hT⟩ : ∃ T : Int → Option Int, T = fun b => if L b = true then none else idT l b := ⟨_, rfl⟩
 have hTs : ∀ b p, T b = some p → L b = false ∧ idT l b = some p := fun b p hp => by
  rw [hT] at hp
  dsimp only at hp
  split at hp
  ·cases hp
  ·rename_i hL
   exact ⟨by simpa using hL, hp⟩
 have hTn : ∀ b, L b = false → T b = idT l b := fun b hL => by rw [hT]; dsimp only; rw [hL, if_neg (by decide)]
 have hup : ∀ b x, b ∈ (0 :: bs) → L b = false → (Up T b x ↔ ¬ Av (clean g2) x 0 b) := fun b x hb hL => by
  have hbc := (hmc b).1 hb
  rw [← hdd b x hbc hL, ← h.doms b hbc.1 hbc.2 x]
  have hP : ∀ b p, (Rc c b ∧ L b = false) → idT l b = some p → (Rc c p ∧ L p = false) := fun b p ⟨k1, k2⟩ hp => ⟨(hidc b p hp).2.1, hL2 b p k1 k2 hp⟩
  exact ⟨fun k => k.congr (fun b => Rc c b ∧ L b = false) (fun b hb => hTn b hb.2) (fun b p hb hp => hP b p hb (by rw [← hTn b hb.2]; exact hp)) ⟨hbc, hL⟩, fun k => k.congr (fun b => Rc c b ∧ L b = false) (fun b hb => (hTn b hb.2).symm) hP ⟨hbc, hL⟩⟩
 have hpar : ∀ b x, b ∈ (0 :: bs) → L b = false → Up T b x → Up par b x := fun b x hb hL k => by
  by_cases hp : Up par b x
  ·exact hp
  ·exact absurd (hd.tree_av _ b (Nat.le_refl _) hb hp) ((hup b x hb hL).1 k)
 have hknL : ∀ b, Kn T b → b ∈ (0 :: bs) ∧ L b = false := fun b hb => by
  rcases hb with e | ⟨p, hp⟩
  ·exact ⟨by rw [e]; exact hd.zero, by rw [e]; exact hLf⟩
  ·have k := hTs b p hp
   exact ⟨(hmc b).2 (hidc b p k.2).1, k.1⟩
 have hLkn : ∀ b, b ∈ (0 :: bs) → L b = false → Kn T b := fun b hb hL => by
  by_cases e : b = 0
  ·exact .inl e
  ·have hbc := (hmc b).1 hb
   obtain ⟨p, hp, _⟩ := h.par b hbc.1 hbc.2 e
   exact .inr ⟨p, by rw [hTn b hL]; exact hp⟩
 have hDJ : DJ (clean g2) (0 :: bs) par L T := by
  refine ⟨fun b p hp => ?_, fun b x hb k => hpar b x (hknL b hb).1 (hknL b hb).2 k, fun b x hb k => (hup b x (hknL b hb).1 (hknL b hb).2).2 k, fun b p hL hp => ?_, hLkn, fun b p hL hp => ?_, fun b x hb hL k => (hup b x hb hL).1 k⟩
  ·obtain ⟨k1, k2⟩ := hTs b p hp
   obtain ⟨i1, i2, i3, i4⟩ := hidc b p k2
   have hbo := (hmc b).2 i1
   have hpo := (hmc p).2 i2
   refine ⟨hbo, i4, hpo, ?_, hLkn p hpo (hL2 b p i1 k1 k2)⟩
   have h2 := (hd.up (hpar b p hbo k1 (.step hp (.refl _))) hbo).2
   obtain ⟨f, hf, _⟩ := h.rank
   have h3 : (0 :: bs).idxOf p ≠ (0 :: bs).idxOf b := fun e => by
    have e2 := idx_inj hpo hbo e
    have := hf b p k2
    rw [e2] at this
    omega
   omega
  ·have := (hTs b p hp).1
   rw [hL] at this
   cases this
  ·have k := hTs b p hp
   exact hL2 b p (hidc b p k.2).1 k.1 k.2
 have hRep : RepJ n (0 :: bs) (atSo (0 :: bs) n (0 :: bs).length) d0 T := by
  refine ⟨ho, fun x hx => ?_, ?_, fun b p hp => ?_, fun b hb hb0 hTb => ?_, fun b hb0 hb1 hb => ?_⟩
  ·rw [(hg.2.2 x (ho x hx).1 (ho x hx).2).1, List.take_length, if_pos hx]
  ·rw [hd0 0 (by omega) (by omega), hLf, if_neg (by decide)]
   exact h.zero (by omega)
  ·obtain ⟨k1, k2⟩ := hTs b p hp
   obtain ⟨i1, i2, i3, i4⟩ := hidc b p k2
   have := i1.1
   unfold Node at this
   rw [hlen] at this
   rw [hd0 b this.1 this.2, k1, if_neg (by decide)]
   exact i3
  ·rw [hd0 b (ho b hb).1 (ho b hb).2]
   cases hL : L b with
   | true => rw [if_pos rfl]
   | false =>
    rcases hLkn b hb hL with e | ⟨p, hp⟩
    ·exact absurd e hb0
    ·rw [hTb] at hp; cases hp
  ·have hnb : Node c b := ⟨hb0, by rw [hlen]; exact hb1⟩
   have hnr : ¬ Rc c b := fun k => hb ((hmc b).2 k)
   rw [hd0 b hb0 hb1]
   cases hL : L b with
   | true => exact absurd (hL1 b hL).1 hnr
   | false =>
    rw [if_neg (by decide)]
    exact h.lost b hnb (fun k => hnr ⟨hnb, k⟩)
 obtain ⟨T', d, e1, hD, hR, hl, hall⟩ := it_evJ hd hnd hp1 hp2 _ T d0 (Nat.le_refl _) hDJ hRep hd0l
 have hdone : ∀ b x, b ∈ (0 :: bs) → (Up T' b x ↔ ¬ Av (clean g2) x 0 b) := fun b x hb => hD.done hd (fun c hc hc0 hL => hall c (by rcases List.mem_cons.1 hc with e | e; exact absurd e hc0; exact e) hL) hb
 have hT0 : T' 0 = none := by
  cases hT : T' 0 with
  | none => rfl
  | some p => exact absurd rfl (hD.t1 0 p hT).2.1
 have hkn : ∀ b, b ∈ (0 :: bs) → b ≠ 0 → ∃ p, T' b = some p := fun b hb hb0 => by
  cases hL : L b with
  | false =>
   rcases hD.t5 b hb hL with e | k
   ·exact absurd e hb0
   ·exact k
  | true =>
   obtain ⟨p, hp, _⟩ := hall b (by rcases List.mem_cons.1 hb with h | h; exact absurd h hb0; exact h) hL
   exact ⟨p, hp⟩
 have hidT : ∀ b, b ∈ (0 :: bs) → idT d b = T' b := fun b hb => by
  have hn := ho b hb
  unfold idT
  rw [hl]
  by_cases e : b = 0
  ·rw [e, hT0, hR.zero, if_neg (by omega)]
  ·obtain ⟨p, hp⟩ := hkn b hb e
   have hk := hR.known b p hp
   have hpn := ho p (hD.t1 b p hp).2.2.1
   rw [hk, if_pos ⟨hn, hpn.1⟩, hp]
 have hidN : ∀ b p, idT d b = some p → b ∈ (0 :: bs) := fun b p h => by
  unfold idT at h
  rw [hl] at h
  split at h
  ·rename_i hc
   by_cases hb : b ∈ (0 :: bs)
   ·exact hb
   ·rw [hR.lost b hc.1.1 hc.1.2 hb] at hc
    omega
  ·cases h
 have hTc : ∀ b p, b ∈ (0 :: bs) → T' b = some p → p ∈ (0 :: bs) := fun b p _ h => (hD.t1 b p h).2.2.1
 refine ⟨0 :: bs, d, h1, ho, ⟨few_nodes hnd ho, by simp⟩, ?_, by rw [hl, hcl], fun _ => hR.zero, fun b hb hwb => ?_, fun b hb hwb hb0 => ?_, fun b hb hwb x => ?_, fun b => (0 :: bs).idxOf b, fun b p hp => ?_, fun b hb hwb => ?_⟩
 ·rw [List.filter_cons_of_neg (by rw [hLf]; decide)]
  exact e1
 ·have hb' := (clean_node.1 hb)
  rw [← en] at hb'
  exact hR.lost b hb'.1 hb'.2 (fun h => hwb ((hmem b).1 h))
 ·have hbo := (hmem b).2 hwb
  obtain ⟨p, hp⟩ := hkn b hbo hb0
  have hpo := (hD.t1 b p hp).2.2.1
  refine ⟨p, by rw [hidT b hbo, hp], hR.known b p hp, clean_node.2 (by rw [← en]; exact ho p hpo), (hmem p).1 hpo⟩
 ·have hbo := (hmem b).2 hwb
  rw [← hdone b x hbo]
  refine ⟨fun h => h.congr (fun b => b ∈ (0 :: bs)) hidT (fun b p hb h => hTc b p hb (by rw [← hidT b hb]; exact h)) hbo, fun h => h.congr (fun b => b ∈ (0 :: bs)) (fun b hb => (hidT b hb).symm) hTc hbo⟩
 ·have hbo := hidN b p hp
  rw [hidT b hbo] at hp
  exact (hD.t1 b p hp).2.2.2.1
 ·have hbo := (hmem b).2 hwb
  have := List.idxOf_lt_length_of_mem hbo
  have hle := few_nodes hnd ho
  rw [hcl]
  exact Nat.lt_of_lt_of_le this hle
structure Dif (big small : List (List Int)) (a b : Int) : Prop where
 sub : ∀ x y, 0 ≤ x → y ∈ row small x → y ∈ row big x
 but : ∀ x y, 0 ≤ x → y ∈ row big x → y ∈ row small x ∨ (x = a ∧ y = b)
 val : ∀ x y, y ∈ row big x → 0 ≤ y
section
variable {big small : List (List Int)} {a b : Int}
theorem Dif.av (h : Dif big small a b) {x s y : Int} (k : Av small x s y) : 0 ≤ s → Av big x s y := by
 induction k with
 | refl k => exact fun _ => .refl k
 | step k1 k2 _ ih => exact fun hs => .step k1 (h.sub _ _ hs k2) (ih (h.val _ _ (h.sub _ _ hs k2)))
theorem Dif.way (h : Dif big small a b) {s y : Int} (k : Way small s y) : 0 ≤ s → Way big s y := by
 induction k with
 | refl => exact fun _ => .refl _
 | step k _ ih => exact fun hs => .step (h.sub _ _ hs k) (ih (h.val _ _ (h.sub _ _ hs k)))
theorem Dif.cut (h : Dif big small a b) {x s y : Int} (k : Av big x s y) : 0 ≤ s → Av small x s y ∨ (Av small x s a ∧ Av small x b y ∧ b ∈ row big a) := by
 induction k with
 | refl k => exact fun _ => .inl (.refl k)
 | step k1 k2 _ ih =>
  intro hs
  rcases h.but _ _ hs k2 with e | ⟨rfl, rfl⟩
  ·rcases ih (h.val _ _ k2) with i | ⟨i1, i2, i3⟩
   ·exact .inl (.step k1 e i)
   ·exact .inr ⟨.step k1 e i1, i2, i3⟩
  ·rcases ih (h.val _ _ k2) with i | ⟨i1, i2, i3⟩
   ·exact .inr ⟨.refl k1, i, k2⟩
   ·exact .inr ⟨.refl k1, i2, i3⟩
theorem Dif.cutw (h : Dif big small a b) {s y : Int} (k : Way big s y) : 0 ≤ s → Way small s y ∨ (Way small s a ∧ Way small b y ∧ b ∈ row big a) := by
 induction k with
 | refl => exact fun _ => .inl (.refl _)
 | step k2 _ ih =>
  intro hs
  rcases h.but _ _ hs k2 with e | ⟨rfl, rfl⟩
  ·rcases ih (h.val _ _ k2) with i | ⟨i1, i2, i3⟩
   ·exact .inl (.step e i)
   ·exact .inr ⟨.step e i1, i2, i3⟩
  ·rcases ih (h.val _ _ k2) with i | ⟨i1, i2, i3⟩
   ·exact .inr ⟨.refl _, i, k2⟩
   ·exact .inr ⟨.refl _, i2, i3⟩
theorem Dif.hit (h : Dif big small a b) {x top s e : Int} (k : Av big x s e) (he : e = b) (hb : b ≠ top) : 0 ≤ s → Av big top s b ∨ Av small x s top := by
 induction k with
 | refl => exact fun _ => .inl (by rw [he]; exact .refl hb)
 | @step s s' y k1 k2 _ ih =>
  intro hs
  by_cases es : s = top
  ·exact .inr (by rw [es] at k1 ⊢; exact .refl k1)
  ·rcases ih he (h.val _ _ k2) with i | i
   ·exact .inl (.step es k2 i)
   ·rcases h.but _ _ hs k2 with e | ⟨rfl, rfl⟩
    ·exact .inr (.step k1 e i)
    ·exact .inl (.step es k2 (.refl hb))
end
theorem Av.hits {g : List (List Int)} {t s y : Int} (x : Int) (h : Av g t s y) : Av g x s y ∨ Av g t s x := by
 induction h with
 | @refl s hs =>
  by_cases e : s = x
  ·exact .inr (by rw [← e]; exact .refl hs)
  ·exact .inl (.refl e)
 | @step s s' y k1 k2 _ ih =>
  by_cases e : s = x
  ·exact .inr (by rw [← e]; exact .refl k1)
  ·rcases ih with i | i
   ·exact .inl (.step e k2 i)
   ·exact .inr (.step k1 k2 i)
theorem Way.last2 {g : List (List Int)} {s b : Int} (h : Way g s b) {x t : Int} (hx : b ≠ x) (ht : b ≠ t) (hxt : x ≠ t) : (Av g x s b ∧ Av g t s b) ∨ Av g t x b ∨ Av g x t b := by
 induction h with
 | refl => exact .inl ⟨.refl hx, .refl ht⟩
 | @step s s' y k _ ih =>
  rcases ih hx ht with ⟨i1, i2⟩ | i | i
  ·by_cases e : s = x
   ·exact .inr (.inl (by rw [← e] at hxt ⊢; exact .step hxt k i2))
   ·by_cases e2 : s = t
    ·exact .inr (.inr (by rw [← e2] at hxt ⊢; exact .step (Ne.symm hxt) k i1))
    ·exact .inl ⟨.step e k i1, .step e2 k i2⟩
  ·exact .inr (.inl i)
  ·exact .inr (.inr i)
section
variable {c c2 : List (List Int)} {l : List Int} {a b : Int}
theorem not_dm {c : List (List Int)} {x y : Int} (hy : Rc c y) (h : ¬ Dm c x y) : Av c x 0 y := by
 by_cases k : Av c x 0 y
 ·exact k
 ·exact absurd ⟨hy, k⟩ h
theorem add_ways (hdf : Dif c2 c a b) (hb : Way c 0 b) (y : Int) : Way c 0 y ↔ Way c2 0 y :=
 ⟨fun k => hdf.way k (Int.le_refl 0), fun k => by
  rcases hdf.cutw k (Int.le_refl 0) with i | ⟨_, i, _⟩
  ·exact i
  ·exact hb.trans i⟩
theorem add_doms (h : IsDom c l) (hdf : Dif c2 c a b) {top : Int} (ht1 : Dm c top a) (ht2 : Dm c top b) {x y : Int} (hy : Rc c y) (hL : y = top ∨ ¬ Dm c top y) : Av c x 0 y ↔ Av c2 x 0 y := by
 refine ⟨fun k => hdf.av k (Int.le_refl 0), fun k => ?_⟩
 rcases hdf.cut k (Int.le_refl 0) with i | ⟨i1, i2, _⟩
 ·exact i
 ·by_cases hxb : Dm c x b
  ·have hxa : ¬ Dm c x a := fun k => k.2 i1
   have htx : Dm c top x := by
    rcases h.dm_line hxb ht2 with k | k
    ·exact absurd (h.dm_trans k ht1) hxa
    ·exact k
   refine not_dm hy (fun hxy => ?_)
   rcases hL with e | hL
   ·rw [e] at hxy
    exact hxa (h.dm_trans hxy ht1)
   ·exact hL (h.dm_trans htx hxy)
  ·exact (not_dm ht2.1 hxb).trans i2
theorem del_ways (hdf : Dif c c2 a b) (hb : Way c2 0 b) (y : Int) : Way c 0 y ↔ Way c2 0 y :=
 ⟨fun k => by
  rcases hdf.cutw k (Int.le_refl 0) with i | ⟨_, i, _⟩
  ·exact i
  ·exact hb.trans i, fun k => hdf.way k (Int.le_refl 0)⟩
theorem del_doms (hdf : Dif c c2 a b) (hb : Way c2 0 b) {top : Int} (ht : Dm c top b) (htb : b ≠ top) {x y : Int} (hy : Rc c y) (hL : y = top ∨ ¬ Dm c top y) : Av c x 0 y ↔ Av c2 x 0 y := by
 refine ⟨fun k => ?_, fun k => hdf.av k (Int.le_refl 0)⟩
 by_cases hg : Av c2 x 0 y
 ·exact hg
 ·exfalso
  rcases hdf.cut k (Int.le_refl 0) with i | ⟨i1, i2, i3⟩
  ·exact hg i
  ·have hxb : ¬ Av c2 x 0 b := fun k => hg (k.trans i2)
   have hbx : b ≠ x := i2.left
   have hcb : Av c x 0 b := (hdf.av i1 (Int.le_refl 0)).snoc i3 hbx
   have htop : Av c2 x 0 top := by
    rcases hdf.hit hcb rfl htb (Int.le_refl 0) with k | k
    ·exact absurd k ht.2
    ·exact k
   rcases hL with e | hL
   ·rw [e] at hg
    exact hg htop
   ·have hty : Av c2 top 0 y := by
     rcases hdf.cut (not_dm hy hL) (Int.le_refl 0) with k | ⟨k1, _, k3⟩
     ·exact k
     ·exact absurd ((hdf.av k1 (Int.le_refl 0)).snoc k3 htb) ht.2
    have htx : Av c2 top 0 x := by
     rcases hty.hits x with k | k
     ·exact absurd k hg
     ·exact k
    rcases hb.last2 hbx htb htx.right with ⟨k, _⟩ | k | k
    ·exact hxb k
    ·exact ht.2 (hdf.av (htx.trans k) (Int.le_refl 0))
    ·exact hxb (htop.trans k)
theorem not_below (h : IsDom c l) {top y p : Int} (hy : Rc c y) (hL : y = top ∨ ¬ Dm c top y) (hp : idT l y = some p) : p = top ∨ ¬ Dm c top p := by
 by_cases e : p = top
 ·exact .inl e
 ·refine .inr (fun k => ?_)
  have hpy : Dm c p y := h.dm_up.2 ⟨hy, .step hp (.refl _)⟩
  rcases hL with e2 | hL
  ·rw [e2] at hpy
   exact e (h.dm_anti hpy k)
  ·exact hL (h.dm_trans k hpy)
theorem edge_no {big small : List (List Int)} {a b : Int} (hdf : Dif big small a b) (hno : ¬ Way small 0 a ∨ b = 0 ∨ ¬ b ∈ row big a) : (∀ y, Way small 0 y ↔ Way big 0 y) ∧ ∀ x y, Av small x 0 y ↔ Av big x 0 y := by
 refine ⟨fun y => ⟨fun k => hdf.way k (Int.le_refl 0), fun k => ?_⟩, fun x y => ⟨fun k => hdf.av k (Int.le_refl 0), fun k => ?_⟩⟩
 ·rcases hdf.cutw k (Int.le_refl 0) with i | ⟨i1, i2, i3⟩
  ·exact i
  ·rcases hno with e | e | e
   ·exact absurd i1 e
   ·rw [e] at i2; exact i2
   ·exact absurd i3 e
 ·rcases hdf.cut k (Int.le_refl 0) with i | ⟨i1, i2, i3⟩
  ·exact i
  ·rcases hno with e | e | e
   ·exact absurd i1.way e
   ·rw [e] at i2; exact i2
   ·exact absurd i3 e
end
end Go.Proofs.YtemcmcnhpdkdfaaGreat.P
namespace Go.Proofs.YtemcmcnhpdkdfaaGreat.P
open Go.Proofs.YtemcmcnhpdkdfaaGreatW.PrintWords
def lostB (l : List Int) (a : Int) : Bool := decide (a < 0) || decide ((l.length : Int) ≤ a) || (rd l a == -2)
theorem lostB_iff {c : List (List Int)} {l : List Int} (h : IsDom c l) (a : Int) : lostB l a = true ↔ ¬ Rc c a := by
 unfold lostB Rc
 rw [Bool.or_eq_true, Bool.or_eq_true, decide_eq_true_iff, decide_eq_true_iff, beq_iff_eq]
 have hn : Node c a ↔ ¬ (a < 0 ∨ (l.length : Int) ≤ a) := by unfold Node; rw [h.len]; omega
 by_cases k : a < 0 ∨ (l.length : Int) ≤ a
 ·exact ⟨fun _ hc => (hn.1 hc.1) k, fun _ => .inl k⟩
 ·have hnd := hn.2 k
  rw [h.lost_iff hnd]
  exact ⟨fun hc hd => hc.elim (fun hc => k hc) (fun hc => hc hd.2), fun hc => .inr (fun hw => hc ⟨hnd, hw⟩)⟩
theorem dif_self (c : List (List Int)) (hv : Valid c) (a b : Int) : Dif c c a b := ⟨fun _ _ _ h => h, fun _ _ _ h => .inl h, fun _ _ h => (row_node hv h).1⟩
theorem dif_with {c : List (List Int)} (hv : Valid c) (a b : Int) : Dif (withE c a b) c a b := by
 by_cases k : Node c a ∧ Node c b
 ·refine ⟨fun x y hx h => (mem_withE k.1 k.2 hx).2 (.inl h), fun x y hx h => (mem_withE k.1 k.2 hx).1 h, fun x y h => (row_node (withE_Valid hv) h).1⟩
 ·have e : withE c a b = c := by
   unfold withE
   rw [if_neg (fun h => k ⟨isN_iff.1 h.1, isN_iff.1 h.2.1⟩)]
  rw [e]
  exact dif_self c hv a b
theorem dif_without {c : List (List Int)} (hv : Valid c) (a b : Int) : Dif c (withoutE c a b) a b := by
 by_cases k : Node c a
 ·refine ⟨fun x y hx h => ((mem_withoutE k hx).1 h).1, fun x y hx h => ?_, fun x y h => (row_node hv h).1⟩
  by_cases e : x = a ∧ y = b
  ·exact .inr e
  ·exact .inl ((mem_withoutE k hx).2 ⟨h, e⟩)
 ·have e : withoutE c a b = c := by
   unfold withoutE
   rw [if_neg (fun h => k (isN_iff.1 h))]
  rw [e]
  exact dif_self c hv a b
theorem lostSo_get (L : Int → Bool) (l : List Int) : ∀ i, i ≤ l.length → (lostSo L l i).length = l.length ∧ ∀ x : Int, 0 ≤ x → x < (l.length : Int) → rd (lostSo L l i) x = if x < (i : Int) ∧ L x = true then -2 else rd l x
 | 0, _ => ⟨rfl, fun x h0 _ => by rw [if_neg (fun h => by have := h.1; omega)]; rfl⟩
 | i + 1, hi => by
  obtain ⟨h1, h2⟩ := lostSo_get L l i (by omega)
  unfold lostSo
  by_cases hL : L (i : Int) = true
  ·rw [if_pos hL]
   refine ⟨by rw [List.length_set, h1], fun x h0 hx => ?_⟩
   have := rd_setn (d := lostSo L l i) (c := (i : Int)) (v := -2) (by omega) (by omega) h0
   rw [Int.toNat_natCast] at this
   rw [this]
   by_cases e : x = (i : Int)
   ·rw [if_pos e, if_pos ⟨by omega, by rw [e]; exact hL⟩]
   ·rw [if_neg e, h2 x h0 hx]
    by_cases hc : x < (i : Int) ∧ L x = true
    ·rw [if_pos hc, if_pos ⟨by omega, hc.2⟩]
    ·rw [if_neg hc, if_neg (fun h => hc ⟨by have := h.1; omega, h.2⟩)]
  ·rw [if_neg hL]
   refine ⟨h1, fun x h0 hx => ?_⟩
   rw [h2 x h0 hx]
   by_cases hc : x < (i : Int) ∧ L x = true
   ·rw [if_pos hc, if_pos ⟨by omega, hc.2⟩]
   ·rw [if_neg hc, if_neg (fun h => hc ⟨by
     have := h.1
     have e : x ≠ (i : Int) := fun e => hL (by rw [← e]; exact h.2)
     omega, h.2⟩)]
theorem unkSo_get (L : Int → Bool) (o d : List Int) (ho : ∀ x ∈ o, 0 ≤ x ∧ x < (d.length : Int)) : ∀ k, k ≤ o.length → (unkSo L o d k).length = d.length ∧ ∀ x : Int, 0 ≤ x → x < (d.length : Int) → rd (unkSo L o d k) x = if x ∈ o.take k ∧ L x = true then -3 else rd d x
 | 0, _ => ⟨rfl, fun x h0 _ => by rw [if_neg (fun h => by simp at h)]; rfl⟩
 | k + 1, hk => by
  obtain ⟨h1, h2⟩ := unkSo_get L o d ho k (by omega)
  have hko : k < o.length := by omega
  have e : o.getD k 0 = o[k] := by rw [List.getD_eq_getElem?_getD, List.getElem?_eq_getElem hko]; rfl
  have hm := ho o[k] (List.getElem_mem hko)
  unfold unkSo
  rw [e, List.take_succ_eq_append_getElem hko]
  by_cases hL : L o[k] = true
  ·rw [if_pos hL]
   refine ⟨by rw [List.length_set, h1], fun x h0 hx => ?_⟩
   rw [rd_setn hm.1 (by rw [h1]; exact hm.2) h0]
   by_cases ex : x = o[k]
   ·rw [if_pos ex, if_pos ⟨List.mem_append.2 (.inr (List.mem_singleton.2 ex)), by rw [ex]; exact hL⟩]
   ·rw [if_neg ex, h2 x h0 hx]
    by_cases hc : x ∈ o.take k ∧ L x = true
    ·rw [if_pos hc, if_pos ⟨List.mem_append.2 (.inl hc.1), hc.2⟩]
    ·rw [if_neg hc, if_neg (fun h => hc ⟨by
      rcases List.mem_append.1 h.1 with q | q
      ·exact q
      ·exact absurd (List.mem_singleton.1 q) ex, h.2⟩)]
  ·rw [if_neg hL]
   refine ⟨h1, fun x h0 hx => ?_⟩
   rw [h2 x h0 hx]
   by_cases hc : x ∈ o.take k ∧ L x = true
   ·rw [if_pos hc, if_pos ⟨List.mem_append.2 (.inl hc.1), hc.2⟩]
   ·rw [if_neg hc, if_neg (fun h => hc ⟨by
     rcases List.mem_append.1 h.1 with q | q
     ·exact q
     ·exact absurd h.2 (by rw [List.mem_singleton.1 q]; exact hL), h.2⟩)]
theorem mem_belowB {c : List (List Int)} {l : List Int} (h : IsDom c l) {top b : Int} : b ∈ belowB l top ↔ Dm c top b := by
 unfold belowB
 rw [List.mem_map]
 constructor
 ·rintro ⟨i, hi, rfl⟩
  rw [List.mem_filter] at hi
  exact h.dm.1 (of_decide_eq_true hi.2)
 ·intro k
  have hb := k.1.1
  refine ⟨b.toNat, List.mem_filter.2 ⟨List.mem_range.2 (by have := hb.1; have := hb.2; rw [h.len]; omega), ?_⟩, by have := hb.1; omega⟩
  rw [show ((b.toNat : Nat) : Int) = b from by have := hb.1; omega]
  exact decide_eq_true (h.dm.2 k)
theorem anewB_iff {c : List (List Int)} {l : List Int} (h : IsDom c l) {top b : Int} : anewB (belowB l top) top b = true ↔ b ≠ top ∧ Dm c top b := by
 unfold anewB
 rw [Bool.and_eq_true, decide_eq_true_iff, decide_eq_true_iff, mem_belowB h]
set_option maxHeartbeats 1000000 in
theorem solve_pure {c c2 : List (List Int)} {l l3 : List Int} (h : IsDom c l) (hs2 : Small c2) (hcc : clean c2 = c2) (hlen : c.length = c2.length) (h0 : 0 < c2.length) (top : Int)
  (hw : ∀ b, Way c 0 b ↔ Way c2 0 b) (hdd : ∀ b x, Rc c b → (b = top ∨ ¬ Dm c top b) → (Av c x 0 b ↔ Av c2 x 0 b)) (h3 : IsDom c2 l3) :
  ∃ o, graph_Order.f c2 0 = some o ∧ (∀ x ∈ o, 0 ≤ x ∧ x < (c2.length : Int)) ∧ o.length ≤ c2.length ∧ 0 < o.length ∧
   Ev (fun k => itF c2.length (atSo o c2.length o.length) (turn (clean c2)) (leftSo (anewB (belowB l top) top) o o.length) k (unkSo (anewB (belowB l top) top) o (lostSo (anewB (belowB l top) top) l c2.length) o.length)) l3 := by
 obtain ⟨bs, par, h1, hd, _, ho⟩ := dfs_ctx hs2 h0
 rw [hcc] at hd
 obtain ⟨L, eL⟩ : ∃ L, L = anewB (belowB l top) top := ⟨_, rfl⟩
 have hLi : ∀ b, L b = true ↔ b ≠ top ∧ Dm c top b := fun b => by rw [eL]; exact anewB_iff h
 have hLn : ∀ b, L b = false → b = top ∨ ¬ Dm c top b := fun b hb => by
  by_cases e : b = top
  ·exact .inl e
  ·exact .inr (fun k => by rw [(hLi b).2 ⟨e, k⟩] at hb; cases hb)
 have hL1 : ∀ b, L b = true → Rc c b ∧ b ≠ 0 := fun b hb => by
  have k := (hLi b).1 hb
  refine ⟨k.2.1, fun e => ?_⟩
  rw [e] at k
  exact k.2.2 (.refl k.1)
 have hL2 : ∀ b p, Rc c b → L b = false → idT l b = some p → L p = false := fun b p hb hL hp => by
  cases hLp : L p with
  | false => rfl
  | true =>
   have k := (hLi p).1 hLp
   rcases not_below h hb (hLn b hL) hp with e | e
   ·exact absurd e k.1
   ·exact absurd k.2 e
 have hll : l.length = c2.length := by rw [h.len, hlen]
 have g1 := lostSo_get L l c2.length (by omega)
 have g2 := unkSo_get L (0 :: bs) (lostSo L l c2.length) (by rw [g1.1, hll]; exact ho) (0 :: bs).length (Nat.le_refl _)
 obtain ⟨o', l', e1, e2, e3, e4, e5⟩ := anew_is h hs2 hlen h0 L hL1 hL2 (by rw [hcc]; exact hw) (fun b x hb hL => by rw [hcc]; exact hdd b x hb (hLn b hL)) (unkSo L (0 :: bs) (lostSo L l c2.length) (0 :: bs).length)
  (by rw [g2.1, g1.1, hll]) (fun b hb0 hb1 => by
   rw [g2.2 b hb0 (by rw [g1.1, hll]; exact hb1), List.take_length, g1.2 b hb0 (by rw [hll]; exact hb1)]
   by_cases hL : L b = true
   ·rw [if_pos hL, if_pos ⟨(hd.mem b).2 ((hw b).1 (hL1 b hL).1.2), hL⟩]
   ·rw [if_neg hL, if_neg (fun k => hL k.2), if_neg (fun k => hL k.2)])
 rw [h1] at e1
 obtain rfl := Option.some.inj e1
 rw [hcc] at e5
 obtain rfl := e5.unique h3
 rw [← eL]
 refine ⟨_, h1, e2, e3.1, e3.2, ?_⟩
 rw [leftSo_all]
 exact e4
section
variable {c : List (List Int)} {l l3 : List Int} {a b : Int}
theorem add_same (hv : Valid c) (h : IsDom c l) (hno : lostB l a = true ∨ b < 0 ∨ (c.length : Int) ≤ b ∨ b = 0) (h3 : IsDom (withE c a b) l3) : l3 = l := by
 have hno' : ¬ Way c 0 a ∨ b = 0 ∨ ¬ b ∈ row (withE c a b) a := by
  rcases hno with k | k | k | k
  ·rw [lostB_iff h] at k
   by_cases hn : Node c a
   ·exact .inl (fun hw => k ⟨hn, hw⟩)
   ·have e : withE c a b = c := by unfold withE; rw [if_neg (fun h => hn (isN_iff.1 h.1))]
    by_cases hz : 0 < c.length
    ·exact .inl (fun hw => hn (hw.closed (P := Node c) (fun x y _ hy => row_node hv hy) ⟨Int.le_refl 0, by omega⟩))
    ·refine .inr (.inr (fun hm => ?_))
     rw [e] at hm
     have := row_node hv hm
     have := this.1
     have := this
     unfold Node at *
     omega
  ·refine .inr (.inr (fun hm => ?_))
   have := (row_node (withE_Valid hv) hm).1
   omega
  ·refine .inr (.inr (fun hm => ?_))
   have := (row_node (withE_Valid hv) hm).2
   rw [withE_len] at this
   omega
  ·exact .inr (.inl k)
 obtain ⟨k1, k2⟩ := edge_no (dif_with hv a b) hno'
 exact h3.unique (h.same withE_len k1 (fun y x _ => k2 x y))
theorem add_anew (hv : Valid c) (hr : ∀ l ∈ c, l.Pairwise (· < ·)) (hn : c.length ≤ 900) (h : IsDom c l) (ha : lostB l a = false) (hb : lostB l b = false) (h3 : IsDom (withE c a b) l3) :
  ∃ o, graph_Order.f (withE c a b) 0 = some o ∧ (∀ x ∈ o, 0 ≤ x ∧ x < ((withE c a b).length : Int)) ∧ o.length ≤ (withE c a b).length ∧ 0 < o.length ∧
   Ev (fun k => itF (withE c a b).length (atSo o (withE c a b).length o.length) (turn (clean (withE c a b))) (leftSo (anewB (belowB l (commonB l a b)) (commonB l a b)) o o.length) k (unkSo (anewB (belowB l (commonB l a b)) (commonB l a b)) o (lostSo (anewB (belowB l (commonB l a b)) (commonB l a b)) l (withE c a b).length) o.length)) l3 := by
 have hra : Rc c a := by
  by_cases k : Rc c a
  ·exact k
  ·rw [(lostB_iff h a).2 k] at ha; cases ha
 have hrb : Rc c b := by
  by_cases k : Rc c b
  ·exact k
  ·rw [(lostB_iff h b).2 k] at hb; cases hb
 have ht := h.common.1 ⟨hra, hrb⟩
 have hdf := dif_with hv a b
 exact solve_pure h (small_of (withE_Valid hv) (withE_rises hr) (by rw [withE_len]; exact hn)) (clean_self (withE_Valid hv) (withE_rises hr)) withE_len.symm (by rw [withE_len]; have := hra.1.1; have := hra.1.2; omega) _
  (add_ways hdf hrb.2) (fun y x hy hL => add_doms h hdf ht.1 ht.2.1 hy hL) h3
theorem del_same (hv : Valid c) (h : IsDom c l) (hno : lostB l a = true ∨ lostB l b = true ∨ b = 0) (h3 : IsDom (withoutE c a b) l3) : l3 = l := by
 have hdf := dif_without hv a b
 have hno' : ¬ Way (withoutE c a b) 0 a ∨ b = 0 ∨ ¬ b ∈ row c a := by
  rcases hno with k | k | k
  ·rw [lostB_iff h] at k
   by_cases hn : Node c a
   ·exact .inl (fun hw => k ⟨hn, hdf.way hw (Int.le_refl 0)⟩)
   ·by_cases hz : 0 < c.length
    ·exact .inl (fun hw => hn ((hdf.way hw (Int.le_refl 0)).closed (P := Node c) (fun x y _ hy => row_node hv hy) ⟨Int.le_refl 0, by omega⟩))
    ·refine .inr (.inr (fun hm => ?_))
     have := row_node hv hm
     unfold Node at this
     omega
  ·rw [lostB_iff h] at k
   by_cases hm : b ∈ row c a
   ·exact .inl (fun hw => k ⟨row_node hv hm, (hdf.way hw (Int.le_refl 0)).trans (.edge hm)⟩)
   ·exact .inr (.inr hm)
  ·exact .inr (.inl k)
 obtain ⟨k1, k2⟩ := edge_no hdf hno'
 exact h3.unique (h.same withoutE_len (fun y => (k1 y).symm) (fun y x _ => (k2 x y).symm))
theorem del_anew (hv : Valid c) (hr : ∀ l ∈ c, l.Pairwise (· < ·)) (hn : c.length ≤ 900) (h : IsDom c l) (hb : lostB l b = false) (hb0 : b ≠ 0) (hre : Way (withoutE c a b) 0 b) (h3 : IsDom (withoutE c a b) l3) :
  ∃ o, graph_Order.f (withoutE c a b) 0 = some o ∧ (∀ x ∈ o, 0 ≤ x ∧ x < ((withoutE c a b).length : Int)) ∧ o.length ≤ (withoutE c a b).length ∧ 0 < o.length ∧
   Ev (fun k => itF (withoutE c a b).length (atSo o (withoutE c a b).length o.length) (turn (clean (withoutE c a b))) (leftSo (anewB (belowB l (rd l b)) (rd l b)) o o.length) k (unkSo (anewB (belowB l (rd l b)) (rd l b)) o (lostSo (anewB (belowB l (rd l b)) (rd l b)) l (withoutE c a b).length) o.length)) l3 := by
 have hrb : Rc c b := by
  by_cases k : Rc c b
  ·exact k
  ·rw [(lostB_iff h b).2 k] at hb; cases hb
 obtain ⟨p, hp, e, _⟩ := h.par b hrb.1 hrb.2 hb0
 have ht : Dm c (rd l b) b := (h.dm_par hrb hb0).2 (.inr (by rw [e]; exact h.dm_refl.2 (h.idT_par hrb hp).1))
 have htb : b ≠ rd l b := fun k => by
  obtain ⟨f, hf, _⟩ := h.rank
  have := hf b p hp
  rw [← e, ← k] at this
  omega
 have hdf := dif_without hv a b
 exact solve_pure h (small_of (withoutE_Valid hv) (withoutE_rises hr) (by rw [withoutE_len]; exact hn)) (clean_self (withoutE_Valid hv) (withoutE_rises hr)) withoutE_len.symm (by rw [withoutE_len]; have := hrb.1.1; have := hrb.1.2; omega) _
  (del_ways hdf hre) (fun y x hy hL => del_doms hdf hre ht htb hy hL) h3
end
def changedB (l l3 : List Int) : List Int := ((List.range l.length).filter fun i : Nat => decide (rd l3 (i : Int) ≠ rd l (i : Int))).map fun i : Nat => (i : Int)
end Go.Proofs.YtemcmcnhpdkdfaaGreat.P
namespace Go.Proofs.YtemcmcnhpdkdfaaGreat.P
open Go.RowKit Go.Shelf Go.Lib Go.Sort Go.Proofs.YtemcmcnhpdkdfaaGreatW.PrintWords Go.Proofs.YtemcmcnhpdkdfaaGreatW.PrintLast Go.Proofs.YtemcmcnhpdkdfaaGreatW.PrintMore
theorem ev_eq {α : Type} {f : Nat → Option α} {r r' : α} (h : Ev f r) (h' : Ev f r') : r = r' := by
 obtain ⟨K, h⟩ := h
 obtain ⟨K', h'⟩ := h'
 have a := h (max K K') (Nat.le_max_left ..)
 rw [h' (max K K') (Nat.le_max_right ..)] at a
 exact (Option.some.inj a).symm
theorem idoms_dom {g : List (List Int)} (hs : Small g) {k : Nat} {l : List Int} (h : dom_Idoms.f k g = some l) : IsDom (clean g) l := by
 obtain ⟨l', he, hd⟩ := idoms_now hs
 rw [ev_eq (Ev.of (fun k => dom_Idoms.mono g k) h) he]
 exact hd
theorem lost_f (g : List (List Int)) (l : List Int) (kp : Bool) (a : Int) : domup_State_lost.f g l kp a = some (lostB l a) := by
 unfold domup_State_lost.f lostB
 by_cases h1 : a < 0
 ·rw [if_pos h1, decide_eq_true h1]; rfl
 ·rw [if_neg h1, decide_eq_false h1]
  by_cases h2 : a ≥ (l.length : Int)
  ·rw [if_pos h2, decide_eq_true (show (l.length : Int) ≤ a from h2)]; rfl
  ·rw [if_neg h2, decide_eq_false (show ¬ (l.length : Int) ≤ a from h2), if_pos (by omega), if_pos (by omega)]; rfl
theorem changed_l0 (g : List (List Int)) (l : List Int) (g3 : List (List Int)) (l3 : List Int) (kp3 : Bool) (hl : l.length ≤ 1000000) (he : l3.length = l.length) : ∀ d i : Nat, i + d = l.length → ∀ out : List Int, out.length ≤ i →
  Ev (fun k => domup_changed.l0 k out l (l.length : Int) (i : Int) g3 l3 kp3) (out ++ (((List.range l.length).drop i).filter fun i : Nat => decide (rd l3 (i : Int) ≠ rd l (i : Int))).map fun i : Nat => (i : Int))
 | 0, i, hd, out, _ => by
  rw [List.drop_eq_nil_of_le (by simp; omega), List.filter_nil, List.map_nil, List.append_nil]
  exact Ev.step (f := fun _ => some out) (fun k => by rw [domup_changed.l0, if_neg (by omega)]) (Ev.now _)
 | d + 1, i, hd, out, ho => by
  have hi : i < l.length := by omega
  rw [range_drop hi, List.filter_cons]
  by_cases e : rd l3 (i : Int) = rd l (i : Int)
  ·refine Ev.step (f := fun k => domup_changed.l0 k out l (l.length : Int) ((i + 1 : Nat) : Int) g3 l3 kp3) (fun k => by rw [domup_changed.l0, if_pos (by omega), if_pos (by omega), if_pos (by omega), if_pos (by omega), if_pos e, wrap_succ (by omega)]) ?_
   rw [if_neg (by simpa using e)]
   exact changed_l0 g l g3 l3 kp3 hl he d (i + 1) (by omega) out (by omega)
  ·refine Ev.step (f := fun k => domup_changed.l0 k (out ++ [(i : Int)]) l (l.length : Int) ((i + 1 : Nat) : Int) g3 l3 kp3) (fun k => by rw [domup_changed.l0, if_pos (by omega), if_pos (by omega), if_pos (by omega), if_pos (by omega), if_neg e, if_pos (by omega), wrap_succ (by omega)]) ?_
   rw [if_pos (by simpa using e)]
   have := changed_l0 g l g3 l3 kp3 hl he d (i + 1) (by omega) (out ++ [(i : Int)]) (by rw [List.length_append, List.length_singleton]; omega)
   rw [List.append_assoc] at this
   exact this
theorem changed_ev (g : List (List Int)) (l : List Int) (kp : Bool) (g3 : List (List Int)) (l3 : List Int) (kp3 : Bool) (hl : l.length ≤ 1000000) (he : l3.length = l.length) : Ev (fun k => domup_changed.f k g l kp g3 l3 kp3) (changedB l l3) := by
 have h := changed_l0 g l g3 l3 kp3 hl he l.length 0 (by omega) [] (by simp)
 rw [List.drop_zero, List.nil_append] at h
 exact h
def madeB (g : List (List Int)) (l l2 : List Int) (kp : Bool) : Bool := !kp || (decide (g = clean g) && decide (l = l2))
theorem madeB_iff {g : List (List Int)} {l l2 : List Int} {kp : Bool} (h : madeB g l l2 kp = true) : kp = true → g = clean g ∧ l = l2 := by
 intro hk
 subst hk
 simpa [madeB] using h
def smallB (g : List (List Int)) : Bool := fits g && decide (g.length ≤ 900)
theorem smallB_iff {g : List (List Int)} : smallB g = true ↔ Small g := by unfold smallB Small; simp
def RowsC (W : World) (A : Option Addr) (c : Nat) (g : List (List Int)) : Prop := dG.C W A g.length g ∧ g.length ≤ c
theorem RowsC.below {W W' : World} {A : Option Addr} {c : Nat} {g : List (List Int)} (h : RowsC W A c g) (hb : Below W.heap.size W W') : RowsC W' A c g := ⟨Kd.C_below h.1 hb, h.2⟩
structure AddS (W1 wx : World) (B9 : Nat) (A8 : Option Addr) (c8 : Nat) (c2 : List (List Int)) (AX : Option Addr) (cX : Nat) (l3 : List Int) : Prop where
 bel : Below W1.heap.size W1 wx
 at9 : W1.heap.size ≤ B9
 blk : wx.heap[B9]? = some (.cells #[.slice A8 c2.length c8, .slice AX l3.length cX, .bool true] 29 (0, 0))
 sg : Kd.S dG 23 wx W1.heap.size (fun k => k < B9 ∧ some k ≠ (Value.slice AX l3.length cX).ownBlock) (.slice A8 c2.length c8) c2
 ri : dI.R 3 wx W1.heap.size (fun k => k ≠ B9) (.slice AX l3.length cX) l3
theorem AddS.below {W1 wx w' : World} {B9 : Nat} {A8 : Option Addr} {c8 : Nat} {c2 : List (List Int)} {AX : Option Addr} {cX : Nat} {l3 : List Int} (h : AddS W1 wx B9 A8 c8 c2 AX cX l3) (hb : Below wx.heap.size wx w') : AddS W1 w' B9 A8 c8 c2 AX cX l3 :=
 ⟨h.bel.trans (hb.mono h.bel.size), h.at9, heap_bel h.blk hb, Kd.S_below h.sg hb, Kd.R_below h.ri hb⟩
theorem lt_of_heap {W : World} {k : Nat} {c : Obj} (h : W.heap[k]? = some c) : k < W.heap.size := by
 by_cases hk : k < W.heap.size
 ·exact hk
 ·rw [Array.getElem?_eq_none (by omega)] at h
  cases h
theorem AddS.put {W1 w5 w6 : World} {B9 : Nat} {A8 : Option Addr} {c8 : Nat} {c2 : List (List Int)} {AX : Option Addr} {cX : Nat} {l2 : List Int} {AY : Option Addr} {cY : Nat} {l3 : List Int} (h : AddS W1 w5 B9 A8 c8 c2 AX cX l2) (hb : Below w5.heap.size w5 w6)
  (hr : dI.R 3 w6 w5.heap.size (fun _ => True) (.slice AY l3.length cY) l3) : AddS W1 (w6.setCell ⟨B9, 1, none⟩ (.slice AY l3.length cY)) B9 A8 c8 c2 AY cY l3 := by
 have h6 := h.below hb
 have h9 := lt_of_heap h.blk
 have hne : ∀ k, (Value.slice AY l3.length cY).ownBlock = some k → w5.heap.size ≤ k := fun k e => Kd.R_base hr k e
 have hs := h.bel.size
 refine ⟨h6.bel.setCell (p := ⟨B9, 1, none⟩) h.at9 _, h.at9, ?_, ?_, ?_⟩
 ·exact blk_put (cs := #[.slice A8 c2.length c8, .slice AX l2.length cX, .bool true]) h6.blk 1 _ rfl
 ·refine Kd.S_mono (Kd.S_step (w1 := w6.setCell ⟨B9, 1, none⟩ (.slice AY l3.length cY)) h6.sg (fun k hk _ => Below.heap_setCell _ _ _ _ (by have := hk.1; show k ≠ B9; omega))) (fun k hk => ⟨hk.1, fun e => by have := hne k e.symm; have := hk.1; omega⟩)
 ·refine Kd.R_lower (Kd.R_mono (Kd.R_move (w1 := w6.setCell ⟨B9, 1, none⟩ (.slice AY l3.length cY)) (Kd.R_bound hr) (fun k hk => Below.heap_setCell _ _ _ _ (by have := hk.2.1; show k ≠ B9; omega))) (fun k hk => by have := hk.2.1; omega)) hs
theorem add_end {w W1 wc wz : World} {B9 : Nat} {A8 : Option Addr} {c8 : Nat} {c2 : List (List Int)} {AX : Option Addr} {cX : Nat} {l3 : List Int} {v8 : Value} {r4 : List Int} (h : AddS W1 wc B9 A8 c8 c2 AX cX l3) (hs : w.heap.size ≤ W1.heap.size)
  (hm : ∀ k, W1.heap.size ≤ k → k < wc.heap.size → wz.heap[k]? = wc.heap[k]?) (ho : dI.R 3 wz wc.heap.size (fun _ => True) v8 r4) :
  Kd.S (Kd.slice 3 (Kd.int .i64)) 23 wz w.heap.size (fun k_ => some k_ ≠ (Value.slice AX l3.length cX).ownBlock ∧ some k_ ≠ v8.ownBlock) (.slice A8 c2.length c8) c2 ∧ Kd.R (Kd.int .i64) 3 wz w.heap.size (fun k_ => some k_ ≠ v8.ownBlock) (.slice AX l3.length cX) l3 ∧ Kd.R (Kd.int .i64) 3 wz w.heap.size (fun k_ => some k_ ≠ (Value.slice AX l3.length cX).ownBlock) v8 r4 := by
 have hown := fun j (e : v8.ownBlock = some j) => Kd.R_base ho j e
 have hlt := fun j (e : (Value.slice AX l3.length cX).ownBlock = some j) => Kd.R_lt h.ri j e
 have hs2 := h.bel.size
 refine ⟨?_, ?_, ?_⟩
 ·exact Kd.S_lower (Kd.S_mono (Kd.S_step (w1 := wz) (Kd.S_bound h.sg) (fun k hk _ => hm k hk.2.1 hk.2.2.1)) (fun k hk => ⟨hk.1.2, fun e => by have := hown k e.symm; have := hk.2.2.1; omega⟩)) hs
 ·exact Kd.R_lower (Kd.R_mono (Kd.R_move (w1 := wz) (Kd.R_bound h.ri) (fun k hk => hm k hk.2.1 hk.2.2.1)) (fun k hk e => by have := hown k e.symm; have := hk.2.2.1; omega)) hs
 ·exact Kd.R_lower (Kd.R_mono (Kd.R_bound ho) (fun k hk e => by have := hlt k e.symm; have := hk.2.1; omega)) (by omega)
def domup_Add.f (k : Nat) (g : List (List Int)) (l : List Int) (kp : Bool) (a b : Int) : Option (List (List Int) × List Int × Bool × List Int) :=
 (dom_Idoms.f k g).bind fun l2 => (dom_Idoms.f k (withE (clean g) a b)).bind fun l3 => if smallB g = true ∧ l.length ≤ 100000 ∧ madeB g l l2 kp = true then some (withE (clean g) a b, l3, true, changedB l2 l3) else none
set_option maxHeartbeats 8000000 in
set_option maxRecDepth 100000 in
theorem domup_Add.calls (k : Nat) (A0 : Option Addr) (c0 : Nat) (g : List (List Int)) (A1 : Option Addr) (c1 : Nat) (l : List Int) (kp : Bool) (a b : Int) (r1 : List (List Int)) (r2 : List Int) (r3 : Bool) (r4 : List Int) (w : World) (hr0 : Kd.C (Kd.slice 3 (Kd.int .i64)) w A0 g.length g) (hc0 : g.length ≤ c0) (hr1 : Kd.C (Kd.int .i64) w A1 l.length l) (hc1 : l.length ≤ c1) (h : domup_Add.f k g l kp a b = some (r1, r2, r3, r4)) :
  Calls Tryz.prog 7 #[.agg #[.slice A0 g.length c0, .slice A1 l.length c1, .bool kp], .int .i64 a, .int .i64 b] w fun e w' => ∃ v0_ v1_ v2_ : Value, e = .returned (.tuple #[.agg #[v0_, v1_, .bool r3], v2_]) ∧ Kd.S (Kd.slice 3 (Kd.int .i64)) 23 w' w.heap.size (fun k_ => some k_ ≠ (v1_ : Value).ownBlock ∧ some k_ ≠ (v2_ : Value).ownBlock) v0_ r1 ∧ Kd.R (Kd.int .i64) 3 w' w.heap.size (fun k_ => some k_ ≠ (v2_ : Value).ownBlock) v1_ r2 ∧ Kd.R (Kd.int .i64) 3 w' w.heap.size (fun k_ => some k_ ≠ (v1_ : Value).ownBlock) v2_ r4 ∧ Below w.heap.size w w' := by
 unfold domup_Add.f at h
 obtain ⟨l2, hl2, h⟩ := Option.bind_eq_some_iff.1 h
 obtain ⟨l3, hl3, h⟩ := Option.bind_eq_some_iff.1 h
 split at h
 case isFalse => cases h
 rename_i hcond
 have hs := smallB_iff.1 hcond.1
 have hll := hcond.2.1
 have hkp := madeB_iff hcond.2.2
 simp only [Option.some.injEq, Prod.mk.injEq] at h
 obtain ⟨rfl, rfl, rfl, rfl⟩ := h
 have hu := Tryz.underlying29
 have hv := clean_Valid g
 have hr := clean_rises g
 have hcl := clean_len g
 have hgn := hs.2
 have hD2 := idoms_dom hs hl2
 have hE2 : Ev (fun k => dom_Idoms.f k g) l2 := Ev.of (fun k => dom_Idoms.mono g k) hl2
 obtain ⟨c2, ec2⟩ : ∃ c2, c2 = withE (clean g) a b := ⟨_, rfl⟩
 have hv2 : Valid c2 := by rw [ec2]; exact withE_Valid hv
 have hr2 : ∀ l ∈ c2, l.Pairwise (· < ·) := by rw [ec2]; exact withE_rises hr
 have hn2 : c2.length = g.length := by rw [ec2, withE_len, hcl]
 have hs2 : Small c2 := small_of hv2 hr2 (by rw [hn2]; exact hgn)
 have hcc : clean c2 = c2 := clean_self hv2 hr2
 rw [← ec2] at hl3
 have hD3 := idoms_dom hs2 hl3
 rw [hcc] at hD3
 have hl2n : l2.length = g.length := by rw [hD2.len, hcl]
 have hl3n : l3.length = g.length := by rw [hD3.len, hn2]
 have hfc : fits (clean g) = true := fits_clean hs.1
 obtain ⟨kc, hkc⟩ : ∃ kc, ∀ kp', domup_changed.f kc (clean g) l2 kp' c2 l3 true = some (changedB l2 l3) := by
  obtain ⟨K1, h1⟩ := changed_ev (clean g) l2 true c2 l3 true (by omega) (by omega)
  obtain ⟨K2, h2⟩ := changed_ev (clean g) l2 false c2 l3 true (by omega) (by omega)
  refine ⟨max K1 K2, fun kp' => ?_⟩
  cases kp'
  ·exact h2 _ (Nat.le_max_right ..)
  ·exact h1 _ (Nat.le_max_left ..)
 have hst : StC w A0 c0 A1 c1 g l := ⟨hr0, hc0, hr1, hc1⟩
 have HSA := Aside0.mk (fun W (hW : Below w.heap.size w W) => sane_c A0 c0 g A1 c1 l kp l2 w W hW hst hs.1 ⟨hll, by omega⟩ hE2 hkp)
 have HCM : Aside0 (∀ W AG cG AI cI, StC W AG cG AI cI (clean g) l2 → Calls Tryz.prog 29 #[.slice AI l2.length cI, .int .i64 a, .int .i64 b] W fun e w' => e = .returned (.int .i64 (commonB l2 a b)) ∧ Below W.heap.size W w') := ⟨fun W AG cG AI cI h => by
  obtain ⟨kq, hkq⟩ := common_ev l2 (by omega) a b
  exact dom_Common.calls kq AI cI l2 a b _ W h.ii h.ic (hkq kq (Nat.le_refl _))⟩
 have HSAME : Aside0 ((lostB l2 a = true ∨ b < 0 ∨ (g.length : Int) ≤ b ∨ b = 0) → l3 = l2) := ⟨fun hno => add_same hv hD2 (by rw [hcl]; exact hno) (by rw [← ec2]; exact hD3)⟩
 have HSO : Aside0 (lostB l2 a = false → lostB l2 b = false → ∀ W A8 c8 AG cG AI cI Bt Bb Ab cb, RowsC W A8 c8 c2 → StC W AG cG AI cI (clean g) l2 → W.cell? ⟨Bt, 0, none⟩ = some (.int .i64 (commonB l2 a b)) → W.cell? ⟨Bb, 0, none⟩ = some (.slice Ab (belowB l2 (commonB l2 a b)).length cb) → dI.C W Ab (belowB l2 (commonB l2 a b)).length (belowB l2 (commonB l2 a b)) → (belowB l2 (commonB l2 a b)).length ≤ cb →
   Calls Tryz.prog 27 #[.slice A8 c2.length c8, .slice AI l2.length cI, .func (.func 52) #[] #[.pointer (some ⟨Bt, 0, none⟩), .pointer (some ⟨Bb, 0, none⟩)]] W fun e w' => ∃ v0_ : Value, e = .returned v0_ ∧ dI.R 3 w' W.heap.size (fun _ => True) v0_ l3 ∧ Below W.heap.size W w') := ⟨fun ha hb W A8 c8 AG cG AI cI Bt Bb Ab cb h1 h3 h4 h5 h6 h7 => by
  have hbb : (belowB l2 (commonB l2 a b)).length ≤ 1000000 := by
   unfold belowB
   rw [List.length_map]
   refine Nat.le_trans (List.length_filter_le _ _) ?_
   rw [List.length_range]
   omega
  have hn0 : 0 < c2.length := by
   have hnd : Rc (clean g) b := by
    by_cases q : Rc (clean g) b
    ·exact q
    ·rw [(lostB_iff hD2 b).2 q] at hb; cases hb
   have := hnd.1.1
   have := hnd.1.2
   omega
  obtain ⟨o, e1, e2, e3, e4, K, e5⟩ := add_anew hv hr (by omega) hD2 ha hb (by rw [← ec2]; exact hD3)
  rw [← ec2] at e1 e2 e3 e5
  exact solve_c A8 c8 c2 AI cI l2 _ _ Bt Bb Ab cb K o l3 W h1.1 h1.2 hs2.1 hn0 e1 e2 e3 e4 h3.ii (by omega) h4 h5 h6 h7 hbb (e5 K (Nat.le_refl _))⟩
 have HWW : Aside0 (∀ W AG cG AI cI, StC W AG cG AI cI (clean g) l2 → Calls Tryz.prog 23 #[.slice AG (clean g).length cG, .int .i64 a, .int .i64 b] W fun e w' => ∃ v0_ : Value, e = .returned v0_ ∧ Kd.S (Kd.slice 3 (Kd.int .i64)) 23 w' W.heap.size (fun _ => True) v0_ c2 ∧ Below W.heap.size W w') :=
  ⟨fun W AG cG AI cI h => graph_With.calls AG cG (clean g) a b c2 W h.gr h.gc (by unfold graph_With.f; rw [if_pos hfc, clean_clean, ec2])⟩
 have HCL : Aside0 (∀ W AG cG AI cI, StC W AG cG AI cI (clean g) l2 → Calls Tryz.prog 24 #[.slice AI l2.length cI] W fun e w' => ∃ v, e = .returned v ∧ dI.R 3 w' W.heap.size (fun _ => True) v l2 ∧ Below W.heap.size W w') := ⟨fun W AG cG AI cI h => clone_c AI cI l2 W h.ii (by omega)⟩
 have HID : Aside0 (∀ W A c, RowsC W A c c2 → Calls Tryz.prog 26 #[.slice A c2.length c] W fun e w' => ∃ v0_ : Value, e = .returned v0_ ∧ Kd.R (Kd.int .i64) 3 w' W.heap.size (fun _ => True) v0_ l3 ∧ Below W.heap.size W w') := ⟨fun W A c h => dom_Idoms.calls k A c c2 l3 W h.1 h.2 hl3⟩
 have HLO : Aside0 (∀ (x : Int) W AG cG AI cI kp', StC W AG cG AI cI (clean g) l2 → Calls Tryz.prog 25 #[.agg #[.slice AG (clean g).length cG, .slice AI l2.length cI, .bool kp'], .int .i64 x] W fun e w' => e = .returned (.bool (lostB l2 x)) ∧ Below W.heap.size W w') := ⟨fun x W AG cG AI cI kp' h => domup_State_lost.calls AG cG (clean g) AI cI l2 kp' x _ W h.gr h.gc h.ii h.ic (lost_f _ _ _ _)⟩
 have HCH : Aside0 (∀ W AG cG AI cI kp' A8 c8 AX cX, StC W AG cG AI cI (clean g) l2 → StC W A8 c8 AX cX c2 l3 → Calls Tryz.prog 30 #[.agg #[.slice AG (clean g).length cG, .slice AI l2.length cI, .bool kp'], .agg #[.slice A8 c2.length c8, .slice AX l3.length cX, .bool true]] W fun e w' => ∃ v0_ : Value, e = .returned (v0_) ∧ Kd.R (Kd.int .i64) 3 w' W.heap.size (fun _ => True) v0_ (changedB l2 l3) ∧ Below W.heap.size W w') :=
  ⟨fun W AG cG AI cI kp' A8 c8 AX cX h1 h2 => domup_changed.calls kc AG cG (clean g) AI cI l2 kp' A8 c8 c2 AX cX l3 true _ W h1.gr h1.gc h1.ii h1.ic h2.gr h2.gc h2.ii h2.ic (hkc kp')⟩
 have HUN : Aside0 (∀ (top : Int) W AG cG AI cI kp', StC W AG cG AI cI (clean g) l2 → Calls Tryz.prog 28 #[.agg #[.slice AG (clean g).length cG, .slice AI l2.length cI, .bool kp'], .int .i64 top] W fun e w' => ∃ Bt Bb Ab cb, e = .returned (.func (.func 52) #[] #[.pointer (some ⟨Bt, 0, none⟩), .pointer (some ⟨Bb, 0, none⟩)]) ∧ w'.cell? ⟨Bt, 0, none⟩ = some (.int .i64 top) ∧ w'.cell? ⟨Bb, 0, none⟩ = some (.slice Ab (belowB l2 top).length cb) ∧ dI.C w' Ab (belowB l2 top).length (belowB l2 top) ∧ (belowB l2 top).length ≤ cb ∧ Below W.heap.size W w') :=
  ⟨fun top W AG cG AI cI kp' h => under_c AG _ cG AI cI l2 kp' top W h.ii h.ic (by omega)⟩
 have hbl : ∀ top, (belowB l2 top).length ≤ 1000000 := fun top => by
  unfold belowB
  rw [List.length_map]
  refine Nat.le_trans (List.length_filter_le _ _) ?_
  rw [List.length_range]
  omega
 obtain ⟨n, en⟩ : ∃ n, n = (clean g).length := ⟨_, rfl⟩
 have enl : l2.length = n := by rw [en, hcl, hl2n]
 have en2 : c2.length = n := by rw [en, hcl, hn2]
 have en3 : l3.length = n := by rw [en, hcl, hl3n]
 rw [← en] at HLO HCH HUN HWW
 rw [enl] at HLO HCH HUN HCL
 rw [en2] at HID HCH HSO
 rw [enl] at HSO
 rw [enl] at HCM
 rw [en3] at HCH
 have HNG : Aside0 (g.length = n) := ⟨by rw [en, hcl]⟩
 have HN := Aside0.mk (And.intro en.symm (And.intro enl (And.intro en2 en3)))
 obtain ⟨n0, en0⟩ : ∃ n0, n0 = g.length := ⟨_, rfl⟩
 obtain ⟨n1, en1⟩ : ∃ n1, n1 = l.length := ⟨_, rfl⟩
 rw [← en0, ← en1] at HSA
 rw [← en0, ← en1, ← ec2]
 clear hr0 hc0 hr1 hc1 hcond hs hll hkp hl2 hl3 hv hr hcl hgn hD2 hE2 hv2 hr2 hn2 hs2 hcc hD3 hl2n hl3n hfc hkc hst en enl en2 en3 en0 en1 ec2
 go_enter Tryz.func7, Tryz.ntmps7
 go_upto_region 2 with (go_at_call 22; refine (HSA.out _ (below_alloc (below_alloc (Below.refl _ _) _) _)).mono ?_; rintro e w1 ⟨AG, cG, AI, cI, kp', rfl, hst1, hb1⟩; have HS1 := Aside0.mk hst1; have HB1 := Aside0.mk hb1; obtain ⟨hp, hq, hs3, hw3⟩ := two_boxes hb1; have f0 := frozen_of_blk 0 hp; have f1 := frozen_of_blk 1 hp; have f2 := frozen_of_blk 2 hp; have d0 := cell_of_blk (j := 0) hp rfl; have d1 := cell_of_blk (j := 1) hp rfl; have d2 := cell_of_blk (j := 2) hp rfl; have HP := Aside0.mk hp; have HQ := Aside0.mk hq; have HW3 := Aside0.mk hw3; clear hst1 hb1 hp hq hw3; rw [HN.out.1, HN.out.2.1])
 obtain ⟨W1, hW1⟩ : ∃ W1, W1 = (((w1.setCell ⟨w.heap.size, 0, none⟩ (.slice AG n cG)).setCell ⟨w.heap.size, 1, none⟩ (.slice AI n cI)).setCell ⟨w.heap.size, 2, none⟩ (.bool kp')) := ⟨_, rfl⟩
 have hB3 : W1.heap[w.heap.size]? = some (.cells #[.slice AG n cG, .slice AI n cI, .bool kp'] 29 (0, 0)) := by rw [hW1]; exact three_put HP.out _ _ _
 have hB6 : W1.heap[w.heap.size + 1]? = some (.cells #[.slice none 0 0, .slice none 0 0, .bool false] 29 (0, 0)) := by rw [hW1]; exact (three_other (by omega) _ _ _).trans HQ.out
 have hBW : Below w.heap.size w W1 := by rw [hW1]; exact three_below HW3.out (Nat.le_refl _) _ _ _
 have hst1 : StC W1 AG cG AI cI (clean g) l2 := HS1.out W1 hBW (fun k h1 h2 => by rw [hW1]; exact three_other (by simp only [size_alloc1] at h1; omega) _ _ _)
 rw [← hW1]
 clear hW1 f0 f1 f2 d0 d1 d2 HP HQ HW3 HS1 HB1 hs3 HSA
 have p0 := cell_of_blk (j := 0) hB3 rfl
 have p1 := cell_of_blk (j := 1) hB3 rfl
 have p2 := cell_of_blk (j := 2) hB3 rfl
 have hs1 := lt_of_heap hB6
 have HS1 := Aside0.mk hs1
 have HB3 := Aside0.mk hB3
 have HB6 := Aside0.mk hB6
 have HBW := Aside0.mk hBW
 have HST := Aside0.mk hst1
 clear hB3 hB6 hBW hst1 hs1
 go_upto_region 3 with (go_at_call 23; refine (HWW.out _ _ _ _ _ HST.out).mono ?_; rintro e w2 ⟨v2, rfl, ho2, hb2⟩; obtain ⟨A8, c8, rfl, _⟩ := Kd.S_reads ho2; rw [HN.out.2.2.1]; have p1' := cell_bel hb2 p1; have HO2 := Aside0.mk ho2; have HB2 := Aside0.mk hb2; clear ho2 hb2)
 go_cut [9] from 17 to 21 (fun v9 W4 => ∃ B9 A20 c20, v9 = .pointer (some ⟨B9, 0, none⟩) ∧ Aside0 (AddS W1 W4 B9 A8 c8 c2 A20 c20 l2) ∧ Aside0 (w.heap.size + 1 < B9))
 case first =>
  go_wp2_with (go_at_call 24; refine (HCL.out _ _ _ _ _ (HST.out.below HB2.out)).mono ?_; rintro e w3 ⟨v3, rfl, ho3, hb3⟩; obtain ⟨A20, c20, rfl⟩ := Kd.R_slice ho3; rw [HN.out.2.1]; have HO3 := Aside0.mk ho3; have HB3' := Aside0.mk hb3; clear ho3 hb3)
  go_meet
  obtain ⟨W4, hW4⟩ : ∃ W4, W4 = w3.alloc (.cells #[.slice A8 n c8, .slice A20 n c20, .bool true] 29) := ⟨_, rfl⟩
  have hx4 : Below w3.heap.size w3 W4 := by rw [hW4]; exact below_alloc (Below.refl _ _) _
  have hs2 := HB2.out.size
  have hs3 := HB3'.out.size
  have hadd : AddS W1 W4 w3.heap.size A8 c8 c2 A20 c20 l2 := by
   refine ⟨HB2.out.trans ((HB3'.out.trans (hx4.mono hs3)).mono hs2), by omega, ?_, ?_, ?_⟩
   ·rw [hW4, HN.out.2.2.1, HN.out.2.1]
    exact heap_new _ _ _ rfl
   ·have hown := fun j (e : (Value.slice A20 l2.length c20).ownBlock = some j) => Kd.R_base HO3.out j e
    exact Kd.S_mono (Kd.S_below (Kd.S_below (Kd.S_bound HO2.out) HB3'.out) hx4) (fun j hk => ⟨by have := hk.2.2.1; omega, fun e => by have := hown j e.symm; have := hk.2.2.1; omega⟩)
   ·exact Kd.R_lower (Kd.R_mono (Kd.R_below (Kd.R_bound HO3.out) hx4) (fun j hk => by have := hk.2.2.1; omega)) hs2
  rw [← hW4]
  exact ⟨w3.heap.size, A20, c20, rfl, ⟨hadd⟩, ⟨by have := HS1.out; omega⟩⟩
 case rest =>
 obtain ⟨B9, A20, c20, rfl, HA4, HS9⟩ := hcut
 clear HO2 HB2 p0 p1 p1' p2
 obtain ⟨W4, rfl⟩ : ∃ W4, W4 = wc := ⟨_, rfl⟩
 go_upto_block 0 with (fail)
 go_cut [] from 22 to 58 (fun wx => ∃ AX cX, Aside0 (AddS W1 wx B9 A8 c8 c2 AX cX l3))
 case first =>
  have HKE : Aside0 (∀ W, Below W1.heap.size W1 W → W.cell? ⟨w.heap.size, 0, none⟩ = some (.slice AG n cG) ∧ W.cell? ⟨w.heap.size, 1, none⟩ = some (.slice AI n cI) ∧ W.cell? ⟨w.heap.size, 2, none⟩ = some (.bool kp')) := ⟨fun W hW => ⟨cell_of_blk (j := 0) (heap_bel HB3.out hW) rfl, cell_of_blk (j := 1) (heap_bel HB3.out hW) rfl, cell_of_blk (j := 2) (heap_bel HB3.out hW) rfl⟩⟩
  obtain ⟨p0, p1, p2⟩ := HKE.out _ HA4.out.bel
  have HBT : Aside0 (∀ W, Below W4.heap.size W4 W → Below W1.heap.size W1 W) := ⟨fun W hW => HA4.out.bel.trans (hW.mono HA4.out.bel.size)⟩
  have HRC : Aside0 (∀ W, Below W4.heap.size W4 W → RowsC W A8 c8 c2) := ⟨fun W hW => by have h := Kd.S_reads' (HA4.out.below hW).sg; exact ⟨h.2.2, h.2.1⟩⟩
  have HF9 : Aside0 (∀ W, Below W4.heap.size W4 W → W.frozen? ⟨B9, 1, none⟩ = false ∧ W.cell? ⟨B9, 1, none⟩ = some (.slice A20 n c20)) := ⟨fun W hW => by
   have h := (HA4.out.below hW).blk
   rw [HN.out.2.1] at h
   exact ⟨frozen_of_blk 1 h, cell_of_blk (j := 1) h rfl⟩⟩
  obtain ⟨la, ela⟩ : ∃ la, la = lostB l2 a := ⟨_, rfl⟩
  obtain ⟨lb, elb⟩ : ∃ lb, lb = lostB l2 b := ⟨_, rfl⟩
  have HLA := Aside0.mk (fun W (hW : Below W1.heap.size W1 W) => HLO.out a W AG cG AI cI kp' (HST.out.below hW))
  have HLB := Aside0.mk (fun W (hW : Below W1.heap.size W1 W) => HLO.out b W AG cG AI cI kp' (HST.out.below hW))
  rw [← ela] at HLA HSAME HSO
  rw [← elb] at HLB HSO
  have HSK : Aside0 (∀ w5, Below W4.heap.size W4 w5 → l3 = l2 → ∃ AX cX, Aside0 (AddS W1 w5 B9 A8 c8 c2 AX cX l3)) := ⟨fun w5 hb e => ⟨A20, c20, ⟨by rw [e]; exact HA4.out.below hb⟩⟩⟩
  clear HLO ela elb
  cases la with
  | true =>
   go_wp2_with (go_at_call 25; refine (HLA.out _ HA4.out.bel).mono ?_; rintro e w5 ⟨rfl, hb5⟩; have HB5 := Aside0.mk hb5; clear hb5)
   go_meet
   exact HSK.out _ HB5.out (HSAME.out (.inl (by simp)))
  | false =>
   by_cases hb0 : b < 0
   ·have c1 : decide (b < 0) = true := decide_eq_true hb0
    have HX := Aside0.mk (HSAME.out (.inr (.inl hb0)))
    clear hb0
    go_wp2_with (go_at_call 25; refine (HLA.out _ HA4.out.bel).mono ?_; rintro e w5 ⟨rfl, hb5⟩; have HB5 := Aside0.mk hb5; clear hb5)
    go_meet
    exact HSK.out _ HB5.out HX.out
   ·have c1 : decide (b < 0) = false := decide_eq_false hb0
    by_cases hbn : (n : Int) ≤ b
    ·have c2_ : decide ((n : Int) ≤ b) = true := decide_eq_true hbn
     have HX := Aside0.mk (HSAME.out (.inr (.inr (.inl (by have := HNG.out; omega)))))
     clear hb0 hbn
     go_wp2_with (go_at_call 25; refine (HLA.out _ HA4.out.bel).mono ?_; rintro e w5 ⟨rfl, hb5⟩; have HB5 := Aside0.mk hb5; clear hb5)
     go_meet
     exact HSK.out _ HB5.out HX.out
    ·have c2_ : decide ((n : Int) ≤ b) = false := decide_eq_false hbn
     by_cases hbz : b = 0
     ·have c3 : (b == 0) = true := by simpa using hbz
      have HX := Aside0.mk (HSAME.out (.inr (.inr (.inr hbz))))
      clear hb0 hbn hbz
      go_wp2_with (go_at_call 25; refine (HLA.out _ HA4.out.bel).mono ?_; rintro e w5 ⟨rfl, hb5⟩; have HB5 := Aside0.mk hb5; clear hb5)
      go_meet
      exact HSK.out _ HB5.out HX.out
     ·have c3 : (b == 0) = false := by simpa using hbz
      clear hb0 hbn hbz
      cases lb with
      | true =>
       go_wp2_with (first | (go_at_call 25; with_reducible refine (HLA.out _ HA4.out.bel).mono ?_; rintro e w5 ⟨rfl, hb5⟩; have p0' := cell_bel hb5 p0; have p1' := cell_bel hb5 p1; have p2' := cell_bel hb5 p2; have HB5 := Aside0.mk hb5; clear hb5) | (go_at_call 25; with_reducible refine (HLB.out _ (HBT.out _ HB5.out)).mono ?_; rintro e w6 ⟨rfl, hb6⟩; have HB6' := Aside0.mk (HB5.out.trans (hb6.mono HB5.out.size)); clear hb6) | (go_at_call 26; refine (HID.out _ _ _ (HRC.out _ HB6'.out)).mono ?_; rintro e w7 ⟨v7, rfl, ho7, hb7⟩; obtain ⟨AY, cY, rfl⟩ := Kd.R_slice ho7; rw [HN.out.2.2.2]; have HO7 := Aside0.mk ho7; obtain ⟨f9, d9⟩ := HF9.out _ (HB6'.out.trans (hb7.mono HB6'.out.size)); have HB7 := Aside0.mk hb7; clear ho7 hb7))
       go_meet
       have hz := (HA4.out.below HB6'.out).put HB7.out HO7.out
       rw [HN.out.2.2.2] at hz
       exact ⟨AY, cY, ⟨hz⟩⟩
      | false =>
       obtain ⟨top, etop⟩ : ∃ top, top = commonB l2 a b := ⟨_, rfl⟩
       have hso := HSO.out (by simp) (by simp)
       rw [← etop] at hso
       have HSV0 := Aside0.mk hso
       have HCM' := HCM.out
       rw [← etop] at HCM'
       have HCM2 := Aside0.mk (fun W (hW : Below W4.heap.size W4 W) => HCM' W AG cG AI cI (HST.out.below (HBT.out W hW)))
       have HUN2 := Aside0.mk (fun W (hW : Below W4.heap.size W4 W) => HUN.out top W AG cG AI cI kp' (HST.out.below (HBT.out W hW)))
       clear HSO hso HCM HCM' etop HUN HID HSK HSAME
       go_upto_region 4 with (first | (go_at_call 25; with_reducible refine (HLA.out _ HA4.out.bel).mono ?_; rintro e w5 ⟨rfl, hb5⟩; have p0' := cell_bel hb5 p0; have p1' := cell_bel hb5 p1; have p2' := cell_bel hb5 p2; have HB5 := Aside0.mk hb5; clear hb5) | (go_at_call 25; with_reducible refine (HLB.out _ (HBT.out _ HB5.out)).mono ?_; rintro e w6 ⟨rfl, hb6⟩; have HB6' := Aside0.mk (HB5.out.trans (hb6.mono HB5.out.size)); clear hb6))
       clear p0 p1 p2 p0' p1' p2' HLA HLB
       go_region_held3 (fun W => W.cell? ⟨w.heap.size, 0, none⟩ = some (.slice AG n cG) ∧ W.cell? ⟨w.heap.size, 1, none⟩ = some (.slice AI n cI) ∧ W.cell? ⟨w.heap.size, 2, none⟩ = some (.bool kp'))
        (first | exact HKE.out _ (HBT.out _ HB6'.out) | exact HKE.out _ (HBT.out _ HB10.out) | exact HKE.out _ (HBT.out _ HB11.out) | exact HKE.out _ (HBT.out _ HB12.out) | exact HKE.out _ ((HBT.out _ HB12.out).setCell (p := ⟨B9, 1, none⟩) HA4.out.at9 _) | exact HKE.out _ (HBT.out _ (below_drew1 HB6'.out)))
        (first
         | (go_at_call 29; refine bel_call (w := W4) (HCM2.out _) (by repeat (first | with_reducible exact HB6'.out | apply pw_below_drewN | apply below_drew1 | apply below_drew)) ?_; rintro e w10 ⟨rfl, hb10⟩ hW; have HB10 := Aside0.mk (hW.trans (hb10.mono hW.size)); clear hb10 hW)
         | (go_at_call 28; refine bel_call (w := W4) (HUN2.out _) (by repeat (first | with_reducible exact HB10.out | apply pw_below_drewN | apply below_drew1 | apply below_drew)) ?_; rintro e w11 ⟨Bt, Bb, Ab, cb, rfl, ht, hbb, hCb, hcb, hb11⟩ hW; have HB11 := Aside0.mk (hW.trans (hb11.mono hW.size)); have HSV := Aside0.mk (fun W (hW : Below w11.heap.size w11 W) => HSV0.out W A8 c8 AG cG AI cI Bt Bb Ab cb (HRC.out W (HB11.out.trans (hW.mono HB11.out.size))) (HST.out.below (HBT.out W (HB11.out.trans (hW.mono HB11.out.size)))) (cell_bel hW ht) (cell_bel hW hbb) (Kd.C_below hCb hW) hcb); clear ht hbb hCb hcb hb11 hW)
         | (go_at_call 27; refine bel_call (w := w11) (HSV.out _) (by repeat (first | exact Below.refl _ _ | apply pw_below_drewN | apply below_drew1 | apply below_drew)) ?_; rintro e w12 ⟨v12, rfl, ho12, hb12⟩ hW; obtain ⟨AY, cY, rfl⟩ := Kd.R_slice ho12; rw [HN.out.2.2.2]; have HO12 := Aside0.mk ho12; have HBS12 := Aside0.mk (hW.trans (hb12.mono hW.size)); have HB12 := Aside0.mk (HB11.out.trans ((hW.trans (hb12.mono hW.size)).mono HB11.out.size)); obtain ⟨f9, d9⟩ := HF9.out _ HB12.out; clear ho12 hb12 hW))
       all_goals go_wp2
       go_meet
       have hz := (HA4.out.below HB11.out).put HBS12.out HO12.out
       rw [HN.out.2.2.2] at hz
       exact ⟨AY, cY, ⟨hz⟩⟩
 case rest =>
  obtain ⟨AX, cX, HA⟩ := hcut
  clear HA4 HSAME HSO HWW HCL HID HUN hbl
  have hq := HA.out.blk
  rw [HN.out.2.2.1, HN.out.2.2.2] at hq
  have hbw := HA.out.bel
  have hp := heap_bel HB3.out hbw
  have hz := heap_bel HB6.out hbw
  have HKE : Aside0 (∀ W : World, (∀ k, k = w.heap.size ∨ k = B9 → W.heap[k]? = wc.heap[k]?) → W.cell? ⟨w.heap.size, 0, none⟩ = some (.slice AG n cG) ∧ W.cell? ⟨w.heap.size, 1, none⟩ = some (.slice AI n cI) ∧ W.cell? ⟨w.heap.size, 2, none⟩ = some (.bool kp') ∧ W.cell? ⟨B9, 0, none⟩ = some (.slice A8 n c8) ∧ W.cell? ⟨B9, 1, none⟩ = some (.slice AX n cX) ∧ W.cell? ⟨B9, 2, none⟩ = some (.bool true)) := ⟨fun W hW => by
   have h1 := (hW _ (.inl rfl)).trans hp
   have h2 := (hW _ (.inr rfl)).trans hq
   exact ⟨cell_of_blk (j := 0) h1 rfl, cell_of_blk (j := 1) h1 rfl, cell_of_blk (j := 2) h1 rfl, cell_of_blk (j := 0) h2 rfl, cell_of_blk (j := 1) h2 rfl, cell_of_blk (j := 2) h2 rfl⟩⟩
  have HKB : Aside0 (∀ W, Below wc.heap.size wc W → ∀ k, k = w.heap.size ∨ k = B9 → W.heap[k]? = wc.heap[k]?) := ⟨fun W hW k hk => hW.block k (by
   have h1 := lt_of_heap hq
   have h2 := lt_of_heap hp
   rcases hk with e | e <;> omega)⟩
  have HK3 : Aside0 (∀ (W : World) v0 v1 v2, (∀ k, k = w.heap.size ∨ k = B9 → W.heap[k]? = wc.heap[k]?) → ∀ k, k = w.heap.size ∨ k = B9 → (((W.setCell ⟨w.heap.size + 1, 0, none⟩ v0).setCell ⟨w.heap.size + 1, 1, none⟩ v1).setCell ⟨w.heap.size + 1, 2, none⟩ v2).heap[k]? = wc.heap[k]?) := ⟨fun W v0 v1 v2 h k hk => (three_other (by have := HS9.out; rcases hk with e | e <;> omega) _ _ _).trans (h k hk)⟩
  have HSTT : Aside0 (∀ W : World, (∀ k, W1.heap.size ≤ k → k < wc.heap.size → W.heap[k]? = wc.heap[k]?) → StC W A8 c8 AX cX c2 l3) := ⟨fun W hW => by
   have h1 := Kd.S_reads' (Kd.S_step (w1 := W) (Kd.S_bound HA.out.sg) (fun k hk _ => hW k hk.2.1 hk.2.2.1))
   have h2 := Kd.R_reads' (Kd.R_move (w1 := W) (Kd.R_bound HA.out.ri) (fun k hk => hW k hk.2.1 hk.2.2.1))
   exact ⟨h1.2.2, h1.2.1, h2.2.2, h2.2.1⟩⟩
  obtain ⟨p0, p1, p2, q0, q1, q2⟩ := HKE.out wc (fun _ _ => rfl)
  have f0 := frozen_of_blk 0 hz
  have f1 := frozen_of_blk 1 hz
  have f2 := frozen_of_blk 2 hz
  have d0 := cell_of_blk (j := 0) hz rfl
  have d1 := cell_of_blk (j := 1) hz rfl
  have d2 := cell_of_blk (j := 2) hz rfl
  have HZ := Aside0.mk hz
  have HBW1 := Aside0.mk hbw
  have hszz := lt_of_heap hz
  have HSZ := Aside0.mk hszz
  clear hq hbw hp hz hszz
  go_upto_region 8 with (fail)
  go_region_held3 (fun W => W.cell? ⟨w.heap.size, 0, none⟩ = some (.slice AG n cG) ∧ W.cell? ⟨w.heap.size, 1, none⟩ = some (.slice AI n cI) ∧ W.cell? ⟨w.heap.size, 2, none⟩ = some (.bool kp') ∧ W.cell? ⟨B9, 0, none⟩ = some (.slice A8 n c8) ∧ W.cell? ⟨B9, 1, none⟩ = some (.slice AX n cX) ∧ W.cell? ⟨B9, 2, none⟩ = some (.bool true))
   (first | exact HKE.out _ (HKB.out _ (Below.refl _ _)) | exact HKE.out _ (HKB.out _ (below_drew1 (Below.refl _ _))) | exact HKE.out _ (HKB.out _ HB8.out) | exact HKE.out _ (HK3.out _ _ _ _ (HKB.out _ (Below.refl _ _))) | exact HKE.out _ (HK3.out _ _ _ _ (HKB.out _ HB8.out)))
   (first | (go_at_call 30; refine bel_call (w := wc) (fun hW => HCH.out _ _ _ _ _ _ _ _ _ _ (HST.out.below (HBW1.out.trans (hW.mono HBW1.out.size))) (HSTT.out _ (fun k _ h2 => hW.block k h2))) (by repeat (first | exact Below.refl _ _ | apply pw_below_drewN | apply below_drew1 | apply below_drew)) ?_; rintro e w8 ⟨v8, rfl, ho8, hb8⟩ hW; obtain ⟨A9, c9, rfl⟩ := Kd.R_slice ho8; have HO8 := Aside0.mk ho8; have HB8 := Aside0.mk (hW.trans (hb8.mono hW.size)); have hz8 := heap_bel HZ.out HB8.out; have f0' := frozen_of_blk 0 hz8; have f1' := frozen_of_blk 1 hz8; have f2' := frozen_of_blk 2 hz8; have d0' := cell_of_blk (j := 0) hz8 rfl; have d1' := cell_of_blk (j := 1) hz8 rfl; have d2' := cell_of_blk (j := 2) hz8 rfl; have HZ8 := Aside0.mk hz8; clear ho8 hb8 hW hz8))
  go_wp2
  refine bodyPost_ret (results_ct rfl _ _ (w.heap.size + 1) 29 #[.slice A8 n c8, .slice AX n cX, .bool true] (0, 0) _ rfl (three_put HZ8.out _ _ _) hu rfl (by kernel_rfl)) rfl ?_
  have hs1 := HS1.out
  have hsb := HBW1.out.size
  have e1 := add_end (w := w) (wz := (((w8.setCell ⟨w.heap.size + 1, 0, none⟩ (.slice A8 n c8)).setCell ⟨w.heap.size + 1, 1, none⟩ (.slice AX n cX)).setCell ⟨w.heap.size + 1, 2, none⟩ (.bool true))) (v8 := .slice A9 (changedB l2 l3).length c9) (r4 := changedB l2 l3) HA.out (by omega) (fun k h1 h2 => (three_other (by omega) _ _ _).trans (HB8.out.block k h2)) (Kd.R_mono (Kd.R_move (Kd.R_bound HO8.out) (fun k hk => three_other (by have h3 : wc.heap.size ≤ k := hk.2.1; omega) _ _ _)) (fun _ _ => trivial))
  rw [HN.out.2.2.1, HN.out.2.2.2] at e1
  exact ⟨_, _, _, rfl, e1.1, e1.2.1, e1.2.2, three_below (HBW.out.trans ((HBW1.out.trans (HB8.out.mono hsb)).mono HBW.out.size)) (Nat.le_succ _) _ _ _⟩
end Go.Proofs.YtemcmcnhpdkdfaaGreat.P
namespace Go.Proofs.YtemcmcnhpdkdfaaGreat.P
open Go.RowKit Go.Shelf Go.Lib Go.Sort Go.Proofs.YtemcmcnhpdkdfaaGreatW.PrintWords Go.Proofs.YtemcmcnhpdkdfaaGreatW.PrintLast Go.Proofs.YtemcmcnhpdkdfaaGreatW.PrintMore
def domup_Del.f (k : Nat) (g : List (List Int)) (l : List Int) (kp : Bool) (a b : Int) : Option (List (List Int) × List Int × Bool × List Int) :=
 (dom_Idoms.f k g).bind fun l2 => (dom_Idoms.f k (withoutE (clean g) a b)).bind fun l3 => if smallB g = true ∧ l.length ≤ 100000 ∧ madeB g l l2 kp = true then some (withoutE (clean g) a b, l3, true, changedB l2 l3) else none
set_option maxHeartbeats 8000000 in
set_option maxRecDepth 100000 in
theorem domup_Del.calls (k : Nat) (A0 : Option Addr) (c0 : Nat) (g : List (List Int)) (A1 : Option Addr) (c1 : Nat) (l : List Int) (kp : Bool) (a b : Int) (r1 : List (List Int)) (r2 : List Int) (r3 : Bool) (r4 : List Int) (w : World) (hr0 : Kd.C (Kd.slice 3 (Kd.int .i64)) w A0 g.length g) (hc0 : g.length ≤ c0) (hr1 : Kd.C (Kd.int .i64) w A1 l.length l) (hc1 : l.length ≤ c1) (h : domup_Del.f k g l kp a b = some (r1, r2, r3, r4)) :
  Calls Tryz.prog 9 #[.agg #[.slice A0 g.length c0, .slice A1 l.length c1, .bool kp], .int .i64 a, .int .i64 b] w fun e w' => ∃ v0_ v1_ v2_ : Value, e = .returned (.tuple #[.agg #[v0_, v1_, .bool r3], v2_]) ∧ Kd.S (Kd.slice 3 (Kd.int .i64)) 23 w' w.heap.size (fun k_ => some k_ ≠ (v1_ : Value).ownBlock ∧ some k_ ≠ (v2_ : Value).ownBlock) v0_ r1 ∧ Kd.R (Kd.int .i64) 3 w' w.heap.size (fun k_ => some k_ ≠ (v2_ : Value).ownBlock) v1_ r2 ∧ Kd.R (Kd.int .i64) 3 w' w.heap.size (fun k_ => some k_ ≠ (v1_ : Value).ownBlock) v2_ r4 ∧ Below w.heap.size w w' := by
 unfold domup_Del.f at h
 obtain ⟨l2, hl2, h⟩ := Option.bind_eq_some_iff.1 h
 obtain ⟨l3, hl3, h⟩ := Option.bind_eq_some_iff.1 h
 split at h
 case isFalse => cases h
 rename_i hcond
 have hs := smallB_iff.1 hcond.1
 have hll := hcond.2.1
 have hkp := madeB_iff hcond.2.2
 simp only [Option.some.injEq, Prod.mk.injEq] at h
 obtain ⟨rfl, rfl, rfl, rfl⟩ := h
 have hu := Tryz.underlying29
 have hv := clean_Valid g
 have hr := clean_rises g
 have hcl := clean_len g
 have hgn := hs.2
 have hD2 := idoms_dom hs hl2
 have hE2 : Ev (fun k => dom_Idoms.f k g) l2 := Ev.of (fun k => dom_Idoms.mono g k) hl2
 obtain ⟨c2, ec2⟩ : ∃ c2, c2 = withoutE (clean g) a b := ⟨_, rfl⟩
 have hv2 : Valid c2 := by rw [ec2]; exact withoutE_Valid hv
 have hr2 : ∀ l ∈ c2, l.Pairwise (· < ·) := by rw [ec2]; exact withoutE_rises hr
 have hn2 : c2.length = g.length := by rw [ec2, withoutE_len, hcl]
 have hs2 : Small c2 := small_of hv2 hr2 (by rw [hn2]; exact hgn)
 have hcc : clean c2 = c2 := clean_self hv2 hr2
 rw [← ec2] at hl3
 have hD3 := idoms_dom hs2 hl3
 rw [hcc] at hD3
 have hl2n : l2.length = g.length := by rw [hD2.len, hcl]
 have hl3n : l3.length = g.length := by rw [hD3.len, hn2]
 have hfc : fits (clean g) = true := fits_clean hs.1
 obtain ⟨kc, hkc⟩ : ∃ kc, ∀ kp', domup_changed.f kc (clean g) l2 kp' c2 l3 true = some (changedB l2 l3) := by
  obtain ⟨K1, h1⟩ := changed_ev (clean g) l2 true c2 l3 true (by omega) (by omega)
  obtain ⟨K2, h2⟩ := changed_ev (clean g) l2 false c2 l3 true (by omega) (by omega)
  refine ⟨max K1 K2, fun kp' => ?_⟩
  cases kp'
  ·exact h2 _ (Nat.le_max_right ..)
  ·exact h1 _ (Nat.le_max_left ..)
 have hst : StC w A0 c0 A1 c1 g l := ⟨hr0, hc0, hr1, hc1⟩
 have HSA := Aside0.mk (fun W (hW : Below w.heap.size w W) => sane_c A0 c0 g A1 c1 l kp l2 w W hW hst hs.1 ⟨hll, by omega⟩ hE2 hkp)
 have HSAME : Aside0 ((lostB l2 a = true ∨ lostB l2 b = true ∨ b = 0) → l3 = l2) := ⟨fun hno => del_same hv hD2 hno (by rw [← ec2]; exact hD3)⟩
 obtain ⟨rr, hrr, hrl, hri⟩ := reach_now hs2 0
 rw [hcc] at hri
 have HRE : Aside0 (∀ W A c, RowsC W A c c2 → Calls Tryz.prog 34 #[.slice A c2.length c, .int .i64 0] W fun e w' => ∃ v0_ : Value, e = .returned v0_ ∧ Kd.R Kd.bool 4 w' W.heap.size (fun _ => True) v0_ rr ∧ Below W.heap.size W w') := ⟨fun W A c h => graph_Reach.calls A c c2 0 rr W h.1 h.2 hrr⟩
 have HRL : Aside0 (rr.length = g.length) := ⟨hrl.trans hn2⟩
 have HSO : Aside0 (lostB l2 b = false → b ≠ 0 → rdOf false rr b = true → ∀ W A8 c8 AG cG AI cI Bt Bb Ab cb, RowsC W A8 c8 c2 → StC W AG cG AI cI (clean g) l2 → W.cell? ⟨Bt, 0, none⟩ = some (.int .i64 (rd l2 b)) → W.cell? ⟨Bb, 0, none⟩ = some (.slice Ab (belowB l2 (rd l2 b)).length cb) → dI.C W Ab (belowB l2 (rd l2 b)).length (belowB l2 (rd l2 b)) → (belowB l2 (rd l2 b)).length ≤ cb →
   Calls Tryz.prog 27 #[.slice A8 c2.length c8, .slice AI l2.length cI, .func (.func 52) #[] #[.pointer (some ⟨Bt, 0, none⟩), .pointer (some ⟨Bb, 0, none⟩)]] W fun e w' => ∃ v0_ : Value, e = .returned v0_ ∧ dI.R 3 w' W.heap.size (fun _ => True) v0_ l3 ∧ Below W.heap.size W w') := ⟨fun hb hb0 hrb W A8 c8 AG cG AI cI Bt Bb Ab cb h1 h3 h4 h5 h6 h7 => by
  have hbb : (belowB l2 (rd l2 b)).length ≤ 1000000 := by
   unfold belowB
   rw [List.length_map]
   refine Nat.le_trans (List.length_filter_le _ _) ?_
   rw [List.length_range]
   omega
  have hnd : Rc (clean g) b := by
   by_cases q : Rc (clean g) b
   ·exact q
   ·rw [(lostB_iff hD2 b).2 q] at hb; cases hb
  have hn0 : 0 < c2.length := by
   have := hnd.1.1
   have := hnd.1.2
   omega
  have hre : Way (withoutE (clean g) a b) 0 b := by
   rw [← ec2]
   exact ((hri b hnd.1.1 (by have := hnd.1.2; omega)).1 hrb).2
  obtain ⟨o, e1, e2, e3, e4, K, e5⟩ := del_anew hv hr (by omega) hD2 hb hb0 hre (by rw [← ec2]; exact hD3)
  rw [← ec2] at e1 e2 e3 e5
  exact solve_c A8 c8 c2 AI cI l2 _ _ Bt Bb Ab cb K o l3 W h1.1 h1.2 hs2.1 hn0 e1 e2 e3 e4 h3.ii (by omega) h4 h5 h6 h7 hbb (e5 K (Nat.le_refl _))⟩
 have HNB : Aside0 (lostB l2 b = false → 0 ≤ b ∧ b < (g.length : Int)) := ⟨fun hb => by
  have hnd : Rc (clean g) b := by
   by_cases q : Rc (clean g) b
   ·exact q
   ·rw [(lostB_iff hD2 b).2 q] at hb; cases hb
  have := hnd.1.1
  have := hnd.1.2
  omega⟩
 have HWW : Aside0 (∀ W AG cG AI cI, StC W AG cG AI cI (clean g) l2 → Calls Tryz.prog 33 #[.slice AG (clean g).length cG, .int .i64 a, .int .i64 b] W fun e w' => ∃ v0_ : Value, e = .returned v0_ ∧ Kd.S (Kd.slice 3 (Kd.int .i64)) 23 w' W.heap.size (fun _ => True) v0_ c2 ∧ Below W.heap.size W w') :=
  ⟨fun W AG cG AI cI h => graph_Without.calls AG cG (clean g) a b c2 W h.gr h.gc (by unfold graph_Without.f; rw [if_pos hfc, clean_clean, ec2])⟩
 have HCL : Aside0 (∀ W AG cG AI cI, StC W AG cG AI cI (clean g) l2 → Calls Tryz.prog 24 #[.slice AI l2.length cI] W fun e w' => ∃ v, e = .returned v ∧ dI.R 3 w' W.heap.size (fun _ => True) v l2 ∧ Below W.heap.size W w') := ⟨fun W AG cG AI cI h => clone_c AI cI l2 W h.ii (by omega)⟩
 have HID : Aside0 (∀ W A c, RowsC W A c c2 → Calls Tryz.prog 26 #[.slice A c2.length c] W fun e w' => ∃ v0_ : Value, e = .returned v0_ ∧ Kd.R (Kd.int .i64) 3 w' W.heap.size (fun _ => True) v0_ l3 ∧ Below W.heap.size W w') := ⟨fun W A c h => dom_Idoms.calls k A c c2 l3 W h.1 h.2 hl3⟩
 have HLO : Aside0 (∀ (x : Int) W AG cG AI cI kp', StC W AG cG AI cI (clean g) l2 → Calls Tryz.prog 25 #[.agg #[.slice AG (clean g).length cG, .slice AI l2.length cI, .bool kp'], .int .i64 x] W fun e w' => e = .returned (.bool (lostB l2 x)) ∧ Below W.heap.size W w') := ⟨fun x W AG cG AI cI kp' h => domup_State_lost.calls AG cG (clean g) AI cI l2 kp' x _ W h.gr h.gc h.ii h.ic (lost_f _ _ _ _)⟩
 have HCH : Aside0 (∀ W AG cG AI cI kp' A8 c8 AX cX, StC W AG cG AI cI (clean g) l2 → StC W A8 c8 AX cX c2 l3 → Calls Tryz.prog 30 #[.agg #[.slice AG (clean g).length cG, .slice AI l2.length cI, .bool kp'], .agg #[.slice A8 c2.length c8, .slice AX l3.length cX, .bool true]] W fun e w' => ∃ v0_ : Value, e = .returned (v0_) ∧ Kd.R (Kd.int .i64) 3 w' W.heap.size (fun _ => True) v0_ (changedB l2 l3) ∧ Below W.heap.size W w') :=
  ⟨fun W AG cG AI cI kp' A8 c8 AX cX h1 h2 => domup_changed.calls kc AG cG (clean g) AI cI l2 kp' A8 c8 c2 AX cX l3 true _ W h1.gr h1.gc h1.ii h1.ic h2.gr h2.gc h2.ii h2.ic (hkc kp')⟩
 have HUN : Aside0 (∀ (top : Int) W AG cG AI cI kp', StC W AG cG AI cI (clean g) l2 → Calls Tryz.prog 28 #[.agg #[.slice AG (clean g).length cG, .slice AI l2.length cI, .bool kp'], .int .i64 top] W fun e w' => ∃ Bt Bb Ab cb, e = .returned (.func (.func 52) #[] #[.pointer (some ⟨Bt, 0, none⟩), .pointer (some ⟨Bb, 0, none⟩)]) ∧ w'.cell? ⟨Bt, 0, none⟩ = some (.int .i64 top) ∧ w'.cell? ⟨Bb, 0, none⟩ = some (.slice Ab (belowB l2 top).length cb) ∧ dI.C w' Ab (belowB l2 top).length (belowB l2 top) ∧ (belowB l2 top).length ≤ cb ∧ Below W.heap.size W w') :=
  ⟨fun top W AG cG AI cI kp' h => under_c AG _ cG AI cI l2 kp' top W h.ii h.ic (by omega)⟩
 have hbl : ∀ top, (belowB l2 top).length ≤ 1000000 := fun top => by
  unfold belowB
  rw [List.length_map]
  refine Nat.le_trans (List.length_filter_le _ _) ?_
  rw [List.length_range]
  omega
 obtain ⟨n, en⟩ : ∃ n, n = (clean g).length := ⟨_, rfl⟩
 have enl : l2.length = n := by rw [en, hcl, hl2n]
 have en2 : c2.length = n := by rw [en, hcl, hn2]
 have en3 : l3.length = n := by rw [en, hcl, hl3n]
 rw [← en] at HLO HCH HUN HWW
 rw [enl] at HLO HCH HUN HCL
 rw [en2] at HID HCH HSO HRE
 rw [enl] at HSO
 rw [en3] at HCH
 have HNG : Aside0 (g.length = n) := ⟨by rw [en, hcl]⟩
 have HN := Aside0.mk (And.intro en.symm (And.intro enl (And.intro en2 en3)))
 obtain ⟨n0, en0⟩ : ∃ n0, n0 = g.length := ⟨_, rfl⟩
 obtain ⟨n1, en1⟩ : ∃ n1, n1 = l.length := ⟨_, rfl⟩
 rw [← en0, ← en1] at HSA
 rw [← en0, ← en1, ← ec2]
 clear hr0 hc0 hr1 hc1 hcond hs hll hkp hl2 hl3 hv hr hcl hgn hD2 hE2 hv2 hr2 hn2 hs2 hcc hD3 hl2n hl3n hfc hkc hst en enl en2 en3 en0 en1 ec2
 go_enter Tryz.func9, Tryz.ntmps9
 go_upto_region 2 with (go_at_call 22; refine (HSA.out _ (below_alloc (below_alloc (Below.refl _ _) _) _)).mono ?_; rintro e w1 ⟨AG, cG, AI, cI, kp', rfl, hst1, hb1⟩; have HS1 := Aside0.mk hst1; have HB1 := Aside0.mk hb1; obtain ⟨hp, hq, hs3, hw3⟩ := two_boxes hb1; have f0 := frozen_of_blk 0 hp; have f1 := frozen_of_blk 1 hp; have f2 := frozen_of_blk 2 hp; have d0 := cell_of_blk (j := 0) hp rfl; have d1 := cell_of_blk (j := 1) hp rfl; have d2 := cell_of_blk (j := 2) hp rfl; have HP := Aside0.mk hp; have HQ := Aside0.mk hq; have HW3 := Aside0.mk hw3; clear hst1 hb1 hp hq hw3; rw [HN.out.1, HN.out.2.1])
 obtain ⟨W1, hW1⟩ : ∃ W1, W1 = (((w1.setCell ⟨w.heap.size, 0, none⟩ (.slice AG n cG)).setCell ⟨w.heap.size, 1, none⟩ (.slice AI n cI)).setCell ⟨w.heap.size, 2, none⟩ (.bool kp')) := ⟨_, rfl⟩
 have hB3 : W1.heap[w.heap.size]? = some (.cells #[.slice AG n cG, .slice AI n cI, .bool kp'] 29 (0, 0)) := by rw [hW1]; exact three_put HP.out _ _ _
 have hB6 : W1.heap[w.heap.size + 1]? = some (.cells #[.slice none 0 0, .slice none 0 0, .bool false] 29 (0, 0)) := by rw [hW1]; exact (three_other (by omega) _ _ _).trans HQ.out
 have hBW : Below w.heap.size w W1 := by rw [hW1]; exact three_below HW3.out (Nat.le_refl _) _ _ _
 have hst1 : StC W1 AG cG AI cI (clean g) l2 := HS1.out W1 hBW (fun k h1 h2 => by rw [hW1]; exact three_other (by simp only [size_alloc1] at h1; omega) _ _ _)
 rw [← hW1]
 clear hW1 f0 f1 f2 d0 d1 d2 HP HQ HW3 HS1 HB1 hs3 HSA
 have p0 := cell_of_blk (j := 0) hB3 rfl
 have p1 := cell_of_blk (j := 1) hB3 rfl
 have p2 := cell_of_blk (j := 2) hB3 rfl
 have hs1 := lt_of_heap hB6
 have HS1 := Aside0.mk hs1
 have HB3 := Aside0.mk hB3
 have HB6 := Aside0.mk hB6
 have HBW := Aside0.mk hBW
 have HST := Aside0.mk hst1
 clear hB3 hB6 hBW hst1 hs1
 go_upto_region 3 with (go_at_call 33; refine (HWW.out _ _ _ _ _ HST.out).mono ?_; rintro e w2 ⟨v2, rfl, ho2, hb2⟩; obtain ⟨A8, c8, rfl, _⟩ := Kd.S_reads ho2; rw [HN.out.2.2.1]; have p1' := cell_bel hb2 p1; have HO2 := Aside0.mk ho2; have HB2 := Aside0.mk hb2; clear ho2 hb2)
 go_cut [9] from 17 to 21 (fun v9 W4 => ∃ B9 A20 c20, v9 = .pointer (some ⟨B9, 0, none⟩) ∧ Aside0 (AddS W1 W4 B9 A8 c8 c2 A20 c20 l2) ∧ Aside0 (w.heap.size + 1 < B9))
 case first =>
  go_wp2_with (go_at_call 24; refine (HCL.out _ _ _ _ _ (HST.out.below HB2.out)).mono ?_; rintro e w3 ⟨v3, rfl, ho3, hb3⟩; obtain ⟨A20, c20, rfl⟩ := Kd.R_slice ho3; rw [HN.out.2.1]; have HO3 := Aside0.mk ho3; have HB3' := Aside0.mk hb3; clear ho3 hb3)
  go_meet
  obtain ⟨W4, hW4⟩ : ∃ W4, W4 = w3.alloc (.cells #[.slice A8 n c8, .slice A20 n c20, .bool true] 29) := ⟨_, rfl⟩
  have hx4 : Below w3.heap.size w3 W4 := by rw [hW4]; exact below_alloc (Below.refl _ _) _
  have hs2 := HB2.out.size
  have hs3 := HB3'.out.size
  have hadd : AddS W1 W4 w3.heap.size A8 c8 c2 A20 c20 l2 := by
   refine ⟨HB2.out.trans ((HB3'.out.trans (hx4.mono hs3)).mono hs2), by omega, ?_, ?_, ?_⟩
   ·rw [hW4, HN.out.2.2.1, HN.out.2.1]
    exact heap_new _ _ _ rfl
   ·have hown := fun j (e : (Value.slice A20 l2.length c20).ownBlock = some j) => Kd.R_base HO3.out j e
    exact Kd.S_mono (Kd.S_below (Kd.S_below (Kd.S_bound HO2.out) HB3'.out) hx4) (fun j hk => ⟨by have := hk.2.2.1; omega, fun e => by have := hown j e.symm; have := hk.2.2.1; omega⟩)
   ·exact Kd.R_lower (Kd.R_mono (Kd.R_below (Kd.R_bound HO3.out) hx4) (fun j hk => by have := hk.2.2.1; omega)) hs2
  rw [← hW4]
  exact ⟨w3.heap.size, A20, c20, rfl, ⟨hadd⟩, ⟨by have := HS1.out; omega⟩⟩
 case rest =>
 obtain ⟨B9, A20, c20, rfl, HA4, HS9⟩ := hcut
 clear HO2 HB2 p0 p1 p1' p2
 obtain ⟨W4, rfl⟩ : ∃ W4, W4 = wc := ⟨_, rfl⟩
 go_upto_block 0 with (fail)
 go_cut [] from 22 to 56 (fun wx => ∃ AX cX, Aside0 (AddS W1 wx B9 A8 c8 c2 AX cX l3))
 case first =>
  have HKE : Aside0 (∀ W, Below W1.heap.size W1 W → W.cell? ⟨w.heap.size, 0, none⟩ = some (.slice AG n cG) ∧ W.cell? ⟨w.heap.size, 1, none⟩ = some (.slice AI n cI) ∧ W.cell? ⟨w.heap.size, 2, none⟩ = some (.bool kp')) := ⟨fun W hW => ⟨cell_of_blk (j := 0) (heap_bel HB3.out hW) rfl, cell_of_blk (j := 1) (heap_bel HB3.out hW) rfl, cell_of_blk (j := 2) (heap_bel HB3.out hW) rfl⟩⟩
  obtain ⟨p0, p1, p2⟩ := HKE.out _ HA4.out.bel
  have HBT : Aside0 (∀ W, Below W4.heap.size W4 W → Below W1.heap.size W1 W) := ⟨fun W hW => HA4.out.bel.trans (hW.mono HA4.out.bel.size)⟩
  have HRC : Aside0 (∀ W, Below W4.heap.size W4 W → RowsC W A8 c8 c2) := ⟨fun W hW => by have h := Kd.S_reads' (HA4.out.below hW).sg; exact ⟨h.2.2, h.2.1⟩⟩
  have HF9 : Aside0 (∀ W, Below W4.heap.size W4 W → W.frozen? ⟨B9, 1, none⟩ = false ∧ W.cell? ⟨B9, 1, none⟩ = some (.slice A20 n c20)) := ⟨fun W hW => by
   have h := (HA4.out.below hW).blk
   rw [HN.out.2.1] at h
   exact ⟨frozen_of_blk 1 h, cell_of_blk (j := 1) h rfl⟩⟩
  obtain ⟨la, ela⟩ : ∃ la, la = lostB l2 a := ⟨_, rfl⟩
  obtain ⟨lb, elb⟩ : ∃ lb, lb = lostB l2 b := ⟨_, rfl⟩
  have HLA := Aside0.mk (fun W (hW : Below W1.heap.size W1 W) => HLO.out a W AG cG AI cI kp' (HST.out.below hW))
  have HLB := Aside0.mk (fun W (hW : Below W1.heap.size W1 W) => HLO.out b W AG cG AI cI kp' (HST.out.below hW))
  rw [← ela] at HLA HSAME
  rw [← elb] at HLB HSAME HNB HSO
  have HSK : Aside0 (∀ w5, Below W4.heap.size W4 w5 → l3 = l2 → ∃ AX cX, Aside0 (AddS W1 w5 B9 A8 c8 c2 AX cX l3)) := ⟨fun w5 hb e => ⟨A20, c20, ⟨by rw [e]; exact HA4.out.below hb⟩⟩⟩
  clear HLO ela elb
  cases la with
  | true =>
   go_wp2_with (go_at_call 25; refine (HLA.out _ HA4.out.bel).mono ?_; rintro e w5 ⟨rfl, hb5⟩; have HB5 := Aside0.mk hb5; clear hb5)
   go_meet
   exact HSK.out _ HB5.out (HSAME.out (.inl (by simp)))
  | false =>
   cases lb with
   | true =>
    go_wp2_with (first | (go_at_call 25; with_reducible refine (HLA.out _ HA4.out.bel).mono ?_; rintro e w5 ⟨rfl, hb5⟩; have p0' := cell_bel hb5 p0; have p1' := cell_bel hb5 p1; have p2' := cell_bel hb5 p2; have HB5 := Aside0.mk hb5; clear hb5) | (go_at_call 25; with_reducible refine (HLB.out _ (HBT.out _ HB5.out)).mono ?_; rintro e w6 ⟨rfl, hb6⟩; have HB6' := Aside0.mk (HB5.out.trans (hb6.mono HB5.out.size)); clear hb6))
    go_meet
    exact HSK.out _ HB6'.out (HSAME.out (.inr (.inl (by simp))))
   | false =>
    by_cases hbz : b = 0
    ·have c3 : (b == 0) = true := by simpa using hbz
     have HX := Aside0.mk (HSAME.out (.inr (.inr hbz)))
     clear hbz
     go_wp2_with (first | (go_at_call 25; with_reducible refine (HLA.out _ HA4.out.bel).mono ?_; rintro e w5 ⟨rfl, hb5⟩; have p0' := cell_bel hb5 p0; have p1' := cell_bel hb5 p1; have p2' := cell_bel hb5 p2; have HB5 := Aside0.mk hb5; clear hb5) | (go_at_call 25; with_reducible refine (HLB.out _ (HBT.out _ HB5.out)).mono ?_; rintro e w6 ⟨rfl, hb6⟩; have HB6' := Aside0.mk (HB5.out.trans (hb6.mono HB5.out.size)); clear hb6))
     go_meet
     exact HSK.out _ HB6'.out HX.out
    ·have hbn := HNB.out (by first | rfl | trivial | simp)
     obtain ⟨i, rfl⟩ : ∃ i : Nat, b = (i : Int) := ⟨b.toNat, by omega⟩
     have hin : i < n := by have := HNG.out; omega
     have c3 : ((i : Int) == 0) = false := by simpa using hbz
     obtain ⟨rb, erb⟩ : ∃ rb, rb = rdOf false rr (i : Int) := ⟨_, rfl⟩
     have ERB := Aside0.mk erb
     have HRL : Aside0 (rr.length = n) := ⟨HRL.out.trans HNG.out⟩
     have HNZ := Aside0.mk hbz
     rw [← erb] at HSO
     clear hbn hbz erb HNB
     cases rb with
     | false =>
      go_wp2_with (first | (go_at_call 25; with_reducible refine (HLA.out _ HA4.out.bel).mono ?_; rintro e w5 ⟨rfl, hb5⟩; have p0' := cell_bel hb5 p0; have p1' := cell_bel hb5 p1; have p2' := cell_bel hb5 p2; have HB5 := Aside0.mk hb5; clear hb5) | (go_at_call 25; with_reducible refine (HLB.out _ (HBT.out _ HB5.out)).mono ?_; rintro e w6 ⟨rfl, hb6⟩; have HB6' := Aside0.mk (HB5.out.trans (hb6.mono HB5.out.size)); clear hb6) | (go_at_call 34; refine (HRE.out _ _ _ (HRC.out _ HB6'.out)).mono ?_; rintro e w7 ⟨v7, rfl, ho7, hb7⟩; obtain ⟨AR, cR, rfl⟩ := Kd.R_slice ho7; obtain ⟨adr, er, hcr⟩ := Kd.at_bool (Kd.R_reads' ho7).2.2 (i : Int) (by omega) (by have := HRL.out; omega); subst er; rw [Int.toNat_natCast] at hcr; rw [← ERB.out] at hcr; rw [HRL.out]; have HB7 := Aside0.mk (HB6'.out.trans (hb7.mono HB6'.out.size)); clear ho7 hb7) | (go_at_call 26; refine (HID.out _ _ _ (HRC.out _ HB7.out)).mono ?_; rintro e w8 ⟨v8, rfl, ho8, hb8⟩; obtain ⟨AY, cY, rfl⟩ := Kd.R_slice ho8; rw [HN.out.2.2.2]; have HO8 := Aside0.mk ho8; obtain ⟨f9, d9⟩ := HF9.out _ (HB7.out.trans (hb8.mono HB7.out.size)); have HB8 := Aside0.mk hb8; clear ho8 hb8))
      go_meet
      have hz := (HA4.out.below HB7.out).put HB8.out HO8.out
      rw [HN.out.2.2.2] at hz
      exact ⟨AY, cY, ⟨hz⟩⟩
     | true =>
      obtain ⟨top, etop⟩ : ∃ top, top = rd l2 (i : Int) := ⟨_, rfl⟩
      have hso := HSO.out (by simp) HNZ.out (by simp)
      rw [← etop] at hso
      have HSV0 := Aside0.mk hso
      have HUN2 := Aside0.mk (fun W (hW : Below W4.heap.size W4 W) => HUN.out top W AG cG AI cI kp' (HST.out.below (HBT.out W hW)))
      have hii := HST.out.ii
      obtain ⟨bI, oI, e, _, hci⟩ := C_ints hii (by have := HN.out.2.1; omega)
      subst e
      have hc1i := hci i (by have := HN.out.2.1; omega)
      have etop2 : l2.getD i 0 = top := by rw [etop]; show _ = l2.getD (Int.toNat (i : Int)) 0; rw [Int.toNat_natCast]
      rw [etop2] at hc1i
      have HKC : Aside0 (∀ W, Below W1.heap.size W1 W → W.cell? ⟨w.heap.size, 0, none⟩ = some (.slice AG n cG) ∧ W.cell? ⟨w.heap.size, 1, none⟩ = some (.slice (some ⟨bI, oI, none⟩) n cI) ∧ W.cell? ⟨w.heap.size, 2, none⟩ = some (.bool kp') ∧ W.cell? ⟨bI, oI + i, none⟩ = some (.int .i64 top)) := ⟨fun W hW => ⟨(HKE.out W hW).1, (HKE.out W hW).2.1, (HKE.out W hW).2.2, cell_bel hW hc1i⟩⟩
      clear HSO hso etop HUN HID HSK HSAME hii hci hc1i etop2 HKE
      go_upto_region 4 with (first | (go_at_call 25; with_reducible refine (HLA.out _ HA4.out.bel).mono ?_; rintro e w5 ⟨rfl, hb5⟩; have p0' := cell_bel hb5 p0; have p1' := cell_bel hb5 p1; have p2' := cell_bel hb5 p2; have HB5 := Aside0.mk hb5; clear hb5) | (go_at_call 25; with_reducible refine (HLB.out _ (HBT.out _ HB5.out)).mono ?_; rintro e w6 ⟨rfl, hb6⟩; have HB6' := Aside0.mk (HB5.out.trans (hb6.mono HB5.out.size)); clear hb6) | (go_at_call 34; refine (HRE.out _ _ _ (HRC.out _ HB6'.out)).mono ?_; rintro e w7 ⟨v7, rfl, ho7, hb7⟩; obtain ⟨AR, cR, rfl⟩ := Kd.R_slice ho7; obtain ⟨adr, er, hcr⟩ := Kd.at_bool (Kd.R_reads' ho7).2.2 (i : Int) (by omega) (by have := HRL.out; omega); subst er; rw [Int.toNat_natCast] at hcr; rw [← ERB.out] at hcr; rw [HRL.out]; have HB7 := Aside0.mk (HB6'.out.trans (hb7.mono HB6'.out.size)); clear ho7 hb7))
      clear p0 p1 p2 p0' p1' p2' HLA HLB HRE hcr
      go_region_held3 (fun W => W.cell? ⟨w.heap.size, 0, none⟩ = some (.slice AG n cG) ∧ W.cell? ⟨w.heap.size, 1, none⟩ = some (.slice (some ⟨bI, oI, none⟩) n cI) ∧ W.cell? ⟨w.heap.size, 2, none⟩ = some (.bool kp') ∧ W.cell? ⟨bI, oI + i, none⟩ = some (.int .i64 top))
       (first | exact HKC.out _ (HBT.out _ HB7.out) | exact HKC.out _ (HBT.out _ HB11.out) | exact HKC.out _ (HBT.out _ HB12.out) | exact HKC.out _ ((HBT.out _ HB12.out).setCell (p := ⟨B9, 1, none⟩) HA4.out.at9 _) | exact HKC.out _ (HBT.out _ (below_drew1 HB7.out)))
       (first
        | (go_at_call 28; refine bel_call (w := W4) (HUN2.out _) (by repeat (first | with_reducible exact HB7.out | apply pw_below_drewN | apply below_drew1 | apply below_drew)) ?_; rintro e w11 ⟨Bt, Bb, Ab, cb, rfl, ht, hbb, hCb, hcb, hb11⟩ hW; have HB11 := Aside0.mk (hW.trans (hb11.mono hW.size)); have HSV := Aside0.mk (fun W (hW : Below w11.heap.size w11 W) => HSV0.out W A8 c8 AG cG _ cI Bt Bb Ab cb (HRC.out W (HB11.out.trans (hW.mono HB11.out.size))) (HST.out.below (HBT.out W (HB11.out.trans (hW.mono HB11.out.size)))) (cell_bel hW ht) (cell_bel hW hbb) (Kd.C_below hCb hW) hcb); clear ht hbb hCb hcb hb11 hW)
        | (go_at_call 27; refine bel_call (w := w11) (HSV.out _) (by repeat (first | exact Below.refl _ _ | apply pw_below_drewN | apply below_drew1 | apply below_drew)) ?_; rintro e w12 ⟨v12, rfl, ho12, hb12⟩ hW; obtain ⟨AY, cY, rfl⟩ := Kd.R_slice ho12; rw [HN.out.2.2.2]; have HO12 := Aside0.mk ho12; have HBS12 := Aside0.mk (hW.trans (hb12.mono hW.size)); have HB12 := Aside0.mk (HB11.out.trans ((hW.trans (hb12.mono hW.size)).mono HB11.out.size)); obtain ⟨f9, d9⟩ := HF9.out _ HB12.out; clear ho12 hb12 hW))
      all_goals go_wp2
      go_meet
      have hz := (HA4.out.below HB11.out).put HBS12.out HO12.out
      rw [HN.out.2.2.2] at hz
      exact ⟨AY, cY, ⟨hz⟩⟩
 case rest =>
  obtain ⟨AX, cX, HA⟩ := hcut
  clear HA4 HSAME HSO HWW HCL HID HUN hbl
  have hq := HA.out.blk
  rw [HN.out.2.2.1, HN.out.2.2.2] at hq
  have hbw := HA.out.bel
  have hp := heap_bel HB3.out hbw
  have hz := heap_bel HB6.out hbw
  have HKE : Aside0 (∀ W : World, (∀ k, k = w.heap.size ∨ k = B9 → W.heap[k]? = wc.heap[k]?) → W.cell? ⟨w.heap.size, 0, none⟩ = some (.slice AG n cG) ∧ W.cell? ⟨w.heap.size, 1, none⟩ = some (.slice AI n cI) ∧ W.cell? ⟨w.heap.size, 2, none⟩ = some (.bool kp') ∧ W.cell? ⟨B9, 0, none⟩ = some (.slice A8 n c8) ∧ W.cell? ⟨B9, 1, none⟩ = some (.slice AX n cX) ∧ W.cell? ⟨B9, 2, none⟩ = some (.bool true)) := ⟨fun W hW => by
   have h1 := (hW _ (.inl rfl)).trans hp
   have h2 := (hW _ (.inr rfl)).trans hq
   exact ⟨cell_of_blk (j := 0) h1 rfl, cell_of_blk (j := 1) h1 rfl, cell_of_blk (j := 2) h1 rfl, cell_of_blk (j := 0) h2 rfl, cell_of_blk (j := 1) h2 rfl, cell_of_blk (j := 2) h2 rfl⟩⟩
  have HKB : Aside0 (∀ W, Below wc.heap.size wc W → ∀ k, k = w.heap.size ∨ k = B9 → W.heap[k]? = wc.heap[k]?) := ⟨fun W hW k hk => hW.block k (by
   have h1 := lt_of_heap hq
   have h2 := lt_of_heap hp
   rcases hk with e | e <;> omega)⟩
  have HK3 : Aside0 (∀ (W : World) v0 v1 v2, (∀ k, k = w.heap.size ∨ k = B9 → W.heap[k]? = wc.heap[k]?) → ∀ k, k = w.heap.size ∨ k = B9 → (((W.setCell ⟨w.heap.size + 1, 0, none⟩ v0).setCell ⟨w.heap.size + 1, 1, none⟩ v1).setCell ⟨w.heap.size + 1, 2, none⟩ v2).heap[k]? = wc.heap[k]?) := ⟨fun W v0 v1 v2 h k hk => (three_other (by have := HS9.out; rcases hk with e | e <;> omega) _ _ _).trans (h k hk)⟩
  have HSTT : Aside0 (∀ W : World, (∀ k, W1.heap.size ≤ k → k < wc.heap.size → W.heap[k]? = wc.heap[k]?) → StC W A8 c8 AX cX c2 l3) := ⟨fun W hW => by
   have h1 := Kd.S_reads' (Kd.S_step (w1 := W) (Kd.S_bound HA.out.sg) (fun k hk _ => hW k hk.2.1 hk.2.2.1))
   have h2 := Kd.R_reads' (Kd.R_move (w1 := W) (Kd.R_bound HA.out.ri) (fun k hk => hW k hk.2.1 hk.2.2.1))
   exact ⟨h1.2.2, h1.2.1, h2.2.2, h2.2.1⟩⟩
  obtain ⟨p0, p1, p2, q0, q1, q2⟩ := HKE.out wc (fun _ _ => rfl)
  have f0 := frozen_of_blk 0 hz
  have f1 := frozen_of_blk 1 hz
  have f2 := frozen_of_blk 2 hz
  have d0 := cell_of_blk (j := 0) hz rfl
  have d1 := cell_of_blk (j := 1) hz rfl
  have d2 := cell_of_blk (j := 2) hz rfl
  have HZ := Aside0.mk hz
  have HBW1 := Aside0.mk hbw
  have hszz := lt_of_heap hz
  have HSZ := Aside0.mk hszz
  clear hq hbw hp hz hszz
  go_upto_region 8 with (fail)
  go_region_held3 (fun W => W.cell? ⟨w.heap.size, 0, none⟩ = some (.slice AG n cG) ∧ W.cell? ⟨w.heap.size, 1, none⟩ = some (.slice AI n cI) ∧ W.cell? ⟨w.heap.size, 2, none⟩ = some (.bool kp') ∧ W.cell? ⟨B9, 0, none⟩ = some (.slice A8 n c8) ∧ W.cell? ⟨B9, 1, none⟩ = some (.slice AX n cX) ∧ W.cell? ⟨B9, 2, none⟩ = some (.bool true))
   (first | exact HKE.out _ (HKB.out _ (Below.refl _ _)) | exact HKE.out _ (HKB.out _ (below_drew1 (Below.refl _ _))) | exact HKE.out _ (HKB.out _ HB8.out) | exact HKE.out _ (HK3.out _ _ _ _ (HKB.out _ (Below.refl _ _))) | exact HKE.out _ (HK3.out _ _ _ _ (HKB.out _ HB8.out)))
   (first | (go_at_call 30; refine bel_call (w := wc) (fun hW => HCH.out _ _ _ _ _ _ _ _ _ _ (HST.out.below (HBW1.out.trans (hW.mono HBW1.out.size))) (HSTT.out _ (fun k _ h2 => hW.block k h2))) (by repeat (first | exact Below.refl _ _ | apply pw_below_drewN | apply below_drew1 | apply below_drew)) ?_; rintro e w8 ⟨v8, rfl, ho8, hb8⟩ hW; obtain ⟨A9, c9, rfl⟩ := Kd.R_slice ho8; have HO8 := Aside0.mk ho8; have HB8 := Aside0.mk (hW.trans (hb8.mono hW.size)); have hz8 := heap_bel HZ.out HB8.out; have f0' := frozen_of_blk 0 hz8; have f1' := frozen_of_blk 1 hz8; have f2' := frozen_of_blk 2 hz8; have d0' := cell_of_blk (j := 0) hz8 rfl; have d1' := cell_of_blk (j := 1) hz8 rfl; have d2' := cell_of_blk (j := 2) hz8 rfl; have HZ8 := Aside0.mk hz8; clear ho8 hb8 hW hz8))
  go_wp2
  refine bodyPost_ret (results_ct rfl _ _ (w.heap.size + 1) 29 #[.slice A8 n c8, .slice AX n cX, .bool true] (0, 0) _ rfl (three_put HZ8.out _ _ _) hu rfl (by kernel_rfl)) rfl ?_
  have hs1 := HS1.out
  have hsb := HBW1.out.size
  have e1 := add_end (w := w) (wz := (((w8.setCell ⟨w.heap.size + 1, 0, none⟩ (.slice A8 n c8)).setCell ⟨w.heap.size + 1, 1, none⟩ (.slice AX n cX)).setCell ⟨w.heap.size + 1, 2, none⟩ (.bool true))) (v8 := .slice A9 (changedB l2 l3).length c9) (r4 := changedB l2 l3) HA.out (by omega) (fun k h1 h2 => (three_other (by omega) _ _ _).trans (HB8.out.block k h2)) (Kd.R_mono (Kd.R_move (Kd.R_bound HO8.out) (fun k hk => three_other (by have h3 : wc.heap.size ≤ k := hk.2.1; omega) _ _ _)) (fun _ _ => trivial))
  rw [HN.out.2.2.1, HN.out.2.2.2] at e1
  exact ⟨_, _, _, rfl, e1.1, e1.2.1, e1.2.2, three_below (HBW.out.trans ((HBW1.out.trans (HB8.out.mono hsb)).mono HBW.out.size)) (Nat.le_succ _) _ _ _⟩
end Go.Proofs.YtemcmcnhpdkdfaaGreat.P
namespace Go.Proofs.YtemcmcnhpdkdfaaGreat.P
open Go.RowKit Go.Shelf Go.Lib Go.Sort Go.Proofs.YtemcmcnhpdkdfaaGreatW.PrintWords Go.Proofs.YtemcmcnhpdkdfaaGreatW.PrintLast Go.Proofs.YtemcmcnhpdkdfaaGreatW.PrintMore
def domup_Top.f (k : Nat) (g : List (List Int)) (l : List Int) (kp : Bool) (a b : Int) : Option Int :=
 (dom_Idoms.f k g).bind fun l2 => if smallB g = true ∧ l.length ≤ 100000 ∧ madeB g l l2 kp = true then some (commonB l2 a b) else none
set_option maxHeartbeats 4000000 in
set_option maxRecDepth 100000 in
theorem domup_Top.calls (k : Nat) (A0 : Option Addr) (c0 : Nat) (g : List (List Int)) (A1 : Option Addr) (c1 : Nat) (l : List Int) (kp : Bool) (a b : Int) (r : Int) (w : World) (hr0 : Kd.C (Kd.slice 3 (Kd.int .i64)) w A0 g.length g) (hc0 : g.length ≤ c0) (hr1 : Kd.C (Kd.int .i64) w A1 l.length l) (hc1 : l.length ≤ c1) (h : domup_Top.f k g l kp a b = some r) :
  Calls Tryz.prog 18 #[.agg #[.slice A0 g.length c0, .slice A1 l.length c1, .bool kp], .int .i64 a, .int .i64 b] w fun e w' => e = .returned (.int .i64 r) ∧ Below w.heap.size w w' := by
 unfold domup_Top.f at h
 obtain ⟨l2, hl2, h⟩ := Option.bind_eq_some_iff.1 h
 split at h
 case isFalse => cases h
 rename_i hcond
 have hs := smallB_iff.1 hcond.1
 have hkp := madeB_iff hcond.2.2
 obtain rfl := Option.some.inj h
 have hu := Tryz.underlying29
 have hD2 := idoms_dom hs hl2
 have hE2 : Ev (fun k => dom_Idoms.f k g) l2 := Ev.of (fun k => dom_Idoms.mono g k) hl2
 have hl2n : l2.length = g.length := by rw [hD2.len, clean_len]
 have hst : StC w A0 c0 A1 c1 g l := ⟨hr0, hc0, hr1, hc1⟩
 have hgn := hs.2
 have HSA := Aside0.mk (fun W (hW : Below w.heap.size w W) => sane_c A0 c0 g A1 c1 l kp l2 w W hW hst hs.1 ⟨hcond.2.1, by omega⟩ hE2 hkp)
 obtain ⟨kq, hkq⟩ := common_ev l2 (by omega) a b
 have HCM := Aside0.mk (fun W AI cI (h1 : dI.C W AI l2.length l2) (h2 : l2.length ≤ cI) => dom_Common.calls kq AI cI l2 a b _ W h1 h2 (hkq kq (Nat.le_refl _)))
 obtain ⟨n0, en0⟩ : ∃ n0, n0 = g.length := ⟨_, rfl⟩
 obtain ⟨n1, en1⟩ : ∃ n1, n1 = l.length := ⟨_, rfl⟩
 obtain ⟨top, etop⟩ : ∃ top, top = commonB l2 a b := ⟨_, rfl⟩
 rw [← en0, ← en1] at HSA
 rw [← etop] at HCM
 rw [← en0, ← en1, ← etop]
 clear hr0 hc0 hr1 hc1 hcond hs hkp hl2 hD2 hE2 hl2n hst hgn hkq en0 en1 etop
 have hfd : ∀ (v0 v1 v2 : Value) (w : World), (Instr.field 29 (.agg #[v0, v1, v2]) 1).run Tryz.prog w = .ok v1 w := fun _ _ _ _ => by kernel_rfl
 go_enter Tryz.func18, Tryz.ntmps18
 go_wp2_with (first | (go_at_call 22; refine (HSA.out _ (below_alloc (Below.refl _ _) _)).mono ?_; rintro e w1 ⟨AG, cG, AI, cI, kp', rfl, hst1, hb1⟩; have hw1 : Below w.heap.size w w1 := (below_alloc (Below.refl _ w) _).trans (hb1.mono (by simp only [size_alloc1]; omega)); have HS1 := Aside0.mk (hst1 w1 hw1 (fun _ _ _ => rfl)); have HW1 := Aside0.mk hw1; clear hst1 hb1 hw1) | (go_at_call 29; refine (HCM.out _ _ _ HS1.out.ii HS1.out.ic).mono ?_; rintro e w2 ⟨rfl, hb2⟩; have HB2 := Aside0.mk hb2; clear hb2))
 go_ret
 exact ⟨rfl, HW1.out.trans (HB2.out.mono HW1.out.size)⟩
end Go.Proofs.YtemcmcnhpdkdfaaGreat.P
namespace Go.Proofs.YtemcmcnhpdkdfaaGreat.P
open Go.RowKit Go.Lib Go.Proofs.YtemcmcnhpdkdfaaGreatW.PrintWords
structure Stt (c : List (List Int)) (l : List Int) : Prop where
 v : Valid c
 r : ∀ l ∈ c, l.Pairwise (· < ·)
 n : c.length ≤ 900
 d : IsDom c l
theorem Stt.self {c : List (List Int)} {l : List Int} (h : Stt c l) : clean c = c := clean_self h.v h.r
theorem Stt.small {c : List (List Int)} {l : List Int} (h : Stt c l) : Small c := small_of h.v h.r h.n
theorem Stt.len {c : List (List Int)} {l : List Int} (h : Stt c l) : l.length = c.length := h.d.len
theorem idoms_ev {g : List (List Int)} (hs : Small g) {l : List Int} (h : IsDom (clean g) l) : Ev (fun k => dom_Idoms.f k g) l := by
 obtain ⟨l', he, hd⟩ := idoms_now hs
 rw [h.unique hd]
 exact he
theorem Stt.idoms {c : List (List Int)} {l : List Int} (h : Stt c l) : Ev (fun k => dom_Idoms.f k c) l := idoms_ev h.small (by rw [h.self]; exact h.d)
theorem stt_of {c : List (List Int)} (hv : Valid c) (hr : ∀ l ∈ c, l.Pairwise (· < ·)) (hn : c.length ≤ 900) : ∃ l, Stt c l := by
 obtain ⟨l, _, hd⟩ := idoms_now (small_of hv hr hn)
 rw [clean_self hv hr] at hd
 exact ⟨l, hv, hr, hn, hd⟩
theorem stt_clean {g : List (List Int)} (hs : Small g) : ∃ l, Stt (clean g) l := stt_of (clean_Valid g) (clean_rises g) (by rw [clean_len]; exact hs.2)
theorem Stt.with_ {c : List (List Int)} {l : List Int} (h : Stt c l) (a b : Int) : ∃ l3, Stt (withE c a b) l3 := stt_of (withE_Valid h.v) (withE_rises h.r) (by rw [withE_len]; exact h.n)
theorem Stt.without {c : List (List Int)} {l : List Int} (h : Stt c l) (a b : Int) : ∃ l3, Stt (withoutE c a b) l3 := stt_of (withoutE_Valid h.v) (withoutE_rises h.r) (by rw [withoutE_len]; exact h.n)
theorem new_ev {g : List (List Int)} (hs : Small g) {l : List Int} (h : Stt (clean g) l) : Ev (fun k => domup_New.f k g) (clean g, l, true) := by
 refine Ev.congr (f := fun k => (dom_Idoms.f k g).bind fun t => some (clean g, t, true)) (fun k => by unfold domup_New.f; rw [clean_now hs.1, Option.bind_some]) ?_
 exact Ev.bind (idoms_ev hs h.d) (Ev.now _)
theorem made_self {c : List (List Int)} {l : List Int} (h : Stt c l) : smallB c = true ∧ l.length ≤ 100000 ∧ madeB c l l true = true :=
 ⟨smallB_iff.2 h.small, by rw [h.len]; have := h.n; omega, by simp [madeB, h.self]⟩
theorem add_ev {c : List (List Int)} {l l3 : List Int} (h : Stt c l) {a b : Int} (h3 : Stt (withE c a b) l3) : Ev (fun k => domup_Add.f k c l true a b) (withE c a b, l3, true, changedB l l3) := by
 unfold domup_Add.f
 rw [h.self]
 refine Ev.bind h.idoms (Ev.bind h3.idoms ?_)
 rw [if_pos (made_self h)]
 exact Ev.now _
theorem saneU_ev {c : List (List Int)} {l : List Int} (h : Stt c l) (kp : Bool) : Ev (fun k => domup_Sane.f k c l kp) true := by
 refine Ev.congr (f := fun k => (dom_Idoms.f k c).bind fun l2 => if l2.length ≤ 100000 then some (decide (c = clean c) && decide (l = l2)) else none) (fun k => by unfold domup_Sane.f; rw [if_pos ⟨h.small.1, (made_self h).2.1⟩]) ?_
 refine Ev.bind h.idoms ?_
 rw [if_pos (made_self h).2.1, h.self]
 simp only [decide_true, Bool.and_self]
 exact Ev.now _
theorem top_ev {c : List (List Int)} {l : List Int} (h : Stt c l) (a b : Int) : Ev (fun k => domup_Top.f k c l true a b) (commonB l a b) := by
 unfold domup_Top.f
 refine Ev.bind h.idoms ?_
 rw [if_pos (made_self h)]
 exact Ev.now _
theorem changedB_len (l l3 : List Int) : (changedB l l3).length ≤ l.length := by
 unfold changedB
 rw [List.length_map]
 refine Nat.le_trans (List.length_filter_le _ _) ?_
 rw [List.length_range]
 exact Nat.le_refl _
theorem withE_self {c : List (List Int)} {a b : Int} (h : ¬ (Node c a ∧ Node c b) ∨ b ∈ row c a) : withE c a b = c := by
 unfold withE
 refine if_neg (fun k => ?_)
 rcases h with h | h
 ·exact h ⟨isN_iff.1 k.1, isN_iff.1 k.2.1⟩
 ·exact k.2.2 h
theorem withoutE_self {c : List (List Int)} (hr : ∀ l ∈ c, l.Pairwise (· < ·)) {a b : Int} (h : ¬ Node c a ∨ ¬ b ∈ row c a) : withoutE c a b = c := by
 by_cases ha : Node c a
 ·have hb : ¬ b ∈ row c a := h.elim (fun k => absurd ha k) id
  refine graph_ext withoutE_len (withoutE_rises hr) hr (fun x y hx _ => ?_)
  rw [mem_withoutE ha hx]
  exact ⟨fun k => k.1, fun k => ⟨k, fun e => hb (by rw [e.1, e.2] at k; exact k)⟩⟩
 ·unfold withoutE
  exact if_neg (fun k => ha (isN_iff.1 k))
end Go.Proofs.YtemcmcnhpdkdfaaGreat.P
namespace Go.Proofs.YtemcmcnhpdkdfaaGreat.P
open Go.RowKit Go.Lib Go.Proofs.YtemcmcnhpdkdfaaGreatW.PrintWords
theorem row_grow (c : List (List Int)) (x : Int) : row (c ++ [[]]) x = row c x := by
 unfold row
 rw [List.getD_eq_getElem?_getD, List.getD_eq_getElem?_getD]
 rcases Nat.lt_trichotomy x.toNat c.length with h | h | h
 ·rw [List.getElem?_append_left h]
 ·rw [show (c ++ [[]])[x.toNat]? = some [] from by rw [h]; simp, show c[x.toNat]? = none from List.getElem?_eq_none (by omega)]
  rfl
 ·rw [List.getElem?_eq_none (by simp; omega), List.getElem?_eq_none (by omega)]
theorem way_congr {c d : List (List Int)} (h : ∀ x, row c x = row d x) {s t : Int} (k : Way c s t) : Way d s t := by
 induction k with
 | refl => exact .refl _
 | step e _ ih => exact .step (by rw [← h]; exact e) ih
theorem av_congr {c d : List (List Int)} (h : ∀ x, row c x = row d x) {x s t : Int} (k : Av c x s t) : Av d x s t := by
 induction k with
 | refl k => exact .refl k
 | step k e _ ih => exact .step k (by rw [← h]; exact e) ih
theorem rd_grow (l : List Int) (o : Int) {b : Int} (hb : b < (l.length : Int)) (h0 : 0 ≤ b) : rd (l ++ [o]) b = rd l b := by
 show (l ++ [o]).getD b.toNat 0 = l.getD b.toNat 0
 rw [List.getD_eq_getElem?_getD, List.getD_eq_getElem?_getD, List.getElem?_append_left (by omega)]
theorem rd_last (l : List Int) (o : Int) : rd (l ++ [o]) (l.length : Int) = o := by
 show (l ++ [o]).getD (Int.toNat (l.length : Int)) 0 = o
 rw [Int.toNat_natCast, List.getD_eq_getElem?_getD, List.getElem?_append_right (Nat.le_refl _), Nat.sub_self]
 rfl
theorem idT_grow (l : List Int) (o : Int) (ho : o < 0) (b : Int) : idT (l ++ [o]) b = idT l b := by
 unfold idT
 rw [List.length_append, List.length_singleton]
 by_cases h1 : 0 ≤ b ∧ b < (l.length : Int)
 ·rw [rd_grow l o h1.2 h1.1]
  by_cases h2 : 0 ≤ rd l b
  ·rw [if_pos ⟨⟨h1.1, by omega⟩, h2⟩, if_pos ⟨h1, h2⟩]
  ·rw [if_neg (fun k => h2 k.2), if_neg (fun k => h2 k.2)]
 ·rw [show (if (0 ≤ b ∧ b < (l.length : Int)) ∧ 0 ≤ rd l b then some (rd l b) else none) = none from if_neg (fun k => h1 k.1)]
  refine if_neg (fun k => ?_)
  have e : b = (l.length : Int) := by have := k.1; omega
  rw [e, rd_last] at k
  omega
theorem up_fun {T T' : Int → Option Int} (h : ∀ b, T b = T' b) {b x : Int} (k : Up T b x) : Up T' b x := k.congr (fun _ => True) (fun b _ => h b) (fun _ _ _ _ => trivial) trivial
theorem stt_grow {c : List (List Int)} {l : List Int} (h : Stt c l) (hn : c.length + 1 ≤ 900) : Stt (c ++ [[]]) (l ++ [if c.length = 0 then -1 else -2]) := by
 obtain ⟨o, eo⟩ : ∃ o : Int, o = if c.length = 0 then -1 else -2 := ⟨_, rfl⟩
 rw [← eo]
 have ho : o < 0 := by rw [eo]; split <;> omega
 have hr := row_grow c
 have hr' := fun x => (hr x).symm
 have hll := h.len
 have hid := idT_grow l o ho
 have hid' := fun b => (hid b).symm
 have hnode : ∀ b, Node (c ++ [[]]) b ↔ (Node c b ∨ b = (c.length : Int)) := fun b => by
  unfold Node
  rw [List.length_append, List.length_singleton]
  omega
 have hin : ∀ b, Way c 0 b → b = 0 ∨ Node c b := fun b k => by
  rcases Classical.em (b = 0) with e | e
  ·exact .inl e
  ·have := k.closed (P := fun y => y = 0 ∨ Node c y) (fun x y _ hy => .inr (row_node h.v hy)) (.inl rfl)
   exact this
 refine ⟨fun l hl b hb => ?_, fun l hl => ?_, by rw [List.length_append, List.length_singleton]; exact hn, ?_⟩
 ·rw [List.length_append, List.length_singleton]
  rcases List.mem_append.1 hl with k | k
  ·have := h.v l k b hb
   omega
  ·rw [List.mem_singleton.1 k] at hb
   simp at hb
 ·rcases List.mem_append.1 hl with k | k
  ·exact h.r l k
  ·rw [List.mem_singleton.1 k]
   exact List.Pairwise.nil
 ·refine ⟨by rw [List.length_append, List.length_append, List.length_singleton, List.length_singleton, hll], fun _ => ?_, fun b hb hw => ?_, fun b hb hw hb0 => ?_, fun b hb hw x => ?_, ?_⟩
  ·by_cases hz : c.length = 0
   ·have := rd_last l o
    rw [hll, hz] at this
    rw [eo, if_pos hz] at this ⊢
    exact this
   ·rw [rd_grow l o (by omega) (by omega)]
    exact h.d.zero (by omega)
  ·rcases (hnode b).1 hb with k | k
   ·rw [rd_grow l o (by have := k.2; omega) k.1]
    exact h.d.lost b k (fun q => hw (way_congr hr' q))
   ·by_cases hz : c.length = 0
    ·exact absurd (by rw [k, hz]; exact .refl _) hw
    ·have := rd_last l o
     rw [hll, ← k] at this
     rw [this, eo, if_neg hz]
  ·have hw' := way_congr hr hw
   rcases hin b hw' with k | k
   ·exact absurd k hb0
   ·obtain ⟨p, h1, h2, h3, h4⟩ := h.d.par b k hw' hb0
    exact ⟨p, by rw [hid]; exact h1, by rw [rd_grow l o (by have := k.2; omega) k.1]; exact h2, (hnode p).2 (.inl h3), way_congr hr' h4⟩
  ·have hw' := way_congr hr hw
   have hup : Up (idT (l ++ [o])) b x ↔ Up (idT l) b x := ⟨up_fun hid, up_fun hid'⟩
   have hav : Av (c ++ [[]]) x 0 b ↔ Av c x 0 b := ⟨av_congr hr, av_congr hr'⟩
   rw [hup, hav]
   by_cases hz : Node c b
   ·exact h.d.doms b hz hw' x
   ·have hb0 : b = 0 := (hin b hw').elim id (fun k => absurd k hz)
    subst hb0
    have hT : idT l 0 = none := by
     unfold idT
     refine if_neg (fun k => hz ⟨k.1.1, by have := k.1.2; omega⟩)
    constructor
    ·intro k
     rcases k.cases with e | ⟨p, hp, _⟩
     ·exact fun q => q.left e.symm
     ·rw [hT] at hp; cases hp
    ·intro k
     by_cases e : x = 0
     ·rw [e]; exact .refl _
     ·exact absurd (.refl (Ne.symm e)) k
  ·obtain ⟨f, hf, hf2⟩ := h.d.rank
   by_cases hz : c.length = 0
   ·refine ⟨fun _ => 0, fun b p hp => ?_, fun b _ _ => by rw [List.length_append, List.length_singleton]; show 0 < c.length + 1; omega⟩
    rw [hid] at hp
    unfold idT at hp
    split at hp
    ·rename_i hc
     have := hc.1.1
     have := hc.1.2
     omega
    ·cases hp
   ·refine ⟨f, fun b p hp => hf b p (by rw [← hid]; exact hp), fun b hb hw => ?_⟩
    rw [List.length_append, List.length_singleton]
    have hw' := way_congr hr hw
    rcases hin b hw' with k | k
    ·have := hf2 0 ⟨Int.le_refl 0, by omega⟩ (.refl 0)
     rw [k]
     omega
    ·have := hf2 b k hw'
     omega
end Go.Proofs.YtemcmcnhpdkdfaaGreat.P
namespace Go.Proofs.YtemcmcnhpdkdfaaGreat.P
open Go.RowKit Go.Shelf Go.Lib Go.Sort Go.Proofs.YtemcmcnhpdkdfaaGreatW.PrintWords Go.Proofs.YtemcmcnhpdkdfaaGreatW.PrintLast Go.Proofs.YtemcmcnhpdkdfaaGreatW.PrintMore
theorem cell_grown {W w1 : World} {ob : Option Nat} {a : Addr} {v : Value} (hg : W.grownBy w1 ob) (hne : some a.block ≠ ob) (hc : W.cell? a = some v) : w1.cell? a = some v := by
 have h := hg.block a.block (World.block_lt_of_cell? _ _ hc) hne
 rw [← hc]
 simp only [World.cell?, h]
theorem keep_grown {w14 Wa w20 : World} {ob : Option Nat} (hg : Wa.grownBy w20 ob) (hb : Below w14.heap.size w14 Wa) (ho : ∀ j, ob = some j → w14.heap.size ≤ j) {k : Nat} (hk : k < w14.heap.size) : w20.heap[k]? = w14.heap[k]? :=
 (hg.block k (Nat.lt_of_lt_of_le hk hb.size) (fun e => by have := ho k e.symm; omega)).trans (hb.block k hk)
theorem own_after {ob1 ob : Option Nat} {N n : Nat} (hat : ob1 = ob ∨ ∃ b, ob1 = some b ∧ N ≤ b) (ho : ∀ j, ob = some j → n ≤ j) (hn : n ≤ N) : ∀ j, ob1 = some j → n ≤ j := by
 intro j e
 rcases hat with h | ⟨b, h, hb⟩
 ·exact ho j (h.symm.trans e)
 ·rw [h] at e
  obtain rfl := Option.some.inj e
  omega
theorem grow_end {w W1 w14 w20 wz : World} {v14 v20 : Value} {rows : List (List Int)} {xs : List Int} (hs : w.heap.size ≤ W1.heap.size) (h14 : Kd.S dG 23 w14 W1.heap.size (fun k => W1.heap.size ≤ k) v14 rows) (h20 : dI.R 3 w20 W1.heap.size (fun k => W1.heap.size ≤ k) v20 xs)
  (hk : ∀ k, k < w14.heap.size → w20.heap[k]? = w14.heap[k]?) (hob : ∀ j, v20.ownBlock = some j → w14.heap.size ≤ j) (hz : ∀ k, W1.heap.size ≤ k → wz.heap[k]? = w20.heap[k]?) :
  Kd.S (Kd.slice 3 (Kd.int .i64)) 23 wz w.heap.size (fun k_ => some k_ ≠ v20.ownBlock) v14 rows ∧ Kd.R (Kd.int .i64) 3 wz w.heap.size (fun _ => True) v20 xs := by
 refine ⟨?_, ?_⟩
 ·exact Kd.S_lower (Kd.S_mono (Kd.S_step (w1 := wz) (Kd.S_bound h14) (fun k hk2 _ => (hz k hk2.1).trans (hk k hk2.2.2.1))) (fun k hk2 e => by have := hob k e.symm; have := hk2.2.2.1; omega)) hs
 ·exact Kd.R_lower (Kd.R_mono (Kd.R_move (w1 := wz) h20 (fun k hk2 => hz k hk2)) (fun _ _ => trivial)) hs
section
variable {P : Program} {ops : Array Oper} {o : Oper} {a : Act} {Q : Exit → Act → World → Prop} {Kc : Act → World → Prop}
theorem S_nil_step {w0 W : World} (base : Nat) (hw : Region.wanted o (yielded ops a.tmps) = true) (s x : Operand)
  (ho : o.op = .call { callee := .builtin .append, args := #[s, x], argTypes := #[22, 22] })
  (ht : P.underlying 22 = some (.slice 23)) (hinfo : (P.info? 23).map (fun i => (i.zero, i.size, i.bytes)) = some (some (.slice none 0 0), 1, 24))
  (v : Value) (xs : List (List Int)) (X c : Nat) (ok : Nat → Prop) (hs : a.eval s = v) (hx : a.eval x = .slice (some ⟨X, 0, none⟩) 1 c) (hcell : W.cell? ⟨X, 0, none⟩ = some (.slice none 0 0)) (hfresh : ∀ k, W.heap.size ≤ k → ok k)
  (HO : Kd.S dG 23 W base ok v xs) (HB : Below base w0 W) (hbase : base ≤ W.heap.size) (hl : xs.length ≤ 1000000)
  (h : ∀ v1 w1, Kd.S dG 23 w1 base ok v1 (xs ++ [[]]) → Below base w0 w1 → W.grownBy w1 v.ownBlock → (v1.ownBlock = v.ownBlock ∨ ∃ b, v1.ownBlock = some b ∧ W.heap.size ≤ b) → Kc (a.put o.dst v1) w1) :
  if Region.wanted o (yielded ops a.tmps) = true then Oper.wp P o a W Kc Q else Kc (a.put o.dst undef) W := by
 obtain ⟨f, hf, hR⟩ := Kd.S_tag HO xs.length (fun _ => False) (fun _ hk => hk.elim)
 refine Kd.R_append_rows_step (Kd.tag f dG) (Rr := fun y c => y = (([] : List Int), xs.length) ∧ c = [.slice none 0 0]) base hw s x 22 23 (.slice none 0 0) 24 ho ht hinfo rfl Nat.one_pos (by decide) v xs.zipIdx [([], xs.length)] (some ⟨X, 0, none⟩) 1 c ok (fun _ => False) hs hx hR
  ⟨rfl, by decide, fun _ => ⟨_, rfl, fun j q hj => ?_⟩⟩ (fun y c hyc => ?_) (fun _ hk => hk.elim) hfresh HB hbase (by rw [List.length_zipIdx]; omega) ?_
 ·match j, hj with
  | 0, hj =>
   obtain rfl := Option.some.inj hj
   refine ⟨_, rfl, ⟨rfl, rfl⟩, fun i u hu => ?_⟩
   match i, hu with
   | 0, hu =>
    obtain rfl := Option.some.inj hu
    simpa [Go.WideShapes.add_plain] using hcell
   | i + 1, hu => simp at hu
  | j + 1, hj => simp at hj
 ·obtain ⟨rfl, rfl⟩ := hyc
  exact dG.M_mono (fun _ hk => hk.elim) (Kd.M_row (ok := fun _ => False) (Kd.R_nil _ _ _ _ _))
 ·intro v1 w1 hr
  rw [← Kd.zip_snoc] at hr
  exact h v1 w1 ⟨f, hr⟩
theorem R_one_step {w0 W : World} (base : Nat) (hw : Region.wanted o (yielded ops a.tmps) = true) (s x : Operand)
  (ho : o.op = .call { callee := .builtin .append, args := #[s, x], argTypes := #[23, 23] })
  (ht : P.underlying 23 = some (.slice 3)) (hinfo : (P.info? 3).map (fun i => (i.zero, i.size, i.bytes)) = some (some (.int .i64 0), 1, 8))
  (v : Value) (xs : List Int) (y : Int) (X c : Nat) (ok : Nat → Prop) (hs : a.eval s = v) (hx : a.eval x = .slice (some ⟨X, 0, none⟩) 1 c) (hcell : W.cell? ⟨X, 0, none⟩ = some (.int .i64 y)) (hfresh : ∀ k, W.heap.size ≤ k → ok k)
  (HO : dI.R 3 W base ok v xs) (HB : Below base w0 W) (hbase : base ≤ W.heap.size) (hl : xs.length ≤ 1000000)
  (h : ∀ v1 w1, dI.R 3 w1 base ok v1 (xs ++ [y]) → Below base w0 w1 → W.grownBy w1 v.ownBlock → (v1.ownBlock = v.ownBlock ∨ ∃ b, v1.ownBlock = some b ∧ W.heap.size ≤ b) → Kc (a.put o.dst v1) w1) :
  if Region.wanted o (yielded ops a.tmps) = true then Oper.wp P o a W Kc Q else Kc (a.put o.dst undef) W := by
 refine Kd.R_append_rows_step (Kd.int .i64) (Rr := fun z c => z = y ∧ c = [.int .i64 y]) base hw s x 23 3 (.int .i64 0) 8 ho ht hinfo rfl Nat.one_pos (by decide) v xs [y] (some ⟨X, 0, none⟩) 1 c ok (fun _ => False) hs hx HO
  ⟨rfl, by decide, fun _ => ⟨_, rfl, fun j q hj => ?_⟩⟩ (fun z c hyc => ?_) (fun _ hk => hk.elim) hfresh HB hbase (by omega) h
 ·match j, hj with
  | 0, hj =>
   obtain rfl := Option.some.inj hj
   refine ⟨_, rfl, ⟨rfl, rfl⟩, fun i u hu => ?_⟩
   match i, hu with
   | 0, hu =>
    obtain rfl := Option.some.inj hu
    simpa [Go.WideShapes.add_plain] using hcell
   | i + 1, hu => simp at hu
  | j + 1, hj => simp at hj
 ·obtain ⟨rfl, rfl⟩ := hyc
  rfl
end
def domup_Grow.f (k : Nat) (g : List (List Int)) (l : List Int) (kp : Bool) : Option (List (List Int) × List Int × Bool) :=
 (dom_Idoms.f k g).bind fun l2 => if smallB g = true ∧ l.length ≤ 100000 ∧ madeB g l l2 kp = true then some (clean g ++ [[]], l2 ++ [if g.length = 0 then -1 else -2], true) else none
set_option maxHeartbeats 8000000 in
set_option maxRecDepth 100000 in
theorem domup_Grow.calls (k : Nat) (A0 : Option Addr) (c0 : Nat) (g : List (List Int)) (A1 : Option Addr) (c1 : Nat) (l : List Int) (kp : Bool) (r1 : List (List Int)) (r2 : List Int) (r3 : Bool) (w : World) (hr0 : Kd.C (Kd.slice 3 (Kd.int .i64)) w A0 g.length g) (hc0 : g.length ≤ c0) (hr1 : Kd.C (Kd.int .i64) w A1 l.length l) (hc1 : l.length ≤ c1) (h : domup_Grow.f k g l kp = some (r1, r2, r3)) :
  Calls Tryz.prog 16 #[.agg #[.slice A0 g.length c0, .slice A1 l.length c1, .bool kp]] w fun e w' => ∃ v0_ v1_ : Value, e = .returned (.agg #[v0_, v1_, .bool r3]) ∧ Kd.S (Kd.slice 3 (Kd.int .i64)) 23 w' w.heap.size (fun k_ => some k_ ≠ (v1_ : Value).ownBlock) v0_ r1 ∧ Kd.R (Kd.int .i64) 3 w' w.heap.size (fun _ => True) v1_ r2 ∧ Below w.heap.size w w' := by
 unfold domup_Grow.f at h
 obtain ⟨l2, hl2, h⟩ := Option.bind_eq_some_iff.1 h
 split at h
 case isFalse => cases h
 rename_i hcond
 have hs := smallB_iff.1 hcond.1
 have hll := hcond.2.1
 have hkp := madeB_iff hcond.2.2
 simp only [Option.some.injEq, Prod.mk.injEq] at h
 obtain ⟨rfl, er2, rfl⟩ := h
 have hu := Tryz.underlying29
 have hcl := clean_len g
 have hgn := hs.2
 have hD2 := idoms_dom hs hl2
 have hE2 : Ev (fun k => dom_Idoms.f k g) l2 := Ev.of (fun k => dom_Idoms.mono g k) hl2
 have hl2n : l2.length = g.length := by rw [hD2.len, hcl]
 have hfc : fits (clean g) = true := fits_clean hs.1
 have hst : StC w A0 c0 A1 c1 g l := ⟨hr0, hc0, hr1, hc1⟩
 have HSA := Aside0.mk (fun W (hW : Below w.heap.size w W) => sane_c A0 c0 g A1 c1 l kp l2 w W hW hst hs.1 ⟨hll, by omega⟩ hE2 hkp)
 have HCN : Aside0 (∀ W AG cG AI cI, StC W AG cG AI cI (clean g) l2 → Calls Tryz.prog 39 #[.slice AG (clean g).length cG] W fun e w' => ∃ v0_ : Value, e = .returned v0_ ∧ Kd.S (Kd.slice 3 (Kd.int .i64)) 23 w' W.heap.size (fun _ => True) v0_ (clean g) ∧ Below W.heap.size W w') :=
  ⟨fun W AG cG AI cI h => graph_Clean.calls AG cG (clean g) (clean g) W h.gr h.gc (by unfold graph_Clean.f; rw [if_pos hfc, clean_clean])⟩
 have HCL : Aside0 (∀ W AG cG AI cI, StC W AG cG AI cI (clean g) l2 → Calls Tryz.prog 24 #[.slice AI l2.length cI] W fun e w' => ∃ v, e = .returned v ∧ dI.R 3 w' W.heap.size (fun _ => True) v l2 ∧ Below W.heap.size W w') := ⟨fun W AG cG AI cI h => clone_c AI cI l2 W h.ii (by omega)⟩
 obtain ⟨n, en⟩ : ∃ n, n = (clean g).length := ⟨_, rfl⟩
 have enl : l2.length = n := by rw [en, hcl, hl2n]
 have hn9 : n ≤ 900 := by rw [en, hcl]; exact hgn
 rw [← en] at HCN
 rw [enl] at HCL
 have HNG : Aside0 (g.length = n) := ⟨by rw [en, hcl]⟩
 have HN := Aside0.mk (And.intro en.symm enl)
 have HR2 : Aside0 ((n = 0 → r2 = l2 ++ [-1]) ∧ (n ≠ 0 → r2 = l2 ++ [-2])) := ⟨⟨fun e => by rw [← er2, if_pos (by have := HNG.out; omega)], fun e => by rw [← er2, if_neg (by have := HNG.out; omega)]⟩⟩
 obtain ⟨n0, en0⟩ : ∃ n0, n0 = g.length := ⟨_, rfl⟩
 obtain ⟨n1, en1⟩ : ∃ n1, n1 = l.length := ⟨_, rfl⟩
 rw [← en0, ← en1] at HSA
 rw [← en0, ← en1]
 clear hr0 hc0 hr1 hc1 hcond hs hll hkp hl2 hcl hgn hD2 hE2 hl2n hfc hst en enl en0 en1 er2
 go_enter Tryz.func16, Tryz.ntmps16
 go_upto_region 2 with (go_at_call 22; refine (HSA.out _ (below_alloc (below_alloc (Below.refl _ _) _) _)).mono ?_; rintro e w1 ⟨AG, cG, AI, cI, kp', rfl, hst1, hb1⟩; have HS1 := Aside0.mk hst1; have HB1 := Aside0.mk hb1; obtain ⟨hp, hq, hs3, hw3⟩ := two_boxes hb1; have f0 := frozen_of_blk 0 hp; have f1 := frozen_of_blk 1 hp; have f2 := frozen_of_blk 2 hp; have d0 := cell_of_blk (j := 0) hp rfl; have d1 := cell_of_blk (j := 1) hp rfl; have d2 := cell_of_blk (j := 2) hp rfl; have HP := Aside0.mk hp; have HQ := Aside0.mk hq; have HW3 := Aside0.mk hw3; clear hst1 hb1 hp hq hw3; rw [HN.out.1, HN.out.2])
 obtain ⟨W1, hW1⟩ : ∃ W1, W1 = (((w1.setCell ⟨w.heap.size, 0, none⟩ (.slice AG n cG)).setCell ⟨w.heap.size, 1, none⟩ (.slice AI n cI)).setCell ⟨w.heap.size, 2, none⟩ (.bool kp')) := ⟨_, rfl⟩
 have hB3 : W1.heap[w.heap.size]? = some (.cells #[.slice AG n cG, .slice AI n cI, .bool kp'] 29 (0, 0)) := by rw [hW1]; exact three_put HP.out _ _ _
 have hB6 : W1.heap[w.heap.size + 1]? = some (.cells #[.slice none 0 0, .slice none 0 0, .bool false] 29 (0, 0)) := by rw [hW1]; exact (three_other (by omega) _ _ _).trans HQ.out
 have hBW : Below w.heap.size w W1 := by rw [hW1]; exact three_below HW3.out (Nat.le_refl _) _ _ _
 have hst1 : StC W1 AG cG AI cI (clean g) l2 := HS1.out W1 hBW (fun k h1 h2 => by rw [hW1]; exact three_other (by simp only [size_alloc1] at h1; omega) _ _ _)
 rw [← hW1]
 clear hW1 f0 f1 f2 d0 d1 d2 HP HQ HW3 HS1 HB1 hs3 HSA
 have hs1 := lt_of_heap hB6
 have HS1 := Aside0.mk hs1
 have HB6 := Aside0.mk hB6
 have HBW := Aside0.mk hBW
 have HST := Aside0.mk hst1
 have HKE : Aside0 (∀ W, Below W1.heap.size W1 W → W.cell? ⟨w.heap.size, 0, none⟩ = some (.slice AG n cG) ∧ W.cell? ⟨w.heap.size, 1, none⟩ = some (.slice AI n cI)) := ⟨fun W hW => ⟨cell_of_blk (j := 0) (heap_bel hB3 hW) rfl, cell_of_blk (j := 1) (heap_bel hB3 hW) rfl⟩⟩
 obtain ⟨p0, p1⟩ := HKE.out W1 (Below.refl _ _)
 have HF6 : Aside0 (∀ W, Below W1.heap.size W1 W → (W.frozen? ⟨w.heap.size + 1, 0, none⟩ = false ∧ W.frozen? ⟨w.heap.size + 1, 1, none⟩ = false ∧ W.frozen? ⟨w.heap.size + 1, 2, none⟩ = false) ∧ (W.cell? ⟨w.heap.size + 1, 0, none⟩ = some (.slice none 0 0) ∧ W.cell? ⟨w.heap.size + 1, 1, none⟩ = some (.slice none 0 0) ∧ W.cell? ⟨w.heap.size + 1, 2, none⟩ = some (.bool false)) ∧ W.heap[w.heap.size + 1]? = some (.cells #[.slice none 0 0, .slice none 0 0, .bool false] 29 (0, 0))) := ⟨fun W hW => by
  have h := heap_bel HB6.out hW
  exact ⟨⟨frozen_of_blk 0 h, frozen_of_blk 1 h, frozen_of_blk 2 h⟩, ⟨cell_of_blk (j := 0) h rfl, cell_of_blk (j := 1) h rfl, cell_of_blk (j := 2) h rfl⟩, h⟩⟩
 have HKS : Aside0 (∀ (W : World) v0 v1 v2, Below W1.heap.size W1 W → (((W.setCell ⟨w.heap.size + 1, 0, none⟩ v0).setCell ⟨w.heap.size + 1, 1, none⟩ v1).setCell ⟨w.heap.size + 1, 2, none⟩ v2).cell? ⟨w.heap.size, 0, none⟩ = some (.slice AG n cG) ∧ (((W.setCell ⟨w.heap.size + 1, 0, none⟩ v0).setCell ⟨w.heap.size + 1, 1, none⟩ v1).setCell ⟨w.heap.size + 1, 2, none⟩ v2).cell? ⟨w.heap.size, 1, none⟩ = some (.slice AI n cI)) := ⟨fun W v0 v1 v2 hW => by
  have h := (three_other (W := W) (b := w.heap.size + 1) (k := w.heap.size) (by omega) v0 v1 v2).trans (heap_bel hB3 hW)
  exact ⟨cell_of_blk (j := 0) h rfl, cell_of_blk (j := 1) h rfl⟩⟩
 clear hB3 hB6 hBW hst1 hs1
 have HC1 := Aside0.mk (fun W (hW : Below W1.heap.size W1 W) => HCN.out W AG cG AI cI (HST.out.below hW))
 have HC2 := Aside0.mk (fun W (hW : Below W1.heap.size W1 W) => HCL.out W AG cG AI cI (HST.out.below hW))
 clear HCN HCL
 by_cases hn0 : n = 0
 ·have c0 : ((n : Int) == 0) = true := by simp; omega
  have HOW := Aside0.mk (HR2.out.1 hn0)
  clear hn0
  go_upto_region 5 with (fail)
  obtain ⟨ow, how⟩ : ∃ ow : Int, ow = -1 := ⟨_, rfl⟩
  rw [← how] at HOW
  rw [← how]
  clear how c0
  go_region_held3 (fun W => W.cell? ⟨w.heap.size, 0, none⟩ = some (.slice AG n cG) ∧ W.cell? ⟨w.heap.size, 1, none⟩ = some (.slice AI n cI))
   (first | with_reducible exact HKS.out _ _ _ _ HB20.out | exact HKE.out _ (by repeat (first | with_reducible exact HB20.out | with_reducible exact HB17.out | with_reducible exact HB14.out | with_reducible exact HB12.out | with_reducible exact Below.refl _ _ | apply below_alloc | apply pw_below_drewN | apply below_drew1 | apply below_drew)))
   (first
    | (go_at_call 39; refine bel_call (w := W1) (HC1.out _) (by repeat (first | with_reducible exact HB20.out | with_reducible exact HB17.out | with_reducible exact HB14.out | with_reducible exact HB12.out | with_reducible exact Below.refl _ _ | apply below_alloc | apply pw_below_drewN | apply below_drew1 | apply below_drew)) ?_; rintro e w12 ⟨v12, rfl, ho12, hb12⟩ hW; obtain ⟨A12, c12, rfl, _⟩ := Kd.S_reads ho12; rw [HN.out.1]; have HS12 := Aside0.mk (fun W (hW2 : Below w12.heap.size w12 W) => Kd.S_lower (Kd.S_mono (ok' := fun k => W1.heap.size ≤ k) (Kd.S_below (Kd.S_bound ho12) hW2) (fun k hk => Nat.le_trans hW.size hk.2.1)) hW.size); have HOW12 := Aside0.mk (fun j (e : (Value.slice A12 (clean g).length c12).ownBlock = some j) => And.intro (Kd.S_base ho12 j e) (Kd.S_lt ho12 j e)); rw [HN.out.1] at HS12 HOW12; have HB12 := Aside0.mk (hW.trans (hb12.mono hW.size)); have HBx12 := Aside0.mk hb12; clear ho12 hb12 hW)
    | (refine S_nil_step (w0 := W1) W1.heap.size rfl (.tmp 12) (.tmp 13) rfl Tryz.underlying22 info23 (.slice A12 n c12) (clean g) _ _ (fun k => W1.heap.size ≤ k) rfl rfl ?hc (fun k hk => Nat.le_trans (Below.size (by repeat (first | with_reducible exact HB20.out | with_reducible exact HB17.out | with_reducible exact HB14.out | with_reducible exact HB12.out | with_reducible exact Below.refl _ _ | apply below_alloc | apply pw_below_drewN | apply below_drew1 | apply below_drew))) hk) (HS12.out _ (by repeat (first | with_reducible exact Below.refl _ _ | apply below_alloc | apply pw_below_drewN | apply below_drew1 | apply below_drew))) (by repeat (first | with_reducible exact HB20.out | with_reducible exact HB17.out | with_reducible exact HB14.out | with_reducible exact HB12.out | with_reducible exact Below.refl _ _ | apply below_alloc | apply pw_below_drewN | apply below_drew1 | apply below_drew)) (Below.size (by repeat (first | with_reducible exact HB20.out | with_reducible exact HB17.out | with_reducible exact HB14.out | with_reducible exact HB12.out | with_reducible exact Below.refl _ _ | apply below_alloc | apply pw_below_drewN | apply below_drew1 | apply below_drew))) (by have := HN.out.1; omega) ?_; (case hc => repeat (first | exact cell_new _ _ _ | exact World.cell?_alloc_at _ _ _ _ (by simp) | apply cell?_alloc_some | refine cell_bel HBx17.out ?_ | refine cell_grown HG14.out (fun e => by have := HOW12.out _ e.symm; simp only [size_alloc1, size_drew1, size_drewN1] at *; omega) ?_ | refine cell_bel HBx12.out ?_)); intro v14 w14 ho14 hb14 hg14 _; obtain ⟨A14, c14, rfl, _⟩ := Kd.S_reads ho14; have HO14 := Aside0.mk ho14; have HB14 := Aside0.mk hb14; have HG14 := Aside0.mk hg14; clear ho14 hb14 hg14)
    | (go_at_call 24; refine bel_call (w := w14) (fun hW => HC2.out _ (HB14.out.trans (hW.mono HB14.out.size))) (by repeat (first | with_reducible exact Below.refl _ _ | apply below_alloc | apply pw_below_drewN | apply below_drew1 | apply below_drew)) ?_; rintro e w17 ⟨v17, rfl, ho17, hb17⟩ hW; obtain ⟨A17, c17, rfl⟩ := Kd.R_slice ho17; rw [HN.out.2]; have hle := Nat.le_trans HB14.out.size hW.size; have HR17 := Aside0.mk (fun W (hW2 : Below w17.heap.size w17 W) => Kd.R_lower (Kd.R_mono (ok' := fun k => W1.heap.size ≤ k) (Kd.R_below (Kd.R_bound ho17) hW2) (fun k hk => Nat.le_trans hle hk.2.1)) hle); have HOW17 := Aside0.mk (fun j (e : (Value.slice A17 l2.length c17).ownBlock = some j) => Nat.le_trans hW.size (Kd.R_base ho17 j e)); rw [HN.out.2] at HR17 HOW17; have HB1417 := Aside0.mk (hW.trans (hb17.mono hW.size)); have HB17 := Aside0.mk (HB14.out.trans (HB1417.out.mono HB14.out.size)); have HBx17 := Aside0.mk hb17; clear ho17 hb17 hW hle)
    | (refine R_one_step (w0 := W1) W1.heap.size rfl (.tmp 17) (.tmp 19) rfl Tryz.underlying23 info3 (.slice A17 n c17) l2 ow _ _ (fun k => W1.heap.size ≤ k) rfl rfl ?hc (fun k hk => Nat.le_trans (Below.size (by repeat (first | with_reducible exact HB20.out | with_reducible exact HB17.out | with_reducible exact HB14.out | with_reducible exact HB12.out | with_reducible exact Below.refl _ _ | apply below_alloc | apply pw_below_drewN | apply below_drew1 | apply below_drew))) hk) (HR17.out _ (by repeat (first | with_reducible exact Below.refl _ _ | apply below_alloc | apply pw_below_drewN | apply below_drew1 | apply below_drew))) (by repeat (first | with_reducible exact HB20.out | with_reducible exact HB17.out | with_reducible exact HB14.out | with_reducible exact HB12.out | with_reducible exact Below.refl _ _ | apply below_alloc | apply pw_below_drewN | apply below_drew1 | apply below_drew)) (Below.size (by repeat (first | with_reducible exact HB20.out | with_reducible exact HB17.out | with_reducible exact HB14.out | with_reducible exact HB12.out | with_reducible exact Below.refl _ _ | apply below_alloc | apply pw_below_drewN | apply below_drew1 | apply below_drew))) (by have := HN.out.2; omega) ?_; (case hc => repeat (first | exact cell_new _ _ _ | exact World.cell?_alloc_at _ _ _ _ (by simp) | apply cell?_alloc_some | refine cell_bel HBx17.out ?_ | refine cell_grown HG14.out (fun e => by have := HOW12.out _ e.symm; simp only [size_alloc1, size_drew1] at *; omega) ?_ | refine cell_bel HBx12.out ?_)); intro v20 w20 ho20 hb20 hg20 hat20; have HK20 := Aside0.mk (fun k (hk : k < w14.heap.size) => keep_grown hg20 (by repeat (first | with_reducible exact Below.refl _ _ | with_reducible exact HB1417.out | apply below_alloc | apply pw_below_drewN | apply below_drew1 | apply below_drew)) HOW17.out hk); have hob20 := own_after hat20 HOW17.out (Below.size (by repeat (first | with_reducible exact Below.refl _ _ | with_reducible exact HB1417.out | apply below_alloc | apply pw_below_drewN | apply below_drew1 | apply below_drew))); obtain ⟨A20, c20, rfl⟩ := Kd.R_slice ho20; have HOB20 := Aside0.mk hob20; have HO20 := Aside0.mk ho20; have HB20 := Aside0.mk hb20; have HG20 := Aside0.mk hg20; obtain ⟨⟨f0, f1, f2⟩, ⟨d0, d1, d2⟩, hz⟩ := HF6.out _ hb20; have HZ := Aside0.mk hz; clear ho20 hb20 hg20 hz hat20 hob20))
  all_goals go_wp2
  all_goals (refine bodyPost_ret (results_cell_row rfl _ _ (w.heap.size + 1) 29 #[.slice A14 ((clean g).length + 1) c14, .slice A20 (l2.length + 1) c20, .bool true] (0, 0) _ rfl (three_put HZ.out _ _ _) hu rfl (by kernel_rfl)) rfl ?_)
  all_goals (have hs1 := HS1.out; have e1 := grow_end (w := w) (wz := (((w20.setCell ⟨w.heap.size + 1, 0, none⟩ (.slice A14 ((clean g).length + 1) c14)).setCell ⟨w.heap.size + 1, 1, none⟩ (.slice A20 (l2.length + 1) c20)).setCell ⟨w.heap.size + 1, 2, none⟩ (.bool true))) (by omega) HO14.out HO20.out HK20.out HOB20.out (fun k hk => three_other (by omega) _ _ _); simp only [List.length_append, List.length_singleton] at e1; rw [HOW.out]; exact ⟨_, _, rfl, e1.1, e1.2, three_below (HBW.out.trans (HB20.out.mono HBW.out.size)) (Nat.le_succ _) _ _ _⟩)
 ·have c0 : ((n : Int) == 0) = false := by simp; omega
  have HOW := Aside0.mk (HR2.out.2 hn0)
  clear hn0
  go_upto_region 5 with (fail)
  obtain ⟨ow, how⟩ : ∃ ow : Int, ow = -2 := ⟨_, rfl⟩
  rw [← how] at HOW
  rw [← how]
  clear how c0
  go_region_held3 (fun W => W.cell? ⟨w.heap.size, 0, none⟩ = some (.slice AG n cG) ∧ W.cell? ⟨w.heap.size, 1, none⟩ = some (.slice AI n cI))
   (first | with_reducible exact HKS.out _ _ _ _ HB20.out | exact HKE.out _ (by repeat (first | with_reducible exact HB20.out | with_reducible exact HB17.out | with_reducible exact HB14.out | with_reducible exact HB12.out | with_reducible exact Below.refl _ _ | apply below_alloc | apply pw_below_drewN | apply below_drew1 | apply below_drew)))
   (first
    | (go_at_call 39; refine bel_call (w := W1) (HC1.out _) (by repeat (first | with_reducible exact HB20.out | with_reducible exact HB17.out | with_reducible exact HB14.out | with_reducible exact HB12.out | with_reducible exact Below.refl _ _ | apply below_alloc | apply pw_below_drewN | apply below_drew1 | apply below_drew)) ?_; rintro e w12 ⟨v12, rfl, ho12, hb12⟩ hW; obtain ⟨A12, c12, rfl, _⟩ := Kd.S_reads ho12; rw [HN.out.1]; have HS12 := Aside0.mk (fun W (hW2 : Below w12.heap.size w12 W) => Kd.S_lower (Kd.S_mono (ok' := fun k => W1.heap.size ≤ k) (Kd.S_below (Kd.S_bound ho12) hW2) (fun k hk => Nat.le_trans hW.size hk.2.1)) hW.size); have HOW12 := Aside0.mk (fun j (e : (Value.slice A12 (clean g).length c12).ownBlock = some j) => And.intro (Kd.S_base ho12 j e) (Kd.S_lt ho12 j e)); rw [HN.out.1] at HS12 HOW12; have HB12 := Aside0.mk (hW.trans (hb12.mono hW.size)); have HBx12 := Aside0.mk hb12; clear ho12 hb12 hW)
    | (refine S_nil_step (w0 := W1) W1.heap.size rfl (.tmp 12) (.tmp 13) rfl Tryz.underlying22 info23 (.slice A12 n c12) (clean g) _ _ (fun k => W1.heap.size ≤ k) rfl rfl ?hc (fun k hk => Nat.le_trans (Below.size (by repeat (first | with_reducible exact HB20.out | with_reducible exact HB17.out | with_reducible exact HB14.out | with_reducible exact HB12.out | with_reducible exact Below.refl _ _ | apply below_alloc | apply pw_below_drewN | apply below_drew1 | apply below_drew))) hk) (HS12.out _ (by repeat (first | with_reducible exact Below.refl _ _ | apply below_alloc | apply pw_below_drewN | apply below_drew1 | apply below_drew))) (by repeat (first | with_reducible exact HB20.out | with_reducible exact HB17.out | with_reducible exact HB14.out | with_reducible exact HB12.out | with_reducible exact Below.refl _ _ | apply below_alloc | apply pw_below_drewN | apply below_drew1 | apply below_drew)) (Below.size (by repeat (first | with_reducible exact HB20.out | with_reducible exact HB17.out | with_reducible exact HB14.out | with_reducible exact HB12.out | with_reducible exact Below.refl _ _ | apply below_alloc | apply pw_below_drewN | apply below_drew1 | apply below_drew))) (by have := HN.out.1; omega) ?_; (case hc => repeat (first | exact cell_new _ _ _ | exact World.cell?_alloc_at _ _ _ _ (by simp) | apply cell?_alloc_some | refine cell_bel HBx17.out ?_ | refine cell_grown HG14.out (fun e => by have := HOW12.out _ e.symm; simp only [size_alloc1, size_drew1, size_drewN1] at *; omega) ?_ | refine cell_bel HBx12.out ?_)); intro v14 w14 ho14 hb14 hg14 _; obtain ⟨A14, c14, rfl, _⟩ := Kd.S_reads ho14; have HO14 := Aside0.mk ho14; have HB14 := Aside0.mk hb14; have HG14 := Aside0.mk hg14; clear ho14 hb14 hg14)
    | (go_at_call 24; refine bel_call (w := w14) (fun hW => HC2.out _ (HB14.out.trans (hW.mono HB14.out.size))) (by repeat (first | with_reducible exact Below.refl _ _ | apply below_alloc | apply pw_below_drewN | apply below_drew1 | apply below_drew)) ?_; rintro e w17 ⟨v17, rfl, ho17, hb17⟩ hW; obtain ⟨A17, c17, rfl⟩ := Kd.R_slice ho17; rw [HN.out.2]; have hle := Nat.le_trans HB14.out.size hW.size; have HR17 := Aside0.mk (fun W (hW2 : Below w17.heap.size w17 W) => Kd.R_lower (Kd.R_mono (ok' := fun k => W1.heap.size ≤ k) (Kd.R_below (Kd.R_bound ho17) hW2) (fun k hk => Nat.le_trans hle hk.2.1)) hle); have HOW17 := Aside0.mk (fun j (e : (Value.slice A17 l2.length c17).ownBlock = some j) => Nat.le_trans hW.size (Kd.R_base ho17 j e)); rw [HN.out.2] at HR17 HOW17; have HB1417 := Aside0.mk (hW.trans (hb17.mono hW.size)); have HB17 := Aside0.mk (HB14.out.trans (HB1417.out.mono HB14.out.size)); have HBx17 := Aside0.mk hb17; clear ho17 hb17 hW hle)
    | (refine R_one_step (w0 := W1) W1.heap.size rfl (.tmp 17) (.tmp 19) rfl Tryz.underlying23 info3 (.slice A17 n c17) l2 ow _ _ (fun k => W1.heap.size ≤ k) rfl rfl ?hc (fun k hk => Nat.le_trans (Below.size (by repeat (first | with_reducible exact HB20.out | with_reducible exact HB17.out | with_reducible exact HB14.out | with_reducible exact HB12.out | with_reducible exact Below.refl _ _ | apply below_alloc | apply pw_below_drewN | apply below_drew1 | apply below_drew))) hk) (HR17.out _ (by repeat (first | with_reducible exact Below.refl _ _ | apply below_alloc | apply pw_below_drewN | apply below_drew1 | apply below_drew))) (by repeat (first | with_reducible exact HB20.out | with_reducible exact HB17.out | with_reducible exact HB14.out | with_reducible exact HB12.out | with_reducible exact Below.refl _ _ | apply below_alloc | apply pw_below_drewN | apply below_drew1 | apply below_drew)) (Below.size (by repeat (first | with_reducible exact HB20.out | with_reducible exact HB17.out | with_reducible exact HB14.out | with_reducible exact HB12.out | with_reducible exact Below.refl _ _ | apply below_alloc | apply pw_below_drewN | apply below_drew1 | apply below_drew))) (by have := HN.out.2; omega) ?_; (case hc => repeat (first | exact cell_new _ _ _ | exact World.cell?_alloc_at _ _ _ _ (by simp) | apply cell?_alloc_some | refine cell_bel HBx17.out ?_ | refine cell_grown HG14.out (fun e => by have := HOW12.out _ e.symm; simp only [size_alloc1, size_drew1] at *; omega) ?_ | refine cell_bel HBx12.out ?_)); intro v20 w20 ho20 hb20 hg20 hat20; have HK20 := Aside0.mk (fun k (hk : k < w14.heap.size) => keep_grown hg20 (by repeat (first | with_reducible exact Below.refl _ _ | with_reducible exact HB1417.out | apply below_alloc | apply pw_below_drewN | apply below_drew1 | apply below_drew)) HOW17.out hk); have hob20 := own_after hat20 HOW17.out (Below.size (by repeat (first | with_reducible exact Below.refl _ _ | with_reducible exact HB1417.out | apply below_alloc | apply pw_below_drewN | apply below_drew1 | apply below_drew))); obtain ⟨A20, c20, rfl⟩ := Kd.R_slice ho20; have HOB20 := Aside0.mk hob20; have HO20 := Aside0.mk ho20; have HB20 := Aside0.mk hb20; have HG20 := Aside0.mk hg20; obtain ⟨⟨f0, f1, f2⟩, ⟨d0, d1, d2⟩, hz⟩ := HF6.out _ hb20; have HZ := Aside0.mk hz; clear ho20 hb20 hg20 hz hat20 hob20))
  all_goals go_wp2
  all_goals (refine bodyPost_ret (results_cell_row rfl _ _ (w.heap.size + 1) 29 #[.slice A14 ((clean g).length + 1) c14, .slice A20 (l2.length + 1) c20, .bool true] (0, 0) _ rfl (three_put HZ.out _ _ _) hu rfl (by kernel_rfl)) rfl ?_)
  all_goals (have hs1 := HS1.out; have e1 := grow_end (w := w) (wz := (((w20.setCell ⟨w.heap.size + 1, 0, none⟩ (.slice A14 ((clean g).length + 1) c14)).setCell ⟨w.heap.size + 1, 1, none⟩ (.slice A20 (l2.length + 1) c20)).setCell ⟨w.heap.size + 1, 2, none⟩ (.bool true))) (by omega) HO14.out HO20.out HK20.out HOB20.out (fun k hk => three_other (by omega) _ _ _); simp only [List.length_append, List.length_singleton] at e1; rw [HOW.out]; exact ⟨_, _, rfl, e1.1, e1.2, three_below (HBW.out.trans (HB20.out.mono HBW.out.size)) (Nat.le_succ _) _ _ _⟩)
end Go.Proofs.YtemcmcnhpdkdfaaGreat.P
namespace Go.Proofs.YtemcmcnhpdkdfaaGreat.P
open Go.RowKit Go.Lib Go.Proofs.YtemcmcnhpdkdfaaGreatW.PrintWords
def exU : List (List Int) := [[1], [2], []]
def exU2 : List (List Int) := [[1, 2], [2], []]
theorem exU_clean : clean exU = exU := clean_self (by intro l hl; simp only [exU, List.mem_cons, List.not_mem_nil, or_false] at hl; rcases hl with rfl | rfl | rfl <;> intro b hb <;> simp at hb <;> (try subst hb) <;> decide) (by decide)
theorem exU2_clean : clean exU2 = exU2 := clean_self (by intro l hl; simp only [exU2, List.mem_cons, List.not_mem_nil, or_false] at hl; rcases hl with rfl | rfl | rfl <;> intro b hb <;> simp at hb <;> (try rcases hb with rfl | rfl) <;> (try subst hb) <;> decide) (by decide)
theorem exU_fits : fits exU = true := by decide
theorem exU2_fits : fits exU2 = true := by decide
theorem exU_told0 : toldOf exU 0 = some [2, 1, 0] := by rfl
theorem exU2_told0 : toldOf exU2 0 = some [2, 1, 0] := by rfl
theorem exU_f : dom_Idoms.f 20 exU = some [-1, 0, 1] := by
 have h0 : graph_Order.f exU 0 = some [0, 1, 2] := by unfold graph_Order.f; rw [if_pos exU_fits, exU_clean, exU_told0]; rfl
 unfold dom_Idoms.f idF
 rw [if_pos exU_fits, if_neg (by decide), h0, Option.bind_some, exU_clean, if_pos (by decide)]
 rfl
theorem exU2_f : dom_Idoms.f 20 exU2 = some [-1, 0, 0] := by
 have h0 : graph_Order.f exU2 0 = some [0, 1, 2] := by unfold graph_Order.f; rw [if_pos exU2_fits, exU2_clean, exU2_told0]; rfl
 unfold dom_Idoms.f idF
 rw [if_pos exU2_fits, if_neg (by decide), h0, Option.bind_some, exU2_clean, if_pos (by decide)]
 rfl
theorem exU_stt : Stt exU [-1, 0, 1] := by
 have h := idoms_dom (g := exU) ⟨exU_fits, by decide⟩ exU_f
 rw [exU_clean] at h
 exact ⟨by have := clean_Valid exU; rwa [exU_clean] at this, by have := clean_rises exU; rwa [exU_clean] at this, by decide, h⟩
theorem exU2_stt : Stt exU2 [-1, 0, 0] := by
 have h := idoms_dom (g := exU2) ⟨exU2_fits, by decide⟩ exU2_f
 rw [exU2_clean] at h
 exact ⟨by have := clean_Valid exU2; rwa [exU2_clean] at this, by have := clean_rises exU2; rwa [exU2_clean] at this, by decide, h⟩
theorem exU_with : withE exU 0 2 = exU2 := by decide
end Go.Proofs.YtemcmcnhpdkdfaaGreat.P
namespace Go.Proofs.YtemcmcnhpdkdfaaGreat.P
open Go.RowKit Go.Lib Go.Proofs.YtemcmcnhpdkdfaaGreatW.PrintWords
theorem is_now (g : List (List Int)) (a : Int) : bywashref10_is.f g a = some (isN g.length a) := by
 unfold bywashref10_is.f
 by_cases h : 0 ≤ a
 ·rw [if_pos h]
  unfold isN
  congr 1
  exact decide_eq_decide.2 ⟨fun k => ⟨h, k⟩, fun k => k.2⟩
 ·rw [if_neg h, isN_no (fun k => h k.1)]
theorem row_clean {d : List (List Int)} {x : Int} (h : x.toNat < d.length) : row (clean d) x = cleanRow d.length (row d x) := by
 unfold clean row
 rw [List.getD_eq_getElem?_getD, List.getElem?_map, List.getD_eq_getElem?_getD, List.getElem?_eq_getElem h]
 rfl
theorem clean_put {c : List (List Int)} (hv : Valid c) (hr : ∀ l ∈ c, l.Pairwise (· < ·)) {a b : Int} (ha : isN c.length a = true) (hb : isN c.length b = true) : clean (c.set a.toNat (c.getD a.toNat [] ++ [b])) = withE c a b := by
 have hN : Node c a := isN_iff.1 ha
 have hM : Node c b := isN_iff.1 hb
 refine graph_ext (by rw [clean_len, withE_len, List.length_set]) (clean_rises _) (withE_rises hr) (fun x y hx hxl => ?_)
 rw [clean_len, List.length_set] at hxl
 rw [mem_withE hN hM hx]
 have e := row_clean (d := c.set a.toNat (c.getD a.toNat [] ++ [b])) (x := x) (by rw [List.length_set]; omega)
 rw [List.length_set] at e
 rw [e, cleanRow_filter, List.mem_filter, decide_eq_true_iff, row_set hN hx]
 by_cases h : x = a
 ·subst h
  rw [if_pos rfl, List.mem_append, List.mem_singleton]
  refine ⟨fun k => k.2.elim .inl (fun e => .inr ⟨rfl, e⟩), fun k => ?_⟩
  rcases k with k | ⟨_, rfl⟩
  ·exact ⟨mem_nodes.2 (hv _ (row_at hN) _ k), .inl k⟩
  ·exact ⟨mem_nodes.2 hM, .inr rfl⟩
 ·rw [if_neg h]
  refine ⟨fun k => .inl k.2, fun k => ?_⟩
  rcases k with k | k
  ·exact ⟨mem_nodes.2 (row_node hv k), k⟩
  ·exact absurd k.1 h
theorem stt_few {c : List (List Int)} {l : List Int} (h : Stt c l) : ∀ r ∈ c, r.length ≤ 900 := fun r hr => by
 have := few_nodes ((h.r r hr).imp (fun h => by omega)) (h.v r hr)
 have := h.n
 omega
theorem refclean_self {c : List (List Int)} {l : List Int} (h : Stt c l) : Ev (fun k => bywashref10_Clean.f k c) c := by
 have := refclean_ev c h.n (stt_few h)
 rwa [h.self] at this
theorem refwith_ev {g : List (List Int)} {l : List Int} (hn : g.length ≤ 800) (hr : ∀ r ∈ g, r.length ≤ 900) (h : Stt (clean g) l) (a b : Int) : Ev (fun k => bywashref10_With.f k g a b) (withE (clean g) a b) := by
 refine Ev.bind (refclean_ev g (by omega) hr) ?_
 have hl := clean_len g
 simp only [is_now, Option.bind_some]
 have out : ∀ (_ : ¬ (Node (clean g) a ∧ Node (clean g) b)), Ev (fun k => (bywashref10_Clean.f k (clean g)).bind fun t => some t) (withE (clean g) a b) := fun hno => by
  rw [withE_self (.inl hno)]
  exact Ev.bind (f := fun _ t => some t) (refclean_self h) (Ev.now _)
 by_cases ha : isN g.length a = true
 ·simp only [if_pos ha]
  have ha2 := isN_iff.1 ha
  by_cases hb : isN g.length b = true
  ·have hb2 := isN_iff.1 hb
   have hrow := stt_few h (row (clean g) a) (row_at ⟨ha2.1, by rw [hl]; exact ha2.2⟩)
   simp only [if_pos hb, if_pos ha2.1, if_pos (show a < ((clean g).length : Int) by rw [hl]; exact ha2.2), if_pos (show (rd_L1 (clean g) a).length < 17592186044416 from Nat.lt_of_le_of_lt hrow (by omega))]
   refine Ev.bind (f := fun _ t => some t) (a := withE (clean g) a b) ?_ (Ev.now _)
   have e := clean_put (c := clean g) h.v h.r (a := a) (b := b) (by rw [hl]; exact ha) (by rw [hl]; exact hb)
   rw [← e]
   refine refclean_ev _ (by rw [List.length_set, hl]; omega) (set_all (stt_few h) ?_)
   rw [List.length_append, List.length_singleton]
   have := few_nodes ((h.r _ (row_at ⟨ha2.1, by rw [hl]; exact ha2.2⟩)).imp (fun h => by omega)) (h.v _ (row_at ⟨ha2.1, by rw [hl]; exact ha2.2⟩))
   rw [hl] at this
   have : (row (clean g) a).length = ((clean g).getD a.toNat []).length := rfl
   have : (rd_L1 (clean g) a).length = ((clean g).getD a.toNat []).length := rfl
   omega
  ·simp only [if_neg hb]
   exact out (fun k => hb (isN_iff.2 (by have := k.2; rw [Node, hl] at this; exact this)))
 ·simp only [if_neg ha]
  exact out (fun k => ha (isN_iff.2 (by have := k.1; rw [Node, hl] at this; exact this)))
theorem refwithout_l0 (a b : Int) (c : List (List Int)) (ha : isN c.length a = true) (hl : (rd_L1 c a).length ≤ 900) : ∀ d i : Nat, i + d = (rd_L1 c a).length → ∀ out : List Int, out.length ≤ i →
  Ev (fun k => bywashref10_Without.l0 k a b c out (i : Int)) (c.set a.toNat (out ++ ((rd_L1 c a).drop i).filter fun x => !decide (x = b)))
 | 0, i, hd, out, _ => by
  have ha2 := isN_iff.1 ha
  rw [List.drop_eq_nil_of_le (by omega), List.filter_nil, List.append_nil]
  exact Ev.step (f := fun _ => some (c.set a.toNat out)) (fun k => by rw [bywashref10_Without.l0, if_pos ha2.1, if_pos ha2.2, if_neg (by omega)]) (Ev.now _)
 | d + 1, i, hd, out, ho => by
  have ha2 := isN_iff.1 ha
  have hi : i < (rd_L1 c a).length := by omega
  rw [List.drop_eq_getElem_cons hi, List.filter_cons]
  by_cases e : (rd_L1 c a)[i] = b
  ·rw [if_neg (by simp [e])]
   refine Ev.step (f := fun k => bywashref10_Without.l0 k a b c out ((i + 1 : Nat) : Int)) (fun k => by rw [bywashref10_Without.l0, if_pos ha2.1, if_pos ha2.2, if_pos (by omega), if_pos (by omega), rd_nat' hi, if_pos e, wrap_succ (by omega)]) ?_
   exact refwithout_l0 a b c ha hl d (i + 1) (by omega) out (by omega)
  ·rw [if_pos (by simp [e])]
   refine Ev.step (f := fun k => bywashref10_Without.l0 k a b c (out ++ [(rd_L1 c a)[i]]) ((i + 1 : Nat) : Int)) (fun k => by rw [bywashref10_Without.l0, if_pos ha2.1, if_pos ha2.2, if_pos (by omega), if_pos (by omega), rd_nat' hi, if_neg e, if_pos (by omega), wrap_succ (by omega)]) ?_
   have := refwithout_l0 a b c ha hl d (i + 1) (by omega) (out ++ [(rd_L1 c a)[i]]) (by rw [List.length_append, List.length_singleton]; omega)
   rw [List.append_assoc] at this
   exact this
theorem refwithout_ev {g : List (List Int)} {l : List Int} (hn : g.length ≤ 900) (hr : ∀ r ∈ g, r.length ≤ 900) (h : Stt (clean g) l) (a b : Int) : Ev (fun k => bywashref10_Without.f k g a b) (withoutE (clean g) a b) := by
 refine Ev.bind (refclean_ev g hn hr) ?_
 have hl := clean_len g
 simp only [is_now, Option.bind_some]
 by_cases ha : isN g.length a = true
 ·simp only [if_pos ha]
  have ha' : isN (clean g).length a = true := by rw [hl]; exact ha
  have hrow := stt_few h (row (clean g) a) (row_at (isN_iff.1 ha'))
  have k := refwithout_l0 a b (clean g) ha' hrow (rd_L1 (clean g) a).length 0 (by omega) [] (by simp)
  unfold withoutE
  rw [if_pos ha']
  exact k
 ·simp only [if_neg ha]
  rw [withoutE_self h.r (.inl (fun k => ha (isN_iff.2 (by rw [Node, hl] at k; exact k))))]
  exact Ev.now _
theorem refchanged_l0 (c c3 : List (List Int)) (l l3 : List Int) (he : l3.length = l.length) (hn : l.length ≤ 900) : ∀ d i : Nat, i + d = l.length → ∀ out : List Int, out.length ≤ i →
  Ev (fun k => bywashref15_changed.l0 k out (i : Int) c l c3 l3) (out ++ ((((List.range l.length).drop i).filter fun i : Nat => decide (rd l3 (i : Int) ≠ rd l (i : Int))).map fun i : Nat => (i : Int)))
 | 0, i, hd, out, _ => by
  rw [List.drop_eq_nil_of_le (by simp; omega), List.filter_nil, List.map_nil, List.append_nil]
  exact Ev.step (f := fun _ => some out) (fun k => by rw [bywashref15_changed.l0, if_neg (by omega)]) (Ev.now _)
 | d + 1, i, hd, out, ho => by
  have hi : i < l.length := by omega
  rw [List.drop_eq_getElem_cons (by simp; omega), List.getElem_range, List.filter_cons]
  by_cases e : rd l (i : Int) = rd l3 (i : Int)
  ·rw [if_neg (by simp [e])]
   refine Ev.step (f := fun k => bywashref15_changed.l0 k out ((i + 1 : Nat) : Int) c l c3 l3) (fun k => by rw [bywashref15_changed.l0, if_pos (by omega), if_pos (by omega), if_pos (by omega), if_pos e, wrap_succ (by omega)]) ?_
   exact refchanged_l0 c c3 l l3 he hn d (i + 1) (by omega) out (by omega)
  ·rw [if_pos (by simp; exact fun k => e k.symm), List.map_cons]
   refine Ev.step (f := fun k => bywashref15_changed.l0 k (out ++ [(i : Int)]) ((i + 1 : Nat) : Int) c l c3 l3) (fun k => by rw [bywashref15_changed.l0, if_pos (by omega), if_pos (by omega), if_pos (by omega), if_neg e, if_pos (by omega), wrap_succ (by omega)]) ?_
   have := refchanged_l0 c c3 l l3 he hn d (i + 1) (by omega) (out ++ [(i : Int)]) (by rw [List.length_append, List.length_singleton]; omega)
   rw [List.append_assoc] at this
   exact this
theorem refchanged_ev (c c3 : List (List Int)) {l l3 : List Int} (he : l3.length = l.length) (hn : l.length ≤ 900) : Ev (fun k => bywashref15_changed.f k c l c3 l3) (changedB l l3) := by
 have := refchanged_l0 c c3 l l3 he hn l.length 0 (by omega) [] (by simp)
 rw [List.drop_zero, List.nil_append] at this
 exact this
theorem refnew_ev {g : List (List Int)} (hn : g.length ≤ 900) (hr : ∀ r ∈ g, r.length ≤ 900) {l : List Int} (h : Stt (clean g) l) : Ev (fun k => bywashref15_New.f k g) (clean g, l) :=
 Ev.bind (f := fun k t => (bywashref14_Idoms.f k g).bind fun u => some (t, u)) (refclean_ev g hn hr) (Ev.bind (f := fun _ u => some (clean g, u)) (refidoms_ev hn hr h.d) (Ev.now _))
theorem refnew_self {c : List (List Int)} {l : List Int} (h : Stt c l) : Ev (fun k => bywashref15_New.f k c) (c, l) := by
 have := refnew_ev h.n (stt_few h) (l := l) (by rw [h.self]; exact h)
 rwa [h.self] at this
theorem refadd_ev {g : List (List Int)} (il : List Int) (hn : g.length ≤ 800) (hr : ∀ r ∈ g, r.length ≤ 900) {l l3 : List Int} (h : Stt (clean g) l) {a b : Int} (h3 : Stt (withE (clean g) a b) l3) : Ev (fun k => bywashref15_Add.f k g il a b) (withE (clean g) a b, l3, changedB l l3) := by
 refine Ev.bind (refwith_ev hn hr h a b) (Ev.bind (refnew_self h3) (Ev.bind (refnew_ev (by omega) hr h) (Ev.bind (refchanged_ev _ _ ?_ ?_) (Ev.now _))))
 ·rw [h.len, h3.len, withE_len]
 ·rw [h.len]; exact h.n
theorem refdel_ev {g : List (List Int)} (il : List Int) (hn : g.length ≤ 900) (hr : ∀ r ∈ g, r.length ≤ 900) {l l3 : List Int} (h : Stt (clean g) l) {a b : Int} (h3 : Stt (withoutE (clean g) a b) l3) : Ev (fun k => bywashref15_Del.f k g il a b) (withoutE (clean g) a b, l3, changedB l l3) := by
 refine Ev.bind (refwithout_ev hn hr h a b) (Ev.bind (refnew_self h3) (Ev.bind (refnew_ev hn hr h) (Ev.bind (refchanged_ev _ _ ?_ ?_) (Ev.now _))))
 ·rw [h.len, h3.len, withoutE_len]
 ·rw [h.len]; exact h.n
theorem refsame15_ev {c : List (List Int)} {l : List Int} (h : Stt c l) : Ev (fun k => bywashref15_Same.f k c l c l) true := by
 have hn := h.n
 refine Ev.bind (same_ev c c (by omega) (fun r hr => by have := stt_few h r hr; omega)) ?_
 simp only [decide_true, if_true]
 have := ints_ev l l (by rw [h.len]; omega)
 rw [decide_eq_true rfl] at this
 exact Ev.bind (f := fun _ t => some t) this (Ev.now _)
theorem refsane15_ev {g : List (List Int)} {il : List Int} (hn : g.length ≤ 900) (hr : ∀ r ∈ g, r.length ≤ 900) (hil : il.length ≤ 9223372036854775807) {l : List Int} (h : Stt (clean g) l) : Ev (fun k => bywashref15_Sane.f k g il) (decide (g = clean g) && decide (il = l)) := by
 refine Ev.bind (refnew_ev hn hr h) (Ev.bind (f := fun _ t => some t) ?_ (Ev.now _))
 refine Ev.bind (same_ev g (clean g) (by omega) (fun r k => by have := hr r k; omega)) ?_
 by_cases e : g = clean g
 ·rw [decide_eq_true e]
  simp only [if_true, Bool.true_and]
  exact Ev.bind (f := fun _ t => some t) (ints_ev il l hil) (Ev.now _)
 ·rw [decide_eq_false e]
  simp only [Bool.false_eq_true, if_false, Bool.false_and]
  exact Ev.now _
theorem refgrow_ev {g : List (List Int)} (il : List Int) (hn : g.length ≤ 800) (hr : ∀ r ∈ g, r.length ≤ 900) {l : List Int} (h : Stt (clean g) l) : Ev (fun k => bywashref15_Grow.f k g il) (clean g ++ [[]], l ++ [if g.length = 0 then -1 else -2]) := by
 have hl := clean_len g
 have h3 := stt_grow h (by rw [hl]; omega)
 rw [hl] at h3
 refine Ev.bind (refclean_ev g (by omega) hr) ?_
 simp only [if_pos (show (clean g).length < 5864062014805 by rw [hl]; omega)]
 exact Ev.bind (f := fun _ t => some (t.1, t.2)) (refnew_self h3) (Ev.now _)
theorem reftop_ev {g : List (List Int)} (il : List Int) (hn : g.length ≤ 900) (hr : ∀ r ∈ g, r.length ≤ 900) {l : List Int} (h : Stt (clean g) l) (a b : Int) : Ev (fun k => bywashref15_Top.f k g il a b) (commonB l a b) := by
 unfold bywashref15_Top.f
 exact Ev.bind (refnew_ev hn hr h) (Ev.bind (f := fun _ u => some u) (refcommon_ev l (by rw [h.len]; exact h.n) a b) (Ev.now _))
theorem made0 {g : List (List Int)} (hs : Small g) (il l : List Int) (hil : il.length ≤ 100000) : smallB g = true ∧ il.length ≤ 100000 ∧ madeB g il l false = true := ⟨smallB_iff.2 hs, hil, rfl⟩
theorem add0_ev {g : List (List Int)} (hs : Small g) {il l l3 : List Int} (hil : il.length ≤ 100000) (h : Stt (clean g) l) {a b : Int} (h3 : Stt (withE (clean g) a b) l3) : Ev (fun k => domup_Add.f k g il false a b) (withE (clean g) a b, l3, true, changedB l l3) := by
 refine Ev.bind (idoms_ev hs h.d) (Ev.bind h3.idoms ?_)
 rw [if_pos (made0 hs il l hil)]
 exact Ev.now _
theorem del0_ev {g : List (List Int)} (hs : Small g) {il l l3 : List Int} (hil : il.length ≤ 100000) (h : Stt (clean g) l) {a b : Int} (h3 : Stt (withoutE (clean g) a b) l3) : Ev (fun k => domup_Del.f k g il false a b) (withoutE (clean g) a b, l3, true, changedB l l3) := by
 refine Ev.bind (idoms_ev hs h.d) (Ev.bind h3.idoms ?_)
 rw [if_pos (made0 hs il l hil)]
 exact Ev.now _
theorem grow0_ev {g : List (List Int)} (hs : Small g) {il l : List Int} (hil : il.length ≤ 100000) (h : Stt (clean g) l) : Ev (fun k => domup_Grow.f k g il false) (clean g ++ [[]], l ++ [if g.length = 0 then -1 else -2], true) := by
 refine Ev.bind (idoms_ev hs h.d) ?_
 rw [if_pos (made0 hs il l hil)]
 exact Ev.now _
theorem top0_ev {g : List (List Int)} (hs : Small g) {il l : List Int} (hil : il.length ≤ 100000) (h : Stt (clean g) l) (a b : Int) : Ev (fun k => domup_Top.f k g il false a b) (commonB l a b) := by
 refine Ev.bind (idoms_ev hs h.d) ?_
 rw [if_pos (made0 hs il l hil)]
 exact Ev.now _
theorem sane0_ev {g : List (List Int)} (hs : Small g) {il l : List Int} (hil : il.length ≤ 100000) (h : Stt (clean g) l) : Ev (fun k => domup_Sane.f k g il false) (decide (g = clean g) && decide (il = l)) := by
 refine Ev.congr (f := fun k => (dom_Idoms.f k g).bind fun l2 => if l2.length ≤ 100000 then some (decide (g = clean g) && decide (il = l2)) else none) (fun k => by unfold domup_Sane.f; rw [if_pos ⟨hs.1, hil⟩]) ?_
 refine Ev.bind (idoms_ev hs h.d) ?_
 rw [if_pos (by rw [h.len]; have := h.n; omega)]
 exact Ev.now _
end Go.Proofs.YtemcmcnhpdkdfaaGreat.P
namespace Go.Proofs.YtemcmcnhpdkdfaaGreat.P
open Go.RowKit Go.Shelf Go.Lib Go.Sort Go.Proofs.YtemcmcnhpdkdfaaGreatW.PrintWords Go.Proofs.YtemcmcnhpdkdfaaGreatW.PrintLast Go.Proofs.YtemcmcnhpdkdfaaGreatW.PrintMore
set_option maxHeartbeats 4000000 in
set_option maxRecDepth 100000 in
theorem ours_c (A0 : Option Addr) (n0 c0 : Nat) (A1 : Option Addr) (n1 c1 : Nat) (w : World) :
  Calls Tryz.prog 6 #[.agg #[.slice A0 n0 c0, .slice A1 n1 c1]] w fun e w' => e = .returned (.agg #[.slice A0 n0 c0, .slice A1 n1 c1, .bool false]) ∧ Below w.heap.size w w' := by
 have hu := Tryz.underlying29
 have hu2 := Tryz.underlying25
 obtain ⟨hp, hq, hs3, hw3⟩ := two_boxes (Below.refl ((w.alloc (.cells #[.slice A0 n0 c0, .slice A1 n1 c1] 25)).alloc (.cells #[.slice none 0 0, .slice none 0 0, .bool false] 29)).heap.size _)
 have f0 := frozen_of_blk 0 hp
 have f1 := frozen_of_blk 1 hp
 have d0 := cell_of_blk (j := 0) hp rfl
 have d1 := cell_of_blk (j := 1) hp rfl
 clear hp hq hs3 hw3
 go_enter Tryz.func6, Tryz.ntmps6
 go_wp2
 refine bodyPost_ret (results_cell_row rfl _ _ (w.heap.size + 1) 29 #[.slice A0 n0 c0, .slice A1 n1 c1, .bool false] (0, 0) _ rfl (heap_new _ _ _ (by rw [size_alloc1])) hu rfl (by kernel_rfl)) rfl ?_
 exact ⟨rfl, below_alloc (below_alloc (Below.refl _ _) _) _⟩
set_option maxHeartbeats 4000000 in
set_option maxRecDepth 100000 in
theorem theirs_c (A0 : Option Addr) (n0 c0 : Nat) (A1 : Option Addr) (n1 c1 : Nat) (kp : Bool) (w : World) :
  Calls Tryz.prog 12 #[.agg #[.slice A0 n0 c0, .slice A1 n1 c1, .bool kp]] w fun e w' => e = .returned (.agg #[.slice A0 n0 c0, .slice A1 n1 c1]) ∧ Below w.heap.size w w' := by
 have hu := Tryz.underlying29
 have hu2 := Tryz.underlying25
 obtain ⟨hp, hq, hs3, hw3⟩ := two_boxes (Below.refl ((w.alloc (.cells #[.slice A0 n0 c0, .slice A1 n1 c1, .bool kp] 29)).alloc (.cells #[.slice none 0 0, .slice none 0 0] 25)).heap.size _)
 have f0 := frozen_of_blk 0 hp
 have f1 := frozen_of_blk 1 hp
 have d0 := cell_of_blk (j := 0) hp rfl
 have d1 := cell_of_blk (j := 1) hp rfl
 clear hp hq hs3 hw3
 go_enter Tryz.func12, Tryz.ntmps12
 go_wp2
 refine bodyPost_ret (results_cell_row rfl _ _ (w.heap.size + 1) 25 #[.slice A0 n0 c0, .slice A1 n1 c1] (0, 0) _ rfl (heap_new _ _ _ (by rw [size_alloc1])) hu2 rfl (by kernel_rfl)) rfl ?_
 exact ⟨rfl, below_alloc (below_alloc (Below.refl _ _) _) _⟩
end Go.Proofs.YtemcmcnhpdkdfaaGreat.P
namespace Go.Proofs.YtemcmcnhpdkdfaaGreat.P
open Go.RowKit Go.Shelf Go.Lib Go.Sort Go.Proofs.YtemcmcnhpdkdfaaGreatW.PrintWords Go.Proofs.YtemcmcnhpdkdfaaGreatW.PrintLast Go.Proofs.YtemcmcnhpdkdfaaGreatW.PrintMore
theorem outO {f : FuncId} {args : Array Value} {W : World} {c : List (List Int)} {l ch : List Int} {n m : Nat} (ec : c.length = n) (el : l.length = n) (em : ch.length = m)
  (h : Calls Tryz.prog f args W fun e w' => ∃ v0_ v1_ v2_ : Value, e = .returned (.tuple #[.agg #[v0_, v1_, .bool true], v2_]) ∧ Kd.S (Kd.slice 3 (Kd.int .i64)) 23 w' W.heap.size (fun k_ => some k_ ≠ (v1_ : Value).ownBlock ∧ some k_ ≠ (v2_ : Value).ownBlock) v0_ c ∧ Kd.R (Kd.int .i64) 3 w' W.heap.size (fun k_ => some k_ ≠ (v2_ : Value).ownBlock) v1_ l ∧ Kd.R (Kd.int .i64) 3 w' W.heap.size (fun k_ => some k_ ≠ (v1_ : Value).ownBlock) v2_ ch ∧ Below W.heap.size W w') :
  Calls Tryz.prog f args W fun e w' => ∃ AX cX AY cY AL cL, e = .returned (.tuple #[.agg #[.slice AX n cX, .slice AY n cY, .bool true], .slice AL m cL]) ∧ (StC w' AX cX AY cY c l ∧ dI.C w' AL ch.length ch ∧ ch.length ≤ cL) ∧ Below W.heap.size W w' := by
 refine h.mono ?_
 rintro e w' ⟨v0, v1, v2, rfl, h0, h1, h2, hb⟩
 obtain ⟨AX, cX, rfl⟩ := Kd.S_slice h0
 obtain ⟨AY, cY, rfl⟩ := Kd.R_slice h1
 obtain ⟨AL, cL, rfl⟩ := Kd.R_slice h2
 have k0 := Kd.S_reads' h0
 have k1 := Kd.R_reads' h1
 have k2 := Kd.R_reads' h2
 exact ⟨AX, cX, AY, cY, AL, cL, by rw [ec, el, em], ⟨⟨k0.2.2, k0.2.1, k1.2.2, k1.2.1⟩, k2.2.2, k2.2.1⟩, hb⟩
theorem outR {f : FuncId} {args : Array Value} {W : World} {c : List (List Int)} {l ch : List Int} {n m : Nat} (ec : c.length = n) (el : l.length = n) (em : ch.length = m)
  (h : Calls Tryz.prog f args W fun e w' => ∃ v0_ v1_ v2_ : Value, e = .returned (.tuple #[.agg #[v0_, v1_], v2_]) ∧ Kd.S (Kd.slice 3 (Kd.int .i64)) 23 w' W.heap.size (fun k_ => some k_ ≠ (v1_ : Value).ownBlock ∧ some k_ ≠ (v2_ : Value).ownBlock) v0_ c ∧ Kd.R (Kd.int .i64) 3 w' W.heap.size (fun k_ => some k_ ≠ (v2_ : Value).ownBlock) v1_ l ∧ Kd.R (Kd.int .i64) 3 w' W.heap.size (fun k_ => some k_ ≠ (v1_ : Value).ownBlock) v2_ ch ∧ Below W.heap.size W w') :
  Calls Tryz.prog f args W fun e w' => ∃ AX cX AY cY AL cL, e = .returned (.tuple #[.agg #[.slice AX n cX, .slice AY n cY], .slice AL m cL]) ∧ (StC w' AX cX AY cY c l ∧ dI.C w' AL ch.length ch ∧ ch.length ≤ cL) ∧ Below W.heap.size W w' := by
 refine h.mono ?_
 rintro e w' ⟨v0, v1, v2, rfl, h0, h1, h2, hb⟩
 obtain ⟨AX, cX, rfl⟩ := Kd.S_slice h0
 obtain ⟨AY, cY, rfl⟩ := Kd.R_slice h1
 obtain ⟨AL, cL, rfl⟩ := Kd.R_slice h2
 have k0 := Kd.S_reads' h0
 have k1 := Kd.R_reads' h1
 have k2 := Kd.R_reads' h2
 exact ⟨AX, cX, AY, cY, AL, cL, by rw [ec, el, em], ⟨⟨k0.2.2, k0.2.1, k1.2.2, k1.2.1⟩, k2.2.2, k2.2.1⟩, hb⟩
theorem outO2 {f : FuncId} {args : Array Value} {W : World} {c : List (List Int)} {l : List Int} {n m : Nat} (ec : c.length = n) (el : l.length = m)
  (h : Calls Tryz.prog f args W fun e w' => ∃ v0_ v1_ : Value, e = .returned (.agg #[v0_, v1_, .bool true]) ∧ Kd.S (Kd.slice 3 (Kd.int .i64)) 23 w' W.heap.size (fun k_ => some k_ ≠ (v1_ : Value).ownBlock) v0_ c ∧ Kd.R (Kd.int .i64) 3 w' W.heap.size (fun _ => True) v1_ l ∧ Below W.heap.size W w') :
  Calls Tryz.prog f args W fun e w' => ∃ AX cX AY cY, e = .returned (.agg #[.slice AX n cX, .slice AY m cY, .bool true]) ∧ StC w' AX cX AY cY c l ∧ Below W.heap.size W w' := by
 refine h.mono ?_
 rintro e w' ⟨v0, v1, rfl, h0, h1, hb⟩
 obtain ⟨AX, cX, rfl⟩ := Kd.S_slice h0
 obtain ⟨AY, cY, rfl⟩ := Kd.R_slice h1
 have k0 := Kd.S_reads' h0
 have k1 := Kd.R_reads' h1
 exact ⟨AX, cX, AY, cY, by rw [ec, el], ⟨k0.2.2, k0.2.1, k1.2.2, k1.2.1⟩, hb⟩
theorem outR2 {f : FuncId} {args : Array Value} {W : World} {c : List (List Int)} {l : List Int} {n m : Nat} (ec : c.length = n) (el : l.length = m)
  (h : Calls Tryz.prog f args W fun e w' => ∃ v0_ v1_ : Value, e = .returned (.agg #[v0_, v1_]) ∧ Kd.S (Kd.slice 3 (Kd.int .i64)) 23 w' W.heap.size (fun k_ => some k_ ≠ (v1_ : Value).ownBlock) v0_ c ∧ Kd.R (Kd.int .i64) 3 w' W.heap.size (fun _ => True) v1_ l ∧ Below W.heap.size W w') :
  Calls Tryz.prog f args W fun e w' => ∃ AX cX AY cY, e = .returned (.agg #[.slice AX n cX, .slice AY m cY]) ∧ StC w' AX cX AY cY c l ∧ Below W.heap.size W w' := by
 refine h.mono ?_
 rintro e w' ⟨v0, v1, rfl, h0, h1, hb⟩
 obtain ⟨AX, cX, rfl⟩ := Kd.S_slice h0
 obtain ⟨AY, cY, rfl⟩ := Kd.R_slice h1
 have k0 := Kd.S_reads' h0
 have k1 := Kd.R_reads' h1
 exact ⟨AX, cX, AY, cY, by rw [ec, el], ⟨k0.2.2, k0.2.1, k1.2.2, k1.2.1⟩, hb⟩
theorem same15_c {c : List (List Int)} {l : List Int} (h : Stt c l) {n m : Nat} (en : c.length = n) (em : l.length = m) {W : World} {AX cX AY cY AP cP AQ cQ} (h1 : StC W AX cX AY cY c l) (h2 : StC W AP cP AQ cQ c l) :
  Calls Tryz.prog 11 #[.agg #[.slice AX n cX, .slice AY m cY], .agg #[.slice AP n cP, .slice AQ m cQ]] W fun e w' => e = .returned (.bool true) ∧ Below W.heap.size W w' := by
 obtain ⟨k, hk⟩ := refsame15_ev h
 have := bywashref15_Same.calls k AX cX c AY cY l AP cP c AQ cQ l true W h1.gr h1.gc h1.ii h1.ic h2.gr h2.gc h2.ii h2.ic (hk k (Nat.le_refl _))
 rwa [en, em] at this
theorem ints15_c {l : List Int} (hl : l.length ≤ 900) {n : Nat} (en : l.length = n) {W : World} {A B : Option Addr} {c d : Nat} (h1 : dI.C W A l.length l ∧ l.length ≤ c) (h2 : dI.C W B l.length l ∧ l.length ≤ d) :
  Calls Tryz.prog 13 #[.slice A n c, .slice B n d] W fun e w' => e = .returned (.bool true) ∧ Below W.heap.size W w' := by
 obtain ⟨k, hk⟩ := ints_ev l l (by omega)
 have := bywashref01_Ints.calls k A c l B d l true W h1.1 h1.2 h2.1 h2.2 ((hk k (Nat.le_refl _)).trans (by rw [decide_eq_true rfl]))
 rw [en] at this
 exact this.mono (fun e w' h => ⟨h.1, h.2.below⟩)
end Go.Proofs.YtemcmcnhpdkdfaaGreat.P
namespace Go.Proofs.YtemcmcnhpdkdfaaGreat.P
open Go.RowKit Go.Shelf Go.Lib Go.Sort Go.Proofs.YtemcmcnhpdkdfaaGreatW.PrintWords Go.Proofs.YtemcmcnhpdkdfaaGreatW.PrintLast Go.Proofs.YtemcmcnhpdkdfaaGreatW.PrintMore
theorem lit_row {W : World} {b t : Nat} {cs : Array Value} {l : List Int} (h : W.heap[b]? = some (.cells cs t (0, 0))) (hc : ∀ (j : Nat) (x : Int), l[j]? = some x → cs[j]? = some (.int .i64 x)) (hl : l.length ≤ 900) : dI.C W (some ⟨b, 0, none⟩) l.length l := by
 refine ⟨rfl, by omega, fun _ => ⟨_, rfl, fun j x hj => ⟨[.int .i64 x], rfl, rfl, fun i u hu => ?_⟩⟩⟩
 match i, hu with
 | 0, hu =>
  obtain rfl := Option.some.inj hu
  rw [show j * dI.sz + 0 = j from by show j * 1 + 0 = j; omega, Go.WideShapes.add_plain, Nat.zero_add]
  exact cell_of_blk h (hc j x hj)
 | i + 1, hu => simp at hu
theorem lit_exU (W : World) {b0 b1 b2 : Nat} (h0 : W.heap[b0]? = some (.cells #[.int .i64 1] 3 (0, 0))) (h1 : W.heap[b1]? = some (.cells #[.int .i64 2] 3 (0, 0))) (h2 : W.heap[b2]? = some (.cells #[.slice (some ⟨b0, 0, none⟩) 1 1, .slice (some ⟨b1, 0, none⟩) 1 1, .slice none 0 0] 23 (0, 0))) : dG.C W (some ⟨b2, 0, none⟩) 3 exU := by
 refine ⟨rfl, by omega, fun _ => ⟨_, rfl, fun j x hj => ?_⟩⟩
 have ej : ∀ v, (#[.slice (some ⟨b0, 0, none⟩) 1 1, .slice (some ⟨b1, 0, none⟩) 1 1, .slice none 0 0] : Array Value)[j]? = some v → W.cell? ((⟨b2, 0, none⟩ : Addr).add (j * dG.sz + 0)) = some v := fun v hv => by
  rw [show j * dG.sz + 0 = j from by show j * 1 + 0 = j; omega, Go.WideShapes.add_plain, Nat.zero_add]
  exact cell_of_blk h2 hv
 match j, hj with
 | 0, hj =>
  obtain rfl := Option.some.inj hj
  refine ⟨[.slice (some ⟨b0, 0, none⟩) 1 1], rfl, ⟨_, _, rfl, Nat.le_refl _, lit_row h0 (fun j x hj => ?_) (by decide)⟩, fun i u hu => ?_⟩
  ·match j, hj with
   | 0, hj => obtain rfl := Option.some.inj hj; rfl
   | j + 1, hj => simp at hj
  ·match i, hu with
   | 0, hu => obtain rfl := Option.some.inj hu; exact ej _ rfl
   | i + 1, hu => simp at hu
 | 1, hj =>
  obtain rfl := Option.some.inj hj
  refine ⟨[.slice (some ⟨b1, 0, none⟩) 1 1], rfl, ⟨_, _, rfl, Nat.le_refl _, lit_row h1 (fun j x hj => ?_) (by decide)⟩, fun i u hu => ?_⟩
  ·match j, hj with
   | 0, hj => obtain rfl := Option.some.inj hj; rfl
   | j + 1, hj => simp at hj
  ·match i, hu with
   | 0, hu => obtain rfl := Option.some.inj hu; exact ej _ rfl
   | i + 1, hu => simp at hu
 | 2, hj =>
  obtain rfl := Option.some.inj hj
  refine ⟨[.slice none 0 0], rfl, ⟨none, 0, rfl, Nat.le_refl _, rfl, by decide, fun h => absurd h (by decide)⟩, fun i u hu => ?_⟩
  match i, hu with
  | 0, hu => obtain rfl := Option.some.inj hu; exact ej _ rfl
  | i + 1, hu => simp at hu
 | j + 3, hj => simp [exU] at hj
set_option maxHeartbeats 8000000 in
set_option maxRecDepth 100000 in
theorem awake15_c (w : World) : Calls Tryz.prog 4 #[] w fun e w' => e = .returned (.bool true) ∧ Below w.heap.size w w' := by
 have hu := Tryz.underlying29
 have h1 := new_ev (g := exU) ⟨exU_fits, by decide⟩ (l := [-1, 0, 1]) (by rw [exU_clean]; exact exU_stt)
 rw [exU_clean] at h1
 have h2 := add_ev (a := 0) (b := 2) exU_stt (l3 := [-1, 0, 0]) (by rw [exU_with]; exact exU2_stt)
 rw [exU_with, show changedB [-1, 0, 1] [-1, 0, 0] = [2] from by decide] at h2
 obtain ⟨k1, q1⟩ := h1
 obtain ⟨k2, q2⟩ := h2
 obtain ⟨k3, q3⟩ := saneU_ev exU2_stt true
 obtain ⟨k4, q4⟩ := top_ev exU_stt 0 2
 rw [show commonB [-1, 0, 1] 0 2 = 0 from by decide] at q4
 have HN := Aside0.mk (fun W A c (h : dG.C W A 3 exU) (hc : 3 ≤ c) => outO2 (n := 3) (m := 3) rfl rfl (domup_New.calls k1 A c exU _ _ _ W h hc (q1 k1 (Nat.le_refl _))))
 have HA := Aside0.mk (fun W AG cG AI cI (h : StC W AG cG AI cI exU [-1, 0, 1]) => outO (n := 3) (m := 1) rfl rfl rfl (domup_Add.calls k2 AG cG exU AI cI [-1, 0, 1] true 0 2 _ _ _ _ W h.gr h.gc h.ii h.ic (q2 k2 (Nat.le_refl _))))
 have HS := Aside0.mk (fun W AG cG AI cI (h : StC W AG cG AI cI exU2 [-1, 0, 0]) => domup_Sane.calls k3 AG cG exU2 AI cI [-1, 0, 0] true _ W h.gr h.gc h.ii h.ic (q3 k3 (Nat.le_refl _)))
 have HT := Aside0.mk (fun W AG cG AI cI (h : StC W AG cG AI cI exU [-1, 0, 1]) => domup_Top.calls k4 AG cG exU AI cI [-1, 0, 1] true 0 2 _ W h.gr h.gc h.ii h.ic (q4 k4 (Nat.le_refl _)))
 have HI := Aside0.mk (fun W A c B d (u : dI.C W A [2].length [2] ∧ [2].length ≤ c) (v : dI.C W B [2].length [2] ∧ [2].length ≤ d) => ints15_c (l := [2]) (n := 1) (by decide) rfl u v)
 have HJ := Aside0.mk (fun W A c B d (u : dI.C W A [-1, 0, 0].length [-1, 0, 0] ∧ [-1, 0, 0].length ≤ c) (v : dI.C W B [-1, 0, 0].length [-1, 0, 0] ∧ [-1, 0, 0].length ≤ d) => ints15_c (l := [-1, 0, 0]) (n := 3) (by decide) rfl u v)
 clear q1 q2 q3 q4
 go_enter Tryz.func4, Tryz.ntmps4
 go_upto_region 2 with (go_at_call 20; refine (HN.out _ _ _ (lit_exU _ (b0 := w.heap.size) (b1 := w.heap.size + 1) (b2 := w.heap.size + 2) (heap_old (heap_old (heap_new _ _ _ rfl))) (heap_old (heap_new _ _ _ (by simp only [size_alloc1]))) (heap_new _ _ _ (by simp only [size_alloc1]))) (Nat.le_refl _)).mono ?_; rintro e w1 ⟨AG, cG, AI, cI, rfl, hst, hb1⟩; have HST := Aside0.mk hst; have HB1 := Aside0.mk ((below_alloc (below_alloc (below_alloc (Below.refl _ w) _) _) _).trans (hb1.mono (by simp only [size_alloc1]; omega))); clear hst hb1)
 obtain ⟨W1, hW1⟩ : ∃ W1, W1 = w1.alloc (.cells #[.slice AG 3 cG, .slice AI 3 cI, .bool true] 29) := ⟨_, rfl⟩
 rw [← hW1]
 have hbb : Below w1.heap.size w1 W1 := by rw [hW1]; exact below_alloc (Below.refl _ _) _
 have hq : W1.heap[w1.heap.size]? = some (.cells #[.slice AG 3 cG, .slice AI 3 cI, .bool true] 29 (0, 0)) := by rw [hW1]; exact heap_new _ _ _ rfl
 have HST1 := Aside0.mk (HST.out.below hbb)
 have HW1 := Aside0.mk (HB1.out.trans (hbb.mono HB1.out.size))
 have HQ1 := Aside0.mk hq
 have g0 := cell_of_blk (j := 0) hq rfl; have g1 := cell_of_blk (j := 1) hq rfl; have g2 := cell_of_blk (j := 2) hq rfl; have g3 := frozen_of_blk 0 hq
 clear hW1 hbb hq HST HB1 HN
 go_upto_region 3 with (go_at_call 7; refine (HA.out _ _ _ _ _ HST1.out).mono ?_; rintro e w2 ⟨AX, cX, AY, cY, AL, cL, rfl, ⟨hst, hl⟩, hb2⟩; have HST2 := Aside0.mk hst; have HL2 := Aside0.mk hl; have HB2 := Aside0.mk hb2; clear hst hl hb2)
 clear g0 g1 g2 g3
 obtain ⟨W2, hW2⟩ : ∃ W2, W2 = w2.alloc (.cells #[.slice AX 3 cX, .slice AY 3 cY, .bool true] 29) := ⟨_, rfl⟩
 rw [← hW2]
 have hbb : Below w2.heap.size w2 W2 := by rw [hW2]; exact below_alloc (Below.refl _ _) _
 have hq : W2.heap[w2.heap.size]? = some (.cells #[.slice AX 3 cX, .slice AY 3 cY, .bool true] 29 (0, 0)) := by rw [hW2]; exact heap_new _ _ _ rfl
 have hB12 := HB2.out.trans (hbb.mono HB2.out.size)
 have HST3 := Aside0.mk (HST2.out.below hbb)
 have HL3 := Aside0.mk (And.intro (Kd.C_below HL2.out.1 hbb) HL2.out.2)
 have HST4 := Aside0.mk (HST1.out.below hB12)
 have HW2 := Aside0.mk (HW1.out.trans (hB12.mono HW1.out.size))
 have HQ2 := Aside0.mk (heap_bel HQ1.out hB12)
 have HQ3 := Aside0.mk hq
 clear hW2 hbb hq hB12 HST2 HL2 HB2 HST1 HW1 HQ1 HA
 go_wp2_with (first
  | (go_at_call 13; refine (HJ.out _ _ _ _ _ ⟨Kd.C_below HST3.out.ii (below_alloc HC5.out _), HST3.out.ic⟩ ⟨lit_row (heap_new _ _ _ rfl) (fun j x hj => by match j, hj with | 0, hj => (obtain rfl := Option.some.inj hj; rfl) | 1, hj => (obtain rfl := Option.some.inj hj; rfl) | 2, hj => (obtain rfl := Option.some.inj hj; rfl) | j + 3, hj => simp at hj) (by decide), Nat.le_refl _⟩).mono ?_; rintro e w6 ⟨rfl, hb6⟩; have HC6 := Aside0.mk ((below_alloc HC5.out _).trans (hb6.mono (below_alloc HC5.out _).size)); have q0 := cell_of_blk (j := 0) (heap_bel HQ3.out HC6.out) rfl; have q1 := cell_of_blk (j := 1) (heap_bel HQ3.out HC6.out) rfl; have q2 := cell_of_blk (j := 2) (heap_bel HQ3.out HC6.out) rfl; clear hb6)
  | (go_at_call 13; refine (HI.out _ _ _ _ _ ⟨Kd.C_below HL3.out.1 (below_alloc (Below.refl _ _) _), HL3.out.2⟩ ⟨lit_row (heap_new _ _ _ rfl) (fun j x hj => by match j, hj with | 0, hj => (obtain rfl := Option.some.inj hj; rfl) | j + 1, hj => simp at hj) (by decide), Nat.le_refl _⟩).mono ?_; rintro e w5 ⟨rfl, hb5⟩; have HC5 := Aside0.mk ((below_alloc (Below.refl W2.heap.size W2) _).trans (hb5.mono (by simp only [size_alloc1]; omega))); have p1 := cell_of_blk (j := 1) (heap_bel HQ3.out HC5.out) rfl; clear hb5)
  | (go_at_call 14; refine (HS.out _ _ _ _ _ (HST3.out.below HC6.out)).mono ?_; rintro e w7 ⟨rfl, hb7⟩; have HC7 := Aside0.mk (HC6.out.trans (hb7.mono HC6.out.size)); have o0 := cell_of_blk (j := 0) (heap_bel HQ2.out HC7.out) rfl; have o1 := cell_of_blk (j := 1) (heap_bel HQ2.out HC7.out) rfl; have o2 := cell_of_blk (j := 2) (heap_bel HQ2.out HC7.out) rfl; clear hb7)
  | (go_at_call 18; refine (HT.out _ _ _ _ _ (HST4.out.below HC7.out)).mono ?_; rintro e w8 ⟨rfl, hb8⟩; have HC8 := Aside0.mk (HC7.out.trans (hb8.mono HC7.out.size)); clear hb8))
 go_ret
 exact ⟨rfl, HW2.out.trans (HC8.out.mono HW2.out.size)⟩
end Go.Proofs.YtemcmcnhpdkdfaaGreat.P
namespace Go.Proofs.YtemcmcnhpdkdfaaGreat.P
open Go.RowKit Go.Shelf Go.Lib Go.Sort Go.Proofs.YtemcmcnhpdkdfaaGreatW.PrintWords Go.Proofs.YtemcmcnhpdkdfaaGreatW.PrintLast Go.Proofs.YtemcmcnhpdkdfaaGreatW.PrintMore
theorem one_box {w w3 : World} {v1 : Array Value} {t1 : TypeId} (h : Below (w.alloc (.cells v1 t1)).heap.size (w.alloc (.cells v1 t1)) w3) : w3.heap[w.heap.size]? = some (.cells v1 t1 (0, 0)) ∧ w.heap.size + 1 ≤ w3.heap.size ∧ Below w.heap.size w w3 := by
 have hs := h.size
 simp only [size_alloc1] at hs
 exact ⟨heap_bel (heap_new w _ _ rfl) h, by omega, (below_alloc (Below.refl _ w) _).trans (h.mono (by simp only [size_alloc1]; omega))⟩
set_option maxHeartbeats 8000000 in
set_option maxRecDepth 100000 in
theorem DomupIs_c (A0 : Option Addr) (c0 : Nat) (g : List (List Int)) (A1 : Option Addr) (c1 : Nat) (il : List Int) (a b : Int) (w : World) (hr0 : dG.C w A0 g.length g) (hc0 : g.length ≤ c0) (hr1 : dI.C w A1 il.length il) (hc1 : il.length ≤ c1) (hm0 : g.length ≤ 9223372036854775807) (_hm1 : il.length ≤ 9223372036854775807) :
  Calls Tryz.prog 3 #[.agg #[.slice A0 g.length c0, .slice A1 il.length c1], .int .i64 a, .int .i64 b] w fun e w' => e = .returned (.bool true) ∧ Below w.heap.size w w' := by
 have hu := Tryz.underlying29
 have hu2 := Tryz.underlying25
 obtain ⟨kf, hkf⟩ := few_ev g hm0
 have HAW := Aside0.mk awake15_c
 have HFW := Aside0.mk (fun W (hW : Below w.heap.size w W) => (bywashref10_Few.calls kf A0 c0 g (few g) W (Kd.C_below hr0 hW) hc0 (hkf kf (Nat.le_refl _))).mono (R' := fun e w' => e = .returned (.bool (few g)) ∧ Below W.heap.size W w') (fun e w' h => ⟨h.1, h.2.below⟩))
 obtain ⟨n0, en0⟩ : ∃ n0, n0 = g.length := ⟨_, rfl⟩
 obtain ⟨n1, en1⟩ : ∃ n1, n1 = il.length := ⟨_, rfl⟩
 obtain ⟨fb, efb⟩ : ∃ fb, fb = few g := ⟨_, rfl⟩
 rw [← en0, ← efb] at HFW
 rw [← en0, ← en1]
 cases fb with
 | false =>
  clear hr0 hc0 hr1 hc1 hm0 _hm1 hkf en0 en1 efb
  go_enter Tryz.func3, Tryz.ntmps3
  go_wp2_with (first | (go_at_call 4; refine (HAW.out _).mono ?_; rintro e w1 ⟨rfl, hb1⟩; obtain ⟨hp, hs1, hw1⟩ := one_box hb1; have d0 := cell_of_blk (j := 0) hp rfl; have d1 := cell_of_blk (j := 1) hp rfl; have f0 := frozen_of_blk 0 hp; have HW1 := Aside0.mk hw1; clear hp hw1 hb1) | (go_at_call 5; refine (HFW.out _ HW1.out).mono ?_; rintro e w2 ⟨rfl, hb2⟩; have HB2 := Aside0.mk hb2; clear hb2))
  go_ret
  exact ⟨rfl, HW1.out.trans (HB2.out.mono HW1.out.size)⟩
 | true =>
  by_cases h14 : (n0 : Int) > 14
  ·clear hr0 hc0 hr1 hc1 hm0 _hm1 hkf en0 en1 efb
   go_enter Tryz.func3, Tryz.ntmps3
   go_wp2_with (first | (go_at_call 4; refine (HAW.out _).mono ?_; rintro e w1 ⟨rfl, hb1⟩; obtain ⟨hp, hs1, hw1⟩ := one_box hb1; have d0 := cell_of_blk (j := 0) hp rfl; have d1 := cell_of_blk (j := 1) hp rfl; have f0 := frozen_of_blk 0 hp; have HW1 := Aside0.mk hw1; have HP := Aside0.mk hp; clear hp hw1 hb1) | (go_at_call 5; refine (HFW.out _ HW1.out).mono ?_; rintro e w2 ⟨rfl, hb2⟩; have e0 := cell_of_blk (j := 0) (heap_bel HP.out hb2) rfl; have e1 := cell_of_blk (j := 1) (heap_bel HP.out hb2) rfl; have HB2 := Aside0.mk hb2; clear hb2))
   go_ret
   exact ⟨rfl, HW1.out.trans (HB2.out.mono HW1.out.size)⟩
  ·by_cases h60 : (n1 : Int) > 60
   ·clear hr0 hc0 hr1 hc1 hm0 _hm1 hkf en0 en1 efb
    go_enter Tryz.func3, Tryz.ntmps3
    go_wp2_with (first | (go_at_call 4; refine (HAW.out _).mono ?_; rintro e w1 ⟨rfl, hb1⟩; obtain ⟨hp, hs1, hw1⟩ := one_box hb1; have d0 := cell_of_blk (j := 0) hp rfl; have d1 := cell_of_blk (j := 1) hp rfl; have f0 := frozen_of_blk 0 hp; have HW1 := Aside0.mk hw1; have HP := Aside0.mk hp; clear hp hw1 hb1) | (go_at_call 5; refine (HFW.out _ HW1.out).mono ?_; rintro e w2 ⟨rfl, hb2⟩; have e0 := cell_of_blk (j := 0) (heap_bel HP.out hb2) rfl; have e1 := cell_of_blk (j := 1) (heap_bel HP.out hb2) rfl; have HB2 := Aside0.mk hb2; clear hb2))
    go_ret
    exact ⟨rfl, HW1.out.trans (HB2.out.mono HW1.out.size)⟩
   ·have hs := few_small efb.symm
    have hfr : ∀ r ∈ g, r.length ≤ 900 := fun r hr => by have := (few_iff.1 efb.symm).1 r hr; omega
    have hn14 : g.length ≤ 14 := by omega
    have hil : il.length ≤ 100000 := by omega
    obtain ⟨l, hS⟩ := stt_clean hs
    have hcl := clean_len g
    have hll := hS.len
    obtain ⟨l3, h3⟩ := hS.with_ a b
    obtain ⟨l4, h4⟩ := hS.without a b
    have hSg := stt_grow hS (by omega)
    rw [hcl] at hSg
    obtain ⟨k1, q1⟩ := add0_ev hs hil hS h3
    obtain ⟨k2, q2⟩ := refadd_ev il (by omega) hfr hS h3
    obtain ⟨k3, q3⟩ := del0_ev hs hil hS h4
    obtain ⟨k4, q4⟩ := refdel_ev il (by omega) hfr hS h4
    obtain ⟨k5, q5⟩ := sane0_ev hs hil hS
    obtain ⟨k6, q6⟩ := refsane15_ev (by omega) hfr _hm1 hS
    obtain ⟨k7, q7⟩ := grow0_ev hs hil hS
    obtain ⟨k8, q8⟩ := refgrow_ev il (by omega) hfr hS
    obtain ⟨k9, q9⟩ := top0_ev hs hil hS a b
    obtain ⟨kt, qt⟩ := reftop_ev il (by omega) hfr hS a b
    obtain ⟨kn, qn⟩ := new_ev hs hS
    obtain ⟨km, qm⟩ := refnew_ev (by omega) hfr hS
    have e3 : l3.length = n0 := by rw [h3.len, withE_len, hcl, en0]
    have e4 : l4.length = n0 := by rw [h4.len, withoutE_len, hcl, en0]
    obtain ⟨n3, en3⟩ : ∃ n3, n3 = (changedB l l3).length := ⟨_, rfl⟩
    obtain ⟨n4, en4⟩ : ∃ n4, n4 = (changedB l l4).length := ⟨_, rfl⟩
    obtain ⟨n5, en5⟩ : ∃ n5, n5 = (clean g ++ [[]]).length := ⟨_, rfl⟩
    obtain ⟨n6, en6⟩ : ∃ n6, n6 = (l ++ [if g.length = 0 then -1 else -2]).length := ⟨_, rfl⟩
    have b3 : (changedB l l3).length ≤ 900 := by have := changedB_len l l3; omega
    have b4 : (changedB l l4).length ≤ 900 := by have := changedB_len l l4; omega
    have HAD := Aside0.mk (fun W (hW : Below w.heap.size w W) => outO (n := n0) (m := n3) (by rw [withE_len, hcl, en0]) e3 en3.symm (domup_Add.calls k1 A0 c0 g A1 c1 il false a b _ _ _ _ W (Kd.C_below hr0 hW) hc0 (Kd.C_below hr1 hW) hc1 (q1 k1 (Nat.le_refl _))))
    have HAR := Aside0.mk (fun W (hW : Below w.heap.size w W) => outR (n := n0) (m := n3) (by rw [withE_len, hcl, en0]) e3 en3.symm (bywashref15_Add.calls k2 A0 c0 g A1 c1 il a b _ _ _ W (Kd.C_below hr0 hW) hc0 (Kd.C_below hr1 hW) hc1 (q2 k2 (Nat.le_refl _))))
    have HDE := Aside0.mk (fun W (hW : Below w.heap.size w W) => outO (n := n0) (m := n4) (by rw [withoutE_len, hcl, en0]) e4 en4.symm (domup_Del.calls k3 A0 c0 g A1 c1 il false a b _ _ _ _ W (Kd.C_below hr0 hW) hc0 (Kd.C_below hr1 hW) hc1 (q3 k3 (Nat.le_refl _))))
    have HDR := Aside0.mk (fun W (hW : Below w.heap.size w W) => outR (n := n0) (m := n4) (by rw [withoutE_len, hcl, en0]) e4 en4.symm (bywashref15_Del.calls k4 A0 c0 g A1 c1 il a b _ _ _ W (Kd.C_below hr0 hW) hc0 (Kd.C_below hr1 hW) hc1 (q4 k4 (Nat.le_refl _))))
    have HSO := Aside0.mk (fun W (hW : Below w.heap.size w W) => domup_Sane.calls k5 A0 c0 g A1 c1 il false _ W (Kd.C_below hr0 hW) hc0 (Kd.C_below hr1 hW) hc1 (q5 k5 (Nat.le_refl _)))
    have HSR := Aside0.mk (fun W (hW : Below w.heap.size w W) => bywashref15_Sane.calls k6 A0 c0 g A1 c1 il _ W (Kd.C_below hr0 hW) hc0 (Kd.C_below hr1 hW) hc1 (q6 k6 (Nat.le_refl _)))
    have HGO := Aside0.mk (fun W (hW : Below w.heap.size w W) => outO2 (n := n5) (m := n6) en5.symm en6.symm (domup_Grow.calls k7 A0 c0 g A1 c1 il false _ _ _ W (Kd.C_below hr0 hW) hc0 (Kd.C_below hr1 hW) hc1 (q7 k7 (Nat.le_refl _))))
    have HGR := Aside0.mk (fun W (hW : Below w.heap.size w W) => outR2 (n := n5) (m := n6) en5.symm en6.symm (bywashref15_Grow.calls k8 A0 c0 g A1 c1 il _ _ W (Kd.C_below hr0 hW) hc0 (Kd.C_below hr1 hW) hc1 (q8 k8 (Nat.le_refl _))))
    have HTO := Aside0.mk (fun W (hW : Below w.heap.size w W) => domup_Top.calls k9 A0 c0 g A1 c1 il false a b _ W (Kd.C_below hr0 hW) hc0 (Kd.C_below hr1 hW) hc1 (q9 k9 (Nat.le_refl _)))
    have HTR := Aside0.mk (fun W (hW : Below w.heap.size w W) => bywashref15_Top.calls kt A0 c0 g A1 c1 il a b _ W (Kd.C_below hr0 hW) hc0 (Kd.C_below hr1 hW) hc1 (qt kt (Nat.le_refl _)))
    have HNO := Aside0.mk (fun W (hW : Below w.heap.size w W) => outO2 (n := n0) (m := n0) (by rw [hcl, en0]) (by rw [hll, hcl, en0]) (domup_New.calls kn A0 c0 g _ _ _ W (Kd.C_below hr0 hW) hc0 (qn kn (Nat.le_refl _))))
    have HNR := Aside0.mk (fun W (hW : Below w.heap.size w W) => outR2 (n := n0) (m := n0) (by rw [hcl, en0]) (by rw [hll, hcl, en0]) (bywashref15_New.calls km A0 c0 g _ _ W (Kd.C_below hr0 hW) hc0 (qm km (Nat.le_refl _))))
    have HS3 := Aside0.mk (fun W AX cX AY cY AP cP AQ cQ (u : StC W AX cX AY cY (withE (clean g) a b) l3) (v : StC W AP cP AQ cQ (withE (clean g) a b) l3) => same15_c h3 (n := n0) (m := n0) (by rw [withE_len, hcl, en0]) e3 u v)
    have HS4 := Aside0.mk (fun W AX cX AY cY AP cP AQ cQ (u : StC W AX cX AY cY (withoutE (clean g) a b) l4) (v : StC W AP cP AQ cQ (withoutE (clean g) a b) l4) => same15_c h4 (n := n0) (m := n0) (by rw [withoutE_len, hcl, en0]) e4 u v)
    have HS5 := Aside0.mk (fun W AX cX AY cY AP cP AQ cQ (u : StC W AX cX AY cY _ _) (v : StC W AP cP AQ cQ _ _) => same15_c hSg (n := n5) (m := n6) en5.symm en6.symm u v)
    have HS6 := Aside0.mk (fun W AX cX AY cY AP cP AQ cQ (u : StC W AX cX AY cY (clean g) l) (v : StC W AP cP AQ cQ (clean g) l) => same15_c hS (n := n0) (m := n0) (by rw [hcl, en0]) (by rw [hll, hcl, en0]) u v)
    have HI3 := Aside0.mk (fun W A c B d (u : dI.C W A (changedB l l3).length (changedB l l3) ∧ (changedB l l3).length ≤ c) (v : dI.C W B (changedB l l3).length (changedB l l3) ∧ (changedB l l3).length ≤ d) => ints15_c b3 en3.symm u v)
    have HI4 := Aside0.mk (fun W A c B d (u : dI.C W A (changedB l l4).length (changedB l l4) ∧ (changedB l l4).length ≤ c) (v : dI.C W B (changedB l l4).length (changedB l l4) ∧ (changedB l l4).length ≤ d) => ints15_c b4 en4.symm u v)
    obtain ⟨sb, esb⟩ : ∃ sb, sb = (decide (g = clean g) && decide (il = l)) := ⟨_, rfl⟩
    obtain ⟨tp, etp⟩ : ∃ tp, tp = commonB l a b := ⟨_, rfl⟩
    obtain ⟨lg, elg⟩ : ∃ lg, lg = l ++ [if g.length = 0 then -1 else -2] := ⟨_, rfl⟩
    obtain ⟨cg, ecg⟩ : ∃ cg, cg = clean g ++ [[]] := ⟨_, rfl⟩
    rw [← elg, ← ecg] at HGO HGR HS5
    rw [← esb] at HSO HSR
    rw [← etp] at HTO HTR
    rw [← en0, ← en1] at HAD HAR HDE HDR HSO HSR HGO HGR HTO HTR
    rw [← en0] at HNO HNR
    obtain ⟨ch3, ech3⟩ : ∃ ch3, ch3 = changedB l l3 := ⟨_, rfl⟩
    obtain ⟨ch4, ech4⟩ : ∃ ch4, ch4 = changedB l l4 := ⟨_, rfl⟩
    obtain ⟨cA, ecA⟩ : ∃ cA, cA = withE (clean g) a b := ⟨_, rfl⟩
    obtain ⟨cD, ecD⟩ : ∃ cD, cD = withoutE (clean g) a b := ⟨_, rfl⟩
    obtain ⟨cC, ecC⟩ : ∃ cC, cC = clean g := ⟨_, rfl⟩
    rw [← ecA, ← ech3] at HAD HAR
    rw [← ecD, ← ech4] at HDE HDR
    rw [← ecA] at HS3
    rw [← ecD] at HS4
    rw [← ech3] at HI3
    rw [← ech4] at HI4
    rw [← ecC] at HNO HNR HS6
    clear hr0 hc0 hr1 hc1 hm0 _hm1 hkf en0 en1 efb hs hfr hn14 hil hS hcl hll h3 h4 hSg q1 q2 q3 q4 q5 q6 q7 q8 q9 qt qn qm e3 e4 en3 en4 en5 en6 b3 b4 esb etp elg ecg ech3 ech4 ecA ecD ecC
    go_enter Tryz.func3, Tryz.ntmps3
    go_upto_region 4 with (first | (go_at_call 4; refine (HAW.out _).mono ?_; rintro e w1 ⟨rfl, hb1⟩; obtain ⟨hp, hs1, hw1⟩ := one_box hb1; have d0 := cell_of_blk (j := 0) hp rfl; have d1 := cell_of_blk (j := 1) hp rfl; have f0 := frozen_of_blk 0 hp; have HW1 := Aside0.mk hw1; have HP := Aside0.mk hp; clear hp hw1 hb1) | (go_at_call 5; refine (HFW.out _ HW1.out).mono ?_; rintro e W2 ⟨rfl, hb2⟩; have e0 := cell_of_blk (j := 0) (heap_bel HP.out hb2) rfl; have e1 := cell_of_blk (j := 1) (heap_bel HP.out hb2) rfl; have HB2 := Aside0.mk hb2; clear hb2))
    have hw2 := HW1.out.trans (HB2.out.mono HW1.out.size)
    have hp2 := heap_bel HP.out HB2.out
    clear d0 d1 e0 e1 f0 h14 h60 HP HB2 HW1 hs1 HAW HFW
    have g0 := cell_of_blk (j := 0) hp2 rfl; have g1 := cell_of_blk (j := 1) hp2 rfl; have g2 := frozen_of_blk 0 hp2
    have HW2 := Aside0.mk hw2; have HP2 := Aside0.mk hp2; clear hw2 hp2
    go_upto_region 5 with (go_at_call 6; refine (ours_c A0 n0 c0 A1 n1 c1 _).mono ?_; rintro e w3 ⟨rfl, hb3⟩; have HB3 := Aside0.mk hb3; clear hb3)
    obtain ⟨W3, hWk⟩ : ∃ W3, W3 = w3.alloc (.cells #[.slice A0 n0 c0, .slice A1 n1 c1, .bool false] 29) := ⟨_, rfl⟩
    rw [← hWk]
    have hb : Below W2.heap.size W2 W3 := by rw [hWk]; exact below_alloc HB3.out _
    have hx : Below w3.heap.size w3 W3 := by rw [hWk]; exact below_alloc (Below.refl _ _) _
    have hq : W3.heap[w3.heap.size]? = some (.cells #[.slice A0 n0 c0, .slice A1 n1 c1, .bool false] 29 (0, 0)) := by rw [hWk]; exact heap_new _ _ _ rfl
    obtain ⟨b8, eb⟩ : ∃ b8, b8 = w3.heap.size := ⟨_, rfl⟩
    rw [← eb] at hq
    rw [← eb]
    have hwk := HW2.out.trans (hb.mono HW2.out.size)
    have nHP2 := Aside0.mk (heap_bel HP2.out hb)
    clear g0 g1 g2 HP2 hWk eb hx HB3 HW2
    have HW3 := Aside0.mk hwk; have HQ3 := Aside0.mk hq
    have HP2 := nHP2; clear nHP2
    clear hwk hq hb
    have g0 := cell_of_blk (j := 0) HQ3.out rfl
    have g1 := cell_of_blk (j := 1) HQ3.out rfl
    have g2 := cell_of_blk (j := 2) HQ3.out rfl
    have g3 := frozen_of_blk 0 HQ3.out
    go_upto_region 6 with (go_at_call 7; refine (HAD.out _ HW3.out).mono ?_; rintro e w5 ⟨AX5, cX5, AY5, cY5, AL5, cL5, rfl, hst5, hb5⟩; have HB5 := Aside0.mk hb5; clear hb5)
    clear g0 g1 g2 g3
    have g0 := True; have g1 := True; have g2 := True
    obtain ⟨W5, hWk⟩ : ∃ W5, W5 = w5.alloc (.cells #[.slice AX5 n0 cX5, .slice AY5 n0 cY5, .bool true] 29) := ⟨_, rfl⟩
    rw [← hWk]
    have hb : Below W3.heap.size W3 W5 := by rw [hWk]; exact below_alloc HB5.out _
    have hx : Below w5.heap.size w5 W5 := by rw [hWk]; exact below_alloc (Below.refl _ _) _
    have hq : W5.heap[w5.heap.size]? = some (.cells #[.slice AX5 n0 cX5, .slice AY5 n0 cY5, .bool true] 29 (0, 0)) := by rw [hWk]; exact heap_new _ _ _ rfl
    obtain ⟨b9, eb⟩ : ∃ b9, b9 = w5.heap.size := ⟨_, rfl⟩
    rw [← eb] at hq
    rw [← eb]
    have hwk := HW3.out.trans (hb.mono HW3.out.size)
    have nHP2 := Aside0.mk (heap_bel HP2.out hb)
    have nHQ3 := Aside0.mk (heap_bel HQ3.out hb)
    have nHX5 := Aside0.mk (hst5.1.below hx)
    have nHL5 := Aside0.mk (And.intro (Kd.C_below hst5.2.1 hx) hst5.2.2)
    clear g0 g1 g2 HP2 HQ3 hWk eb hx HB5 HW3 hst5
    have HW5 := Aside0.mk hwk; have HQ5 := Aside0.mk hq
    have HP2 := nHP2; clear nHP2
    have HQ3 := nHQ3; clear nHQ3
    have HX5 := nHX5; clear nHX5
    have HL5 := nHL5; clear nHL5
    clear hwk hq hb
    have g0 := cell_of_blk (j := 0) HP2.out rfl
    have g1 := cell_of_blk (j := 1) HP2.out rfl
    have g2 := frozen_of_blk 0 HP2.out
    go_upto_region 7 with (go_at_call 8; refine (HAR.out _ HW5.out).mono ?_; rintro e w6 ⟨AX6, cX6, AY6, cY6, AL6, cL6, rfl, hst6, hb6⟩; have HB6 := Aside0.mk hb6; clear hb6)
    clear g0 g1 g2
    have g0 := True; have g1 := True; have g2 := True
    obtain ⟨W6, hWk⟩ : ∃ W6, W6 = w6.alloc (.cells #[.slice AX6 n0 cX6, .slice AY6 n0 cY6] 25) := ⟨_, rfl⟩
    rw [← hWk]
    have hb : Below W5.heap.size W5 W6 := by rw [hWk]; exact below_alloc HB6.out _
    have hx : Below w6.heap.size w6 W6 := by rw [hWk]; exact below_alloc (Below.refl _ _) _
    have hq : W6.heap[w6.heap.size]? = some (.cells #[.slice AX6 n0 cX6, .slice AY6 n0 cY6] 25 (0, 0)) := by rw [hWk]; exact heap_new _ _ _ rfl
    obtain ⟨b11, eb⟩ : ∃ b11, b11 = w6.heap.size := ⟨_, rfl⟩
    rw [← eb] at hq
    rw [← eb]
    have hwk := HW5.out.trans (hb.mono HW5.out.size)
    have nHP2 := Aside0.mk (heap_bel HP2.out hb)
    have nHQ3 := Aside0.mk (heap_bel HQ3.out hb)
    have nHQ5 := Aside0.mk (heap_bel HQ5.out hb)
    have nHX5 := Aside0.mk (HX5.out.below hb)
    have nHL5 := Aside0.mk (And.intro (Kd.C_below HL5.out.1 hb) HL5.out.2)
    have nHX6 := Aside0.mk (hst6.1.below hx)
    have nHL6 := Aside0.mk (And.intro (Kd.C_below hst6.2.1 hx) hst6.2.2)
    clear g0 g1 g2 HP2 HQ3 HQ5 HX5 HL5 hWk eb hx HB6 HW5 hst6
    have HW6 := Aside0.mk hwk; have HQ6 := Aside0.mk hq
    have HP2 := nHP2; clear nHP2
    have HQ3 := nHQ3; clear nHQ3
    have HQ5 := nHQ5; clear nHQ5
    have HX5 := nHX5; clear nHX5
    have HL5 := nHL5; clear nHL5
    have HX6 := nHX6; clear nHX6
    have HL6 := nHL6; clear nHL6
    clear hwk hq hb
    have g0 := cell_of_blk (j := 0) HQ3.out rfl
    have g1 := cell_of_blk (j := 1) HQ3.out rfl
    have g2 := cell_of_blk (j := 2) HQ3.out rfl
    have g3 := frozen_of_blk 0 HQ3.out
    go_upto_region 8 with (go_at_call 9; refine (HDE.out _ HW6.out).mono ?_; rintro e w7 ⟨AX7, cX7, AY7, cY7, AL7, cL7, rfl, hst7, hb7⟩; have HB7 := Aside0.mk hb7; clear hb7)
    clear g0 g1 g2 g3
    have g0 := True; have g1 := True; have g2 := True
    obtain ⟨W7, hWk⟩ : ∃ W7, W7 = w7.alloc (.cells #[.slice AX7 n0 cX7, .slice AY7 n0 cY7, .bool true] 29) := ⟨_, rfl⟩
    rw [← hWk]
    have hb : Below W6.heap.size W6 W7 := by rw [hWk]; exact below_alloc HB7.out _
    have hx : Below w7.heap.size w7 W7 := by rw [hWk]; exact below_alloc (Below.refl _ _) _
    have hq : W7.heap[w7.heap.size]? = some (.cells #[.slice AX7 n0 cX7, .slice AY7 n0 cY7, .bool true] 29 (0, 0)) := by rw [hWk]; exact heap_new _ _ _ rfl
    obtain ⟨b13, eb⟩ : ∃ b13, b13 = w7.heap.size := ⟨_, rfl⟩
    rw [← eb] at hq
    rw [← eb]
    have hwk := HW6.out.trans (hb.mono HW6.out.size)
    have nHP2 := Aside0.mk (heap_bel HP2.out hb)
    have nHQ3 := Aside0.mk (heap_bel HQ3.out hb)
    have nHQ5 := Aside0.mk (heap_bel HQ5.out hb)
    have nHQ6 := Aside0.mk (heap_bel HQ6.out hb)
    have nHX5 := Aside0.mk (HX5.out.below hb)
    have nHL5 := Aside0.mk (And.intro (Kd.C_below HL5.out.1 hb) HL5.out.2)
    have nHX6 := Aside0.mk (HX6.out.below hb)
    have nHL6 := Aside0.mk (And.intro (Kd.C_below HL6.out.1 hb) HL6.out.2)
    have nHX7 := Aside0.mk (hst7.1.below hx)
    have nHL7 := Aside0.mk (And.intro (Kd.C_below hst7.2.1 hx) hst7.2.2)
    clear g0 g1 g2 HP2 HQ3 HQ5 HQ6 HX5 HL5 HX6 HL6 hWk eb hx HB7 HW6 hst7
    have HW7 := Aside0.mk hwk; have HQ7 := Aside0.mk hq
    have HP2 := nHP2; clear nHP2
    have HQ3 := nHQ3; clear nHQ3
    have HQ5 := nHQ5; clear nHQ5
    have HQ6 := nHQ6; clear nHQ6
    have HX5 := nHX5; clear nHX5
    have HL5 := nHL5; clear nHL5
    have HX6 := nHX6; clear nHX6
    have HL6 := nHL6; clear nHL6
    have HX7 := nHX7; clear nHX7
    have HL7 := nHL7; clear nHL7
    clear hwk hq hb
    have g0 := cell_of_blk (j := 0) HP2.out rfl
    have g1 := cell_of_blk (j := 1) HP2.out rfl
    have g2 := frozen_of_blk 0 HP2.out
    go_upto_region 9 with (go_at_call 10; refine (HDR.out _ HW7.out).mono ?_; rintro e w8 ⟨AX8, cX8, AY8, cY8, AL8, cL8, rfl, hst8, hb8⟩; have HB8 := Aside0.mk hb8; clear hb8)
    clear g0 g1 g2
    have g0 := True; have g1 := True; have g2 := True
    obtain ⟨W8, hWk⟩ : ∃ W8, W8 = w8.alloc (.cells #[.slice AX8 n0 cX8, .slice AY8 n0 cY8] 25) := ⟨_, rfl⟩
    rw [← hWk]
    have hb : Below W7.heap.size W7 W8 := by rw [hWk]; exact below_alloc HB8.out _
    have hx : Below w8.heap.size w8 W8 := by rw [hWk]; exact below_alloc (Below.refl _ _) _
    have hq : W8.heap[w8.heap.size]? = some (.cells #[.slice AX8 n0 cX8, .slice AY8 n0 cY8] 25 (0, 0)) := by rw [hWk]; exact heap_new _ _ _ rfl
    obtain ⟨b15, eb⟩ : ∃ b15, b15 = w8.heap.size := ⟨_, rfl⟩
    rw [← eb] at hq
    rw [← eb]
    have hwk := HW7.out.trans (hb.mono HW7.out.size)
    have nHP2 := Aside0.mk (heap_bel HP2.out hb)
    have nHQ3 := Aside0.mk (heap_bel HQ3.out hb)
    have nHQ5 := Aside0.mk (heap_bel HQ5.out hb)
    have nHQ6 := Aside0.mk (heap_bel HQ6.out hb)
    have nHQ7 := Aside0.mk (heap_bel HQ7.out hb)
    have nHX5 := Aside0.mk (HX5.out.below hb)
    have nHL5 := Aside0.mk (And.intro (Kd.C_below HL5.out.1 hb) HL5.out.2)
    have nHX6 := Aside0.mk (HX6.out.below hb)
    have nHL6 := Aside0.mk (And.intro (Kd.C_below HL6.out.1 hb) HL6.out.2)
    have nHX7 := Aside0.mk (HX7.out.below hb)
    have nHL7 := Aside0.mk (And.intro (Kd.C_below HL7.out.1 hb) HL7.out.2)
    have nHX8 := Aside0.mk (hst8.1.below hx)
    have nHL8 := Aside0.mk (And.intro (Kd.C_below hst8.2.1 hx) hst8.2.2)
    clear g0 g1 g2 HP2 HQ3 HQ5 HQ6 HQ7 HX5 HL5 HX6 HL6 HX7 HL7 hWk eb hx HB8 HW7 hst8
    have HW8 := Aside0.mk hwk; have HQ8 := Aside0.mk hq
    have HP2 := nHP2; clear nHP2
    have HQ3 := nHQ3; clear nHQ3
    have HQ5 := nHQ5; clear nHQ5
    have HQ6 := nHQ6; clear nHQ6
    have HQ7 := nHQ7; clear nHQ7
    have HX5 := nHX5; clear nHX5
    have HL5 := nHL5; clear nHL5
    have HX6 := nHX6; clear nHX6
    have HL6 := nHL6; clear nHL6
    have HX7 := nHX7; clear nHX7
    have HL7 := nHL7; clear nHL7
    have HX8 := nHX8; clear nHX8
    have HL8 := nHL8; clear nHL8
    clear hwk hq hb
    clear HAD HAR HDE HDR
    have HK9 : Aside0 (∀ W, Below W8.heap.size W8 W → W.cell? ⟨b9, 0, none⟩ = some (.slice AX5 n0 cX5) ∧ W.cell? ⟨b9, 1, none⟩ = some (.slice AY5 n0 cY5) ∧ W.cell? ⟨b9, 2, none⟩ = some (.bool true) ∧ W.cell? ⟨b11, 0, none⟩ = some (.slice AX6 n0 cX6) ∧ W.cell? ⟨b11, 1, none⟩ = some (.slice AY6 n0 cY6) ∧ W.cell? ⟨b13, 0, none⟩ = some (.slice AX7 n0 cX7) ∧ W.cell? ⟨b13, 1, none⟩ = some (.slice AY7 n0 cY7) ∧ W.cell? ⟨b13, 2, none⟩ = some (.bool true) ∧ W.cell? ⟨b15, 0, none⟩ = some (.slice AX8 n0 cX8) ∧ W.cell? ⟨b15, 1, none⟩ = some (.slice AY8 n0 cY8)) := ⟨fun W hW => ⟨cell_of_blk (j := 0) (heap_bel HQ5.out hW) rfl, cell_of_blk (j := 1) (heap_bel HQ5.out hW) rfl, cell_of_blk (j := 2) (heap_bel HQ5.out hW) rfl, cell_of_blk (j := 0) (heap_bel HQ6.out hW) rfl, cell_of_blk (j := 1) (heap_bel HQ6.out hW) rfl, cell_of_blk (j := 0) (heap_bel HQ7.out hW) rfl, cell_of_blk (j := 1) (heap_bel HQ7.out hW) rfl, cell_of_blk (j := 2) (heap_bel HQ7.out hW) rfl, cell_of_blk (j := 0) (heap_bel HQ8.out hW) rfl, cell_of_blk (j := 1) (heap_bel HQ8.out hW) rfl⟩⟩
    have HC1 : Aside0 (∀ W, Below W8.heap.size W8 W → Calls Tryz.prog 11 #[.agg #[.slice AX5 n0 cX5, .slice AY5 n0 cY5], .agg #[.slice AX6 n0 cX6, .slice AY6 n0 cY6]] W fun e w' => e = .returned (.bool true) ∧ Below W.heap.size W w') := ⟨fun W hW => HS3.out W _ _ _ _ _ _ _ _ (HX5.out.below hW) (HX6.out.below hW)⟩
    have HC2 : Aside0 (∀ W, Below W8.heap.size W8 W → Calls Tryz.prog 11 #[.agg #[.slice AX7 n0 cX7, .slice AY7 n0 cY7], .agg #[.slice AX8 n0 cX8, .slice AY8 n0 cY8]] W fun e w' => e = .returned (.bool true) ∧ Below W.heap.size W w') := ⟨fun W hW => HS4.out W _ _ _ _ _ _ _ _ (HX7.out.below hW) (HX8.out.below hW)⟩
    have HC3 : Aside0 (∀ W, Below W8.heap.size W8 W → Calls Tryz.prog 13 #[.slice AL5 n3 cL5, .slice AL6 n3 cL6] W fun e w' => e = .returned (.bool true) ∧ Below W.heap.size W w') := ⟨fun W hW => HI3.out W _ _ _ _ ⟨Kd.C_below HL5.out.1 hW, HL5.out.2⟩ ⟨Kd.C_below HL6.out.1 hW, HL6.out.2⟩⟩
    have HC4 : Aside0 (∀ W, Below W8.heap.size W8 W → Calls Tryz.prog 13 #[.slice AL7 n4 cL7, .slice AL8 n4 cL8] W fun e w' => e = .returned (.bool true) ∧ Below W.heap.size W w') := ⟨fun W hW => HI4.out W _ _ _ _ ⟨Kd.C_below HL7.out.1 hW, HL7.out.2⟩ ⟨Kd.C_below HL8.out.1 hW, HL8.out.2⟩⟩
    clear HS3 HS4 HI3 HI4 HX5 HX6 HX7 HX8 HL5 HL6 HL7 HL8 HQ5 HQ6 HQ7 HQ8
    go_region_held3 (fun W => W.cell? ⟨b9, 0, none⟩ = some (.slice AX5 n0 cX5) ∧ W.cell? ⟨b9, 1, none⟩ = some (.slice AY5 n0 cY5) ∧ W.cell? ⟨b9, 2, none⟩ = some (.bool true) ∧ W.cell? ⟨b11, 0, none⟩ = some (.slice AX6 n0 cX6) ∧ W.cell? ⟨b11, 1, none⟩ = some (.slice AY6 n0 cY6) ∧ W.cell? ⟨b13, 0, none⟩ = some (.slice AX7 n0 cX7) ∧ W.cell? ⟨b13, 1, none⟩ = some (.slice AY7 n0 cY7) ∧ W.cell? ⟨b13, 2, none⟩ = some (.bool true) ∧ W.cell? ⟨b15, 0, none⟩ = some (.slice AX8 n0 cX8) ∧ W.cell? ⟨b15, 1, none⟩ = some (.slice AY8 n0 cY8))
     (exact HK9.out _ (by repeat (first | with_reducible exact HB86.out | with_reducible exact HB80.out | with_reducible exact HB78.out | with_reducible exact HB73.out | with_reducible exact HB68.out | with_reducible exact HB66.out | with_reducible exact Below.refl _ _ | apply below_alloc | apply pw_below_drewN | apply below_drew1 | apply below_drew)))
     (first
      | (go_at_call 12; with_reducible refine bel_call (w := W8) (fun _ => HT7.out _) (by repeat (first | with_reducible exact HB86.out | with_reducible exact HB80.out | with_reducible exact HB78.out | with_reducible exact HB73.out | with_reducible exact HB68.out | with_reducible exact HB66.out | with_reducible exact Below.refl _ _ | apply below_alloc | apply pw_below_drewN | apply below_drew1 | apply below_drew)) ?_; rintro e w78 ⟨rfl, hb78⟩ hW; have HB78 := Aside0.mk (hW.trans (hb78.mono hW.size)); clear hb78 hW; have HC2b := HC2)
      | (go_at_call 11; with_reducible refine bel_call (w := W8) (HC2b.out _) (by repeat (first | with_reducible exact HB86.out | with_reducible exact HB80.out | with_reducible exact HB78.out | with_reducible exact HB73.out | with_reducible exact HB68.out | with_reducible exact HB66.out | with_reducible exact Below.refl _ _ | apply below_alloc | apply pw_below_drewN | apply below_drew1 | apply below_drew)) ?_; rintro e w80 ⟨rfl, hb80⟩ hW; have HB80 := Aside0.mk (hW.trans (hb80.mono hW.size)); clear hb80 hW; have HC4b := HC4)
      | (go_at_call 13; with_reducible refine bel_call (w := W8) (HC4b.out _) (by repeat (first | with_reducible exact HB86.out | with_reducible exact HB80.out | with_reducible exact HB78.out | with_reducible exact HB73.out | with_reducible exact HB68.out | with_reducible exact HB66.out | with_reducible exact Below.refl _ _ | apply below_alloc | apply pw_below_drewN | apply below_drew1 | apply below_drew)) ?_; rintro e w86 ⟨rfl, hb86⟩ hW; have HB86 := Aside0.mk (hW.trans (hb86.mono hW.size)); clear hb86 hW)
      | (go_at_call 12; with_reducible refine bel_call (w := W8) (fun _ => theirs_c AX5 n0 cX5 AY5 n0 cY5 true _) (by repeat (first | with_reducible exact HB86.out | with_reducible exact HB80.out | with_reducible exact HB78.out | with_reducible exact HB73.out | with_reducible exact HB68.out | with_reducible exact HB66.out | with_reducible exact Below.refl _ _ | apply below_alloc | apply pw_below_drewN | apply below_drew1 | apply below_drew)) ?_; rintro e w66 ⟨rfl, hb66⟩ hW; have HB66 := Aside0.mk (hW.trans (hb66.mono hW.size)); clear hb66 hW)
      | (go_at_call 11; with_reducible refine bel_call (w := W8) (HC1.out _) (by repeat (first | with_reducible exact HB86.out | with_reducible exact HB80.out | with_reducible exact HB78.out | with_reducible exact HB73.out | with_reducible exact HB68.out | with_reducible exact HB66.out | with_reducible exact Below.refl _ _ | apply below_alloc | apply pw_below_drewN | apply below_drew1 | apply below_drew)) ?_; rintro e w68 ⟨rfl, hb68⟩ hW; have HB68 := Aside0.mk (hW.trans (hb68.mono hW.size)); clear hb68 hW)
      | (go_at_call 13; with_reducible refine bel_call (w := W8) (HC3.out _) (by repeat (first | with_reducible exact HB86.out | with_reducible exact HB80.out | with_reducible exact HB78.out | with_reducible exact HB73.out | with_reducible exact HB68.out | with_reducible exact HB66.out | with_reducible exact Below.refl _ _ | apply below_alloc | apply pw_below_drewN | apply below_drew1 | apply below_drew)) ?_; rintro e w73 ⟨rfl, hb73⟩ hW; have HB73 := Aside0.mk (hW.trans (hb73.mono hW.size)); clear hb73 hW; have HT7 := Aside0.mk (fun W => theirs_c AX7 n0 cX7 AY7 n0 cY7 true W))
     )
    go_upto_region 11 with (fail)
    clear HK9 HC1 HC2 HC3 HC4 HT7 HC2b HC4b HB66 HB68 HB73 HB78 HB80
    have HK11 : Aside0 (∀ W, Below W8.heap.size W8 W → W.cell? ⟨w.heap.size, 0, none⟩ = some (.slice A0 n0 c0) ∧ W.cell? ⟨w.heap.size, 1, none⟩ = some (.slice A1 n1 c1) ∧ W.cell? ⟨b8, 0, none⟩ = some (.slice A0 n0 c0) ∧ W.cell? ⟨b8, 1, none⟩ = some (.slice A1 n1 c1) ∧ W.cell? ⟨b8, 2, none⟩ = some (.bool false)) := ⟨fun W hW => ⟨cell_of_blk (j := 0) (heap_bel HP2.out hW) rfl, cell_of_blk (j := 1) (heap_bel HP2.out hW) rfl, cell_of_blk (j := 0) (heap_bel HQ3.out hW) rfl, cell_of_blk (j := 1) (heap_bel HQ3.out hW) rfl, cell_of_blk (j := 2) (heap_bel HQ3.out hW) rfl⟩⟩
    clear HP2 HQ3
    go_region_held3 (fun W => W.cell? ⟨w.heap.size, 0, none⟩ = some (.slice A0 n0 c0) ∧ W.cell? ⟨w.heap.size, 1, none⟩ = some (.slice A1 n1 c1) ∧ W.cell? ⟨b8, 0, none⟩ = some (.slice A0 n0 c0) ∧ W.cell? ⟨b8, 1, none⟩ = some (.slice A1 n1 c1) ∧ W.cell? ⟨b8, 2, none⟩ = some (.bool false))
     (exact HK11.out _ (by repeat (first | with_reducible exact HB124.out | with_reducible exact HB123.out | with_reducible exact HB120.out | with_reducible exact HB119.out | with_reducible exact HB113.out | with_reducible exact HB109.out | with_reducible exact HB103.out | with_reducible exact HB102.out | with_reducible exact HB100.out | with_reducible exact HB99.out | with_reducible exact HB94.out | with_reducible exact HB92.out | with_reducible exact HB86.out | with_reducible exact Below.refl _ _ | apply below_alloc | apply pw_below_drewN | apply below_drew1 | apply below_drew)))
     (first
      | (go_at_call 12; with_reducible refine bel_call (w := w119) (fun _ => HTb.out _) (by repeat (first | with_reducible exact Below.refl _ _ | apply below_alloc | apply pw_below_drewN | apply below_drew1 | apply below_drew)) ?_; rintro e w120 ⟨rfl, hb120⟩ hW; have HC120 := Aside0.mk (hW.trans (hb120.mono hW.size)); have HB120 := Aside0.mk (HB119.out.trans (HC120.out.mono HB119.out.size)); clear hb120 hW)
      | (go_at_call 11; with_reducible refine bel_call (w := w123) (fun hW => HS6.out _ _ _ _ _ _ _ _ _ (HGb.out.below (HC123.out.trans (hW.mono HC123.out.size))) (HGc.out.below hW)) (by repeat (first | with_reducible exact Below.refl _ _ | apply below_alloc | apply pw_below_drewN | apply below_drew1 | apply below_drew)) ?_; rintro e w124 ⟨rfl, hb124⟩ hW; have HC124 := Aside0.mk (hW.trans (hb124.mono hW.size)); have HB124 := Aside0.mk (HB123.out.trans (HC124.out.mono HB123.out.size)); clear hb124 hW)
      | (go_at_call 14; with_reducible refine bel_call (w := W8) (fun hW => HSO.out _ (HW8.out.trans (hW.mono HW8.out.size))) (by repeat (first | with_reducible exact HB124.out | with_reducible exact HB123.out | with_reducible exact HB120.out | with_reducible exact HB119.out | with_reducible exact HB113.out | with_reducible exact HB109.out | with_reducible exact HB103.out | with_reducible exact HB102.out | with_reducible exact HB100.out | with_reducible exact HB99.out | with_reducible exact HB94.out | with_reducible exact HB92.out | with_reducible exact HB86.out | with_reducible exact Below.refl _ _ | apply below_alloc | apply pw_below_drewN | apply below_drew1 | apply below_drew)) ?_; rintro e w92 ⟨rfl, hb92⟩ hW; have HB92 := Aside0.mk (hW.trans (hb92.mono hW.size)); clear hb92 hW)
      | (go_at_call 15; with_reducible refine bel_call (w := W8) (fun hW => HSR.out _ (HW8.out.trans (hW.mono HW8.out.size))) (by repeat (first | with_reducible exact HB124.out | with_reducible exact HB123.out | with_reducible exact HB120.out | with_reducible exact HB119.out | with_reducible exact HB113.out | with_reducible exact HB109.out | with_reducible exact HB103.out | with_reducible exact HB102.out | with_reducible exact HB100.out | with_reducible exact HB99.out | with_reducible exact HB94.out | with_reducible exact HB92.out | with_reducible exact HB86.out | with_reducible exact Below.refl _ _ | apply below_alloc | apply pw_below_drewN | apply below_drew1 | apply below_drew)) ?_; rintro e w94 ⟨rfl, hb94⟩ hW; have HB94 := Aside0.mk (hW.trans (hb94.mono hW.size)); clear hb94 hW)
      | (go_at_call 16; with_reducible refine bel_call (w := W8) (fun hW => HGO.out _ (HW8.out.trans (hW.mono HW8.out.size))) (by repeat (first | with_reducible exact HB124.out | with_reducible exact HB123.out | with_reducible exact HB120.out | with_reducible exact HB119.out | with_reducible exact HB113.out | with_reducible exact HB109.out | with_reducible exact HB103.out | with_reducible exact HB102.out | with_reducible exact HB100.out | with_reducible exact HB99.out | with_reducible exact HB94.out | with_reducible exact HB92.out | with_reducible exact HB86.out | with_reducible exact Below.refl _ _ | apply below_alloc | apply pw_below_drewN | apply below_drew1 | apply below_drew)) ?_; rintro e w99 ⟨AX9, cX9, AY9, cY9, rfl, hst, hb99⟩ hW; have HB99 := Aside0.mk (hW.trans (hb99.mono hW.size)); have HG9 := Aside0.mk hst; clear hst; clear hb99 hW)
      | (go_at_call 12; with_reducible refine bel_call (w := w99) (fun _ => theirs_c AX9 n5 cX9 AY9 n6 cY9 true _) (by repeat (first | with_reducible exact Below.refl _ _ | apply below_alloc | apply pw_below_drewN | apply below_drew1 | apply below_drew)) ?_; rintro e w100 ⟨rfl, hb100⟩ hW; have HC100 := Aside0.mk (hW.trans (hb100.mono hW.size)); have HB100 := Aside0.mk (HB99.out.trans (HC100.out.mono HB99.out.size)); clear hb100 hW)
      | (go_at_call 17; with_reducible refine bel_call (w := w99) (fun hW => HGR.out _ (HW8.out.trans ((HB99.out.trans (hW.mono HB99.out.size)).mono HW8.out.size))) (by repeat (first | with_reducible exact HC100.out | with_reducible exact Below.refl _ _ | apply below_alloc | apply pw_below_drewN | apply below_drew1 | apply below_drew)) ?_; rintro e w102 ⟨AXa, cXa, AYa, cYa, rfl, hst, hb102⟩ hW; have HC102 := Aside0.mk (hW.trans (hb102.mono hW.size)); have HB102 := Aside0.mk (HB99.out.trans (HC102.out.mono HB99.out.size)); have HGa := Aside0.mk hst; clear hst; clear hb102 hW)
      | (go_at_call 11; with_reducible refine bel_call (w := w102) (fun hW => HS5.out _ _ _ _ _ _ _ _ _ (HG9.out.below (HC102.out.trans (hW.mono HC102.out.size))) (HGa.out.below hW)) (by repeat (first | with_reducible exact Below.refl _ _ | apply below_alloc | apply pw_below_drewN | apply below_drew1 | apply below_drew)) ?_; rintro e w103 ⟨rfl, hb103⟩ hW; have HC103 := Aside0.mk (hW.trans (hb103.mono hW.size)); have HB103 := Aside0.mk (HB102.out.trans (HC103.out.mono HB102.out.size)); clear hb103 hW)
      | (go_at_call 18; with_reducible refine bel_call (w := W8) (fun hW => HTO.out _ (HW8.out.trans (hW.mono HW8.out.size))) (by repeat (first | with_reducible exact HB124.out | with_reducible exact HB123.out | with_reducible exact HB120.out | with_reducible exact HB119.out | with_reducible exact HB113.out | with_reducible exact HB109.out | with_reducible exact HB103.out | with_reducible exact HB102.out | with_reducible exact HB100.out | with_reducible exact HB99.out | with_reducible exact HB94.out | with_reducible exact HB92.out | with_reducible exact HB86.out | with_reducible exact Below.refl _ _ | apply below_alloc | apply pw_below_drewN | apply below_drew1 | apply below_drew)) ?_; rintro e w109 ⟨rfl, hb109⟩ hW; have HB109 := Aside0.mk (hW.trans (hb109.mono hW.size)); clear hb109 hW)
      | (go_at_call 19; with_reducible refine bel_call (w := W8) (fun hW => HTR.out _ (HW8.out.trans (hW.mono HW8.out.size))) (by repeat (first | with_reducible exact HB124.out | with_reducible exact HB123.out | with_reducible exact HB120.out | with_reducible exact HB119.out | with_reducible exact HB113.out | with_reducible exact HB109.out | with_reducible exact HB103.out | with_reducible exact HB102.out | with_reducible exact HB100.out | with_reducible exact HB99.out | with_reducible exact HB94.out | with_reducible exact HB92.out | with_reducible exact HB86.out | with_reducible exact Below.refl _ _ | apply below_alloc | apply pw_below_drewN | apply below_drew1 | apply below_drew)) ?_; rintro e w113 ⟨rfl, hb113⟩ hW; have HB113 := Aside0.mk (hW.trans (hb113.mono hW.size)); clear hb113 hW)
      | (go_at_call 20; with_reducible refine bel_call (w := W8) (fun hW => HNO.out _ (HW8.out.trans (hW.mono HW8.out.size))) (by repeat (first | with_reducible exact HB124.out | with_reducible exact HB123.out | with_reducible exact HB120.out | with_reducible exact HB119.out | with_reducible exact HB113.out | with_reducible exact HB109.out | with_reducible exact HB103.out | with_reducible exact HB102.out | with_reducible exact HB100.out | with_reducible exact HB99.out | with_reducible exact HB94.out | with_reducible exact HB92.out | with_reducible exact HB86.out | with_reducible exact Below.refl _ _ | apply below_alloc | apply pw_below_drewN | apply below_drew1 | apply below_drew)) ?_; rintro e w119 ⟨AXb, cXb, AYb, cYb, rfl, hst, hb119⟩ hW; have HB119 := Aside0.mk (hW.trans (hb119.mono hW.size)); have HGb := Aside0.mk hst; have HTb := Aside0.mk (fun W => theirs_c AXb n0 cXb AYb n0 cYb true W); clear hst; clear hb119 hW)
      | (go_at_call 21; with_reducible refine bel_call (w := w119) (fun hW => HNR.out _ (HW8.out.trans ((HB119.out.trans (hW.mono HB119.out.size)).mono HW8.out.size))) (by repeat (first | with_reducible exact HC120.out | with_reducible exact Below.refl _ _ | apply below_alloc | apply pw_below_drewN | apply below_drew1 | apply below_drew)) ?_; rintro e w123 ⟨AXc, cXc, AYc, cYc, rfl, hst, hb123⟩ hW; have HC123 := Aside0.mk (hW.trans (hb123.mono hW.size)); have HB123 := Aside0.mk (HB119.out.trans (HC123.out.mono HB119.out.size)); have HGc := Aside0.mk hst; clear hst; clear hb123 hW)
     )
    all_goals go_wp2
    all_goals go_ret
    all_goals exact ⟨rfl, HW8.out.trans (HB124.out.mono HW8.out.size)⟩
end Go.Proofs.YtemcmcnhpdkdfaaGreat.P
namespace Go.Proofs.YtemcmcnhpdkdfaaGreat.P
open Go.RowKit Go.Lib Go.Sort Go.Deep Go.Proofs.YtemcmcnhpdkdfaaGreatW.PrintWords Go.Proofs.YtemcmcnhpdkdfaaGreatW.PrintLast Go.Proofs.YtemcmcnhpdkdfaaGreatW.PrintMore
theorem C_of_cells {w : World} {A : Option Addr} {n : Nat} {zs : List Int} (hn : n ≤ 9223372036854775807) (hl : n ≤ zs.length) (hA : A = none → zs.length = 0) (hc : ∀ a, A = some a → ∀ c, c < zs.length → w.cell? (a.add c) = some (.int .i64 (zs.getD c 0))) : dI.C w A (zs.take n).length (zs.take n) := by
 have e : (zs.take n).length = n := by rw [List.length_take]; omega
 refine ⟨rfl, by rw [e]; exact hn, fun hp => ?_⟩
 cases A with
 | none => have := hA rfl; omega
 | some a =>
  refine ⟨a, rfl, fun j p hj => ⟨[.int .i64 p], rfl, rfl, fun i u hu => ?_⟩⟩
  have hjl : j < (zs.take n).length := (List.getElem?_eq_some_iff.1 hj).1
  match i, hu with
  | 0, hu =>
   injection hu with hu
   subst hu
   have hjz : j < zs.length := by omega
   have h1 := hc a rfl j hjz
   rw [List.getElem?_take, if_pos (by omega), List.getElem?_eq_getElem hjz] at hj
   injection hj with hj
   rw [List.getD_eq_getElem?_getD, List.getElem?_eq_getElem hjz, Option.getD_some, hj] at h1
   rw [show j * dI.sz + 0 = j from by show j * 1 + 0 = j; omega]
   exact h1
  | i + 1, hu => simp at hu
theorem open_rows {H : Type} {enc : TypeId × Value → H} {P : Program} {w : World} {base : Nat} {held : Bool} {t e q : TypeId} {fuel : Nat} {a0 : Option Addr} {len cap : Nat} {x : DataW H × List MemPlace} (ht : P.underlying t = some (.slice e)) (he : P.underlying e = some (.slice q)) (hq : P.underlying q = some (.int .i64))
  (ce : P.cellsOf e = 1) (cq : P.cellsOf q = 1) (h : DataW.trod enc P w base (fun _ => true) held fuel t [.slice a0 len cap] = some x) :
  ∃ l : List (List Int), l.length = len ∧ (Kd.slice 3 (Kd.int .i64)).C w a0 l.length l ∧ l.length ≤ cap ∧ l.length ≤ 9223372036854775807 ∧ (∀ r ∈ l, r.length ≤ 9223372036854775807 ∧ ∀ y ∈ r, (Lit.int .i64 y).wf = true) := by
 rcases open_int_rows ht he hq ce cq h with ⟨hcs, _⟩ | ⟨a, len', cap', A, L, C, Z, hcs, _, hl, hm, _, hr⟩
 ·simp at hcs
  obtain ⟨rfl, rfl, rfl⟩ := hcs
  exact ⟨[], rfl, ⟨rfl, by simp, fun hp => absurd hp (by simp)⟩, Nat.le_refl _, by simp, fun r hr => by simp at hr⟩
 ·simp at hcs
  obtain ⟨rfl, rfl, rfl⟩ := hcs
  have hm' : cap ≤ 9223372036854775807 := hm
  have hrow : ∀ r, r < cap → dI.C w (A r) ((Z r).take (L r)).length ((Z r).take (L r)) ∧ ((Z r).take (L r)).length = L r := by
   intro r hrc
   obtain ⟨_, h2, h3, h4, _, h6, h7⟩ := hr r hrc
   have h3' : C r ≤ 9223372036854775807 := h3
   exact ⟨C_of_cells (by omega) (by omega) (fun e => by rw [h4]; exact h6 e) (fun a' ha c hc => (h7 a' ha).2 c (by omega)), by rw [List.length_take]; omega⟩
  refine ⟨(List.range len).map fun r => (Z r).take (L r), by simp, ?_, by simpa using hl, by simp; omega, ?_⟩
  ·refine ⟨rfl, by simp; omega, fun hp => ⟨a, rfl, fun j p hj => ?_⟩⟩
   rw [List.getElem?_map] at hj
   have hjl : j < len := by
    rcases Nat.lt_or_ge j len with h1 | h1
    ·exact h1
    ·rw [List.getElem?_eq_none (by simpa using h1)] at hj
     cases hj
   rw [List.getElem?_eq_getElem (by simpa using hjl)] at hj
   simp only [List.getElem_range, Option.map_some, Option.some.injEq] at hj
   subst hj
   obtain ⟨h1, h2, _⟩ := hr j (by omega)
   obtain ⟨hc, hcl⟩ := hrow j (by omega)
   refine ⟨[.slice (A j) (L j) (C j)], rfl, ⟨A j, C j, by rw [hcl], by rw [hcl]; exact h2, hc⟩, fun i u hu => ?_⟩
   match i, hu with
   | 0, hu =>
    injection hu with hu
    subst hu
    rw [show j * (Kd.slice 3 (Kd.int .i64)).sz + 0 = j from by show j * 1 + 0 = j; omega]
    exact h1
   | i + 1, hu => simp at hu
  ·intro r hrm
   rw [List.mem_map] at hrm
   obtain ⟨j, hj, rfl⟩ := hrm
   rw [List.mem_range] at hj
   obtain ⟨_, h2, h3, h4, h5, _⟩ := hr j (by omega)
   have h3' : C j ≤ 9223372036854775807 := h3
   exact ⟨by rw [(hrow j (by omega)).2]; omega, fun y hy => h5 y (List.mem_of_mem_take hy)⟩
end Go.Proofs.YtemcmcnhpdkdfaaGreat.P
namespace Go.Proofs.YtemcmcnhpdkdfaaGreat.P
open Go.RowKit Go.Lib Go.Sort Go.Deep Go.ChangeShapes Go.WideShapes Go.Proofs.YtemcmcnhpdkdfaaGreatW.PrintWords Go.Proofs.YtemcmcnhpdkdfaaGreatW.PrintLast Go.Proofs.YtemcmcnhpdkdfaaGreatW.PrintMore
theorem open_row {H : Type} {enc : TypeId × Value → H} {P : Program} {w : World} {base : Nat} {held : Bool} {t e : TypeId} {fuel : Nat} {a0 : Option Addr} {len cap : Nat} {x : DataW H × List MemPlace} (ht : P.underlying t = some (.slice e)) (he : P.underlying e = some (.int .i64))
  (ce : P.cellsOf e = 1) (h : DataW.trod enc P w base (fun _ => true) held fuel t [.slice a0 len cap] = some x) :
  ∃ l : List Int, l.length = len ∧ (Kd.int .i64).C w a0 l.length l ∧ l.length ≤ cap ∧ l.length ≤ 9223372036854775807 ∧ (∀ y ∈ l, (Lit.int .i64 y).wf = true) := by
 rcases open_ints ht he ce h with ⟨hcs, _⟩ | ⟨a, len', cap', zs, hcs, _, hl, hm, hz, _, hr, hw⟩
 ·simp at hcs
  obtain ⟨rfl, rfl, rfl⟩ := hcs
  exact ⟨[], rfl, ⟨rfl, by simp, fun hp => absurd hp (by simp)⟩, Nat.le_refl _, by simp, fun r hr => by simp at hr⟩
 ·simp at hcs
  obtain ⟨rfl, rfl, rfl⟩ := hcs
  have hm' : cap ≤ 9223372036854775807 := hm
  rw [if_pos rfl] at hz
  refine ⟨zs.take len, by rw [List.length_take]; omega, C_of_cells (by omega) (by omega) (fun e => by cases e) (fun a' ha c hc => by injection ha with ha; rw [← ha]; exact hr c hc), ?_, ?_, fun y hy => hw y (List.mem_of_mem_take hy)⟩
  ·rw [List.length_take]; omega
  ·rw [List.length_take]; omega
end Go.Proofs.YtemcmcnhpdkdfaaGreat.P
