/- Closest dominators, solved over and over: plain laws (no program in sight). -/
import Derived.Test.YtemcmcnhpdkdfaaGrefs
namespace Go.Proofs.Ytemcmcnhpdkdfaa.P

/-- A way that goes around x. -/
inductive Av (g : List (List Int)) (x : Int) : Int → Int → Prop where
  | refl {a : Int} : a ≠ x → Av g x a a
  | step {a b c : Int} : a ≠ x → b ∈ row g a → Av g x b c → Av g x a c
theorem Av.right {g : List (List Int)} {x a b : Int} (h : Av g x a b) : b ≠ x := by
  induction h with
  | refl h => exact h
  | step _ _ _ ih => exact ih
theorem Av.left {g : List (List Int)} {x a b : Int} (h : Av g x a b) : a ≠ x := by
  cases h with
  | refl h => exact h
  | step h _ _ => exact h
theorem Av.trans {g : List (List Int)} {x a b c : Int} (h : Av g x a b) (k : Av g x b c) : Av g x a c := by
  induction h with
  | refl => exact k
  | step h1 h2 _ ih => exact .step h1 h2 (ih k)
theorem Av.snoc {g : List (List Int)} {x a b c : Int} (h : Av g x a b) (he : c ∈ row g b) (hc : c ≠ x) : Av g x a c := h.trans (.step h.right he (.refl hc))
theorem Av.way {g : List (List Int)} {x a b : Int} (h : Av g x a b) : Way g a b := by
  induction h with
  | refl => exact .refl _
  | step _ he _ ih => exact .step he ih
theorem Av.closed {g : List (List Int)} {x : Int} {P : Int → Prop} (hc : ∀ a b, P a → b ∈ row g a → b ≠ x → P b) {a b : Int} (h : Av g x a b) (ha : P a) : P b := by
  induction h with
  | refl => exact ha
  | step _ he hb ih => exact ih (hc _ _ ha he hb.left)
theorem Way.av {g : List (List Int)} {x a b : Int} (h : Way g a b) (hx : ¬ Way g a x) : Av g x a b := by
  induction h with
  | refl a => exact .refl (fun e => hx (by rw [← e]; exact .refl _))
  | step he _ ih => exact .step (fun e => hx (by rw [← e]; exact .refl _)) he (ih (fun h => hx (.step he h)))

/-- What is above, by a partial function: the one itself, and all further up. -/
inductive Up (T : Int → Option Int) : Int → Int → Prop where
  | refl (b : Int) : Up T b b
  | step {b p x : Int} : T b = some p → Up T p x → Up T b x
theorem Up.trans {T : Int → Option Int} {a b c : Int} (h : Up T a b) (k : Up T b c) : Up T a c := by
  induction h with
  | refl => exact k
  | step h1 _ ih => exact .step h1 (ih k)
theorem Up.cases {T : Int → Option Int} {a x : Int} (h : Up T a x) : x = a ∨ ∃ p, T a = some p ∧ Up T p x := by
  cases h with
  | refl => exact .inl rfl
  | step h1 h2 => exact .inr ⟨_, h1, h2⟩
/-- Two that are above one are above each other. -/
theorem Up.line {T : Int → Option Int} {a x y : Int} (h : Up T a x) (k : Up T a y) : Up T x y ∨ Up T y x := by
  induction h with
  | refl => exact .inl k
  | step h1 h2 ih =>
    rcases k.cases with rfl | ⟨p, hp, k2⟩
    · exact .inr (.step h1 h2)
    · rw [h1] at hp
      obtain rfl := Option.some.inj hp
      exact ih k2

/-- A graph, its nodes that 0 has a way to in an order, and of each (but 0) one ahead of it that it follows. -/
structure Dfs (g : List (List Int)) (o : List Int) (par : Int → Option Int) : Prop where
  zero : 0 ∈ o
  mem : ∀ x, x ∈ o ↔ Way g 0 x
  has : ∀ x, x ∈ o → x ≠ 0 → ∃ u, par x = some u
  ok : ∀ x u, par x = some u → x ∈ o ∧ x ≠ 0 ∧ x ∈ row g u ∧ u ∈ o ∧ o.idxOf u < o.idxOf x

theorem idx_inj {o : List Int} {x y : Int} (hx : x ∈ o) (hy : y ∈ o) (h : o.idxOf x = o.idxOf y) : x = y := by
  have h1 := List.getElem_idxOf (List.idxOf_lt_length_of_mem hx)
  have h2 := List.getElem_idxOf (List.idxOf_lt_length_of_mem hy)
  rw [← h1, ← h2]
  simp only [h]

/-- Is a node's closest one known? -/
def Kn (T : Int → Option Int) (b : Int) : Prop := b = 0 ∨ ∃ p, T b = some p

/-- What holds of what is known so far. -/
structure DI (g : List (List Int)) (o : List Int) (par : Int → Option Int) (T : Int → Option Int) : Prop where
  t1 : ∀ b p, T b = some p → b ∈ o ∧ b ≠ 0 ∧ p ∈ o ∧ o.idxOf p < o.idxOf b ∧ Kn T p
  t2 : ∀ b x, Kn T b → Up T b x → Up par b x
  t3 : ∀ b x, Kn T b → ¬ Av g x 0 b → Up T b x
  t4 : ∀ b p, T b = some p → ∀ x, x ∈ o → (∀ a, Kn T a → b ∈ row g a → Up T a x) → o.idxOf x ≤ o.idxOf p

section
variable {g : List (List Int)} {o : List Int} {par T : Int → Option Int}
theorem Dfs.up (hd : Dfs g o par) {b x : Int} (h : Up par b x) (hb : b ∈ o) : x ∈ o ∧ o.idxOf x ≤ o.idxOf b := by
  induction h with
  | refl => exact ⟨hb, Nat.le_refl _⟩
  | step h1 _ ih =>
    have h2 := hd.ok _ _ h1
    have := ih h2.2.2.2.1
    exact ⟨this.1, by have := this.2; have := h2.2.2.2.2; omega⟩
/-- Along the tree down from c nothing is ahead of c. -/
theorem Dfs.around (hd : Dfs g o par) {b c x : Int} (h : Up par b c) (hb : b ∈ o) (hlt : o.idxOf x < o.idxOf c) : Av g x c b := by
  induction h with
  | refl b => exact .refl (fun e => by rw [e] at hlt; omega)
  | step h1 h2 ih =>
    have h3 := hd.ok _ _ h1
    have h4 := (hd.up h2 h3.2.2.2.1).2
    exact (ih h3.2.2.2.1 hlt).snoc h3.2.2.1 (fun e => by rw [e] at h3; omega)
/-- 0 is the first one. -/
theorem zero_first (hd : Dfs g o par) : ∀ {b : Int}, b ∈ o → b ≠ 0 → o.idxOf 0 < o.idxOf b := by
  have key : ∀ (m : Nat) (b : Int), o.idxOf b ≤ m → b ∈ o → b ≠ 0 → o.idxOf 0 < o.idxOf b := by
    intro m
    induction m with
    | zero =>
      intro b hm hb h0
      obtain ⟨u, hu⟩ := hd.has b hb h0
      have := (hd.ok _ _ hu).2.2.2.2
      omega
    | succ m ih =>
      intro b hm hb h0
      obtain ⟨u, hu⟩ := hd.has b hb h0
      have h1 := hd.ok _ _ hu
      by_cases e : u = 0
      · rw [← e]; exact h1.2.2.2.2
      · have := ih u (by omega) h1.2.2.2.1 e
        omega
  intro b hb h0
  exact key _ b (Nat.le_refl _) hb h0
theorem DI.kn_mem (hd : Dfs g o par) (h : DI g o par T) {b : Int} (hb : Kn T b) : b ∈ o := by
  rcases hb with rfl | ⟨p, hp⟩
  · exact hd.zero
  · exact (h.t1 b p hp).1
theorem DI.up (h : DI g o par T) {b x : Int} (hu : Up T b x) (hb : b ∈ o) : x ∈ o ∧ o.idxOf x ≤ o.idxOf b := by
  induction hu with
  | refl => exact ⟨hb, Nat.le_refl _⟩
  | step h1 _ ih =>
    have h2 := h.t1 _ _ h1
    have := ih h2.2.2.1
    exact ⟨this.1, by have := this.2; have := h2.2.2.2.1; omega⟩
theorem DI.up_kn (h : DI g o par T) {b x : Int} (hu : Up T b x) (hb : Kn T b) : Kn T x := by
  induction hu with
  | refl => exact hb
  | step h1 _ ih => exact ih (h.t1 _ _ h1).2.2.2.2
theorem DI.line (h : DI g o par T) {a x y : Int} (ha : a ∈ o) (hx : Up T a x) (hy : Up T a y) (hle : o.idxOf x ≤ o.idxOf y) : Up T y x := by
  rcases hx.line hy with k | k
  · have hxo := h.up hx ha
    have := h.up k hxo.1
    obtain rfl : x = y := idx_inj hxo.1 this.1 (by omega)
    exact .refl _
  · exact k

/-- One node is solved anew: N is above all that are known ahead of c, and all that is so is above N. -/
structure StepOk (g : List (List Int)) (T : Int → Option Int) (c N : Int) : Prop where
  all : ∀ a, Kn T a → c ∈ row g a → Up T a N
  best : ∀ x, (∀ a, Kn T a → c ∈ row g a → Up T a x) → Up T N x
def upd (T : Int → Option Int) (c N : Int) : Int → Option Int := fun b => if b = c then some N else T b
theorem upd_at (T : Int → Option Int) (c N : Int) : upd T c N c = some N := by unfold upd; rw [if_pos rfl]
theorem upd_ne (T : Int → Option Int) {c N b : Int} (h : b ≠ c) : upd T c N b = T b := by unfold upd; rw [if_neg h]

theorem upd_off {c N : Int} {b x : Int} (h : Up T b x) (hn : ¬ Up T b c) : Up (upd T c N) b x := by
  induction h with
  | refl => exact .refl _
  | @step b p x h1 h2 ih =>
    have hbc : b ≠ c := fun e => hn (by rw [e]; exact .refl _)
    exact .step (by rw [upd_ne _ hbc]; exact h1) (ih (fun k => hn (.step h1 k)))
theorem upd_to {c N : Int} {b : Int} (h : Up T b c) : Up (upd T c N) b c := by
  induction h with
  | refl => exact .refl _
  | @step b p x h1 h2 ih =>
    by_cases e : b = x
    · rw [e]; exact .refl _
    · exact .step (by rw [upd_ne _ e]; exact h1) ih
theorem upd_back {c N : Int} {b x : Int} (h : Up (upd T c N) b x) : Up T b x ∨ (Up T b c ∧ Up (upd T c N) N x) := by
  induction h with
  | refl => exact .inl (.refl _)
  | @step b p x h1 h2 ih =>
    by_cases e : b = c
    · subst e
      rw [upd_at] at h1
      obtain rfl := Option.some.inj h1
      exact .inr ⟨.refl _, h2⟩
    · rw [upd_ne _ e] at h1
      rcases ih with k | ⟨k1, k2⟩
      · exact .inl (.step h1 k)
      · exact .inr ⟨.step h1 k1, k2⟩

/-- In this pass each node ahead of i follows the tree. -/
def Eq0 (o : List Int) (par T : Int → Option Int) (i : Nat) : Prop := ∀ v, v ∈ o → v ≠ 0 → o.idxOf v < i → Kn T v ∧ ∀ x, Up T v x → x = v ∨ ∃ u, par v = some u ∧ Up T u x

variable {c N : Int}
theorem DI.kn_par (hd : Dfs g o par) (he : Eq0 o par T (o.idxOf c)) {u : Int} (hu : par c = some u) : Kn T u := by
  have h := hd.ok _ _ hu
  by_cases e : u = 0
  · exact .inl e
  · exact (he u h.2.2.2.1 e h.2.2.2.2).1
theorem DI.above (hd : Dfs g o par) (h : DI g o par T) (he : Eq0 o par T (o.idxOf c)) (hs : StepOk g T c N) {u : Int} (hu : par c = some u) : Up T u N ∧ N ∈ o ∧ o.idxOf N < o.idxOf c ∧ Kn T N := by
  have hp := hd.ok _ _ hu
  have hk := DI.kn_par hd he hu
  have h1 := hs.all u hk hp.2.2.1
  have h2 := h.up h1 hp.2.2.2.1
  exact ⟨h1, h2.1, by have := h2.2; have := hp.2.2.2.2; omega, h.up_kn h1 hk⟩
/-- What is known of a node goes up: the new one is above the old one. -/
theorem DI.higher (hd : Dfs g o par) (h : DI g o par T) (he : Eq0 o par T (o.idxOf c)) (hs : StepOk g T c N) {p : Int} (hp : T c = some p) : Up T p N := by
  have h1 := h.t1 c p hp
  obtain ⟨u, hu⟩ := hd.has c h1.1 h1.2.1
  obtain ⟨a1, a2, a3, a4⟩ := h.above hd he hs hu
  have hle := h.t4 c p hp N a2 hs.all
  have hup := h.t2 c p (.inr ⟨p, hp⟩) (.step hp (.refl _))
  have hpu : Up par u p := by
    rcases hup.cases with e | ⟨q, hq, k⟩
    · rw [e] at h1; omega
    · rw [hu] at hq
      obtain rfl := Option.some.inj hq
      exact k
  have go : ∀ v w, Up par v w → w = p → o.idxOf v < o.idxOf c → v ∈ o → Up T v N → Up T p N := by
    intro v w hvw
    induction hvw with
    | refl b => intro e _ _ k; rw [← e]; exact k
    | @step b q x h2 h3 ih =>
      intro e hb hbo k
      have h4 := hd.ok _ _ h2
      have hx := (hd.up h3 h4.2.2.2.1).2
      rcases (he b h4.1 h4.2.1 hb).2 N k with e2 | ⟨q', hq', k2⟩
      · rw [e2, ← e] at hle
        omega
      · rw [h2] at hq'
        obtain rfl := Option.some.inj hq'
        exact ih e (by omega) h4.2.2.2.1 k2
  exact go u p hpu rfl (hd.ok _ _ hu).2.2.2.2 (hd.ok _ _ hu).2.2.2.1 a1

theorem upd_part (h : DI g o par T) {b x : Int} (hb : b ∈ o) (h1 : Up T b x) (h2 : Up T x c) : Up (upd T c N) b x := by
  induction h1 with
  | refl => exact .refl _
  | @step b p x h3 h4 ih =>
    have h5 := h.t1 _ _ h3
    have hbc : b ≠ c := fun e => by
      have h6 := h.up h4 h5.2.2.1
      have h7 := h.up h2 h6.1
      rw [e] at h5
      omega
    exact .step (by rw [upd_ne _ hbc]; exact h3) (ih h5.2.2.1 h2)

theorem DI.step (hd : Dfs g o par) (h : DI g o par T) (he : Eq0 o par T (o.idxOf c)) (hs : StepOk g T c N) (hc : c ∈ o) (hc0 : c ≠ 0) : DI g o par (upd T c N) ∧ Eq0 o par (upd T c N) (o.idxOf c + 1) := by
  obtain ⟨u, hu⟩ := hd.has c hc hc0
  obtain ⟨a1, a2, a3, a4⟩ := h.above hd he hs hu
  have hup := hd.ok _ _ hu
  have hku := DI.kn_par hd he hu
  have nN : ¬ Up T N c := fun k => by have := (h.up k a2).2; omega
  have toN : ∀ x, Up (upd T c N) N x → Up T N x := fun x k => by
    rcases upd_back k with k | ⟨k, _⟩
    · exact k
    · exact absurd k nN
  have kmono : ∀ b, Kn T b → Kn (upd T c N) b := fun b hb => by
    rcases hb with hb | ⟨p, hp⟩
    · exact .inl hb
    · by_cases e : b = c
      · exact .inr ⟨N, by rw [e]; exact upd_at ..⟩
      · exact .inr ⟨p, by rw [upd_ne _ e]; exact hp⟩
  have kback : ∀ b, Kn (upd T c N) b → b = c ∨ Kn T b := fun b hb => by
    by_cases e : b = c
    · exact .inl e
    · rcases hb with hb | ⟨p, hp⟩
      · exact .inr (.inl hb)
      · rw [upd_ne _ e] at hp
        exact .inr (.inr ⟨p, hp⟩)
  have shrink : ∀ b x, Kn T b → Up (upd T c N) b x → Up T b x := fun b x hb k => by
    rcases upd_back k with k | ⟨k1, k2⟩
    · exact k
    · rcases h.up_kn k1 hb with e | ⟨p, hp⟩
      · exact absurd e hc0
      · exact k1.trans (.step hp ((h.higher hd he hs hp).trans (toN x k2)))
  have parN : ∀ x, Up T N x → Up par c x := fun x k => .step hu (h.t2 u x hku (a1.trans k))
  have hcx : ∀ x, ¬ Av g x 0 c → Up (upd T c N) c x := fun x hx => by
    by_cases e : x = c
    · rw [e]; exact .refl _
    · refine .step (upd_at ..) (upd_off (hs.best x (fun a ha hrow => h.t3 a x ha (fun k => hx (k.snoc hrow (fun e2 => e e2.symm))))) nN)
  refine ⟨⟨?_, ?_, ?_, ?_⟩, ?_⟩
  · intro b p hp
    by_cases e : b = c
    · subst e
      rw [upd_at] at hp
      obtain rfl := Option.some.inj hp
      exact ⟨hc, hc0, a2, a3, kmono _ a4⟩
    · rw [upd_ne _ e] at hp
      have := h.t1 b p hp
      exact ⟨this.1, this.2.1, this.2.2.1, this.2.2.2.1, kmono _ this.2.2.2.2⟩
  · intro b x hb k
    rcases kback b hb with e | hb
    · subst e
      rcases k.cases with e | ⟨p, hp, k2⟩
      · rw [e]; exact .refl _
      · rw [upd_at] at hp
        obtain rfl := Option.some.inj hp
        exact parN x (toN x k2)
    · rcases upd_back k with k | ⟨k1, k2⟩
      · exact h.t2 b x hb k
      · exact (h.t2 b c hb k1).trans (parN x (toN x k2))
  · intro b x hb hx
    rcases kback b hb with e | hb
    · subst e
      exact hcx x hx
    · have k := h.t3 b x hb hx
      have hbo := h.kn_mem hd hb
      by_cases hbc : Up T b c
      · rcases Nat.lt_or_ge (o.idxOf x) (o.idxOf c) with hlt | hge
        · have hxo := (h.up k hbo).1
          exact (upd_to hbc).trans (hcx x (fun k2 => hx (k2.trans (hd.around (h.t2 b c hb hbc) hbo hlt))))
        · exact upd_part h hbo k (h.line hbo hbc k hge)
      · exact upd_off k hbc
  · intro b p hp x hx hall
    have hall' : ∀ a, Kn T a → b ∈ row g a → Up T a x := fun a ha hr => shrink a x ha (hall a (kmono a ha) hr)
    by_cases e : b = c
    · subst e
      rw [upd_at] at hp
      obtain rfl := Option.some.inj hp
      exact (h.up (hs.best x hall') a2).2
    · rw [upd_ne _ e] at hp
      exact h.t4 b p hp x hx hall'
  · intro v hv hv0 hlt
    by_cases e : v = c
    · subst e
      refine ⟨.inr ⟨N, upd_at ..⟩, fun x k => ?_⟩
      rcases k.cases with e | ⟨p, hp, k2⟩
      · exact .inl e
      · rw [upd_at] at hp
        obtain rfl := Option.some.inj hp
        refine .inr ⟨u, hu, upd_off (a1.trans (toN x k2)) (fun k => ?_)⟩
        have := (h.up k hup.2.2.2.1).2
        omega
    · have hlt' : o.idxOf v < o.idxOf c := by
        have : o.idxOf v ≠ o.idxOf c := fun e2 => e (idx_inj hv hc e2)
        omega
      obtain ⟨h1, h2⟩ := he v hv hv0 hlt'
      refine ⟨kmono v h1, fun x k => ?_⟩
      rcases upd_back k with k | ⟨k, _⟩
      · rcases h2 x k with e2 | ⟨u', hu', k2⟩
        · exact .inl e2
        · have h3 := hd.ok _ _ hu'
          refine .inr ⟨u', hu', upd_off k2 (fun k3 => ?_)⟩
          have := (h.up k3 h3.2.2.2.1).2
          omega
      · have := (h.up k hv).2
        omega

/-- Where nothing changes any more what is above a node is what all ways to it go through. -/
theorem DI.done (hd : Dfs g o par) (h : DI g o par T) (hf : ∀ c, c ∈ o → c ≠ 0 → ∃ p, T c = some p ∧ StepOk g T c p) {b x : Int} (hb : b ∈ o) : Up T b x ↔ ¬ Av g x 0 b := by
  have hk : ∀ c, c ∈ o → Kn T c := fun c hc => by
    by_cases e : c = 0
    · exact .inl e
    · obtain ⟨p, hp, _⟩ := hf c hc e
      exact .inr ⟨p, hp⟩
  refine ⟨fun hu ha => ?_, h.t3 b x (hk b hb)⟩
  have := ha.closed (P := fun b => b ∈ o ∧ ¬ Up T b x) (fun a b ⟨h1, h2⟩ hr hne => by
    have hbo : b ∈ o := (hd.mem b).2 (((hd.mem a).1 h1).trans (.edge hr))
    refine ⟨hbo, fun k => ?_⟩
    rcases k.cases with e | ⟨p, hp, k2⟩
    · exact hne e.symm
    · obtain ⟨p', hp', hs⟩ := hf b hbo (h.t1 b p hp).2.1
      rw [hp] at hp'
      obtain rfl := Option.some.inj hp'
      exact h2 ((hs.all a (hk a h1) hr).trans k2)) ⟨hd.zero, fun k => by
    rcases k.cases with e | ⟨p, hp, _⟩
    · exact ha.left e.symm
    · exact (h.t1 0 p hp).2.1 rfl⟩
  exact this.2 hu
end

end Go.Proofs.Ytemcmcnhpdkdfaa.P

/-! The order of graph.Order, as the tree of the way down: of each node (but 0) one ahead of it that it follows. -/
namespace Go.Proofs.Ytemcmcnhpdkdfaa.P

theorem Vs.parent {g : List (List Int)} {l t : List Int} {m m' : List Bool} (h : Vs g l m m' t) : ∀ x ∈ t, x ∈ l ∨ ∃ a s1 s2 s3, x ∈ row g a ∧ t = s1 ++ x :: (s2 ++ a :: s3) := by
  induction h with
  | nil => intro x hx; simp at hx
  | skip _ _ ih =>
    intro x hx
    rcases ih x hx with k | k
    · exact .inl (List.mem_cons_of_mem _ k)
    · exact .inr k
  | @go b l m m1 m2 t1 t2 _ _ _ ih1 ih2 =>
    intro x hx
    rcases List.mem_append.1 hx with k | k
    · rcases ih1 x k with k2 | ⟨a, s1, s2, s3, hr, e⟩
      · obtain ⟨s1, s2, e⟩ := List.append_of_mem k
        exact .inr ⟨b, s1, s2, t2, k2, by rw [e]; simp⟩
      · exact .inr ⟨a, s1, s2, s3 ++ b :: t2, hr, by rw [e]; simp⟩
    · rcases List.mem_cons.1 k with e | k
      · exact .inl (by rw [e]; exact List.mem_cons_self ..)
      · rcases ih2 x k with k2 | ⟨a, s1, s2, s3, hr, e⟩
        · exact .inl (List.mem_cons_of_mem _ k2)
        · exact .inr ⟨a, t1 ++ b :: s1, s2, s3, hr, by rw [e]; simp⟩

theorem idx_ne2 {x a : Int} (xs : List Int) (h : x ≠ a) : (x :: xs).idxOf a = xs.idxOf a + 1 := by
  rw [List.idxOf_cons, show (x == a) = false from by simpa using h]
  rfl
theorem idx_before {s1 s2 s3 : List Int} {a x : Int} (h : (s1 ++ a :: (s2 ++ x :: s3)).Nodup) : (s1 ++ a :: (s2 ++ x :: s3)).idxOf a < (s1 ++ a :: (s2 ++ x :: s3)).idxOf x := by
  have h' := h
  rw [List.nodup_append] at h'
  obtain ⟨_, h2, h3⟩ := h'
  rw [List.nodup_cons] at h2
  have ha : ¬ a ∈ s1 := fun k => h3 a k a (by simp) rfl
  have hx : ¬ x ∈ s1 := fun k => h3 x k x (by simp) rfl
  have hax : a ≠ x := fun e => h2.1 (by rw [e]; simp)
  rw [List.idxOf_append, if_neg ha, List.idxOf_append, if_neg hx, List.idxOf_cons_self, idx_ne2 _ hax]
  omega

theorem dfs_ctx {g : List (List Int)} (hs : Small g) (h0 : 0 < g.length) : ∃ o par, graph_Order.f g 0 = some (0 :: o) ∧ Dfs (clean g) (0 :: o) par ∧ (0 :: o).Nodup ∧ ∀ x ∈ 0 :: o, 0 ≤ x ∧ x < (g.length : Int) := by
  obtain ⟨t, h1, h2, h3, h4, h5, m', hV⟩ := told_spec (clean_Valid g) (by rw [clean_len]; exact hs.2) (fun l hl => Nat.le_trans (clean_row_le l hl) hs.2) (a := 0) (clean_node.2 (by omega))
  have e : (t ++ [0]).reverse = 0 :: t.reverse := by simp
  have hnd : (0 :: t.reverse : List Int).Nodup := by rw [← e]; exact List.pairwise_reverse.2 (h3.imp Ne.symm)
  have hm : ∀ x, x ∈ (0 :: t.reverse : List Int) ↔ x ∈ t ++ [0] := fun x => by rw [← e, List.mem_reverse]
  have hex : ∀ x, x ∈ (0 :: t.reverse : List Int) → x ≠ 0 → ∃ u, x ∈ row (clean g) u ∧ u ∈ (0 :: t.reverse : List Int) ∧ (0 :: t.reverse : List Int).idxOf u < (0 :: t.reverse : List Int).idxOf x := by
    intro x hx hx0
    rcases hV.parent x ((hm x).1 hx) with k | ⟨a, s1, s2, s3, hr, e2⟩
    · exact absurd (List.mem_singleton.1 k) hx0
    · have e3 : (0 :: t.reverse : List Int) = s3.reverse ++ a :: (s2.reverse ++ x :: s1.reverse) := by
        rw [← e, e2]
        simp
      refine ⟨a, hr, by rw [e3]; simp, ?_⟩
      have hnd' := hnd
      rw [e3] at hnd'
      rw [e3]
      exact idx_before hnd'
  refine ⟨t.reverse, fun x => if h : x ∈ (0 :: t.reverse : List Int) ∧ x ≠ 0 then some (Classical.choose (hex x h.1 h.2)) else none, ?_, ⟨by simp, fun x => by rw [hm, h2], fun x hx hx0 => ?_, fun x u hu => ?_⟩, hnd, fun x hx => clean_node.1 (h4 x ((hm x).1 hx))⟩
  · unfold graph_Order.f
    rw [if_pos hs.1, h1, Option.map_some, e]
  · exact ⟨_, dif_pos ⟨hx, hx0⟩⟩
  · by_cases h : x ∈ (0 :: t.reverse : List Int) ∧ x ≠ 0
    · rw [dif_pos h] at hu
      have := Classical.choose_spec (hex x h.1 h.2)
      rw [Option.some.inj hu] at this
      exact ⟨h.1, h.2, this.1, this.2.1, this.2.2⟩
    · rw [dif_neg h] at hu
      cases hu

end Go.Proofs.Ytemcmcnhpdkdfaa.P
