/- WorkPlays's walk: true. -/
import Derived.Test.YtnhcimhdkdgccaaGawake16
import Derived.Test.YtnhcimhdkdgccaaHref16
import Derived.Test.YtnhcimhdkdgccaaHacts
import Derived.Deep.RegionHeld3
import Derived.Deep.DrawnRows
namespace Go.Proofs.Ytnhcimhdkdgccaa.P
open Go.RowKit Go.Shelf Go.Lib Go.Sort Go.Maps Go.Proofs.YtnhcimhdkdgccaaW.PrintWords Go.Proofs.YtnhcimhdkdgccaaW.PrintLast Go.Proofs.YtnhcimhdkdgccaaW.PrintMore

attribute [local go_sem ↓] Go.wp_at_zero Go.wp_at_succ

/-- The two sides agree: what is left there is what is left here. -/
structure Agree (ord : List Int) (g : Int → Bool) (left : List Int) (n : Nat) : Prop where
  mem : ∀ x, g x = true ↔ x ∈ left
  nodup : left.Nodup
  sub : ∀ x, g x = true → x ∈ ord
  len : left.length = n
theorem Agree.g_eq {ord : List Int} {g : Int → Bool} {left : List Int} {n : Nat} (h : Agree ord g left n) : (fun x => decide (x ∈ left)) = g := by
  funext x
  rw [Bool.eq_iff_iff, h.mem x]
  simp
theorem Agree.take {ord : List Int} {g : Int → Bool} {left : List Int} {n : Nat} (h : Agree ord g left (n + 1)) (hn : n + 1 = (lst ord g).length) : ∃ x t, lst ord g = x :: t ∧ ord.find? g = some x ∧ Agree ord (takeg ord g) t n := by
  cases hl : lst ord g with
  | nil => rw [hl] at hn; simp at hn
  | cons x t =>
    have hf := find_lst ord g
    rw [hl] at hf
    have ht := lst_takeg ord g
    rw [hl] at ht
    have hsub : ∀ y, takeg ord g y = true → y ∈ ord := fun y hy => by
      refine h.sub y ?_
      unfold takeg at hy
      split at hy
      · cases hy
      · exact hy
    refine ⟨x, t, rfl, hf, ⟨fun y => ?_, ?_, hsub, by rw [hl] at hn; simp at hn; omega⟩⟩
    · have hm := mem_lst (ord := ord) (g := takeg ord g) (a := y)
      rw [ht] at hm
      rw [show t = (x :: t).tail from rfl, hm]
      exact ⟨fun hy => ⟨hsub y hy, hy⟩, fun hy => hy.2⟩
    · have := lst_nodup ord g
      rw [hl, List.nodup_cons] at this
      exact this.2
theorem Agree.put {ord : List Int} {g : Int → Bool} {left : List Int} {n : Nat} (h : Agree ord g left n) (i : Int) : (decide (i ∈ ord) && !decide (i ∈ left)) = putr ord g i ∧
    Agree ord (putg ord g i) (if putr ord g i = true then left ++ [i] else left) (n + if putr ord g i = true then 1 else 0) := by
  have e : (decide (i ∈ ord) && !decide (i ∈ left)) = putr ord g i := by
    unfold putr
    rw [show decide (i ∈ left) = g i from congrFun h.g_eq i]
  refine ⟨e, ?_⟩
  cases hp : putr ord g i with
  | false => rw [putg_no hp]; simpa using h
  | true =>
    obtain ⟨hm, hg⟩ := putr_true hp
    have hni : ¬ i ∈ left := fun hc => by rw [(h.mem i).2 hc] at hg; cases hg
    rw [putg_yes hp]
    simp only [if_true]
    refine ⟨fun x => ?_, ?_, fun x hx => ?_, by simp [h.len]⟩
    · by_cases e : x = i
      · subst e; simp
      · rw [if_neg e, h.mem x]; simp [e]
    · rw [List.nodup_append]
      exact ⟨h.nodup, by simp, fun a ha b hb => by rw [List.mem_singleton] at hb; rw [hb]; exact fun e => hni (by rw [← e]; exact ha)⟩
    · by_cases e : x = i
      · rw [e]; exact hm
      · rw [if_neg e] at hx; exact h.sub x hx

theorem frozen_of_blk {w : World} {b t : Nat} {cs : Array Value} (j : Nat) (h : w.heap[b]? = some (.cells cs t (0, 0))) : w.frozen? ⟨b, j, none⟩ = false := by simp [World.frozen?, h]
/-- Behind k acts: the Work, and the document's answer (in the block bu), agree. -/
structure PWs (w W : World) (bu b : Nat) (A0 : Option Addr) (c0 : Nat) (l0 : List Int) (n k : Nat) (T : Nat → Prop) (g : Int → Bool) (left : List Int) (S : Nat → Prop) (AL : Option Addr) (cL : Nat) : Prop where
  wk : WK w W T b l0 g n k
  le : n ≤ k
  ag : Agree l0 g left n
  lf : LF W S AL left
  cap : n ≤ cL
  blk : W.heap[bu]? = some (.cells #[.slice A0 l0.length c0, .slice AL n cL] 45 (0, 0))
  st : ∀ j, S j → ¬ T j
  tb : ¬ T bu
  sb : ¬ S bu
  low : w.heap.size ≤ bu
def PW (w W : World) (bu b : Nat) (A0 : Option Addr) (c0 : Nat) (l0 : List Int) (n k : Nat) : Prop := ∃ T g left S AL cL, PWs w W bu b A0 c0 l0 n k T g left S AL cL
section
variable {w W : World} {bu b : Nat} {A0 : Option Addr} {c0 : Nat} {l0 : List Int} {n k : Nat} {T : Nat → Prop} {g : Int → Bool} {left : List Int} {S : Nat → Prop} {AL : Option Addr} {cL : Nat}
theorem PWs.small (hp : PWs w W bu b A0 c0 l0 n k T g left S AL cL) (h60 : l0.length ≤ 60) : left.length ≤ 60 := by
  rw [hp.ag.len, hp.wk.length]
  have := lstK_len l0 g l0.length
  unfold lst
  omega
theorem PWs.rtake (hp : PWs w W bu b A0 c0 l0 n k T g left S AL cL) {W' : World} (hC : dI.C w A0 l0.length l0) (hc : l0.length ≤ c0) (h60 : l0.length ≤ 60) (hl : LF W' S AL left) (hb : Below w.heap.size w W') :
    Calls Try.prog 32 #[.agg #[.slice A0 l0.length c0, .slice AL n cL]] W' fun e w' => ∃ S' A' c' left', e = .returned (.tuple #[.agg #[.slice A0 l0.length c0, .slice A' left'.length c'], .int .i64 ((lst l0 g).head?.getD 0), .bool (lst l0 g).head?.isSome]) ∧
      left' = (if lst l0 g = [] then left else (lst l0 g).tail) ∧ LF w' S' A' left' ∧ left'.length ≤ c' ∧ (∀ k, S' k → S k ∨ W'.heap.size ≤ k) ∧ Below W'.heap.size W' w' := by
  have h := rtake_c A0 c0 l0 AL cL left W' (Kd.C_below hC hb) hc hl (by rw [hp.ag.len]; exact hp.cap) h60 (hp.small h60)
  rw [hp.ag.g_eq, hp.ag.len] at h
  exact h
theorem PWs.rput (hp : PWs w W bu b A0 c0 l0 n k T g left S AL cL) {W' : World} (hC : dI.C w A0 l0.length l0) (hc : l0.length ≤ c0) (h60 : l0.length ≤ 60) (hl : LF W' S AL left) (hb : Below w.heap.size w W') (i : Int) :
    Calls Try.prog 33 #[.agg #[.slice A0 l0.length c0, .slice AL n cL], .int .i64 i] W' fun e w' => ∃ S' A' c' left', e = .returned (.tuple #[.agg #[.slice A0 l0.length c0, .slice A' left'.length c'], .bool (putr l0 g i)]) ∧
      left' = (if putr l0 g i = true then left ++ [i] else left) ∧ LF w' S' A' left' ∧ left'.length ≤ c' ∧ (∀ k, S' k → S k ∨ W'.heap.size ≤ k) ∧ Below W'.heap.size W' w' := by
  have h := rput_c A0 c0 l0 AL cL left i W' (Kd.C_below hC hb) hc hl (by rw [hp.ag.len]; exact hp.cap) h60 (hp.small h60)
  rw [(hp.ag.put i).1, hp.ag.len] at h
  exact h
theorem PWs.rlist (hp : PWs w W bu b A0 c0 l0 n k T g left S AL cL) {W' : World} (hC : dI.C w A0 l0.length l0) (hc : l0.length ≤ c0) (h60 : l0.length ≤ 60) (hb : Below W.heap.size W W') :
    Calls Try.prog 34 #[.agg #[.slice A0 l0.length c0, .slice AL n cL]] W' fun e w' => ∃ A c, e = .returned (.slice A n c) ∧ dI.C w' A n (lst l0 g) ∧ n ≤ c ∧ Below W'.heap.size W' w' := by
  obtain ⟨k, hk⟩ := list_ev l0 left (by omega) (by have := hp.small h60; omega)
  have h := bywashref16_List.calls k A0 c0 l0 AL cL left _ W' (Kd.C_below hC (hp.wk.bel.trans (hb.mono hp.wk.bel.size))) hc ((hp.lf.below hb).now) (by rw [hp.ag.len]; exact hp.cap) (hk k (Nat.le_refl _))
  rw [hp.ag.g_eq, hp.ag.len] at h
  refine h.mono ?_
  rintro e w' ⟨v, rfl, ho, hb'⟩
  obtain ⟨A, c, rfl⟩ := Kd.R_slice ho
  obtain ⟨_, hle, hC'⟩ := Kd.R_reads' ho
  rw [← hp.wk.length] at hC' hle ⊢
  exact ⟨A, c, rfl, hC', hle, hb'⟩
theorem PWs.rhas (hp : PWs w W bu b A0 c0 l0 n k T g left S AL cL) {W' : World} (hC : dI.C w A0 l0.length l0) (hc : l0.length ≤ c0) (h60 : l0.length ≤ 60) (hb : Below W.heap.size W W') (i : Int) :
    Calls Try.prog 35 #[.agg #[.slice A0 l0.length c0, .slice AL n cL], .int .i64 i] W' fun e w' => e = .returned (.bool (g i)) ∧ Below W'.heap.size W' w' := by
  obtain ⟨k, hk⟩ := hasr_ev l0 left i (by have := hp.small h60; omega)
  have h := bywashref16_Has.calls k A0 c0 l0 AL cL left i _ W' (Kd.C_below hC (hp.wk.bel.trans (hb.mono hp.wk.bel.size))) hc ((hp.lf.below hb).now) (by rw [hp.ag.len]; exact hp.cap) (hk k (Nat.le_refl _))
  rw [show decide (i ∈ left) = g i from congrFun hp.ag.g_eq i, hp.ag.len] at h
  exact h
theorem PWs.later (hp : PWs w W bu b A0 c0 l0 n k T g left S AL cL) {W' : World} (hb : Below W.heap.size W W') : PW w W' bu b A0 c0 l0 n k :=
  ⟨T, g, left, S, AL, cL, hp.wk.later hb, hp.le, hp.ag, hp.lf.below hb, hp.cap, (hb.block _ (blk_lt hp.blk)).trans hp.blk, hp.st, hp.tb, hp.sb, hp.low⟩
/-- What a step leaves: the Work in the blocks T', the answer in new ones; then the answer is copied to bu. -/
theorem PWs.next (hp : PWs w W bu b A0 c0 l0 n k T g left S AL cL) {Wa W1 : World} {T' S' : Nat → Prop} {g' : Int → Bool} {left' : List Int} {n' c' : Nat} {A' : Option Addr} {v : Value} (hwa : WK w Wa T' b l0 g' n' (k + 1)) (hT : ∀ j, T' j → T j ∨ W.heap.size ≤ j) (h1 : Below Wa.heap.size Wa W1) (hle : n' ≤ k + 1)
    (ha : Agree l0 g' left' n') (hl : LF W1 S' A' left') (hS : ∀ j, S' j → S j ∨ Wa.heap.size ≤ j) (hcap : left'.length ≤ c') (hsz : W.heap.size ≤ Wa.heap.size) (hb : Wa.heap[bu]? = some (.cells #[.slice A0 l0.length c0, v] 45 (0, 0))) :
    PW w ((W1.setCell ⟨bu, 0, none⟩ (.slice A0 l0.length c0)).setCell ⟨bu, 1, none⟩ (.slice A' left'.length c')) bu b A0 c0 l0 n' (k + 1) := by
  have hbu := blk_lt hp.blk
  have hk := two_kept (w1 := W1) bu (.slice A0 l0.length c0) (.slice A' left'.length c')
  have hw1 := hwa.later h1
  have htb : ¬ T' bu := fun h => (hT _ h).elim hp.tb (fun h => by omega)
  have hsb : ¬ S' bu := fun h => (hS _ h).elim hp.sb (fun h => by omega)
  have hbel := two_below hw1.bel hp.low (.slice A0 l0.length c0) (.slice A' left'.length c')
  refine ⟨T', g', left', S', A', c', hw1.move hk (fun j hj e => htb (by rw [← e]; exact hj)) hbel, hle, ha, hl.kept hk (fun j hj e => hsb (by rw [← e]; exact hj)), by rw [← ha.len]; exact hcap, ?_, fun j hs ht => ?_, htb, hsb, hp.low⟩
  · rw [← ha.len]
    refine blk_put (cs := #[.slice A0 l0.length c0, v]) ?_ 1 _ rfl
    refine blk_put (cs := #[.slice A0 l0.length c0, v]) ?_ 0 _ rfl
    exact (h1.block _ (blk_lt hb)).trans hb
  · have h2 := (hwa.lt j ht).2
    rcases hS j hs with h | h
    · rcases hT j ht with h3 | h3
      · exact hp.st j h h3
      · have := hp.lf.lt j h
        omega
    · omega
end

set_option maxHeartbeats 16000000 in
set_option maxRecDepth 100000 in
theorem WorkPlays_c (A0 : Option Addr) (c0 : Nat) (l0 : List Int) (A1 : Option Addr) (c1 : Nat) (l1 : List (Bool × Int)) (a2 : Int) (w : World) (hC0 : dI.C w A0 l0.length l0) (hc0 : l0.length ≤ c0) (hC1 : ActsC w A1 l1) (hc1 : l1.length ≤ c1)
    (_ : l0.length ≤ 9223372036854775807) (hw0 : ∀ y ∈ l0, (Lit.int .i64 y).wf = true) (_ : l1.length ≤ 9223372036854775807) (hw1 : ∀ p ∈ l1, (Lit.int .i64 p.2).wf = true) (hw2 : (Lit.int .i64 a2).wf = true) :
    Calls Try.prog 9 #[.slice A0 l0.length c0, .slice A1 l1.length c1, .int .i64 a2] w fun e w' => e = .returned (.bool true) ∧ Below w.heap.size w w' := by
  have HC0 := Aside0.mk hC0
  have HC1 := Aside0.mk hC1
  have HW0 := Aside0.mk hw0
  have HW1 := Aside0.mk hw1
  have HW2 := Aside0.mk hw2
  obtain ⟨n0, en0⟩ : ∃ n, n = l0.length := ⟨_, rfl⟩
  obtain ⟨n1, en1⟩ : ∃ n, n = l1.length := ⟨_, rfl⟩
  have HN0 := Aside0.mk en0
  have HN1 := Aside0.mk en1
  rw [← en0, ← en1]
  rename_i hb0 hb1
  rw [← en0] at hb0 hc0
  rw [← en1] at hb1 hc1
  clear hC0 hC1 hw0 hw1 hw2 en0 en1
  have hbig : (1000000 : Nat) < maxLen := by decide
  have hu := Try.underlying45
  by_cases h60 : n0 ≤ 60
  · by_cases h80 : n1 ≤ 80
    · have d0 : decide ((60 : Int) < (n0 : Int)) = false := by simp; omega
      have d1 : decide ((80 : Int) < (n1 : Int)) = false := by simp; omega
      go_enter Try.func9, Try.ntmps9
      go_upto_region 4 with (go_at_call 14; refine (awake16_c _).mono ?_; rintro e w1 ⟨rfl, hb1⟩; have HB1 := Aside0.mk hb1; clear hb1)
      have HNW := Aside0.mk (WK.new (w0 := w) (w := w1) (A := A0) (c := c0) (ord := l0) (Kd.C_below HC0.out HB1.out) HB1.out (by have := HN0.out; omega) HW0.out)
      rw [← HN0.out] at HNW
      go_upto_region 5 with (go_at_call 15; refine HNW.out.mono ?_; rintro e w2 ⟨b, T, rfl, h2, _, _⟩; have H2 := Aside0.mk h2; clear h2)
      clear HNW
      go_wp2_with (go_at_call 31; refine (rnew_c _ _ _ _).mono ?_; rintro e w3 ⟨rfl, hb3⟩; have HB3 := Aside0.mk hb3; clear hb3)
      obtain ⟨w4, e4⟩ : ∃ w4, w4 = w3.alloc (.cells #[.slice A0 n0 c0, .slice none 0 0] 45) := ⟨_, rfl⟩
      obtain ⟨bu, ebu⟩ : ∃ bu, bu = w3.heap.size := ⟨_, rfl⟩
      rw [← e4, ← ebu]
      have HPW : Aside0 (PW w w4 bu b A0 c0 l0 0 0) := ⟨by
        have h3 := H2.out.later HB3.out
        have h4 := h3.later (w' := w4) (by rw [e4]; exact below_alloc (Below.refl _ _) _)
        refine ⟨T, fun _ => false, [], fun _ => False, none, 0, h4, Nat.le_refl _, ⟨fun x => by simp, List.nodup_nil, (fun x h => by cases h), rfl⟩, LF.nil _, Nat.le_refl _, ?_, fun _ h => h.elim, fun h => ?_, fun h => h, ?_⟩
        · rw [e4, ebu, ← HN0.out]
          exact World.alloc_heap_new w3 _
        · have := (h3.lt _ h).2
          omega
        · have := h3.bel.size
          omega⟩
      clear H2 e4 ebu
      go_loopw [10] (fun v wr => ∃ k n : Nat, k ≤ n1 ∧ v = .int .i64 k ∧ Aside0 (PW w wr bu b A0 c0 l0 n k)) (fun v _ => n1 - (intOf v).toNat)
      case atStart => exact ⟨0, 0, Nat.zero_le _, rfl, HPW⟩
      case round =>
        clear HPW
        obtain ⟨k, n, hk, rfl, HPW⟩ := hrel
        by_cases hlt : k < n1
        · obtain ⟨T, g, left, S, AL, cL, hpw⟩ := HPW.out
          have HP := Aside0.mk hpw
          obtain ⟨bb, off, e, ho, hx⟩ := HC1.out k (by have := HN1.out; omega)
          subst e
          have HBW := Aside0.mk hpw.wk.bel
          have ho4 := (HBW.out.cell (p := ⟨bb, off + k * 2, none⟩) (World.block_lt_of_cell? _ _ ho)).trans ho
          have hx4 := (HBW.out.cell (p := ⟨bb, off + k * 2 + 1, none⟩) (World.block_lt_of_cell? _ _ hx)).trans hx
          have hxw : (Lit.int .i64 (l1.getD k (false, 0)).2).wf = true := by
            have hkl : k < l1.length := by have := HN1.out; omega
            rw [List.getD_eq_getElem?_getD, List.getElem?_eq_getElem hkl]
            exact HW1.out _ (List.getElem_mem hkl)
          obtain ⟨x, ex⟩ : ∃ x, x = (l1.getD k (false, 0)).2 := ⟨_, rfl⟩
          obtain ⟨o, eo⟩ : ∃ o, o = (l1.getD k (false, 0)).1 := ⟨_, rfl⟩
          rw [← eo] at ho4
          rw [← ex] at hx4 hxw hx
          have HX := Aside0.mk hx
          have HXW := Aside0.mk hxw
          have hblk := hpw.blk
          rw [← HN0.out] at hblk
          have u0 := cell_of_blk (j := 0) hblk rfl
          have u1 := cell_of_blk (j := 1) hblk rfl
          have HBLK := Aside0.mk hblk
          have HBT : Aside0 (bu < wr.heap.size) := ⟨blk_lt hblk⟩
          have hc0' : l0.length ≤ c0 := by rw [← HN0.out]; exact hc0
          have h60' : l0.length ≤ 60 := by rw [← HN0.out]; exact h60
          have HCC := Aside0.mk hc0'
          have HH6 := Aside0.mk h60'
          clear ho hx hxw ex eo hpw hblk hc0' h60'
          cases o
          case' true =>
            cases n
            case' zero =>
              have hl0 : lst l0 g = [] := List.eq_nil_of_length_eq_zero HP.out.wk.length.symm
              have hrt := HP.out.rtake HC0.out HCC.out HH6.out HP.out.lf HBW.out
              rw [hl0, ← HN0.out] at hrt
              have HRT := Aside0.mk hrt
              have HTN := Aside0.mk (HP.out.wk.take_no rfl).2
              clear hrt hl0
              go_upto_region 12 with (first | (go_at_call 18; refine HTN.out.mono ?_; rintro e wz ⟨rfl, rfl⟩) | (go_at_call 32; refine HRT.out.mono ?_; rintro e w5 ⟨S', A', c', left', rfl, hl', hf', hcap', hS', hb5⟩; have HL' := Aside0.mk hl'; have HF' := Aside0.mk hf'; have HCAP := Aside0.mk hcap'; have HS' := Aside0.mk hS'; have HB5 := Aside0.mk hb5; clear hl' hf' hcap' hS' hb5))
              have HUA := HBLK
              obtain ⟨w6, e6⟩ : ∃ w6, w6 = w5.alloc (.cells #[.slice A0 n0 c0, .slice A' left'.length c'] 45) := ⟨_, rfl⟩
              rw [← e6]
              have hx6 : w6.heap[w5.heap.size]? = some (.cells #[.slice A0 n0 c0, .slice A' left'.length c'] 45 (0, 0)) := by rw [e6]; exact World.alloc_heap_new w5 _
              have hb56 : Below w5.heap.size w5 w6 := by rw [e6]; exact below_alloc (Below.refl _ _) _
              have hb6 : Below wz.heap.size wz w6 := HB5.out.trans (hb56.mono HB5.out.size)
              have hu6 := (hb6.block _ (blk_lt HUA.out)).trans HUA.out
              have x0 := cell_of_blk (j := 0) hx6 rfl
              have x1 := cell_of_blk (j := 1) hx6 rfl
              have q0 := cell_of_blk (j := 0) hu6 rfl
              have q1 := cell_of_blk (j := 1) hu6 rfl
              have f0 : w6.frozen? ⟨bu, 0, none⟩ = false := by simp [World.frozen?, hu6]
              have f1 : w6.frozen? ⟨bu, 1, none⟩ = false := by simp [World.frozen?, hu6]
              have HPW7 : Aside0 (PW w ((w6.setCell ⟨bu, 0, none⟩ (.slice A0 n0 c0)).setCell ⟨bu, 1, none⟩ (.slice A' left'.length c')) bu b A0 c0 l0 0 (k + 1)) := ⟨by
                have hl' : left' = left := by simpa using HL'.out
                have h := HP.out.next (Wa := wz) (W1 := w6) (T' := T) (left' := left') (HP.out.wk.same rfl (by omega)) (fun j h => .inl h) hb6 (by omega) (by rw [hl']; exact HP.out.ag) (HF'.out.below hb56) HS'.out HCAP.out (Nat.le_refl _) HP.out.blk
                rw [← HN0.out] at h
                exact h⟩
              clear hx6 hb56 hb6 hu6 e6
              go_upto_region 13 with (fail)
              generalize (w6.setCell ⟨bu, 0, none⟩ (.slice A0 n0 c0)).setCell ⟨bu, 1, none⟩ (.slice A' left'.length c') = w7 at HPW7 ⊢
              go_upto_region 20 with (fail)
              obtain ⟨nn, enn⟩ : ∃ nn, nn = 0 := ⟨_, rfl⟩
              rw [← enn] at HPW7
              clear enn
            case' succ n =>
              have hnk := HP.out.le
              obtain ⟨i, hfi, htk⟩ := HP.out.wk.take_yes (by omega) (by omega)
              obtain ⟨i', t, hL, hf2, hag⟩ := HP.out.ag.take HP.out.wk.length
              obtain rfl : i = i' := Option.some.inj (hfi.symm.trans hf2)
              have HAG := Aside0.mk hag
              have HLL := Aside0.mk hL
              have HTK := Aside0.mk htk
              clear hfi hf2 hag hL htk
              go_upto_region 12 with (first | (go_at_call 18; refine HTK.out.mono ?_; rintro e wa ⟨rfl, hwa, hka⟩; have HWA := Aside0.mk hwa; have HKA := Aside0.mk hka; have HUA := Aside0.mk (blk_kept HBLK.out hka HP.out.tb); have ua0 := cell_of_blk (j := 0) HUA.out rfl; have ua1 := cell_of_blk (j := 1) HUA.out rfl; have hrt := HP.out.rtake HC0.out HCC.out HH6.out (HP.out.lf.kept hka HP.out.st) hwa.bel; rw [HLL.out, ← HN0.out] at hrt; have HRT := Aside0.mk hrt; clear hwa hka hrt) | (go_at_call 32; refine HRT.out.mono ?_; rintro e w5 ⟨S', A', c', left', rfl, hl', hf', hcap', hS', hb5⟩; have HL' := Aside0.mk hl'; have HF' := Aside0.mk hf'; have HCAP := Aside0.mk hcap'; have HS' := Aside0.mk hS'; have HB5 := Aside0.mk hb5; clear hl' hf' hcap' hS' hb5))
              obtain ⟨w6, e6⟩ : ∃ w6, w6 = w5.alloc (.cells #[.slice A0 n0 c0, .slice A' left'.length c'] 45) := ⟨_, rfl⟩
              rw [← e6]
              have hx6 : w6.heap[w5.heap.size]? = some (.cells #[.slice A0 n0 c0, .slice A' left'.length c'] 45 (0, 0)) := by rw [e6]; exact World.alloc_heap_new w5 _
              have hb56 : Below w5.heap.size w5 w6 := by rw [e6]; exact below_alloc (Below.refl _ _) _
              have hb6 : Below wa.heap.size wa w6 := HB5.out.trans (hb56.mono HB5.out.size)
              have hu6 := (hb6.block _ (blk_lt HUA.out)).trans HUA.out
              have x0 := cell_of_blk (j := 0) hx6 rfl
              have x1 := cell_of_blk (j := 1) hx6 rfl
              have q0 := cell_of_blk (j := 0) hu6 rfl
              have q1 := cell_of_blk (j := 1) hu6 rfl
              have f0 : w6.frozen? ⟨bu, 0, none⟩ = false := by simp [World.frozen?, hu6]
              have f1 : w6.frozen? ⟨bu, 1, none⟩ = false := by simp [World.frozen?, hu6]
              have HPW7 : Aside0 (PW w ((w6.setCell ⟨bu, 0, none⟩ (.slice A0 n0 c0)).setCell ⟨bu, 1, none⟩ (.slice A' left'.length c')) bu b A0 c0 l0 n (k + 1)) := ⟨by
                have hl' : left' = t := by simpa using HL'.out
                have hua := HUA.out
                rw [HN0.out] at hua
                have h := HP.out.next (Wa := wa) (W1 := w6) (T' := T) (left' := left') HWA.out (fun j h => .inl h) hb6 (by omega) (by rw [hl']; exact HAG.out) (HF'.out.below hb56) HS'.out HCAP.out HKA.out.1 hua
                rw [← HN0.out] at h
                exact h⟩
              clear hx6 hb56 hb6 hu6 e6
              go_upto_region 13 with (fail)
              generalize (w6.setCell ⟨bu, 0, none⟩ (.slice A0 n0 c0)).setCell ⟨bu, 1, none⟩ (.slice A' left'.length c') = w7 at HPW7 ⊢
              go_upto_region 20 with (fail)
              obtain ⟨nn, enn⟩ : ∃ nn, nn = n := ⟨_, rfl⟩
              rw [← enn] at HPW7
              clear enn
          case' false =>
            have hnk := HP.out.le
            obtain ⟨r, er⟩ : ∃ r, r = putr l0 g x := ⟨_, rfl⟩
            have hp := HP.out.wk.put HXW.out (by omega) (by omega)
            rw [← er] at hp
            have HPT := Aside0.mk hp
            have HR := Aside0.mk er
            clear hp er
            go_upto_region 16 with (go_at_call 16; refine HPT.out.mono ?_; rintro e wa ⟨rfl, ⟨T4, h4, hT4⟩, hka⟩; have HWA := Aside0.mk h4; have HT4 := Aside0.mk hT4; have HKA := Aside0.mk hka; have HUA := Aside0.mk (blk_kept HBLK.out hka HP.out.tb); clear h4 hT4 hka)
            have ua0 := cell_of_blk (j := 0) HUA.out rfl
            have ua1 := cell_of_blk (j := 1) HUA.out rfl
            have HKE : Aside0 (∀ W, Below wa.heap.size wa W → W.cell? ⟨bu, 0, none⟩ = some (.slice A0 n0 c0) ∧ W.cell? ⟨bu, 1, none⟩ = some (.slice AL n cL) ∧ W.cell? ⟨bb, off + k * 2 + 1, none⟩ = some (.int .i64 x)) := ⟨fun W hW => by
              have hb := (hW.block _ (blk_lt HUA.out)).trans HUA.out
              have hwa := HWA.out.bel
              exact ⟨cell_of_blk (j := 0) hb rfl, cell_of_blk (j := 1) hb rfl, ((hwa.trans (hW.mono hwa.size)).cell (p := ⟨bb, off + k * 2 + 1, none⟩) (World.block_lt_of_cell? _ _ HX.out)).trans HX.out⟩⟩
            have HRP : Aside0 (∀ W, Below wa.heap.size wa W → Calls Try.prog 33 #[.agg #[.slice A0 n0 c0, .slice AL n cL], .int .i64 x] W fun e w' => ∃ S' A' c' left', e = .returned (.tuple #[.agg #[.slice A0 n0 c0, .slice A' left'.length c'], .bool r]) ∧ left' = (if r = true then left ++ [x] else left) ∧ LF w' S' A' left' ∧ left'.length ≤ c' ∧ (∀ k, S' k → S k ∨ W.heap.size ≤ k) ∧ Below W.heap.size W w') := ⟨fun W hW => by
              have h := HP.out.rput HC0.out HCC.out HH6.out ((HP.out.lf.kept HKA.out HP.out.st).below hW) (HWA.out.bel.trans (hW.mono HWA.out.bel.size)) x
              rw [← HN0.out, ← HR.out] at h
              exact h⟩
            have HBd : Aside0 (Below wa.heap.size wa wa.drew) := ⟨below_drew (Below.refl _ _)⟩
            have HBe : Aside0 (Below wa.heap.size wa (wa.alloc (.cells #[.slice none 0 0, .slice none 0 0] 45)).drew) := ⟨below_drew (below_alloc (Below.refl _ _) _)⟩
            have HZS : Aside0 (wa.heap.size < (wa.alloc (.cells #[.slice none 0 0, .slice none 0 0] 45)).drew.heap.size) := ⟨by show wa.heap.size < (wa.alloc (.cells #[.slice none 0 0, .slice none 0 0] 45)).heap.size; rw [World.size_alloc]; omega⟩
            have HZH : Aside0 ((wa.alloc (.cells #[.slice none 0 0, .slice none 0 0] 45)).drew.heap[wa.heap.size]? = some (.cells #[.slice none 0 0, .slice none 0 0] 45 (0, 0))) := ⟨World.alloc_heap_new wa (.cells #[.slice none 0 0, .slice none 0 0] 45)⟩
            obtain ⟨hk0, hk1, hk2⟩ := HKE.out wa (Below.refl _ _)
            go_region_held3 (fun W => W.cell? ⟨bu, 0, none⟩ = some (.slice A0 n0 c0) ∧ W.cell? ⟨bu, 1, none⟩ = some (.slice AL n cL) ∧ W.cell? ⟨bb, off + k * 2 + 1, none⟩ = some (.int .i64 x)) (first | exact HKE.out _ HB5.out | exact HKE.out _ HBe.out | exact HKE.out _ (below_alloc HB5.out _) | exact HKE.out _ (two_below HB5.out (Nat.le_refl _) _ _) | exact HKE.out _ (two_below (below_alloc HB5.out _) HB5.out.size _ _) | exact HKE.out _ HBd.out) (first | (go_at_call 33; with_reducible refine (HRP.out _ HBd.out).mono ?_; rintro e w5 ⟨S', A', c', left', rfl, hl', hf', hcap', hS', hb5⟩; have HL' := Aside0.mk hl'; have HF' := Aside0.mk hf'; have HCAP := Aside0.mk hcap'; have HS' := Aside0.mk hS'; have HB5 := Aside0.mk (HBd.out.trans (hb5.mono HBd.out.size)); clear hl' hf' hcap' hS' hb5) | (go_at_call 33; with_reducible refine (HRP.out _ HBe.out).mono ?_; rintro e w5 ⟨S', A', c', left', rfl, hl', hf', hcap', hS', hb5⟩; have HL' := Aside0.mk hl'; have HF' := Aside0.mk hf'; have HCAP := Aside0.mk hcap'; have HS' := Aside0.mk hS'; have HB5 := Aside0.mk (HBe.out.trans (hb5.mono HBe.out.size)); have hz5 := (hb5.block wa.heap.size HZS.out).trans HZH.out; have y0 := cell_of_blk (j := 0) hz5 rfl; have y1 := cell_of_blk (j := 1) hz5 rfl; have z0 := frozen_of_blk 0 hz5; have z1 := frozen_of_blk 1 hz5; have HZ5 := Aside0.mk hz5; clear hl' hf' hcap' hS' hb5 hz5))
            all_goals
              first
                | (
                    obtain ⟨w6, e6⟩ : ∃ w6, w6 = w5.alloc (.cells #[.slice A0 n0 c0, .slice A' left'.length c'] 45) := ⟨_, rfl⟩
                    rw [← e6]
                    have hx6 : w6.heap[w5.heap.size]? = some (.cells #[.slice A0 n0 c0, .slice A' left'.length c'] 45 (0, 0)) := by rw [e6]; exact World.alloc_heap_new w5 _
                    have hb56 : Below w5.heap.size w5 w6 := by rw [e6]; exact below_alloc (Below.refl _ _) _
                    have hb6 : Below wa.heap.size wa w6 := HB5.out.trans (hb56.mono HB5.out.size)
                    have hlf : LF w6 S' A' left' := HF'.out.below hb56
                    clear hb56)
                | (
                    obtain ⟨w6, e6⟩ : ∃ w6, w6 = (w5.setCell ⟨wa.heap.size, 0, none⟩ (.slice A0 n0 c0)).setCell ⟨wa.heap.size, 1, none⟩ (.slice A' left'.length c') := ⟨_, rfl⟩
                    rw [← e6]
                    have hx6 : w6.heap[wa.heap.size]? = some (.cells #[.slice A0 n0 c0, .slice A' left'.length c'] 45 (0, 0)) := by
                      rw [e6]
                      refine blk_put (cs := #[.slice A0 n0 c0, .slice none 0 0]) ?_ 1 _ rfl
                      refine blk_put (cs := #[.slice none 0 0, .slice none 0 0]) ?_ 0 _ rfl
                      exact HZ5.out
                    have hb6 : Below wa.heap.size wa w6 := by rw [e6]; exact two_below HB5.out (Nat.le_refl _) _ _
                    have hlf : LF w6 S' A' left' := by
                      rw [e6]
                      exact HF'.out.kept (two_kept (w1 := w5) wa.heap.size (.slice A0 n0 c0) (.slice A' left'.length c')) (fun j hj e => (HS'.out j hj).elim (fun h => by have h1 := HP.out.lf.lt j h; have h2 := HKA.out.1; omega) (fun h => by have := HZS.out; omega)))
              have HSS : Aside0 (∀ j, S' j → S j ∨ wa.heap.size ≤ j) := ⟨fun j hj => (HS'.out j hj).imp id (fun h => by first | exact h | (have := HZS.out; omega))⟩
              have hu6 := (hb6.block _ (blk_lt HUA.out)).trans HUA.out
              have q0 := cell_of_blk (j := 0) hu6 rfl
              have q1 := cell_of_blk (j := 1) hu6 rfl
              have f0 := frozen_of_blk 0 hu6
              have f1 := frozen_of_blk 1 hu6
              have x0 := cell_of_blk (j := 0) hx6 rfl
              have x1 := cell_of_blk (j := 1) hx6 rfl
              obtain ⟨np, enp⟩ : ∃ np, np = n + if r = true then 1 else 0 := ⟨_, rfl⟩
              have HPW7 : Aside0 (PW w ((w6.setCell ⟨bu, 0, none⟩ (.slice A0 n0 c0)).setCell ⟨bu, 1, none⟩ (.slice A' left'.length c')) bu b A0 c0 l0 np (k + 1)) := ⟨by
                have hua := HUA.out
                rw [HN0.out] at hua
                have hag := (HP.out.ag.put x).2
                rw [← HR.out, ← HL'.out, ← enp] at hag
                have hwk := HWA.out
                rw [← enp] at hwk
                have h := HP.out.next (Wa := wa) (W1 := w6) (T' := T4) (left' := left') hwk HT4.out hb6 (by rw [enp]; split <;> omega) hag hlf HSS.out HCAP.out HKA.out.1 hua
                rw [← HN0.out] at h
                exact h⟩
              clear hx6 hb6 hu6 e6 hlf enp hk0 hk1 hk2
              go_upto_region 18 with (fail)
              generalize (w6.setCell ⟨bu, 0, none⟩ (.slice A0 n0 c0)).setCell ⟨bu, 1, none⟩ (.slice A' left'.length c') = w7 at HPW7 ⊢
              go_upto_region 20 with (fail)
              obtain ⟨nn, enn⟩ : ∃ nn, nn = np := ⟨_, rfl⟩
              rw [← enn] at HPW7
              clear enn
          all_goals
            obtain ⟨T7, g7, left7, S7, AL7, cL7, hp7⟩ := HPW7.out
            have HP7 := Aside0.mk hp7
            obtain ⟨ga, ega⟩ : ∃ ga, ga = g7 a2 := ⟨_, rfl⟩
            obtain ⟨gx, egx⟩ : ∃ gx, gx = g7 x := ⟨_, rfl⟩
            obtain ⟨L7, eL7⟩ : ∃ L7, L7 = lst l0 g7 := ⟨_, rfl⟩
            have hw7 : Below w.heap.size w w7 := hp7.wk.bel
            have HLA : Aside0 (∀ W, Below w7.heap.size w7 W → Calls Try.prog 30 #[.pointer (some ⟨b, 0, none⟩)] W fun e w' => ∃ A c, e = .returned (.slice A nn c) ∧ dI.C w' A nn L7 ∧ nn ≤ c ∧ Below W.heap.size W w') := ⟨fun W hW => by
              have hl := hp7.wk.length
              refine ((hp7.wk.later hW).list (by have := hp7.le; omega)).mono ?_
              rintro e w' ⟨u, rfl, ho, hb⟩
              obtain ⟨A, c, rfl⟩ := Kd.R_slice ho
              obtain ⟨_, hle, hC⟩ := Kd.R_reads' ho
              rw [← hl, ← eL7] at hC
              rw [← hl] at hle ⊢
              exact ⟨A, c, rfl, hC, hle, hb⟩⟩
            have HLB : Aside0 (∀ W, Below w7.heap.size w7 W → Calls Try.prog 34 #[.agg #[.slice A0 n0 c0, .slice AL7 nn cL7]] W fun e w' => ∃ A c, e = .returned (.slice A nn c) ∧ dI.C w' A nn L7 ∧ nn ≤ c ∧ Below W.heap.size W w') := ⟨fun W hW => by
              have h := hp7.rlist HC0.out HCC.out HH6.out hW
              rw [← HN0.out, ← eL7] at h
              exact h⟩
            have HLE : Aside0 (∀ W, Below w7.heap.size w7 W → Calls Try.prog 17 #[.pointer (some ⟨b, 0, none⟩)] W fun e w' => e = .returned (.int .i64 (nn : Nat)) ∧ Below W.heap.size W w') := ⟨fun W hW => ((hp7.wk.later hW).len).mono (by rintro e w' ⟨rfl, rfl⟩; exact ⟨rfl, Below.refl _ _⟩)⟩
            have HHA : Aside0 (∀ W, Below w7.heap.size w7 W → Calls Try.prog 19 #[.pointer (some ⟨b, 0, none⟩), .int .i64 a2] W fun e w' => e = .returned (.bool ga) ∧ Below W.heap.size W w') := ⟨fun W hW => ((hp7.wk.later hW).has HW2.out).mono (by rintro e w' ⟨rfl, rfl⟩; exact ⟨by rw [ega], Below.refl _ _⟩)⟩
            have HHX : Aside0 (∀ W, Below w7.heap.size w7 W → Calls Try.prog 19 #[.pointer (some ⟨b, 0, none⟩), .int .i64 x] W fun e w' => e = .returned (.bool gx) ∧ Below W.heap.size W w') := ⟨fun W hW => ((hp7.wk.later hW).has HXW.out).mono (by rintro e w' ⟨rfl, rfl⟩; exact ⟨by rw [egx], Below.refl _ _⟩)⟩
            have HRA : Aside0 (∀ W, Below w7.heap.size w7 W → Calls Try.prog 35 #[.agg #[.slice A0 n0 c0, .slice AL7 nn cL7], .int .i64 a2] W fun e w' => e = .returned (.bool ga) ∧ Below W.heap.size W w') := ⟨fun W hW => by
              have h := hp7.rhas HC0.out HCC.out HH6.out hW a2
              rw [← HN0.out, ← ega] at h
              exact h⟩
            have HRX : Aside0 (∀ W, Below w7.heap.size w7 W → Calls Try.prog 35 #[.agg #[.slice A0 n0 c0, .slice AL7 nn cL7], .int .i64 x] W fun e w' => e = .returned (.bool gx) ∧ Below W.heap.size W w') := ⟨fun W hW => by
              have h := hp7.rhas HC0.out HCC.out HH6.out hW x
              rw [← HN0.out, ← egx] at h
              exact h⟩
            have hblk7 := hp7.blk
            rw [← HN0.out] at hblk7
            have HKEEP : Aside0 (∀ W, Below w7.heap.size w7 W → W.cell? ⟨bu, 0, none⟩ = some (.slice A0 n0 c0) ∧ W.cell? ⟨bu, 1, none⟩ = some (.slice AL7 nn cL7) ∧ W.cell? ⟨bb, off + k * 2 + 1, none⟩ = some (.int .i64 x)) := ⟨fun W hW => by
              have hb := (hW.block _ (blk_lt hblk7)).trans hblk7
              exact ⟨cell_of_blk (j := 0) hb rfl, cell_of_blk (j := 1) hb rfl, ((hw7.trans (hW.mono hw7.size)).cell (p := ⟨bb, off + k * 2 + 1, none⟩) (World.block_lt_of_cell? _ _ HX.out)).trans HX.out⟩⟩
            have HI : Aside0 (∀ A c A' c' W, dI.C W A nn L7 → nn ≤ c → dI.C W A' nn L7 → nn ≤ c' → Calls Try.prog 28 #[.slice A nn c, .slice A' nn c'] W fun e w' => e = .returned (.bool true) ∧ Below W.heap.size W w') := ⟨fun A c A' c' W h1 h2 h3 h4 => by
              have hl : nn = L7.length := by rw [eL7]; exact hp7.wk.length
              rw [hl] at h1 h2 h3 h4 ⊢
              have h := Ints_c A c L7 A' c' L7 W h1 h2 h3 h4 (by rw [← hl]; have := hp7.le; omega)
              rw [decide_eq_true rfl] at h
              exact h⟩
            have hn7 : nn ≤ k + 1 := hp7.le
            obtain ⟨hk0, hk1, hk2⟩ := HKEEP.out w7 (Below.refl _ _)
            have HBs := Aside0.mk (below_drew (Below.refl w7.heap.size w7))
            clear hp7 ega egx eL7 hw7 hblk7
            go_region_held3 (fun W => W.cell? ⟨bu, 0, none⟩ = some (.slice A0 n0 c0) ∧ W.cell? ⟨bu, 1, none⟩ = some (.slice AL7 nn cL7) ∧ W.cell? ⟨bb, off + k * 2 + 1, none⟩ = some (.int .i64 x)) (first | exact HKEEP.out _ HB19.out | exact HKEEP.out _ HB18.out | exact HKEEP.out _ HB17.out | exact HKEEP.out _ HB16.out | exact HKEEP.out _ HB15.out | exact HKEEP.out _ HB14.out | exact HKEEP.out _ HB13.out | exact HKEEP.out _ HB12.out | exact HKEEP.out _ HBs.out) (first | (go_at_call 30; refine (HLA.out _ HBs.out).mono ?_; rintro e w12 ⟨A12, c12, rfl, hC12, hc12, hb12⟩; have HC12 := Aside0.mk hC12; have HB12 := Aside0.mk (HBs.out.trans (hb12.mono HBs.out.size)); clear hC12 hb12) | (go_at_call 34; refine (HLB.out _ HB12.out).mono ?_; rintro e w13 ⟨A13, c13, rfl, hC13, hc13, hb13⟩; have HB13 := Aside0.mk (HB12.out.trans (hb13.mono HB12.out.size)); have HII := Aside0.mk (HI.out A12 c12 A13 c13 w13 (Kd.C_below HC12.out hb13) hc12 hC13 hc13); clear hC13 hb13) | (go_at_call 28; refine HII.out.mono ?_; rintro e w14 ⟨rfl, hb14⟩; have HB14 := Aside0.mk (HB13.out.trans (hb14.mono HB13.out.size)); clear hb14) | (go_at_call 17; refine (HLE.out _ HB14.out).mono ?_; rintro e w15 ⟨rfl, hb15⟩; have HB15 := Aside0.mk (HB14.out.trans (hb15.mono HB14.out.size)); clear hb15) | (go_at_call 19; with_reducible refine (HHA.out _ HB15.out).mono ?_; rintro e w16 ⟨rfl, hb16⟩; have HB16 := Aside0.mk (HB15.out.trans (hb16.mono HB15.out.size)); clear hb16) | (go_at_call 35; with_reducible refine (HRA.out _ HB16.out).mono ?_; rintro e w17 ⟨rfl, hb17⟩; have HB17 := Aside0.mk (HB16.out.trans (hb17.mono HB16.out.size)); clear hb17) | (go_at_call 19; with_reducible refine (HHX.out _ HB17.out).mono ?_; rintro e w18 ⟨rfl, hb18⟩; have HB18 := Aside0.mk (HB17.out.trans (hb18.mono HB17.out.size)); clear hb18) | (go_at_call 35; with_reducible refine (HRX.out _ HB18.out).mono ?_; rintro e w19 ⟨rfl, hb19⟩; have HB19 := Aside0.mk (HB18.out.trans (hb19.mono HB18.out.size)); clear hb19))
            go_wp2
            go_roundw
            case rel => exact ⟨k + 1, nn, by omega, by go_num, ⟨HP7.out.later HB19.out⟩⟩
            case measure => simp [intOf]; omega
        · obtain rfl : k = n1 := by omega
          obtain ⟨T, g, left, S, AL, cL, hpw⟩ := HPW.out
          have HP := Aside0.mk hpw
          have hblk := hpw.blk
          rw [← HN0.out] at hblk
          have u1 := cell_of_blk (j := 1) hblk rfl
          have HLE : Aside0 (∀ m, Calls Try.prog 17 #[.pointer (some ⟨b, 0, none⟩)] (wr.drewN m) fun e w' => e = .returned (.int .i64 n) ∧ ∃ q, w' = wr.drewN q) := ⟨fun m => by
            refine ((hpw.wk.later (pw_below_drewN (Below.refl _ _) m)).len).mono ?_
            rintro e w' ⟨rfl, rfl⟩
            exact ⟨rfl, m, rfl⟩⟩
          have HBE := Aside0.mk hpw.wk.bel
          clear hpw hblk
          go_wp2
          go_quiet ((go_at_call 17; exact HLE.out _))
          go_wp2
          go_ret
          exact ⟨rfl, pw_below_drewN HBE.out _⟩
    · have d0 : decide ((60 : Int) < (n0 : Int)) = false := by simp; omega
      have d1 : decide ((80 : Int) < (n1 : Int)) = true := by simp; omega
      go_enter Try.func9, Try.ntmps9
      go_wp2_with (go_at_call 14; refine (awake16_c _).mono ?_; rintro e w1 ⟨rfl, hb1⟩; have HB1 := Aside0.mk hb1; clear hb1)
      go_ret
      exact ⟨rfl, HB1.out⟩
  · have d0 : decide ((60 : Int) < (n0 : Int)) = true := by simp; omega
    go_enter Try.func9, Try.ntmps9
    go_wp2_with (go_at_call 14; refine (awake16_c _).mono ?_; rintro e w1 ⟨rfl, hb1⟩; have HB1 := Aside0.mk hb1; clear hb1)
    go_ret
    exact ⟨rfl, HB1.out⟩

end Go.Proofs.Ytnhcimhdkdgccaa.P
