/- work.Work: made, Len, over what it holds. -/
import Derived.Test.YtnhcimhdkdgccaaHwork
import Derived.Test.YtnhcimhdkdgccaaHmap
namespace Go.Proofs.Ytnhcimhdkdgccaa.P
open Go.RowKit Go.Lib Go.Sort Go.Maps Go.Proofs.YtnhcimhdkdgccaaW.PrintWords Go.Proofs.YtnhcimhdkdgccaaW.PrintLast Go.Proofs.YtnhcimhdkdgccaaW.PrintMore

theorem field_hp {w : World} {b t : Nat} {v0 v1 v2 v3 : Value} (h : w.heap[b]? = some (.cells #[v0, v1, v2, v3] t (0, 0))) :
    w.cell? ⟨b, 0, none⟩ = some v0 ∧ w.cell? ⟨b, 1, none⟩ = some v1 ∧ w.cell? ⟨b, 2, none⟩ = some v2 ∧ w.cell? ⟨b, 3, none⟩ = some v3 := by
  refine ⟨?_, ?_, ?_, ?_⟩ <;> simp [World.cell?, h]

set_option maxRecDepth 100000 in
theorem made_c {w : World} {b : Nat} {v0 v1 v2 : Value} {p : Nat} (h : w.heap[b]? = some (.cells #[v0, v1, v2, .iface 72 (.pointer (some ⟨p, 0, none⟩))] 61 (0, 0))) :
    Calls Try.prog 50 #[.pointer (some ⟨b, 0, none⟩)] w fun e w' => e = .returned (.bool true) ∧ w' = w := by
  obtain ⟨h0, h1, h2, h3⟩ := field_hp h
  clear h
  go_enter Try.func50, Try.ntmps50
  go_wp2
  go_ret
  exact ⟨rfl, rfl⟩
set_option maxRecDepth 100000 in
theorem made_nil {w : World} : Calls Try.prog 50 #[.pointer none] w fun e w' => e = .returned (.bool false) ∧ w' = w := by
  go_enter Try.func50, Try.ntmps50
  go_wp2
  go_ret
  exact ⟨rfl, rfl⟩
set_option maxRecDepth 100000 in
theorem made_empty {w : World} {b : Nat} {v0 v1 v2 : Value} (h : w.heap[b]? = some (.cells #[v0, v1, v2, .nilIface] 61 (0, 0))) :
    Calls Try.prog 50 #[.pointer (some ⟨b, 0, none⟩)] w fun e w' => e = .returned (.bool false) ∧ w' = w := by
  obtain ⟨h0, h1, h2, h3⟩ := field_hp h
  clear h
  go_enter Try.func50, Try.ntmps50
  go_wp2
  go_ret
  exact ⟨rfl, rfl⟩

/-- A Work that New has made: its order (a slice of its own), its two maps, its heap. -/
structure WS (w0 w : World) (b p BA BI na ni : Nat) (S So : Nat → Prop) (vo v : Value) (ord xs : List Int) (f : Int → Option Int) (g : Int → Bool) : Prop where
  blk : w.heap[b]? = some (.cells #[vo, .map (some BA), .map (some BI), .iface 72 (.pointer (some ⟨p, 0, none⟩))] 61 (0, 0))
  hq : HQ w0 w p S v xs
  ma : MI w BA na f
  mi : MB w BI ni g
  own : dI.R 3 w w0.heap.size So vo ord
  sep : ∀ k, S k ∨ k = p → k ≠ b ∧ k ≠ BA ∧ k ≠ BI ∧ ¬ So k
  sepm : BI ≠ b ∧ BI ≠ BA ∧ ¬ So BI
  low : w0.heap.size ≤ BI
  old : b < w.heap.size ∧ BA < w.heap.size ∧ BI < w.heap.size ∧ ∀ k, So k → k < w.heap.size

section
variable {w0 w : World} {b p BA BI na ni : Nat} {S So : Nat → Prop} {vo v : Value} {ord xs : List Int} {f : Int → Option Int} {g : Int → Bool}
set_option maxHeartbeats 4000000 in
set_option maxRecDepth 100000 in
theorem put_no (h : WS w0 w b p BA BI na ni S So vo v ord xs f g) {i : Int} (hi : (Lit.int .i64 i).wf = true) (hno : g i = true ∨ f i = none) :
    Calls Try.prog 16 #[.pointer (some ⟨b, 0, none⟩), .int .i64 i] w fun e w' => e = .returned (.bool false) ∧ w' = w := by
  obtain ⟨h0, h1, h2, h3⟩ := field_hp h.blk
  have HM := Aside0.mk (made_c h.blk)
  have l1 := h.mi.look hi
  have l2 := h.ma.look hi
  clear h
  rcases hno with e | e
  · rw [e] at l1
    clear e
    go_enter Try.func16, Try.ntmps16
    go_wp2_with (go_at_call 50; refine HM.out.mono ?_; rintro e w' ⟨rfl, rfl⟩)
    go_ret
    exact ⟨rfl, rfl⟩
  · rw [e] at l2
    clear e
    cases eg : g i with
    | true =>
      rw [eg] at l1
      clear eg
      go_enter Try.func16, Try.ntmps16
      go_wp2_with (go_at_call 50; refine HM.out.mono ?_; rintro e w' ⟨rfl, rfl⟩)
      go_ret
      exact ⟨rfl, rfl⟩
    | false =>
      rw [eg] at l1
      clear eg
      go_enter Try.func16, Try.ntmps16
      go_wp2_with (go_at_call 50; refine HM.out.mono ?_; rintro e w' ⟨rfl, rfl⟩)
      go_ret
      exact ⟨rfl, rfl⟩
theorem HQ.kept {w1 : World} {T : Nat → Prop} (h : HQ w0 w p S v xs) (hk : Kept w w1 T) (hne : ∀ k, S k ∨ k = p → ¬ T k) (hb : Below w0.heap.size w0 w1) : HQ w0 w1 p S v xs :=
  ⟨blk_kept h.hp hk (hne p (.inr rfl)), Kd.R_kept h.own hk (fun k hk' => hne k (.inl hk')), hb, h.ne, h.pb⟩
/-- What a call that writes to the heap and to the second map alone leaves. -/
theorem WS.step {w2 : World} {S2 : Nat → Prop} {v2 : Value} {ys : List Int} {g2 : Int → Bool} {ni2 : Nat} (h : WS w0 w b p BA BI na ni S So vo v ord xs f g) (hk : Kept w w2 (fun k => S k ∨ k = p ∨ k = BI))
    (hq : HQ w0 w2 p S2 v2 ys) (hS : ∀ k, S2 k → S k ∨ w.heap.size ≤ k) (hm : MB w2 BI ni2 g2) : WS w0 w2 b p BA BI na ni2 S2 So vo v2 ord ys f g2 := by
  have hb : ¬ (S b ∨ b = p ∨ b = BI) := by
    rintro (e | e | e)
    · exact (h.sep b (.inl e)).1 rfl
    · exact (h.sep b (.inr e)).1 rfl
    · exact h.sepm.1 e.symm
  have hA : ¬ (S BA ∨ BA = p ∨ BA = BI) := by
    rintro (e | e | e)
    · exact (h.sep BA (.inl e)).2.1 rfl
    · exact (h.sep BA (.inr e)).2.1 rfl
    · exact h.sepm.2.1 e.symm
  have hO : ∀ k, So k → ¬ (S k ∨ k = p ∨ k = BI) := by
    rintro k ho (e | e | e)
    · exact (h.sep k (.inl e)).2.2.2 ho
    · exact (h.sep k (.inr e)).2.2.2 ho
    · exact h.sepm.2.2 (by rw [← e]; exact ho)
  have hsz := hk.1
  obtain ⟨o1, o2, o3, o4⟩ := h.old
  refine ⟨blk_kept h.blk hk hb, hq, h.ma.kept hk hA, hm, Kd.R_kept h.own hk hO, ?_, h.sepm, h.low, ⟨by omega, by omega, by omega, fun k hk' => by have := o4 k hk'; omega⟩⟩
  intro k e
  rcases e with e | e
  · rcases hS k e with e | e
    · exact h.sep k (.inl e)
    · exact ⟨by omega, by omega, by omega, fun ho => by have := o4 k ho; omega⟩
  · exact h.sep k (.inr e)

set_option maxHeartbeats 4000000 in
set_option maxRecDepth 100000 in
theorem put_yes (h : WS w0 w b p BA BI na ni S So vo v ord xs f g) {i c : Int} (hi : (Lit.int .i64 i).wf = true) (hg : g i = false) (hf : f i = some c) {k : Nat} {ys : List Int} (hn : xs.length < 1000000) (hni : ni < maxLen) (hu : upN k (xs ++ [c]) xs.length = some ys) :
    Calls Try.prog 16 #[.pointer (some ⟨b, 0, none⟩), .int .i64 i] w fun e w' => e = .returned (.bool true) ∧
      ∃ S2 v2, WS w0 w' b p BA BI na (ni + 1) S2 So vo v2 ord ys f (fun x => if x = i then true else g x) ∧ (∀ k, S2 k → S k ∨ w.heap.size ≤ k) ∧ Kept w w' (fun k => S k ∨ k = p ∨ k = BI) := by
  have HH := Aside0.mk h
  obtain ⟨h0, h1, h2, h3⟩ := field_hp h.blk
  have HM := Aside0.mk (made_c h.blk)
  have l1 := h.mi.look hi
  have l2 := h.ma.look hi
  rw [hg] at l1
  rw [hf] at l2
  obtain ⟨w1, hrun, hm1, hg1⟩ := h.mi.put hni hi true
  have hk1 : Kept w w1 (fun k => k = BI) := Kept.of_grown hg1 (Kept.refl w _) (fun k e => .inl (by injection e with e; exact e.symm))
  have hb1 : Below w0.heap.size w0 w1 := h.hq.bel.grown hg1 h.hq.bel.size (fun j e => by injection e with e; rw [← e]; exact h.low)
  obtain ⟨i0, i1, i2, i3⟩ := field_hp (blk_kept h.blk hk1 (fun e => h.sepm.1 e.symm))
  have HQ1 := Aside0.mk (h.hq.kept hk1 (fun k e he => (h.sep k e).2.2.1 he) hb1)
  have HK1 := Aside0.mk hk1
  have HM1 := Aside0.mk hm1
  have HPU := Aside0.mk (hpush_c c HQ1.out hn hu)
  clear h hg hf hm1 hg1 hk1 hb1 hu
  go_enter Try.func16, Try.ntmps16
  go_wp2_with (first | (go_at_call 50; refine HM.out.mono ?_; rintro e wz ⟨rfl, rfl⟩) | (go_at_call 51; refine HPU.out.mono ?_; rintro e w2 ⟨rfl, v2, h2, hk2⟩; have HQ2 := Aside0.mk h2; have HK2 := Aside0.mk hk2; clear h2 hk2))
  go_ret
  have hsz := HK1.out.1
  have hkk : Kept wz w2 (fun k => S k ∨ k = p ∨ k = BI) := (HK1.out.mono (S' := fun k => S k ∨ k = p ∨ k = BI) (fun k e => .inr (.inr e))).then_ HK2.out (fun k e => .inl (e.elim .inl (fun e => .inr (.inl e))))
  have hSS : ∀ k, (S k ∨ w1.heap.size ≤ k) ∧ k ≠ p → S k ∨ wz.heap.size ≤ k := fun k e => e.1.imp id (fun e => by omega)
  have hmm : MB w2 BI (ni + 1) (fun x => if x = i then true else g x) := HM1.out.kept HK2.out (fun e => (HH.out.sep BI (e.imp id id)).2.2.1 rfl)
  exact ⟨rfl, _, _, HH.out.step hkk HQ2.out hSS hmm, hSS, hkk⟩

set_option maxRecDepth 100000 in
theorem has_w (h : WS w0 w b p BA BI na ni S So vo v ord xs f g) {i : Int} (hi : (Lit.int .i64 i).wf = true) :
    Calls Try.prog 19 #[.pointer (some ⟨b, 0, none⟩), .int .i64 i] w fun e w' => e = .returned (.bool (g i)) ∧ w' = w := by
  obtain ⟨h0, h1, h2, h3⟩ := field_hp h.blk
  have HM := Aside0.mk (made_c h.blk)
  have l1 := h.mi.look hi
  obtain ⟨gi, eg⟩ : ∃ gi, gi = g i := ⟨_, rfl⟩
  rw [← eg] at l1 ⊢
  clear h eg
  go_enter Try.func19, Try.ntmps19
  go_wp2_with (go_at_call 50; refine HM.out.mono ?_; rintro e w' ⟨rfl, rfl⟩)
  go_ret
  exact ⟨rfl, rfl⟩
set_option maxRecDepth 100000 in
theorem len_w (h : WS w0 w b p BA BI na ni S So vo v ord xs f g) :
    Calls Try.prog 17 #[.pointer (some ⟨b, 0, none⟩)] w fun e w' => e = .returned (.int .i64 xs.length) ∧ w' = w := by
  obtain ⟨h0, h1, h2, h3⟩ := field_hp h.blk
  have HM := Aside0.mk (made_c h.blk)
  obtain ⟨A, c, rfl⟩ := Kd.R_slice h.hq.own
  obtain ⟨n, en⟩ : ∃ n, n = xs.length := ⟨_, rfl⟩
  have HP := Aside0.mk h.hq.hp
  rw [← en] at HP ⊢
  clear h en
  go_enter Try.func17, Try.ntmps17
  go_wp2_with (first | (go_at_call 50; refine HM.out.mono ?_; rintro e w' ⟨rfl, rfl⟩) | (rw [u_len HP.out]) | (go_at_call 113; refine (len_c _ _ _ _).mono ?_; rintro e w' ⟨rfl, rfl⟩))
  go_ret
  exact ⟨rfl, rfl⟩
set_option maxRecDepth 100000 in
theorem take_no (h : WS w0 w b p BA BI na ni S So vo v ord xs f g) (hx : xs.length = 0) :
    Calls Try.prog 18 #[.pointer (some ⟨b, 0, none⟩)] w fun e w' => e = .returned (.tuple #[.int .i64 0, .bool false]) ∧ w' = w := by
  have HL := Aside0.mk (len_w h)
  rw [hx] at HL
  clear h hx
  go_enter Try.func18, Try.ntmps18
  go_wp2_with (go_at_call 17; refine HL.out.mono ?_; rintro e w' ⟨rfl, rfl⟩)
  go_ret2
  exact ⟨rfl, rfl⟩

set_option maxHeartbeats 4000000 in
set_option maxRecDepth 100000 in
theorem take_yes (h : WS w0 w b p BA BI na ni S So vo v ord xs f g) {n k c : Nat} {i : Int} {ys : List Int} (hx : xs.length = n + 1) (hn : n < 1000000) (hni : ni < maxLen) (hu : downN k (swp xs 0 n) 0 n = some ys) (hc : ys.getD n 0 = (c : Int)) (hcl : c < ord.length) (hi : rd ord (c : Int) = i) (hiw : (Lit.int .i64 i).wf = true) (hol : ord.length ≤ 1000000) :
    Calls Try.prog 18 #[.pointer (some ⟨b, 0, none⟩)] w fun e w' => e = .returned (.tuple #[.int .i64 i, .bool true]) ∧
      ∃ v2, WS w0 w' b p BA BI na (ni + 1) S So vo v2 ord (ys.take n) f (fun x => if x = i then false else g x) ∧ Kept w w' (fun k => S k ∨ k = p ∨ k = BI) := by
  have HH := Aside0.mk h
  have HL := Aside0.mk (len_w h)
  rw [hx] at HL
  obtain ⟨h0, h1, h2, h3⟩ := field_hp h.blk
  have hpp := hpop_c h.hq hx hn hu
  rw [hc] at hpp
  have HPP := Aside0.mk hpp
  have HI := Aside0.mk hi
  have hta : ∀ w, (Instr.typeAssert (.iface 3 (.int .i64 (c : Int))) 20 3 true).run Try.prog w = .ok (.tuple #[.int .i64 (c : Int), .bool true]) w := fun w => by kernel_rfl
  clear h hx hu hc hpp hi
  go_enter Try.func18, Try.ntmps18
  go_upto_region 4 with (first | (go_at_call 17; refine HL.out.mono ?_; rintro e wz ⟨rfl, rfl⟩) | (go_at_call 52; refine HPP.out.mono ?_; rintro e w1 ⟨rfl, v2, h2, hk2⟩; have HQ1 := Aside0.mk h2; have HK1 := Aside0.mk hk2; clear h2 hk2))
  clear h0 h1 h2 h3
  have hsame : WS w0 w1 b p BA BI na ni S So vo v2 ord (ys.take n) f g := HH.out.step (HK1.out.mono (fun k e => e.imp id .inl)) HQ1.out (fun k e => .inl e) (HH.out.mi.kept HK1.out (fun e => (HH.out.sep BI e).2.2.1 rfl))
  obtain ⟨h0, h1, h2, h3⟩ := field_hp hsame.blk
  obtain ⟨go, co, eo, _⟩ := Kd.R_form hsame.own (by omega)
  subst eo
  have hx0 := (Kd.R_celln 0 hsame.own (c : Int) (by omega) (by omega)).1
  rw [Int.toNat_natCast] at hx0
  have hx : w1.cell? ⟨go, c, none⟩ = some (.int .i64 i) := hx0.trans (by rw [show rdOf 0 ord (c : Int) = i from HI.out])
  obtain ⟨w2, hrun, hm2, hg2⟩ := hsame.mi.put hni hiw false
  have hk2 : Kept w1 w2 (fun k => k = BI) := Kept.of_grown hg2 (Kept.refl w1 _) (fun k e => .inl (by injection e with e; exact e.symm))
  have hb2 : Below w0.heap.size w0 w2 := hsame.hq.bel.grown hg2 hsame.hq.bel.size (fun j e => by injection e with e; rw [← e]; exact hsame.low)
  have HQ2 := Aside0.mk (hsame.hq.kept hk2 (fun k e he => (hsame.sep k e).2.2.1 he) hb2)
  have HK2 := Aside0.mk hk2
  have HM2 := Aside0.mk hm2
  have HS1 := Aside0.mk hsame
  obtain ⟨no, eno⟩ : ∃ no, no = ord.length := ⟨_, rfl⟩
  rw [← eno] at h0 hcl hol
  clear hsame hx0 hm2 hg2 hk2 hb2 eno
  go_wp2
  go_ret2
  refine ⟨rfl, v2, HS1.out.step (HK2.out.mono (fun k e => .inr (.inr e))) HQ2.out (fun k e => .inl e) HM2.out, ?_⟩
  exact (HK1.out.mono (S' := fun k => S k ∨ k = p ∨ k = BI) (fun k e => e.imp id .inl)).then_ HK2.out (fun k e => .inl (.inr (.inr e)))
end

end Go.Proofs.Ytnhcimhdkdgccaa.P
