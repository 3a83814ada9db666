/- What the claim uses of: Hgrow PlawDomupPlays -/
import Derived.Deep.CutBlock
import Derived.Test.YtemcmcnhpdkdfaaQU4
namespace Go.Proofs.Ytemcmcnhpdkdfaa.P
open Go.RowKit Go.Shelf Go.Lib Go.Sort Go.Proofs.YtemcmcnhpdkdfaaW.PrintWords Go.Proofs.YtemcmcnhpdkdfaaW.PrintLast Go.Proofs.YtemcmcnhpdkdfaaW.PrintMore
theorem cell_grown {W w1 : World} {ob : Option Nat} {a : Addr} {v : Value} (hg : W.grownBy w1 ob) (hne : some a.block ≠ ob) (hc : W.cell? a = some v) : w1.cell? a = some v := by
  have h := hg.block a.block (World.block_lt_of_cell? _ _ hc) hne
  rw [← hc]
  simp only [World.cell?, h]
theorem keep_grown {w14 Wa w20 : World} {ob : Option Nat} (hg : Wa.grownBy w20 ob) (hb : Below w14.heap.size w14 Wa) (ho : ∀ j, ob = some j → w14.heap.size ≤ j) {k : Nat} (hk : k < w14.heap.size) : w20.heap[k]? = w14.heap[k]? :=
  (hg.block k (Nat.lt_of_lt_of_le hk hb.size) (fun e => by have := ho k e.symm; omega)).trans (hb.block k hk)
theorem own_after {ob1 ob : Option Nat} {N n : Nat} (hat : ob1 = ob ∨ ∃ b, ob1 = some b ∧ N ≤ b) (ho : ∀ j, ob = some j → n ≤ j) (hn : n ≤ N) : ∀ j, ob1 = some j → n ≤ j := by
  intro j e
  rcases hat with h | ⟨b, h, hb⟩
  · exact ho j (h.symm.trans e)
  · rw [h] at e
    obtain rfl := Option.some.inj e
    omega
theorem grow_end {w W1 w14 w20 wz : World} {v14 v20 : Value} {rows : List (List Int)} {xs : List Int} (hs : w.heap.size ≤ W1.heap.size) (h14 : Kd.S dG 25 w14 W1.heap.size (fun k => W1.heap.size ≤ k) v14 rows) (h20 : dI.R 3 w20 W1.heap.size (fun k => W1.heap.size ≤ k) v20 xs)
    (hk : ∀ k, k < w14.heap.size → w20.heap[k]? = w14.heap[k]?) (hob : ∀ j, v20.ownBlock = some j → w14.heap.size ≤ j) (hz : ∀ k, W1.heap.size ≤ k → wz.heap[k]? = w20.heap[k]?) :
    Kd.S (Kd.slice 3 (Kd.int .i64)) 25 wz w.heap.size (fun k_ => some k_ ≠ v20.ownBlock) v14 rows ∧ Kd.R (Kd.int .i64) 3 wz w.heap.size (fun _ => True) v20 xs := by
  refine ⟨?_, ?_⟩
  · exact Kd.S_lower (Kd.S_mono (Kd.S_step (w1 := wz) (Kd.S_bound h14) (fun k hk2 _ => (hz k hk2.1).trans (hk k hk2.2.2.1))) (fun k hk2 e => by have := hob k e.symm; have := hk2.2.2.1; omega)) hs
  · exact Kd.R_lower (Kd.R_mono (Kd.R_move (w1 := wz) h20 (fun k hk2 => hz k hk2)) (fun _ _ => trivial)) hs
section
variable {P : Program} {ops : Array Oper} {o : Oper} {a : Act} {Q : Exit → Act → World → Prop} {Kc : Act → World → Prop}
theorem S_nil_step {w0 W : World} (base : Nat) (hw : Region.wanted o (yielded ops a.tmps) = true) (s x : Operand)
    (ho : o.op = .call { callee := .builtin .append, args := #[s, x], argTypes := #[22, 22] })
    (ht : P.underlying 22 = some (.slice 25)) (hinfo : (P.info? 25).map (fun i => (i.zero, i.size, i.bytes)) = some (some (.slice none 0 0), 1, 24))
    (v : Value) (xs : List (List Int)) (X c : Nat) (ok : Nat → Prop) (hs : a.eval s = v) (hx : a.eval x = .slice (some ⟨X, 0, none⟩) 1 c) (hcell : W.cell? ⟨X, 0, none⟩ = some (.slice none 0 0)) (hfresh : ∀ k, W.heap.size ≤ k → ok k)
    (HO : Kd.S dG 25 W base ok v xs) (HB : Below base w0 W) (hbase : base ≤ W.heap.size) (hl : xs.length ≤ 1000000)
    (h : ∀ v1 w1, Kd.S dG 25 w1 base ok v1 (xs ++ [[]]) → Below base w0 w1 → W.grownBy w1 v.ownBlock → (v1.ownBlock = v.ownBlock ∨ ∃ b, v1.ownBlock = some b ∧ W.heap.size ≤ b) → Kc (a.put o.dst v1) w1) :
    if Region.wanted o (yielded ops a.tmps) = true then Oper.wp P o a W Kc Q else Kc (a.put o.dst undef) W := by
  obtain ⟨f, hf, hR⟩ := Kd.S_tag HO xs.length (fun _ => False) (fun _ hk => hk.elim)
  refine Kd.R_append_rows_step (Kd.tag f dG) (Rr := fun y c => y = (([] : List Int), xs.length) ∧ c = [.slice none 0 0]) base hw s x 22 25 (.slice none 0 0) 24 ho ht hinfo rfl Nat.one_pos (by decide) v xs.zipIdx [([], xs.length)] (some ⟨X, 0, none⟩) 1 c ok (fun _ => False) hs hx hR
    ⟨rfl, by decide, fun _ => ⟨_, rfl, fun j q hj => ?_⟩⟩ (fun y c hyc => ?_) (fun _ hk => hk.elim) hfresh HB hbase (by rw [List.length_zipIdx]; omega) ?_
  · match j, hj with
    | 0, hj =>
      obtain rfl := Option.some.inj hj
      refine ⟨_, rfl, ⟨rfl, rfl⟩, fun i u hu => ?_⟩
      match i, hu with
      | 0, hu =>
        obtain rfl := Option.some.inj hu
        simpa [Go.WideShapes.add_plain] using hcell
      | i + 1, hu => simp at hu
    | j + 1, hj => simp at hj
  · obtain ⟨rfl, rfl⟩ := hyc
    exact dG.M_mono (fun _ hk => hk.elim) (Kd.M_row (ok := fun _ => False) (Kd.R_nil _ _ _ _ _))
  · intro v1 w1 hr
    rw [← Kd.zip_snoc] at hr
    exact h v1 w1 ⟨f, hr⟩
theorem R_one_step {w0 W : World} (base : Nat) (hw : Region.wanted o (yielded ops a.tmps) = true) (s x : Operand)
    (ho : o.op = .call { callee := .builtin .append, args := #[s, x], argTypes := #[25, 25] })
    (ht : P.underlying 25 = some (.slice 3)) (hinfo : (P.info? 3).map (fun i => (i.zero, i.size, i.bytes)) = some (some (.int .i64 0), 1, 8))
    (v : Value) (xs : List Int) (y : Int) (X c : Nat) (ok : Nat → Prop) (hs : a.eval s = v) (hx : a.eval x = .slice (some ⟨X, 0, none⟩) 1 c) (hcell : W.cell? ⟨X, 0, none⟩ = some (.int .i64 y)) (hfresh : ∀ k, W.heap.size ≤ k → ok k)
    (HO : dI.R 3 W base ok v xs) (HB : Below base w0 W) (hbase : base ≤ W.heap.size) (hl : xs.length ≤ 1000000)
    (h : ∀ v1 w1, dI.R 3 w1 base ok v1 (xs ++ [y]) → Below base w0 w1 → W.grownBy w1 v.ownBlock → (v1.ownBlock = v.ownBlock ∨ ∃ b, v1.ownBlock = some b ∧ W.heap.size ≤ b) → Kc (a.put o.dst v1) w1) :
    if Region.wanted o (yielded ops a.tmps) = true then Oper.wp P o a W Kc Q else Kc (a.put o.dst undef) W := by
  refine Kd.R_append_rows_step (Kd.int .i64) (Rr := fun z c => z = y ∧ c = [.int .i64 y]) base hw s x 25 3 (.int .i64 0) 8 ho ht hinfo rfl Nat.one_pos (by decide) v xs [y] (some ⟨X, 0, none⟩) 1 c ok (fun _ => False) hs hx HO
    ⟨rfl, by decide, fun _ => ⟨_, rfl, fun j q hj => ?_⟩⟩ (fun z c hyc => ?_) (fun _ hk => hk.elim) hfresh HB hbase (by omega) h
  · match j, hj with
    | 0, hj =>
      obtain rfl := Option.some.inj hj
      refine ⟨_, rfl, ⟨rfl, rfl⟩, fun i u hu => ?_⟩
      match i, hu with
      | 0, hu =>
        obtain rfl := Option.some.inj hu
        simpa [Go.WideShapes.add_plain] using hcell
      | i + 1, hu => simp at hu
    | j + 1, hj => simp at hj
  · obtain ⟨rfl, rfl⟩ := hyc
    rfl
end
def domup_Grow.f (k : Nat) (g : List (List Int)) (l : List Int) (kp : Bool) : Option (List (List Int) × List Int × Bool) :=
  (dom_Idoms.f k g).bind fun l2 => if smallB g = true ∧ l.length ≤ 100000 ∧ madeB g l l2 kp = true then some (clean g ++ [[]], l2 ++ [if g.length = 0 then -1 else -2], true) else none
theorem domup_Grow.mono : ∀ a0 a1 a2 k, LeO (domup_Grow.f k a0 a1 a2) (domup_Grow.f (k + 1) a0 a1 a2) := fun _ _ _ _ => leO_bind (dom_Idoms.mono _ _) fun _ => leO_refl _
set_option maxHeartbeats 8000000 in
set_option maxRecDepth 100000 in
theorem domup_Grow.calls (k : Nat) (A0 : Option Addr) (c0 : Nat) (g : List (List Int)) (A1 : Option Addr) (c1 : Nat) (l : List Int) (kp : Bool) (r1 : List (List Int)) (r2 : List Int) (r3 : Bool) (w : World) (hr0 : Kd.C (Kd.slice 3 (Kd.int .i64)) w A0 g.length g) (hc0 : g.length ≤ c0) (hr1 : Kd.C (Kd.int .i64) w A1 l.length l) (hc1 : l.length ≤ c1) (h : domup_Grow.f k g l kp = some (r1, r2, r3)) :
    Calls Try.prog 39 #[.agg #[.slice A0 g.length c0, .slice A1 l.length c1, .bool kp]] w fun e w' => ∃ v0_ v1_ : Value, e = .returned (.agg #[v0_, v1_, .bool r3]) ∧ Kd.S (Kd.slice 3 (Kd.int .i64)) 25 w' w.heap.size (fun k_ => some k_ ≠ (v1_ : Value).ownBlock) v0_ r1 ∧ Kd.R (Kd.int .i64) 3 w' w.heap.size (fun _ => True) v1_ r2 ∧ Below w.heap.size w w' := by
  unfold domup_Grow.f at h
  obtain ⟨l2, hl2, h⟩ := Option.bind_eq_some_iff.1 h
  split at h
  case isFalse => cases h
  rename_i hcond
  have hs := smallB_iff.1 hcond.1
  have hll := hcond.2.1
  have hkp := madeB_iff hcond.2.2
  simp only [Option.some.injEq, Prod.mk.injEq] at h
  obtain ⟨rfl, er2, rfl⟩ := h
  have hu := Try.underlying40
  have hcl := clean_len g
  have hgn := hs.2
  have hD2 := idoms_dom hs hl2
  have hE2 : Ev (fun k => dom_Idoms.f k g) l2 := Ev.of (fun k => dom_Idoms.mono g k) hl2
  have hl2n : l2.length = g.length := by rw [hD2.len, hcl]
  have hfc : fits (clean g) = true := fits_clean hs.1
  have hst : StC w A0 c0 A1 c1 g l := ⟨hr0, hc0, hr1, hc1⟩
  have HSA := Aside0.mk (fun W (hW : Below w.heap.size w W) => sane_c A0 c0 g A1 c1 l kp l2 w W hW hst hs.1 ⟨hll, by omega⟩ hE2 hkp)
  have HCN : Aside0 (∀ W AG cG AI cI, StC W AG cG AI cI (clean g) l2 → Calls Try.prog 19 #[.slice AG (clean g).length cG] W fun e w' => ∃ v0_ : Value, e = .returned v0_ ∧ Kd.S (Kd.slice 3 (Kd.int .i64)) 25 w' W.heap.size (fun _ => True) v0_ (clean g) ∧ Below W.heap.size W w') :=
    ⟨fun W AG cG AI cI h => graph_Clean.calls AG cG (clean g) (clean g) W h.gr h.gc (by unfold graph_Clean.f; rw [if_pos hfc, clean_clean])⟩
  have HCL : Aside0 (∀ W AG cG AI cI, StC W AG cG AI cI (clean g) l2 → Calls Try.prog 46 #[.slice AI l2.length cI] W fun e w' => ∃ v, e = .returned v ∧ dI.R 3 w' W.heap.size (fun _ => True) v l2 ∧ Below W.heap.size W w') := ⟨fun W AG cG AI cI h => clone_c AI cI l2 W h.ii (by omega)⟩
  obtain ⟨n, en⟩ : ∃ n, n = (clean g).length := ⟨_, rfl⟩
  have enl : l2.length = n := by rw [en, hcl, hl2n]
  have hn9 : n ≤ 900 := by rw [en, hcl]; exact hgn
  rw [← en] at HCN
  rw [enl] at HCL
  have HNG : Aside0 (g.length = n) := ⟨by rw [en, hcl]⟩
  have HN := Aside0.mk (And.intro en.symm enl)
  have HR2 : Aside0 ((n = 0 → r2 = l2 ++ [-1]) ∧ (n ≠ 0 → r2 = l2 ++ [-2])) := ⟨⟨fun e => by rw [← er2, if_pos (by have := HNG.out; omega)], fun e => by rw [← er2, if_neg (by have := HNG.out; omega)]⟩⟩
  obtain ⟨n0, en0⟩ : ∃ n0, n0 = g.length := ⟨_, rfl⟩
  obtain ⟨n1, en1⟩ : ∃ n1, n1 = l.length := ⟨_, rfl⟩
  rw [← en0, ← en1] at HSA
  rw [← en0, ← en1]
  clear hr0 hc0 hr1 hc1 hcond hs hll hkp hl2 hcl hgn hD2 hE2 hl2n hfc hst en enl en0 en1 er2
  go_enter Try.func39, Try.ntmps39
  go_upto_region 2 with (go_at_call 60; refine (HSA.out _ (below_alloc (below_alloc (Below.refl _ _) _) _)).mono ?_; rintro e w1 ⟨AG, cG, AI, cI, kp', rfl, hst1, hb1⟩; have HS1 := Aside0.mk hst1; have HB1 := Aside0.mk hb1; obtain ⟨hp, hq, hs3, hw3⟩ := two_boxes hb1; have f0 := frozen_of_blk 0 hp; have f1 := frozen_of_blk 1 hp; have f2 := frozen_of_blk 2 hp; have d0 := cell_of_blk (j := 0) hp rfl; have d1 := cell_of_blk (j := 1) hp rfl; have d2 := cell_of_blk (j := 2) hp rfl; have HP := Aside0.mk hp; have HQ := Aside0.mk hq; have HW3 := Aside0.mk hw3; clear hst1 hb1 hp hq hw3; rw [HN.out.1, HN.out.2])
  obtain ⟨W1, hW1⟩ : ∃ W1, W1 = (((w1.setCell ⟨w.heap.size, 0, none⟩ (.slice AG n cG)).setCell ⟨w.heap.size, 1, none⟩ (.slice AI n cI)).setCell ⟨w.heap.size, 2, none⟩ (.bool kp')) := ⟨_, rfl⟩
  have hB3 : W1.heap[w.heap.size]? = some (.cells #[.slice AG n cG, .slice AI n cI, .bool kp'] 40 (0, 0)) := by rw [hW1]; exact three_put HP.out _ _ _
  have hB6 : W1.heap[w.heap.size + 1]? = some (.cells #[.slice none 0 0, .slice none 0 0, .bool false] 40 (0, 0)) := by rw [hW1]; exact (three_other (by omega) _ _ _).trans HQ.out
  have hBW : Below w.heap.size w W1 := by rw [hW1]; exact three_below HW3.out (Nat.le_refl _) _ _ _
  have hst1 : StC W1 AG cG AI cI (clean g) l2 := HS1.out W1 hBW (fun k h1 h2 => by rw [hW1]; exact three_other (by simp only [size_alloc1] at h1; omega) _ _ _)
  rw [← hW1]
  clear hW1 f0 f1 f2 d0 d1 d2 HP HQ HW3 HS1 HB1 hs3 HSA
  have hs1 := lt_of_heap hB6
  have HS1 := Aside0.mk hs1
  have HB6 := Aside0.mk hB6
  have HBW := Aside0.mk hBW
  have HST := Aside0.mk hst1
  have HKE : Aside0 (∀ W, Below W1.heap.size W1 W → W.cell? ⟨w.heap.size, 0, none⟩ = some (.slice AG n cG) ∧ W.cell? ⟨w.heap.size, 1, none⟩ = some (.slice AI n cI)) := ⟨fun W hW => ⟨cell_of_blk (j := 0) (heap_bel hB3 hW) rfl, cell_of_blk (j := 1) (heap_bel hB3 hW) rfl⟩⟩
  obtain ⟨p0, p1⟩ := HKE.out W1 (Below.refl _ _)
  have HF6 : Aside0 (∀ W, Below W1.heap.size W1 W → (W.frozen? ⟨w.heap.size + 1, 0, none⟩ = false ∧ W.frozen? ⟨w.heap.size + 1, 1, none⟩ = false ∧ W.frozen? ⟨w.heap.size + 1, 2, none⟩ = false) ∧ (W.cell? ⟨w.heap.size + 1, 0, none⟩ = some (.slice none 0 0) ∧ W.cell? ⟨w.heap.size + 1, 1, none⟩ = some (.slice none 0 0) ∧ W.cell? ⟨w.heap.size + 1, 2, none⟩ = some (.bool false)) ∧ W.heap[w.heap.size + 1]? = some (.cells #[.slice none 0 0, .slice none 0 0, .bool false] 40 (0, 0))) := ⟨fun W hW => by
    have h := heap_bel HB6.out hW
    exact ⟨⟨frozen_of_blk 0 h, frozen_of_blk 1 h, frozen_of_blk 2 h⟩, ⟨cell_of_blk (j := 0) h rfl, cell_of_blk (j := 1) h rfl, cell_of_blk (j := 2) h rfl⟩, h⟩⟩
  have HKS : Aside0 (∀ (W : World) v0 v1 v2, Below W1.heap.size W1 W → (((W.setCell ⟨w.heap.size + 1, 0, none⟩ v0).setCell ⟨w.heap.size + 1, 1, none⟩ v1).setCell ⟨w.heap.size + 1, 2, none⟩ v2).cell? ⟨w.heap.size, 0, none⟩ = some (.slice AG n cG) ∧ (((W.setCell ⟨w.heap.size + 1, 0, none⟩ v0).setCell ⟨w.heap.size + 1, 1, none⟩ v1).setCell ⟨w.heap.size + 1, 2, none⟩ v2).cell? ⟨w.heap.size, 1, none⟩ = some (.slice AI n cI)) := ⟨fun W v0 v1 v2 hW => by
    have h := (three_other (W := W) (b := w.heap.size + 1) (k := w.heap.size) (by omega) v0 v1 v2).trans (heap_bel hB3 hW)
    exact ⟨cell_of_blk (j := 0) h rfl, cell_of_blk (j := 1) h rfl⟩⟩
  clear hB3 hB6 hBW hst1 hs1
  have HC1 := Aside0.mk (fun W (hW : Below W1.heap.size W1 W) => HCN.out W AG cG AI cI (HST.out.below hW))
  have HC2 := Aside0.mk (fun W (hW : Below W1.heap.size W1 W) => HCL.out W AG cG AI cI (HST.out.below hW))
  clear HCN HCL
  by_cases hn0 : n = 0
  · have c0 : ((n : Int) == 0) = true := by simp; omega
    have HOW := Aside0.mk (HR2.out.1 hn0)
    clear hn0
    go_upto_region 5 with (fail)
    obtain ⟨ow, how⟩ : ∃ ow : Int, ow = -1 := ⟨_, rfl⟩
    rw [← how] at HOW
    rw [← how]
    clear how c0
    go_region_held3 (fun W => W.cell? ⟨w.heap.size, 0, none⟩ = some (.slice AG n cG) ∧ W.cell? ⟨w.heap.size, 1, none⟩ = some (.slice AI n cI))
      (first | with_reducible exact HKS.out _ _ _ _ HB20.out | exact HKE.out _ (by repeat (first | with_reducible exact HB20.out | with_reducible exact HB17.out | with_reducible exact HB14.out | with_reducible exact HB12.out | with_reducible exact Below.refl _ _ | apply below_alloc | apply pw_below_drewN | apply below_drew1 | apply below_drew)))
      (first
        | (go_at_call 19; refine bel_call (w := W1) (HC1.out _) (by repeat (first | with_reducible exact HB20.out | with_reducible exact HB17.out | with_reducible exact HB14.out | with_reducible exact HB12.out | with_reducible exact Below.refl _ _ | apply below_alloc | apply pw_below_drewN | apply below_drew1 | apply below_drew)) ?_; rintro e w12 ⟨v12, rfl, ho12, hb12⟩ hW; obtain ⟨A12, c12, rfl, _⟩ := Kd.S_reads ho12; rw [HN.out.1]; have HS12 := Aside0.mk (fun W (hW2 : Below w12.heap.size w12 W) => Kd.S_lower (Kd.S_mono (ok' := fun k => W1.heap.size ≤ k) (Kd.S_below (Kd.S_bound ho12) hW2) (fun k hk => Nat.le_trans hW.size hk.2.1)) hW.size); have HOW12 := Aside0.mk (fun j (e : (Value.slice A12 (clean g).length c12).ownBlock = some j) => And.intro (Kd.S_base ho12 j e) (Kd.S_lt ho12 j e)); rw [HN.out.1] at HS12 HOW12; have HB12 := Aside0.mk (hW.trans (hb12.mono hW.size)); have HBx12 := Aside0.mk hb12; clear ho12 hb12 hW)
        | (refine S_nil_step (w0 := W1) W1.heap.size rfl (.tmp 12) (.tmp 13) rfl Try.underlying22 info25 (.slice A12 n c12) (clean g) _ _ (fun k => W1.heap.size ≤ k) rfl rfl ?hc (fun k hk => Nat.le_trans (Below.size (by repeat (first | with_reducible exact HB20.out | with_reducible exact HB17.out | with_reducible exact HB14.out | with_reducible exact HB12.out | with_reducible exact Below.refl _ _ | apply below_alloc | apply pw_below_drewN | apply below_drew1 | apply below_drew))) hk) (HS12.out _ (by repeat (first | with_reducible exact Below.refl _ _ | apply below_alloc | apply pw_below_drewN | apply below_drew1 | apply below_drew))) (by repeat (first | with_reducible exact HB20.out | with_reducible exact HB17.out | with_reducible exact HB14.out | with_reducible exact HB12.out | with_reducible exact Below.refl _ _ | apply below_alloc | apply pw_below_drewN | apply below_drew1 | apply below_drew)) (Below.size (by repeat (first | with_reducible exact HB20.out | with_reducible exact HB17.out | with_reducible exact HB14.out | with_reducible exact HB12.out | with_reducible exact Below.refl _ _ | apply below_alloc | apply pw_below_drewN | apply below_drew1 | apply below_drew))) (by have := HN.out.1; omega) ?_; (case hc => repeat (first | exact cell_new _ _ _ | exact World.cell?_alloc_at _ _ _ _ (by simp) | apply cell?_alloc_some | refine cell_bel HBx17.out ?_ | refine cell_grown HG14.out (fun e => by have := HOW12.out _ e.symm; simp only [size_alloc1, size_drew1, size_drewN1] at *; omega) ?_ | refine cell_bel HBx12.out ?_)); intro v14 w14 ho14 hb14 hg14 _; obtain ⟨A14, c14, rfl, _⟩ := Kd.S_reads ho14; have HO14 := Aside0.mk ho14; have HB14 := Aside0.mk hb14; have HG14 := Aside0.mk hg14; clear ho14 hb14 hg14)
        | (go_at_call 46; refine bel_call (w := w14) (fun hW => HC2.out _ (HB14.out.trans (hW.mono HB14.out.size))) (by repeat (first | with_reducible exact Below.refl _ _ | apply below_alloc | apply pw_below_drewN | apply below_drew1 | apply below_drew)) ?_; rintro e w17 ⟨v17, rfl, ho17, hb17⟩ hW; obtain ⟨A17, c17, rfl⟩ := Kd.R_slice ho17; rw [HN.out.2]; have hle := Nat.le_trans HB14.out.size hW.size; have HR17 := Aside0.mk (fun W (hW2 : Below w17.heap.size w17 W) => Kd.R_lower (Kd.R_mono (ok' := fun k => W1.heap.size ≤ k) (Kd.R_below (Kd.R_bound ho17) hW2) (fun k hk => Nat.le_trans hle hk.2.1)) hle); have HOW17 := Aside0.mk (fun j (e : (Value.slice A17 l2.length c17).ownBlock = some j) => Nat.le_trans hW.size (Kd.R_base ho17 j e)); rw [HN.out.2] at HR17 HOW17; have HB1417 := Aside0.mk (hW.trans (hb17.mono hW.size)); have HB17 := Aside0.mk (HB14.out.trans (HB1417.out.mono HB14.out.size)); have HBx17 := Aside0.mk hb17; clear ho17 hb17 hW hle)
        | (refine R_one_step (w0 := W1) W1.heap.size rfl (.tmp 17) (.tmp 19) rfl Try.underlying25 info3 (.slice A17 n c17) l2 ow _ _ (fun k => W1.heap.size ≤ k) rfl rfl ?hc (fun k hk => Nat.le_trans (Below.size (by repeat (first | with_reducible exact HB20.out | with_reducible exact HB17.out | with_reducible exact HB14.out | with_reducible exact HB12.out | with_reducible exact Below.refl _ _ | apply below_alloc | apply pw_below_drewN | apply below_drew1 | apply below_drew))) hk) (HR17.out _ (by repeat (first | with_reducible exact Below.refl _ _ | apply below_alloc | apply pw_below_drewN | apply below_drew1 | apply below_drew))) (by repeat (first | with_reducible exact HB20.out | with_reducible exact HB17.out | with_reducible exact HB14.out | with_reducible exact HB12.out | with_reducible exact Below.refl _ _ | apply below_alloc | apply pw_below_drewN | apply below_drew1 | apply below_drew)) (Below.size (by repeat (first | with_reducible exact HB20.out | with_reducible exact HB17.out | with_reducible exact HB14.out | with_reducible exact HB12.out | with_reducible exact Below.refl _ _ | apply below_alloc | apply pw_below_drewN | apply below_drew1 | apply below_drew))) (by have := HN.out.2; omega) ?_; (case hc => repeat (first | exact cell_new _ _ _ | exact World.cell?_alloc_at _ _ _ _ (by simp) | apply cell?_alloc_some | refine cell_bel HBx17.out ?_ | refine cell_grown HG14.out (fun e => by have := HOW12.out _ e.symm; simp only [size_alloc1, size_drew1] at *; omega) ?_ | refine cell_bel HBx12.out ?_)); intro v20 w20 ho20 hb20 hg20 hat20; have HK20 := Aside0.mk (fun k (hk : k < w14.heap.size) => keep_grown hg20 (by repeat (first | with_reducible exact Below.refl _ _ | with_reducible exact HB1417.out | apply below_alloc | apply pw_below_drewN | apply below_drew1 | apply below_drew)) HOW17.out hk); have hob20 := own_after hat20 HOW17.out (Below.size (by repeat (first | with_reducible exact Below.refl _ _ | with_reducible exact HB1417.out | apply below_alloc | apply pw_below_drewN | apply below_drew1 | apply below_drew))); obtain ⟨A20, c20, rfl⟩ := Kd.R_slice ho20; have HOB20 := Aside0.mk hob20; have HO20 := Aside0.mk ho20; have HB20 := Aside0.mk hb20; have HG20 := Aside0.mk hg20; obtain ⟨⟨f0, f1, f2⟩, ⟨d0, d1, d2⟩, hz⟩ := HF6.out _ hb20; have HZ := Aside0.mk hz; clear ho20 hb20 hg20 hz hat20 hob20))
    all_goals go_wp2
    all_goals (refine bodyPost_ret (results_cell_row rfl _ _ (w.heap.size + 1) 40 #[.slice A14 ((clean g).length + 1) c14, .slice A20 (l2.length + 1) c20, .bool true] (0, 0) _ rfl (three_put HZ.out _ _ _) hu rfl (by kernel_rfl)) rfl ?_)
    all_goals (have hs1 := HS1.out; have e1 := grow_end (w := w) (wz := (((w20.setCell ⟨w.heap.size + 1, 0, none⟩ (.slice A14 ((clean g).length + 1) c14)).setCell ⟨w.heap.size + 1, 1, none⟩ (.slice A20 (l2.length + 1) c20)).setCell ⟨w.heap.size + 1, 2, none⟩ (.bool true))) (by omega) HO14.out HO20.out HK20.out HOB20.out (fun k hk => three_other (by omega) _ _ _); simp only [List.length_append, List.length_singleton] at e1; rw [HOW.out]; exact ⟨_, _, rfl, e1.1, e1.2, three_below (HBW.out.trans (HB20.out.mono HBW.out.size)) (Nat.le_succ _) _ _ _⟩)
  · have c0 : ((n : Int) == 0) = false := by simp; omega
    have HOW := Aside0.mk (HR2.out.2 hn0)
    clear hn0
    go_upto_region 5 with (fail)
    obtain ⟨ow, how⟩ : ∃ ow : Int, ow = -2 := ⟨_, rfl⟩
    rw [← how] at HOW
    rw [← how]
    clear how c0
    go_region_held3 (fun W => W.cell? ⟨w.heap.size, 0, none⟩ = some (.slice AG n cG) ∧ W.cell? ⟨w.heap.size, 1, none⟩ = some (.slice AI n cI))
      (first | with_reducible exact HKS.out _ _ _ _ HB20.out | exact HKE.out _ (by repeat (first | with_reducible exact HB20.out | with_reducible exact HB17.out | with_reducible exact HB14.out | with_reducible exact HB12.out | with_reducible exact Below.refl _ _ | apply below_alloc | apply pw_below_drewN | apply below_drew1 | apply below_drew)))
      (first
        | (go_at_call 19; refine bel_call (w := W1) (HC1.out _) (by repeat (first | with_reducible exact HB20.out | with_reducible exact HB17.out | with_reducible exact HB14.out | with_reducible exact HB12.out | with_reducible exact Below.refl _ _ | apply below_alloc | apply pw_below_drewN | apply below_drew1 | apply below_drew)) ?_; rintro e w12 ⟨v12, rfl, ho12, hb12⟩ hW; obtain ⟨A12, c12, rfl, _⟩ := Kd.S_reads ho12; rw [HN.out.1]; have HS12 := Aside0.mk (fun W (hW2 : Below w12.heap.size w12 W) => Kd.S_lower (Kd.S_mono (ok' := fun k => W1.heap.size ≤ k) (Kd.S_below (Kd.S_bound ho12) hW2) (fun k hk => Nat.le_trans hW.size hk.2.1)) hW.size); have HOW12 := Aside0.mk (fun j (e : (Value.slice A12 (clean g).length c12).ownBlock = some j) => And.intro (Kd.S_base ho12 j e) (Kd.S_lt ho12 j e)); rw [HN.out.1] at HS12 HOW12; have HB12 := Aside0.mk (hW.trans (hb12.mono hW.size)); have HBx12 := Aside0.mk hb12; clear ho12 hb12 hW)
        | (refine S_nil_step (w0 := W1) W1.heap.size rfl (.tmp 12) (.tmp 13) rfl Try.underlying22 info25 (.slice A12 n c12) (clean g) _ _ (fun k => W1.heap.size ≤ k) rfl rfl ?hc (fun k hk => Nat.le_trans (Below.size (by repeat (first | with_reducible exact HB20.out | with_reducible exact HB17.out | with_reducible exact HB14.out | with_reducible exact HB12.out | with_reducible exact Below.refl _ _ | apply below_alloc | apply pw_below_drewN | apply below_drew1 | apply below_drew))) hk) (HS12.out _ (by repeat (first | with_reducible exact Below.refl _ _ | apply below_alloc | apply pw_below_drewN | apply below_drew1 | apply below_drew))) (by repeat (first | with_reducible exact HB20.out | with_reducible exact HB17.out | with_reducible exact HB14.out | with_reducible exact HB12.out | with_reducible exact Below.refl _ _ | apply below_alloc | apply pw_below_drewN | apply below_drew1 | apply below_drew)) (Below.size (by repeat (first | with_reducible exact HB20.out | with_reducible exact HB17.out | with_reducible exact HB14.out | with_reducible exact HB12.out | with_reducible exact Below.refl _ _ | apply below_alloc | apply pw_below_drewN | apply below_drew1 | apply below_drew))) (by have := HN.out.1; omega) ?_; (case hc => repeat (first | exact cell_new _ _ _ | exact World.cell?_alloc_at _ _ _ _ (by simp) | apply cell?_alloc_some | refine cell_bel HBx17.out ?_ | refine cell_grown HG14.out (fun e => by have := HOW12.out _ e.symm; simp only [size_alloc1, size_drew1, size_drewN1] at *; omega) ?_ | refine cell_bel HBx12.out ?_)); intro v14 w14 ho14 hb14 hg14 _; obtain ⟨A14, c14, rfl, _⟩ := Kd.S_reads ho14; have HO14 := Aside0.mk ho14; have HB14 := Aside0.mk hb14; have HG14 := Aside0.mk hg14; clear ho14 hb14 hg14)
        | (go_at_call 46; refine bel_call (w := w14) (fun hW => HC2.out _ (HB14.out.trans (hW.mono HB14.out.size))) (by repeat (first | with_reducible exact Below.refl _ _ | apply below_alloc | apply pw_below_drewN | apply below_drew1 | apply below_drew)) ?_; rintro e w17 ⟨v17, rfl, ho17, hb17⟩ hW; obtain ⟨A17, c17, rfl⟩ := Kd.R_slice ho17; rw [HN.out.2]; have hle := Nat.le_trans HB14.out.size hW.size; have HR17 := Aside0.mk (fun W (hW2 : Below w17.heap.size w17 W) => Kd.R_lower (Kd.R_mono (ok' := fun k => W1.heap.size ≤ k) (Kd.R_below (Kd.R_bound ho17) hW2) (fun k hk => Nat.le_trans hle hk.2.1)) hle); have HOW17 := Aside0.mk (fun j (e : (Value.slice A17 l2.length c17).ownBlock = some j) => Nat.le_trans hW.size (Kd.R_base ho17 j e)); rw [HN.out.2] at HR17 HOW17; have HB1417 := Aside0.mk (hW.trans (hb17.mono hW.size)); have HB17 := Aside0.mk (HB14.out.trans (HB1417.out.mono HB14.out.size)); have HBx17 := Aside0.mk hb17; clear ho17 hb17 hW hle)
        | (refine R_one_step (w0 := W1) W1.heap.size rfl (.tmp 17) (.tmp 19) rfl Try.underlying25 info3 (.slice A17 n c17) l2 ow _ _ (fun k => W1.heap.size ≤ k) rfl rfl ?hc (fun k hk => Nat.le_trans (Below.size (by repeat (first | with_reducible exact HB20.out | with_reducible exact HB17.out | with_reducible exact HB14.out | with_reducible exact HB12.out | with_reducible exact Below.refl _ _ | apply below_alloc | apply pw_below_drewN | apply below_drew1 | apply below_drew))) hk) (HR17.out _ (by repeat (first | with_reducible exact Below.refl _ _ | apply below_alloc | apply pw_below_drewN | apply below_drew1 | apply below_drew))) (by repeat (first | with_reducible exact HB20.out | with_reducible exact HB17.out | with_reducible exact HB14.out | with_reducible exact HB12.out | with_reducible exact Below.refl _ _ | apply below_alloc | apply pw_below_drewN | apply below_drew1 | apply below_drew)) (Below.size (by repeat (first | with_reducible exact HB20.out | with_reducible exact HB17.out | with_reducible exact HB14.out | with_reducible exact HB12.out | with_reducible exact Below.refl _ _ | apply below_alloc | apply pw_below_drewN | apply below_drew1 | apply below_drew))) (by have := HN.out.2; omega) ?_; (case hc => repeat (first | exact cell_new _ _ _ | exact World.cell?_alloc_at _ _ _ _ (by simp) | apply cell?_alloc_some | refine cell_bel HBx17.out ?_ | refine cell_grown HG14.out (fun e => by have := HOW12.out _ e.symm; simp only [size_alloc1, size_drew1] at *; omega) ?_ | refine cell_bel HBx12.out ?_)); intro v20 w20 ho20 hb20 hg20 hat20; have HK20 := Aside0.mk (fun k (hk : k < w14.heap.size) => keep_grown hg20 (by repeat (first | with_reducible exact Below.refl _ _ | with_reducible exact HB1417.out | apply below_alloc | apply pw_below_drewN | apply below_drew1 | apply below_drew)) HOW17.out hk); have hob20 := own_after hat20 HOW17.out (Below.size (by repeat (first | with_reducible exact Below.refl _ _ | with_reducible exact HB1417.out | apply below_alloc | apply pw_below_drewN | apply below_drew1 | apply below_drew))); obtain ⟨A20, c20, rfl⟩ := Kd.R_slice ho20; have HOB20 := Aside0.mk hob20; have HO20 := Aside0.mk ho20; have HB20 := Aside0.mk hb20; have HG20 := Aside0.mk hg20; obtain ⟨⟨f0, f1, f2⟩, ⟨d0, d1, d2⟩, hz⟩ := HF6.out _ hb20; have HZ := Aside0.mk hz; clear ho20 hb20 hg20 hz hat20 hob20))
    all_goals go_wp2
    all_goals (refine bodyPost_ret (results_cell_row rfl _ _ (w.heap.size + 1) 40 #[.slice A14 ((clean g).length + 1) c14, .slice A20 (l2.length + 1) c20, .bool true] (0, 0) _ rfl (three_put HZ.out _ _ _) hu rfl (by kernel_rfl)) rfl ?_)
    all_goals (have hs1 := HS1.out; have e1 := grow_end (w := w) (wz := (((w20.setCell ⟨w.heap.size + 1, 0, none⟩ (.slice A14 ((clean g).length + 1) c14)).setCell ⟨w.heap.size + 1, 1, none⟩ (.slice A20 (l2.length + 1) c20)).setCell ⟨w.heap.size + 1, 2, none⟩ (.bool true))) (by omega) HO14.out HO20.out HK20.out HOB20.out (fun k hk => three_other (by omega) _ _ _); simp only [List.length_append, List.length_singleton] at e1; rw [HOW.out]; exact ⟨_, _, rfl, e1.1, e1.2, three_below (HBW.out.trans (HB20.out.mono HBW.out.size)) (Nat.le_succ _) _ _ _⟩)
end Go.Proofs.Ytemcmcnhpdkdfaa.P
namespace Go.Proofs.Ytemcmcnhpdkdfaa.P
open Go.RowKit Go.Proofs.YtemcmcnhpdkdfaaW.PrintWords Go.Proofs.YtemcmcnhpdkdfaaW.PrintLast Go.Proofs.YtemcmcnhpdkdfaaW.PrintMore
attribute [local go_sem] max2_int min2_int max_two min_two max_three min_three max_four min_four
set_option linter.unusedVariables false
set_option linter.unusedSimpArgs false
mutual
def bywashlaw15_DomupPlays.j0 : Nat → List (List Int) → List (S53) → Bool → Bool → Option (Bool)
  | 0, _, _, _, _ => none
  | k + 1, x0, x1, x5, x25 => if x25 = true then (some x5) else ((domup_New.f k x0).bind fun bt655 => (bywashlaw15_DomupPlays.l0 k x0 x1 x5 0 bt655.1 bt655.2.1 bt655.2.2))
def bywashlaw15_DomupPlays.l0 : Nat → List (List Int) → List (S53) → Bool → Int → List (List Int) → List Int → Bool → Option (Bool)
  | 0, _, _, _, _, _, _, _ => none
  | k + 1, x0, x1, x5, x7, x663000, x663001, x663002 => if x7 < (x1.length : Int) then (if 0 ≤ x7 then (if ((rd_T53 x1 x7).f0) = 0 then ((domup_Add.f k x663000 x663001 x663002 ((rd_T53 x1 x7).f1) ((rd_T53 x1 x7).f2)).bind fun bt666 => (bywashlaw15_DomupPlays.j2 k x0 x1 x5 x7 bt666.1 bt666.2.1 bt666.2.2.1)) else (if ((rd_T53 x1 x7).f0) = 1 then ((domup_Del.f k x663000 x663001 x663002 ((rd_T53 x1 x7).f1) ((rd_T53 x1 x7).f2)).bind fun bt679 => (bywashlaw15_DomupPlays.j2 k x0 x1 x5 x7 bt679.1 bt679.2.1 bt679.2.2.1)) else ((domup_Grow.f k x663000 x663001 x663002).bind fun bt690 => (bywashlaw15_DomupPlays.j2 k x0 x1 x5 x7 bt690.1 bt690.2.1 bt690.2.2)))) else (none)) else (if x5 = true then (some (decide ((x663000.length : Int) ≥ (x0.length : Int)))) else (some false))
def bywashlaw15_DomupPlays.j2 : Nat → List (List Int) → List (S53) → Bool → Int → List (List Int) → List Int → Bool → Option (Bool)
  | 0, _, _, _, _, _, _, _ => none
  | k + 1, x0, x1, x5, x7, x663000, x663001, x663002 => (dom_Idoms.f k x663000).bind fun t697 => ((bywashref01_Ints.f k x663001 t697).bind fun t700 => (if t700 = true then ((domup_Sane.f k x663000 x663001 x663002).bind fun t701 => (if t701 = true then (bywashlaw15_DomupPlays.l0 k x0 x1 x5 (wrap64 (x7 + 1)) x663000 x663001 x663002) else (some false))) else (some false)))
end
def bywashlaw15_DomupPlays.f (k : Nat) (l0 : List (List Int)) (l1 : List (S53)) : Option (Bool) := (bywashlaw15_awake.f k).bind fun t653 => ((bywashref10_Few.f k l0).bind fun t654 => (if t654 = true then (if (l0.length : Int) > 30 then (bywashlaw15_DomupPlays.j0 k l0 l1 t653 true) else (bywashlaw15_DomupPlays.j0 k l0 l1 t653 (decide ((l1.length : Int) > 40)))) else (bywashlaw15_DomupPlays.j0 k l0 l1 t653 true)))
theorem bywashlaw15_DomupPlays.mono_l : ∀ k, (∀ y0 y1 y2 y3, LeO (bywashlaw15_DomupPlays.j0 k y0 y1 y2 y3) (bywashlaw15_DomupPlays.j0 (k + 1) y0 y1 y2 y3)) ∧ (∀ y0 y1 y2 y3 y4 y5 y6, LeO (bywashlaw15_DomupPlays.l0 k y0 y1 y2 y3 y4 y5 y6) (bywashlaw15_DomupPlays.l0 (k + 1) y0 y1 y2 y3 y4 y5 y6)) ∧ (∀ y0 y1 y2 y3 y4 y5 y6, LeO (bywashlaw15_DomupPlays.j2 k y0 y1 y2 y3 y4 y5 y6) (bywashlaw15_DomupPlays.j2 (k + 1) y0 y1 y2 y3 y4 y5 y6))
  | 0 => ⟨fun _ _ _ _ r h => by simp [bywashlaw15_DomupPlays.j0] at h, fun _ _ _ _ _ _ _ r h => by simp [bywashlaw15_DomupPlays.l0] at h, fun _ _ _ _ _ _ _ r h => by simp [bywashlaw15_DomupPlays.j2] at h⟩
  | k + 1 => by
    obtain ⟨ih0, ih1, ih2⟩ := bywashlaw15_DomupPlays.mono_l k
    refine ⟨?_, ?_, ?_⟩
    · intro y0 y1 y2 y3
      unfold bywashlaw15_DomupPlays.j0
      repeat' first
      | (with_reducible exact ih0 _ _ _ _)
      | (with_reducible exact ih1 _ _ _ _ _ _ _)
      | (with_reducible exact ih2 _ _ _ _ _ _ _)
      | (with_reducible exact bywashlaw15_awake.mono _)
      | (with_reducible exact bywashref01_Ints.mono _ _ _)
      | (with_reducible exact bywashref10_Few.mono _ _)
      | (with_reducible exact dom_Idoms.mono _ _)
      | (with_reducible exact domup_Add.mono _ _ _ _ _ _)
      | (with_reducible exact domup_Del.mono _ _ _ _ _ _)
      | (with_reducible exact domup_Grow.mono _ _ _ _)
      | (with_reducible exact domup_New.mono _ _)
      | (with_reducible exact domup_Sane.mono _ _ _ _)
      | (with_reducible exact LeO.refl _)
      | (with_reducible exact LeO.none _)
      | (with_reducible refine LeO.ite ?_ ?_)
      | (with_reducible refine LeO.bind ?_ (fun _ => ?_))
      | exact ih0 _ _ _ _
      | exact ih1 _ _ _ _ _ _ _
      | exact ih2 _ _ _ _ _ _ _
      | exact bywashlaw15_awake.mono _
      | exact bywashref01_Ints.mono _ _ _
      | exact bywashref10_Few.mono _ _
      | exact dom_Idoms.mono _ _
      | exact domup_Add.mono _ _ _ _ _ _
      | exact domup_Del.mono _ _ _ _ _ _
      | exact domup_Grow.mono _ _ _ _
      | exact domup_New.mono _ _
      | exact domup_Sane.mono _ _ _ _
      | exact LeO.none _
      | refine LeO.ite ?_ ?_
      | refine LeO.bind ?_ (fun _ => ?_)
    · intro y0 y1 y2 y3 y4 y5 y6
      unfold bywashlaw15_DomupPlays.l0
      repeat' first
      | (with_reducible exact ih0 _ _ _ _)
      | (with_reducible exact ih1 _ _ _ _ _ _ _)
      | (with_reducible exact ih2 _ _ _ _ _ _ _)
      | (with_reducible exact bywashlaw15_awake.mono _)
      | (with_reducible exact bywashref01_Ints.mono _ _ _)
      | (with_reducible exact bywashref10_Few.mono _ _)
      | (with_reducible exact dom_Idoms.mono _ _)
      | (with_reducible exact domup_Add.mono _ _ _ _ _ _)
      | (with_reducible exact domup_Del.mono _ _ _ _ _ _)
      | (with_reducible exact domup_Grow.mono _ _ _ _)
      | (with_reducible exact domup_New.mono _ _)
      | (with_reducible exact domup_Sane.mono _ _ _ _)
      | (with_reducible exact LeO.refl _)
      | (with_reducible exact LeO.none _)
      | (with_reducible refine LeO.ite ?_ ?_)
      | (with_reducible refine LeO.bind ?_ (fun _ => ?_))
      | exact ih0 _ _ _ _
      | exact ih1 _ _ _ _ _ _ _
      | exact ih2 _ _ _ _ _ _ _
      | exact bywashlaw15_awake.mono _
      | exact bywashref01_Ints.mono _ _ _
      | exact bywashref10_Few.mono _ _
      | exact dom_Idoms.mono _ _
      | exact domup_Add.mono _ _ _ _ _ _
      | exact domup_Del.mono _ _ _ _ _ _
      | exact domup_Grow.mono _ _ _ _
      | exact domup_New.mono _ _
      | exact domup_Sane.mono _ _ _ _
      | exact LeO.none _
      | refine LeO.ite ?_ ?_
      | refine LeO.bind ?_ (fun _ => ?_)
    · intro y0 y1 y2 y3 y4 y5 y6
      unfold bywashlaw15_DomupPlays.j2
      repeat' first
      | (with_reducible exact ih0 _ _ _ _)
      | (with_reducible exact ih1 _ _ _ _ _ _ _)
      | (with_reducible exact ih2 _ _ _ _ _ _ _)
      | (with_reducible exact bywashlaw15_awake.mono _)
      | (with_reducible exact bywashref01_Ints.mono _ _ _)
      | (with_reducible exact bywashref10_Few.mono _ _)
      | (with_reducible exact dom_Idoms.mono _ _)
      | (with_reducible exact domup_Add.mono _ _ _ _ _ _)
      | (with_reducible exact domup_Del.mono _ _ _ _ _ _)
      | (with_reducible exact domup_Grow.mono _ _ _ _)
      | (with_reducible exact domup_New.mono _ _)
      | (with_reducible exact domup_Sane.mono _ _ _ _)
      | (with_reducible exact LeO.refl _)
      | (with_reducible exact LeO.none _)
      | (with_reducible refine LeO.ite ?_ ?_)
      | (with_reducible refine LeO.bind ?_ (fun _ => ?_))
      | exact ih0 _ _ _ _
      | exact ih1 _ _ _ _ _ _ _
      | exact ih2 _ _ _ _ _ _ _
      | exact bywashlaw15_awake.mono _
      | exact bywashref01_Ints.mono _ _ _
      | exact bywashref10_Few.mono _ _
      | exact dom_Idoms.mono _ _
      | exact domup_Add.mono _ _ _ _ _ _
      | exact domup_Del.mono _ _ _ _ _ _
      | exact domup_Grow.mono _ _ _ _
      | exact domup_New.mono _ _
      | exact domup_Sane.mono _ _ _ _
      | exact LeO.none _
      | refine LeO.ite ?_ ?_
      | refine LeO.bind ?_ (fun _ => ?_)
theorem bywashlaw15_DomupPlays.mono : ∀ a0 a1 k, LeO (bywashlaw15_DomupPlays.f k a0 a1) (bywashlaw15_DomupPlays.f (k + 1) a0 a1) := by
  intro a0 a1 k
  obtain ⟨ih0, ih1, ih2⟩ := bywashlaw15_DomupPlays.mono_l k
  unfold bywashlaw15_DomupPlays.f
  repeat' first
      | (with_reducible exact ih0 _ _ _ _)
      | (with_reducible exact ih1 _ _ _ _ _ _ _)
      | (with_reducible exact ih2 _ _ _ _ _ _ _)
      | (with_reducible exact bywashlaw15_awake.mono _)
      | (with_reducible exact bywashref01_Ints.mono _ _ _)
      | (with_reducible exact bywashref10_Few.mono _ _)
      | (with_reducible exact dom_Idoms.mono _ _)
      | (with_reducible exact domup_Add.mono _ _ _ _ _ _)
      | (with_reducible exact domup_Del.mono _ _ _ _ _ _)
      | (with_reducible exact domup_Grow.mono _ _ _ _)
      | (with_reducible exact domup_New.mono _ _)
      | (with_reducible exact domup_Sane.mono _ _ _ _)
      | (with_reducible exact LeO.refl _)
      | (with_reducible exact LeO.none _)
      | (with_reducible refine LeO.ite ?_ ?_)
      | (with_reducible refine LeO.bind ?_ (fun _ => ?_))
      | exact ih0 _ _ _ _
      | exact ih1 _ _ _ _ _ _ _
      | exact ih2 _ _ _ _ _ _ _
      | exact bywashlaw15_awake.mono _
      | exact bywashref01_Ints.mono _ _ _
      | exact bywashref10_Few.mono _ _
      | exact dom_Idoms.mono _ _
      | exact domup_Add.mono _ _ _ _ _ _
      | exact domup_Del.mono _ _ _ _ _ _
      | exact domup_Grow.mono _ _ _ _
      | exact domup_New.mono _ _
      | exact domup_Sane.mono _ _ _ _
      | exact LeO.none _
      | refine LeO.ite ?_ ?_
      | refine LeO.bind ?_ (fun _ => ?_)
def bywashlaw15_DomupPlays.T11 : Bool × List (List Nat × List Nat) := (true, [([], []), ([], []), ([], []), ([1, 2], [1, 2]), ([3], [3]), ([4], [4]), ([], []), ([], []), ([6, 7], [6, 7]), ([8], [8]), ([9], [9]), ([0, 5, 10], [0, 5, 10]), ([11], [11]), ([12], [12]), ([12], [12]), ([], []), ([15, 13, 11, 0, 1, 2, 3, 4, 5, 6, 7, 8, 9, 10, 11, 12, 13, 15], [13, 15]), ([14, 16, 0, 1, 2, 3, 4, 5, 6, 7, 8, 9, 10, 11, 12, 13, 14, 15, 16], [14])])
def bywashlaw15_DomupPlays.B11 : List Nat := [0, 0, 0, 6, 14, 30, 0, 0, 192, 448, 960, 2047, 4095, 8191, 8191, 0, 49151, 131071]
theorem bywashlaw15_DomupPlays.tab11 : rtab .any (opsOf Try.f12 11) = bywashlaw15_DomupPlays.T11 := by kernel_rfl
theorem bywashlaw15_DomupPlays.bits11 : waitsOk bywashlaw15_DomupPlays.T11.2 bywashlaw15_DomupPlays.B11 = true := by kernel_rfl
def bywashlaw15_DomupPlays.T14 : Bool × List (List Nat × List Nat) := (true, [([], []), ([], []), ([], []), ([1, 2], [1, 2]), ([3], [3]), ([4], [4]), ([], []), ([], []), ([6, 7], [6, 7]), ([8], [8]), ([9], [9]), ([0, 5, 10], [0, 5, 10]), ([11], [11]), ([12], [12]), ([12], [12]), ([], []), ([15, 13, 11, 0, 1, 2, 3, 4, 5, 6, 7, 8, 9, 10, 11, 12, 13, 15], [13, 15]), ([14, 16, 0, 1, 2, 3, 4, 5, 6, 7, 8, 9, 10, 11, 12, 13, 14, 15, 16], [14])])
def bywashlaw15_DomupPlays.B14 : List Nat := [0, 0, 0, 6, 14, 30, 0, 0, 192, 448, 960, 2047, 4095, 8191, 8191, 0, 49151, 131071]
theorem bywashlaw15_DomupPlays.tab14 : rtab .any (opsOf Try.f12 14) = bywashlaw15_DomupPlays.T14 := by kernel_rfl
theorem bywashlaw15_DomupPlays.bits14 : waitsOk bywashlaw15_DomupPlays.T14.2 bywashlaw15_DomupPlays.B14 = true := by kernel_rfl
def bywashlaw15_DomupPlays.T16 : Bool × List (List Nat × List Nat) := (true, [([], []), ([0], [0]), ([], []), ([2], [2]), ([3], [3]), ([1, 4, 4], [1, 4]), ([5], [5]), ([6, 5], [6]), ([7], [7]), ([8, 7, 7], [7, 8]), ([9, 7], [7, 9]), ([7, 10], [7, 10])])
def bywashlaw15_DomupPlays.B16 : List Nat := [0, 1, 0, 4, 12, 31, 63, 127, 255, 511, 1023, 2047]
theorem bywashlaw15_DomupPlays.tab16 : rtab .any (opsOf Try.f12 16) = bywashlaw15_DomupPlays.T16 := by kernel_rfl
theorem bywashlaw15_DomupPlays.bits16 : waitsOk bywashlaw15_DomupPlays.T16.2 bywashlaw15_DomupPlays.B16 = true := by kernel_rfl
set_option maxHeartbeats 8000000 in
set_option maxRecDepth 100000 in
theorem bywashlaw15_DomupPlays.calls (k : Nat) (A0 : Option Addr) (c0 : Nat) (l0 : List (List Int)) (A1 : Option Addr) (c1 : Nat) (l1 : List (S53)) (r : Bool) (w : World) (hr0 : Kd.C (Kd.slice 3 (Kd.int .i64)) w A0 l0.length l0) (hc0 : l0.length ≤ c0) (hr1 : Kd.C k53 w A1 l1.length l1) (hc1 : l1.length ≤ c1) (h : bywashlaw15_DomupPlays.f k l0 l1 = some r) :
    Calls Try.prog 12 #[.slice A0 l0.length c0, .slice A1 l1.length c1] w fun e w' => e = .returned (.bool r) ∧ Below w.heap.size w w' := by
  have hu40 := Try.underlying40
  have HR0 := Aside0.mk hr0
  have HC0 := Aside0.mk hc0
  clear hr0 hc0
  have HR1 := Aside0.mk hr1
  have HC1 := Aside0.mk hc1
  clear hr1 hc1
  have HB := Aside0.mk (Below.refl w.heap.size w)
  have H : ((bywashlaw15_awake.f k).bind fun t653 => ((bywashref10_Few.f k l0).bind fun t654 => (if t654 = true then (if (l0.length : Int) > 30 then (bywashlaw15_DomupPlays.j0 k l0 l1 t653 true) else (bywashlaw15_DomupPlays.j0 k l0 l1 t653 (decide ((l1.length : Int) > 40)))) else (bywashlaw15_DomupPlays.j0 k l0 l1 t653 true)))) = some r := h
  clear h
  replace H := Option.bind_eq_some_iff.mp H
  obtain ⟨t653, A30, H⟩ := H
  replace H : ((bywashref10_Few.f k l0).bind fun t654 => (if t654 = true then (if (l0.length : Int) > 30 then (bywashlaw15_DomupPlays.j0 k l0 l1 t653 true) else (bywashlaw15_DomupPlays.j0 k l0 l1 t653 (decide ((l1.length : Int) > 40)))) else (bywashlaw15_DomupPlays.j0 k l0 l1 t653 true))) = some r := H
  have A3 := Aside0.mk A30
  clear A30
  have HC4 := Aside0.mk H
  clear H
  go_enter Try.func12, Try.ntmps12
  go_upto_region 2 with (first | ((with_reducible refine gate_callee (f := 31) rfl ?_); refine goesL_ (some 12) rfl rfl Try.func31 (by kernel_rfl) rfl #[] rfl (by (try simp only [List.map_toArray, List.map_cons, List.map_nil]); first | done | rfl | (simp only [List.length_drop, List.length_take]; rfl)) ?_; (with_reducible refine (bywashlaw15_awake.calls k  t653 _ A3.out).mono ?_); rintro e w5 ⟨rfl, hb⟩; refine ⟨_, rfl, ?_⟩; have n0_ := Aside0.mk (below_step (by repeat (first | (with_reducible first | exact HB.out | apply below_alloc | apply pw_below_drewN | apply below_drew1) | exact HB.out)) hb); clear HB; have HB := n0_; clear n0_; (try clear hb); (try clear hb2); (try clear hk); (try clear hi)))
  (try simp only [Act.put, List.setIfInBounds_toArray, List.set_cons_zero, List.set_cons_succ])
  go_cut [25] (fun v25 wc => ∃ (kq : Nat) (x25_3 : Bool), v25 = .bool x25_3 ∧ Aside0 (bywashlaw15_DomupPlays.j0 kq l0 l1 t653 x25_3 = some r) ∧ Aside0 (kq ≤ k) ∧ Aside0 (Below w.heap.size w wc))
  case first =>
    have H := HC4.out
    clear HC4
    replace H := Option.bind_eq_some_iff.mp H
    obtain ⟨t654, A60, H⟩ := H
    replace H : (if t654 = true then (if (l0.length : Int) > 30 then (bywashlaw15_DomupPlays.j0 k l0 l1 t653 true) else (bywashlaw15_DomupPlays.j0 k l0 l1 t653 (decide ((l1.length : Int) > 40)))) else (bywashlaw15_DomupPlays.j0 k l0 l1 t653 true)) = some r := H
    have A6 := Aside0.mk A60
    clear A60
    by_cases c7 : t654 = true
    · subst c7
      have H1 : (if (l0.length : Int) > 30 then (bywashlaw15_DomupPlays.j0 k l0 l1 t653 true) else (bywashlaw15_DomupPlays.j0 k l0 l1 t653 (decide ((l1.length : Int) > 40)))) = some r := by rw [if_pos rfl] at H; exact H
      clear H
      have H := H1
      clear H1
      by_cases c8 : (l0.length : Int) > 30
      · rw [if_pos c8] at H
        have c8b0 : decide (30 < (l0.length : Int)) = true := decide_eq_true c8
        have c8b1 : decide (30 < l0.length) = true := decide_eq_true (by omega)
        clear c8
        (first | rw [c8b0] | (simp only [i64_w, i32_w]; rw [c8b0]) | skip)
        have H' := Aside0.mk H
        clear H
        go_wp2_with (first | ((with_reducible refine gate_callee (f := 14) rfl ?_); refine goesL_ (some 14) rfl rfl Try.func14 (by kernel_rfl) rfl #[.slice A0 l0.length c0] rfl (by (try simp only [List.map_toArray, List.map_cons, List.map_nil]); first | done | rfl | (simp only [List.length_drop, List.length_take]; rfl)) ?_; (with_reducible refine (bywashref10_Few.calls k _ _ l0 true _ ?side1 ?side2 A6.out).mono ?_); (case side1 => repeat (first | exact (Kd.C_below HR0.out HB.out) | (with_reducible refine Kd.C_alloc ?_ _) | (with_reducible refine Kd.C_drewN ?_ _) | (with_reducible refine Kd.C_drew ?_))); (case side2 => exact HC0.out); rintro e w' ⟨rfl, ⟨nd, rfl⟩⟩; refine ⟨_, rfl, ?_⟩))
        go_meet
        case rel => exact ⟨_, (true), (by first | rfl | (simp; done) | (simp [*]; done)), H', ⟨by first | omega | exact Nat.le_refl _⟩, ⟨by repeat (first | (with_reducible first | exact HB.out | apply below_alloc | apply pw_below_drewN | apply below_drew1) | exact HB.out)⟩⟩
      · rw [if_neg c8] at H
        have c8b0 : decide (30 < (l0.length : Int)) = false := decide_eq_false c8
        have c8b1 : decide (30 < l0.length) = false := decide_eq_false (by omega)
        clear c8
        (first | rw [c8b0] | (simp only [i64_w, i32_w]; rw [c8b0]) | skip)
        have H' := Aside0.mk H
        clear H
        go_wp2_with (first | ((with_reducible refine gate_callee (f := 14) rfl ?_); refine goesL_ (some 14) rfl rfl Try.func14 (by kernel_rfl) rfl #[.slice A0 l0.length c0] rfl (by (try simp only [List.map_toArray, List.map_cons, List.map_nil]); first | done | rfl | (simp only [List.length_drop, List.length_take]; rfl)) ?_; (with_reducible refine (bywashref10_Few.calls k _ _ l0 true _ ?side1 ?side2 A6.out).mono ?_); (case side1 => repeat (first | exact (Kd.C_below HR0.out HB.out) | (with_reducible refine Kd.C_alloc ?_ _) | (with_reducible refine Kd.C_drewN ?_ _) | (with_reducible refine Kd.C_drew ?_))); (case side2 => exact HC0.out); rintro e w' ⟨rfl, ⟨nd, rfl⟩⟩; refine ⟨_, rfl, ?_⟩))
        go_meet
        case rel => exact ⟨_, (decide ((l1.length : Int) > 40)), (by first | rfl | (simp; done) | (simp [*]; done)), H', ⟨by first | omega | exact Nat.le_refl _⟩, ⟨by repeat (first | (with_reducible first | exact HB.out | apply below_alloc | apply pw_below_drewN | apply below_drew1) | exact HB.out)⟩⟩
    · replace c7 := Bool.eq_false_iff.mpr c7
      subst c7
      have H1 : (bywashlaw15_DomupPlays.j0 k l0 l1 t653 true) = some r := by rw [if_neg (show ¬ (false = true) by decide)] at H; exact H
      clear H
      have H := H1
      clear H1
      have H' := Aside0.mk H
      clear H
      go_wp2_with (first | ((with_reducible refine gate_callee (f := 14) rfl ?_); refine goesL_ (some 14) rfl rfl Try.func14 (by kernel_rfl) rfl #[.slice A0 l0.length c0] rfl (by (try simp only [List.map_toArray, List.map_cons, List.map_nil]); first | done | rfl | (simp only [List.length_drop, List.length_take]; rfl)) ?_; (with_reducible refine (bywashref10_Few.calls k _ _ l0 false _ ?side1 ?side2 A6.out).mono ?_); (case side1 => repeat (first | exact (Kd.C_below HR0.out HB.out) | (with_reducible refine Kd.C_alloc ?_ _) | (with_reducible refine Kd.C_drewN ?_ _) | (with_reducible refine Kd.C_drew ?_))); (case side2 => exact HC0.out); rintro e w' ⟨rfl, ⟨nd, rfl⟩⟩; refine ⟨_, rfl, ?_⟩))
      go_meet
      case rel => exact ⟨_, (true), (by first | rfl | (simp; done) | (simp [*]; done)), H', ⟨by first | omega | exact Nat.le_refl _⟩, ⟨by repeat (first | (with_reducible first | exact HB.out | apply below_alloc | apply pw_below_drewN | apply below_drew1) | exact HB.out)⟩⟩
  case rest =>
    clear HC4
    try clear c1
    try clear p2
    try clear c3
    try clear c7
    try clear c8
    try clear c8b0
    try clear c8b1
    obtain ⟨kq, x25_3, rfl, HA, HJ3, HB⟩ := hcut
    cases kq with
    | zero => exact absurd HA.out (by simp [bywashlaw15_DomupPlays.j0])
    | succ kj3 =>
      have H := HA.out
      clear HA
      simp only [bywashlaw15_DomupPlays.j0] at H
      by_cases c9 : x25_3 = true
      · subst c9
        have H1 : (some t653) = some r := by rw [if_pos rfl] at H; exact H
        clear H
        have H := H1
        clear H1
        obtain rfl := Option.some.inj H
        go_wp2
        go_ret
        exact ⟨by first | rfl | (simp [errW_none, errW_some] <;> rfl) | (simp [*, errW_none, errW_some] <;> rfl) | (exfalso; (try simp_all); (try omega); done), by repeat (first | (with_reducible first | exact HB.out | apply below_alloc | apply pw_below_drewN | apply below_drew1) | exact HB.out)⟩
      · replace c9 := Bool.eq_false_iff.mpr c9
        subst c9
        have H1 : ((domup_New.f kj3 l0).bind fun bt655 => (bywashlaw15_DomupPlays.l0 kj3 l0 l1 t653 0 bt655.1 bt655.2.1 bt655.2.2)) = some r := by rw [if_neg (show ¬ (false = true) by decide)] at H; exact H
        clear H
        have H := H1
        clear H1
        replace H := Option.bind_eq_some_iff.mp H
        obtain ⟨⟨t655, t658, t661⟩, A100, H⟩ := H
        replace H : (bywashlaw15_DomupPlays.l0 kj3 l0 l1 t653 0 t655 t658 t661) = some r := H
        have A10 := Aside0.mk A100
        clear A100
        have H' := Aside0.mk H
        clear H
        go_wp2_with (first | ((with_reducible refine gate_callee (f := 32) rfl ?_); refine goesL_ (some 28) rfl rfl Try.func32 (by kernel_rfl) rfl #[.slice A0 l0.length c0] rfl (by (try simp only [List.map_toArray, List.map_cons, List.map_nil]); first | done | rfl | (simp only [List.length_drop, List.length_take]; rfl)) ?_; (with_reducible refine (domup_New.calls kj3 _ _ l0 t655 t658 t661 _ ?side1 ?side2 A10.out).mono ?_); (case side1 => repeat (first | exact (Kd.C_below HR0.out HB.out) | (with_reducible refine Kd.C_alloc ?_ _) | (with_reducible refine Kd.C_drewN ?_ _) | (with_reducible refine Kd.C_drew ?_))); (case side2 => exact HC0.out); rintro e w11 ⟨v656, v659, rfl, ho0, ho1, hb⟩; refine ⟨_, rfl, ?_⟩; have n0_ := Aside0.mk (Kd.S_lower ho0 (below_size (by repeat (first | (with_reducible first | exact HB.out | apply below_alloc | apply pw_below_drewN | apply below_drew1) | exact HB.out)))); have n1_ := Aside0.mk (Kd.R_lower ho1 (below_size (by repeat (first | (with_reducible first | exact HB.out | apply below_alloc | apply pw_below_drewN | apply below_drew1) | exact HB.out)))); have n2_ := Aside0.mk (below_step (by repeat (first | (with_reducible first | exact HB.out | apply below_alloc | apply pw_below_drewN | apply below_drew1) | exact HB.out)) hb); clear HB; have HO657 := n0_; have HO660 := n1_; have HB := n2_; clear n0_ n1_ n2_; (try clear hb); (try clear hb2); (try clear hk); (try clear hi); (try clear ho0); (try clear ho1)) | ((with_reducible refine gate_dst (N := 6) rfl ?_); (try (refine gate_guard (by rfl) ?_; dsimp only)); refine box_event ?hg (N := 6) ?hd (cs := #[.slice none 0 0, .slice none 0 0, .bool false]) (t := 40) ?hr ?_; (case hd => rfl); (case hg => rfl); (case hr => first | (go_simp; done) | (go_simp; rfl)); intro gb662 hg w12 hbox hb; have n0_ := Aside0.mk (Kd.S_below (by (with_reducible repeat (first | apply Kd.S_alloc | apply Kd.S_drewN | apply Kd.S_drew)); exact HO657.out) hb); have n1_ := Aside0.mk (Kd.R_below (by (with_reducible repeat (first | apply Kd.R_alloc | apply Kd.R_drewN | apply Kd.R_drew)); exact HO660.out) hb); have n2_ := Aside0.mk (below_step (by repeat (first | (with_reducible first | exact HB.out | apply below_alloc | apply pw_below_drewN | apply below_drew1) | exact HB.out)) hb); have n3_ := Aside0.mk (hbox); have n4_ := Aside0.mk ((by rw [hg]; exact (below_size (by repeat (first | (with_reducible first | exact HB.out | apply below_alloc | apply pw_below_drewN | apply below_drew1) | exact HB.out))) : w.heap.size ≤ gb662)); have n5_ := Aside0.mk ((by rw [hg]; exact (below_size (by repeat (first | (with_reducible first | exact HB.out | apply below_alloc | apply pw_below_drewN | apply below_drew1) | exact HB.out))) : w.heap.size ≤ gb662)); clear HO657; clear HO660; clear HB; have HO657 := n0_; have HO660 := n1_; have HB := n2_; have BK662 := n3_; have GW662 := n4_; have GE662 := n5_; clear n0_ n1_ n2_ n3_ n4_ n5_; clear hb hbox hg; obtain ⟨Ao13, co13, eo13⟩ := Kd.S_slice HO657.out; subst eo13; have hcz14_0 : w12.cell? ⟨gb662, 0, none⟩ = some (.slice none 0 0) := (blk_cell BK662.out 0).trans rfl; have hcz14_1 : w12.cell? ⟨gb662, 1, none⟩ = some (.slice none 0 0) := (blk_cell BK662.out 1).trans rfl; have hcz14_2 : w12.cell? ⟨gb662, 2, none⟩ = some (.bool false) := (blk_cell BK662.out 2).trans rfl; have hfz14_0 := blk_frozen BK662.out 0; have hfz14_1 := blk_frozen BK662.out 1; have hfz14_2 := blk_frozen BK662.out 2; obtain ⟨Ao15, co15, eo15⟩ := Kd.R_slice HO660.out; subst eo15))
        go_loopg [7] kj3 (fun kq v7 w' => ∃ (x7_2 : Int) (x663000_2 : List (List Int)) (x663001_2 : List Int) (x663002_2 : Bool) (u663000 : Value) (u663001 : Value), v7 = .int .i64 x7_2 ∧ Aside0 (bywashlaw15_DomupPlays.l0 kq l0 l1 t653 x7_2 x663000_2 x663001_2 x663002_2 = some r) ∧ Aside0 (kq ≤ kj3) ∧ Aside0 (Kd.S (Kd.slice 3 (Kd.int .i64)) 25 w' w.heap.size (fun k_ => some k_ ≠ (u663001 : Value).ownBlock) u663000 x663000_2) ∧ Aside0 (Kd.R (Kd.int .i64) 3 w' w.heap.size (fun _ => True) u663001 x663001_2) ∧ Aside0 (w'.heap[gb662]? = some (.cells #[u663000, u663001, .bool x663002_2] 40 (0, 0))) ∧ Aside0 (Below w.heap.size w w'))
        case atStart => exact ⟨(0), (t655), (t658), (t661), (.slice Ao13 t655.length co13), (.slice Ao15 t658.length co15), (by first | rfl | (simp; done) | (simp [*]; done)), H', ⟨Nat.le_refl _⟩, ⟨by (with_reducible repeat (first | apply Kd.S_alloc | apply Kd.S_drewN | apply Kd.S_drew)); exact Kd.S_mono (Kd.S_far (p := ⟨gb662, 2, none⟩) (Kd.S_far (p := ⟨gb662, 1, none⟩) (Kd.S_far (p := ⟨gb662, 0, none⟩) (Kd.S_types HO657.out BK662.out (by decide)) (fun _ hk => hk.2) (.slice Ao13 t655.length co13)) (fun _ hk => hk.2) (.slice Ao15 t658.length co15)) (fun _ hk => hk.2) (.bool t661)) (fun _ hk => hk.1)⟩, ⟨by (with_reducible repeat (first | apply Kd.R_alloc | apply Kd.R_drewN | apply Kd.R_drew)); exact Kd.R_mono (Kd.R_far (p := ⟨gb662, 2, none⟩) (Kd.R_far (p := ⟨gb662, 1, none⟩) (Kd.R_far (p := ⟨gb662, 0, none⟩) (Kd.R_types HO660.out BK662.out (by decide)) (fun _ hk => hk.2) (.slice Ao13 t655.length co13)) (fun _ hk => hk.2) (.slice Ao15 t658.length co15)) (fun _ hk => hk.2) (.bool t661)) (fun _ hk => trivial)⟩, ⟨by (with_reducible repeat (first | refine blk_drewN ?_ _ | refine blk_drew ?_ | refine blk_alloc ?_ _)); refine blk_put (cs := #[.slice Ao13 t655.length co13, .slice Ao15 t658.length co15, .bool false]) ?_ 2 _ rfl; (with_reducible repeat (first | refine blk_drewN ?_ _ | refine blk_drew ?_ | refine blk_alloc ?_ _)); refine blk_put (cs := #[.slice Ao13 t655.length co13, .slice none 0 0, .bool false]) ?_ 1 _ rfl; (with_reducible repeat (first | refine blk_drewN ?_ _ | refine blk_drew ?_ | refine blk_alloc ?_ _)); refine blk_put (cs := #[.slice none 0 0, .slice none 0 0, .bool false]) ?_ 0 _ rfl; (with_reducible repeat (first | refine blk_drewN ?_ _ | refine blk_drew ?_ | refine blk_alloc ?_ _)); exact BK662.out⟩, ⟨by repeat (first | (with_reducible first | exact HB.out | apply below_alloc | apply pw_below_drewN | apply below_drew1 | refine below_set ?_ GE662.out) | exact HB.out)⟩⟩
        case round =>
          clear H'
          try clear c1
          try clear p2
          try clear c3
          try clear c7
          try clear c8
          try clear c8b0
          try clear c8b1
          try clear c9
          try clear c12
          try clear c14
          try clear hcz14_0
          try clear hcz14_1
          try clear hcz14_2
          try clear hfz14_0
          try clear hfz14_1
          try clear hfz14_2
          try clear p2
          obtain ⟨x7_2, x663000_2, x663001_2, x663002_2, u663000, u663001, rfl, HA, HK2, HO_663000, HO_663001, BK662, HB⟩ := hrel
          cases gk with
          | zero => exact absurd HA.out (by simp [bywashlaw15_DomupPlays.l0])
          | succ k2 =>
            have H := HA.out
            clear HA
            simp only [bywashlaw15_DomupPlays.l0] at H
            by_cases c16 : x7_2 < (l1.length : Int)
            · rw [if_pos c16] at H
              have c16b0 : decide (x7_2 < (l1.length : Int)) = true := decide_eq_true c16
              clear c16
              by_cases c17 : 0 ≤ x7_2
              · rw [if_pos c17] at H
                have c17b0 : decide (0 ≤ x7_2) = true := decide_eq_true c17
                clear c17
                have HC18 := Aside0.mk H
                clear H
                have p663 : 0 ≤ (x7_2 : Int) := of_decide_eq_true (by first | (with_reducible assumption) | assumption)
                have q663 : x7_2 < (l1.length : Int) := of_decide_eq_true (by first | (with_reducible assumption) | assumption)
                obtain ⟨ad663, e663, hx663_0, hx663_1, hx663_2⟩ := at_T53 HR1.out x7_2 p663 q663
                cases e663
                replace hx663_0 := (HB.out.cell (World.block_lt_of_cell? w _ hx663_0)).trans hx663_0
                replace hx663_1 := (HB.out.cell (World.block_lt_of_cell? w _ hx663_1)).trans hx663_1
                replace hx663_2 := (HB.out.cell (World.block_lt_of_cell? w _ hx663_2)).trans hx663_2
                replace p663 := eq_true p663
                replace q663 := eq_true q663
                go_upto_block 2 with (fail)
                go_cut [] (fun wc => ∃ (kq : Nat) (x663000_17 : List (List Int)) (x663001_17 : List Int) (x663002_17 : Bool) (u663000 : Value) (u663001 : Value), Aside0 (bywashlaw15_DomupPlays.j2 kq l0 l1 t653 x7_2 x663000_17 x663001_17 x663002_17 = some r) ∧ Aside0 (kq ≤ k2) ∧ Aside0 (Kd.S (Kd.slice 3 (Kd.int .i64)) 25 wc w.heap.size (fun k_ => some k_ ≠ (u663001 : Value).ownBlock) u663000 x663000_17) ∧ Aside0 (Kd.R (Kd.int .i64) 3 wc w.heap.size (fun _ => True) u663001 x663001_17) ∧ Aside0 (wc.heap[gb662]? = some (.cells #[u663000, u663001, .bool x663002_17] 40 (0, 0))) ∧ Aside0 (Below w.heap.size w wc))
                case first =>
                  have H := HC18.out
                  clear HC18
                  by_cases c19 : ((rd_T53 l1 x7_2).f0) = 0
                  · rw [if_pos c19] at H
                    have c19b0 : (((rd_T53 l1 x7_2).f0) == 0) = true := beq_iff_eq.mpr c19
                    have c19b1 : (((rd_T53 l1 x7_2).f0) != 0) = false := bne_eq_false_iff_eq.mpr c19
                    clear c19
                    (first | rw [c19b0] | (simp only [i64_w, i32_w]; rw [c19b0]) | skip)
                    replace H := Option.bind_eq_some_iff.mp H
                    obtain ⟨⟨t666, t669, t672, t673⟩, A200, H⟩ := H
                    replace H : (bywashlaw15_DomupPlays.j2 k2 l0 l1 t653 x7_2 t666 t669 t672) = some r := H
                    have A20 := Aside0.mk A200
                    clear A200
                    have H' := Aside0.mk H
                    clear H
                    obtain ⟨Ao21, co21, eo21⟩ := Kd.S_slice HO_663000.out
                    subst eo21
                    obtain ⟨Ao22, co22, eo22⟩ := Kd.R_slice HO_663001.out
                    subst eo22
                    try go_wp2
                    have n0_ := Aside0.mk (Kd.S_drew HO_663000.out)
                    have n1_ := Aside0.mk (Kd.R_drew HO_663001.out)
                    have n2_ := Aside0.mk (blk_drew BK662.out)
                    have n3_ := Aside0.mk (below_drew1 HB.out)
                    clear HO_663000
                    clear HO_663001
                    clear BK662
                    clear HB
                    have HO_663000 := n0_
                    have HO_663001 := n1_
                    have BK662 := n2_
                    have HB := n3_
                    clear n0_ n1_ n2_ n3_
                    have p664 : 0 ≤ (x7_2 : Int) := of_decide_eq_true (by first | (with_reducible assumption) | assumption)
                    have q664 : x7_2 < (l1.length : Int) := of_decide_eq_true (by first | (with_reducible assumption) | assumption)
                    obtain ⟨ad664, e664, hx664_0, hx664_1, hx664_2⟩ := at_T53 HR1.out x7_2 p664 q664
                    have hw664_2 := hx664_2
                    have hw664_1 := hx664_1
                    have hw664_0 := hx664_0
                    obtain rfl : ad663 = ad664 := (by injection e664)
                    replace hx664_0 := (HB.out.cell (World.block_lt_of_cell? w _ hx664_0)).trans hx664_0
                    replace hx664_1 := (HB.out.cell (World.block_lt_of_cell? w _ hx664_1)).trans hx664_1
                    replace hx664_2 := (HB.out.cell (World.block_lt_of_cell? w _ hx664_2)).trans hx664_2
                    replace p664 := eq_true p664
                    replace q664 := eq_true q664
                    have p665 : 0 ≤ (x7_2 : Int) := of_decide_eq_true (by first | (with_reducible assumption) | assumption)
                    have q665 : x7_2 < (l1.length : Int) := of_decide_eq_true (by first | (with_reducible assumption) | assumption)
                    obtain ⟨ad665, e665, hx665_0, hx665_1, hx665_2⟩ := at_T53 HR1.out x7_2 p665 q665
                    have hw665_2 := hx665_2
                    have hw665_1 := hx665_1
                    have hw665_0 := hx665_0
                    obtain rfl : ad663 = ad665 := (by injection e665)
                    replace hx665_0 := (HB.out.cell (World.block_lt_of_cell? w _ hx665_0)).trans hx665_0
                    replace hx665_1 := (HB.out.cell (World.block_lt_of_cell? w _ hx665_1)).trans hx665_1
                    replace hx665_2 := (HB.out.cell (World.block_lt_of_cell? w _ hx665_2)).trans hx665_2
                    replace p665 := eq_true p665
                    replace q665 := eq_true q665
                    refine start_ (n := 18) (S := fun w' => w'.cell? ⟨gb662, 0, none⟩ = some (.slice Ao21 x663000_2.length co21) ∧ w'.cell? ⟨gb662, 1, none⟩ = some (.slice Ao22 x663001_2.length co22) ∧ w'.cell? ⟨gb662, 2, none⟩ = some (.bool x663002_2) ∧ w'.cell? (ad663.add ((x7_2).toNat * 3)) = some (.int .i64 ((rd_T53 l1 x7_2).f0)) ∧ w'.cell? ⟨(ad663.add ((x7_2).toNat * 3)).block, (ad663.add ((x7_2).toNat * 3)).off + 1, none⟩ = some (.int .i64 ((rd_T53 l1 x7_2).f1)) ∧ w'.cell? ⟨(ad663.add ((x7_2).toNat * 3)).block, (ad663.add ((x7_2).toNat * 3)).off + 2, none⟩ = some (.int .i64 ((rd_T53 l1 x7_2).f2)) ∧ w'.cell? (ad663.add ((x7_2).toNat * 3)) = some (.int .i64 ((rd_T53 l1 x7_2).f0)) ∧ w'.cell? ⟨(ad663.add ((x7_2).toNat * 3)).block, (ad663.add ((x7_2).toNat * 3)).off + 1, none⟩ = some (.int .i64 ((rd_T53 l1 x7_2).f1)) ∧ w'.cell? ⟨(ad663.add ((x7_2).toNat * 3)).block, (ad663.add ((x7_2).toNat * 3)).off + 2, none⟩ = some (.int .i64 ((rd_T53 l1 x7_2).f2))) (ds := []) #[false, false, false, false, false, false, false, false, false, false, false, false, false, false, false, false, false, false] (by kernel_rfl) rfl rfl ⟨(blk_cell BK662.out 0).trans rfl, (blk_cell BK662.out 1).trans rfl, (blk_cell BK662.out 2).trans rfl, ((HB.out.cell (World.block_lt_of_cell? w _ hw664_0)).trans hw664_0), ((HB.out.cell (World.block_lt_of_cell? w _ hw664_1)).trans hw664_1), ((HB.out.cell (World.block_lt_of_cell? w _ hw664_2)).trans hw664_2), ((HB.out.cell (World.block_lt_of_cell? w _ hw665_0)).trans hw665_0), ((HB.out.cell (World.block_lt_of_cell? w _ hw665_1)).trans hw665_1), ((HB.out.cell (World.block_lt_of_cell? w _ hw665_2)).trans hw665_2)⟩ (fun hHeld => ?_); refine with_tabW bywashlaw15_DomupPlays.tab11 bywashlaw15_DomupPlays.bits11 (fun HT_ HW_ => ?_)
                    generalize wr.drew = w23 at HO_663000 HO_663001 BK662 HB hx664_0 hx664_1 hx664_2 hx665_0 hx665_1 hx665_2 hHeld ⊢
                    refine pure_ (i := 1) (N := some 46) (v := ?_) (a' := ?_) #[false, true, false, false, false, false, false, false, false, false, false, false, false, false, false, false, false, false] rfl rfl (any_of HT_.out (by kernel_rfl)) (fun _ _ _ h => h) (Or.inl ⟨by rfl, ?_⟩) ?_ ?_
                    rotate_left
                    · intro w'
                      go_simp
                      with_reducible rfl
                    rotate_left
                    · simp only [Act.put, List.setIfInBounds_toArray, List.set_cons_zero, List.set_cons_succ, i64_w, i32_w]
                      rfl
                    refine pure_ (i := 2) (N := some 47) (v := ?_) (a' := ?_) #[false, true, true, false, false, false, false, false, false, false, false, false, false, false, false, false, false, false] rfl rfl (any_of HT_.out (by kernel_rfl)) (fun _ _ _ h => h) (Or.inl ⟨by rfl, ?_⟩) ?_ ?_
                    rotate_left
                    · intro w'
                      go_simp
                      with_reducible rfl
                    rotate_left
                    · simp only [Act.put, List.setIfInBounds_toArray, List.set_cons_zero, List.set_cons_succ, i64_w, i32_w]
                      rfl
                    refine pure_ (i := 3) (N := some 48) (v := ?_) (a' := ?_) #[false, true, true, true, false, false, false, false, false, false, false, false, false, false, false, false, false, false] rfl rfl (any_of HT_.out (by kernel_rfl)) (fun _ _ _ h => h) (Or.inl ⟨by rfl, ?_⟩) ?_ ?_
                    rotate_left
                    · intro w'
                      go_simp
                      with_reducible rfl
                    rotate_left
                    · simp only [Act.put, List.setIfInBounds_toArray, List.set_cons_zero, List.set_cons_succ, i64_w, i32_w]
                      rfl
                    refine pure_ (i := 4) (N := some 49) (v := ?_) (a' := ?_) #[false, true, true, true, true, false, false, false, false, false, false, false, false, false, false, false, false, false] rfl rfl (any_of HT_.out (by kernel_rfl)) (fun _ _ _ h => h) (Or.inl ⟨by rfl, ?_⟩) ?_ ?_
                    rotate_left
                    · intro w'
                      go_simp
                      with_reducible rfl
                    rotate_left
                    · simp only [Act.put, List.setIfInBounds_toArray, List.set_cons_zero, List.set_cons_succ, i64_w, i32_w]
                      rfl
                    refine pure_ (i := 6) (N := some 51) (v := ?_) (a' := ?_) #[false, true, true, true, true, false, true, false, false, false, false, false, false, false, false, false, false, false] rfl rfl (any_of HT_.out (by kernel_rfl)) (fun _ _ _ h => h) (Or.inl ⟨by rfl, ?_⟩) ?_ ?_
                    rotate_left
                    · intro w'
                      go_simp
                      with_reducible rfl
                    rotate_left
                    · simp only [Act.put, List.setIfInBounds_toArray, List.set_cons_zero, List.set_cons_succ, i64_w, i32_w]
                      rfl
                    refine pure_ (i := 7) (N := some 52) (v := ?_) (a' := ?_) #[false, true, true, true, true, false, true, true, false, false, false, false, false, false, false, false, false, false] rfl rfl (any_of HT_.out (by kernel_rfl)) (fun _ _ _ h => h) (Or.inl ⟨by rfl, ?_⟩) ?_ ?_
                    rotate_left
                    · intro w'
                      go_simp
                      with_reducible rfl
                    rotate_left
                    · simp only [Act.put, List.setIfInBounds_toArray, List.set_cons_zero, List.set_cons_succ, i64_w, i32_w]
                      rfl
                    refine pure_ (i := 8) (N := some 53) (v := ?_) (a' := ?_) #[false, true, true, true, true, false, true, true, true, false, false, false, false, false, false, false, false, false] rfl rfl (any_of HT_.out (by kernel_rfl)) (fun _ _ _ h => h) (Or.inl ⟨by rfl, ?_⟩) ?_ ?_
                    rotate_left
                    · intro w'
                      go_simp
                      with_reducible rfl
                    rotate_left
                    · simp only [Act.put, List.setIfInBounds_toArray, List.set_cons_zero, List.set_cons_succ, i64_w, i32_w]
                      rfl
                    refine pure_ (i := 9) (N := some 54) (v := ?_) (a' := ?_) #[false, true, true, true, true, false, true, true, true, true, false, false, false, false, false, false, false, false] rfl rfl (any_of HT_.out (by kernel_rfl)) (fun _ _ _ h => h) (Or.inl ⟨by rfl, ?_⟩) ?_ ?_
                    rotate_left
                    · intro w'
                      go_simp
                      with_reducible rfl
                    rotate_left
                    · simp only [Act.put, List.setIfInBounds_toArray, List.set_cons_zero, List.set_cons_succ, i64_w, i32_w]
                      rfl
                    refine take_ (i := 0) (N := some 45) (v := ?_) (a' := ?_) #[true, true, true, true, true, false, true, true, true, true, false, false, false, false, false, false, false, false] rfl rfl (take_ofW HT_.out HW_.out (by kernel_rfl)) (fun _ _ _ h => h) (Or.inl ⟨by rfl, ?_⟩) hHeld ?_ ?_
                    rotate_left
                    · rintro w' ⟨s0, s1, s2, s3, s4, s5, s6, s7, s8⟩
                      go_simp
                      with_reducible rfl
                    rotate_left
                    · simp only [Act.put, List.setIfInBounds_toArray, List.set_cons_zero, List.set_cons_succ, i64_w, i32_w]
                      rfl
                    refine take_ (i := 5) (N := some 50) (v := ?_) (a' := ?_) #[true, true, true, true, true, true, true, true, true, true, false, false, false, false, false, false, false, false] rfl rfl (take_ofW HT_.out HW_.out (by kernel_rfl)) (fun _ _ _ h => h) (Or.inl ⟨by rfl, ?_⟩) hHeld ?_ ?_
                    rotate_left
                    · rintro w' ⟨s0, s1, s2, s3, s4, s5, s6, s7, s8⟩
                      go_simp
                      with_reducible rfl
                    rotate_left
                    · simp only [Act.put, List.setIfInBounds_toArray, List.set_cons_zero, List.set_cons_succ, i64_w, i32_w]
                      rfl
                    refine take_ (i := 10) (N := some 55) (v := ?_) (a' := ?_) #[true, true, true, true, true, true, true, true, true, true, true, false, false, false, false, false, false, false] rfl rfl (take_ofW HT_.out HW_.out (by kernel_rfl)) (fun _ _ _ h => h) (Or.inl ⟨by rfl, ?_⟩) hHeld ?_ ?_
                    rotate_left
                    · rintro w' ⟨s0, s1, s2, s3, s4, s5, s6, s7, s8⟩
                      go_simp
                      with_reducible rfl
                    rotate_left
                    · simp only [Act.put, List.setIfInBounds_toArray, List.set_cons_zero, List.set_cons_succ, i64_w, i32_w]
                      rfl
                    refine join_ (σ := Value × Value × Value × Nat) 2 #[true, true, true, true, true, true, true, true, true, true, true, true, true, true, true, true, false, false] (fun s_ => [(56, .tuple #[.agg #[s_.1, s_.2.1, .bool t672], s_.2.2.1]), (8, .pointer (some ⟨s_.2.2.2, 0, none⟩)), (44, .tuple #[.agg #[s_.1, s_.2.1, .bool t672], s_.2.2.1]), (57, .agg #[s_.1, s_.2.1, .bool t672]), (58, s_.2.2.1)]) (fun s_ w' => (w'.cell? ⟨gb662, 0, none⟩ = some (.slice Ao21 x663000_2.length co21) ∧ w'.cell? ⟨gb662, 1, none⟩ = some (.slice Ao22 x663001_2.length co22) ∧ w'.cell? ⟨gb662, 2, none⟩ = some (.bool x663002_2) ∧ w'.cell? (ad663.add ((x7_2).toNat * 3)) = some (.int .i64 ((rd_T53 l1 x7_2).f0)) ∧ w'.cell? ⟨(ad663.add ((x7_2).toNat * 3)).block, (ad663.add ((x7_2).toNat * 3)).off + 1, none⟩ = some (.int .i64 ((rd_T53 l1 x7_2).f1)) ∧ w'.cell? ⟨(ad663.add ((x7_2).toNat * 3)).block, (ad663.add ((x7_2).toNat * 3)).off + 2, none⟩ = some (.int .i64 ((rd_T53 l1 x7_2).f2)) ∧ w'.cell? (ad663.add ((x7_2).toNat * 3)) = some (.int .i64 ((rd_T53 l1 x7_2).f0)) ∧ w'.cell? ⟨(ad663.add ((x7_2).toNat * 3)).block, (ad663.add ((x7_2).toNat * 3)).off + 1, none⟩ = some (.int .i64 ((rd_T53 l1 x7_2).f1)) ∧ w'.cell? ⟨(ad663.add ((x7_2).toNat * 3)).block, (ad663.add ((x7_2).toNat * 3)).off + 2, none⟩ = some (.int .i64 ((rd_T53 l1 x7_2).f2))) ∧ (Kd.S (Kd.slice 3 (Kd.int .i64)) 25 w' w.heap.size (fun k_ => some k_ ≠ (s_.2.1 : Value).ownBlock ∧ some k_ ≠ (s_.2.2.1 : Value).ownBlock ∧ some k_ ≠ (.slice Ao21 x663000_2.length co21 : Value).ownBlock ∧ some k_ ≠ (.slice Ao22 x663001_2.length co22 : Value).ownBlock) s_.1 t666) ∧ (Kd.R (Kd.int .i64) 3 w' w.heap.size (fun k_ => some k_ ≠ (s_.2.2.1 : Value).ownBlock ∧ some k_ ≠ (.slice Ao22 x663001_2.length co22 : Value).ownBlock) s_.2.1 t669) ∧ (Kd.R (Kd.int .i64) 3 w' w.heap.size (fun k_ => some k_ ≠ (s_.2.1 : Value).ownBlock ∧ some k_ ≠ (.slice Ao22 x663001_2.length co22 : Value).ownBlock) s_.2.2.1 t673) ∧ (Kd.S (Kd.slice 3 (Kd.int .i64)) 25 w' w.heap.size (fun k_ => some k_ ≠ (s_.1 : Value).ownBlock ∧ some k_ ≠ (s_.2.1 : Value).ownBlock ∧ some k_ ≠ (s_.2.2.1 : Value).ownBlock ∧ some k_ ≠ (.slice Ao22 x663001_2.length co22 : Value).ownBlock) (.slice Ao21 x663000_2.length co21) x663000_2) ∧ (Kd.R (Kd.int .i64) 3 w' w.heap.size (fun k_ => some k_ ≠ (s_.2.1 : Value).ownBlock ∧ some k_ ≠ (s_.2.2.1 : Value).ownBlock) (.slice Ao22 x663001_2.length co22) x663001_2) ∧ (w'.heap[gb662]? = some (.cells #[.slice Ao21 x663000_2.length co21, .slice Ao22 x663001_2.length co22, .bool x663002_2] 40 (0, 0))) ∧ (w'.heap[s_.2.2.2]? = some (.cells #[.slice none 0 0, .slice none 0 0, .bool false] 40 (0, 0))) ∧ (w.heap.size ≤ s_.2.2.2) ∧ (w.heap.size ≤ s_.2.2.2) ∧ (gb662 ≠ s_.2.2.2) ∧ (s_.2.2.2 ≠ gb662) ∧ (Below w.heap.size w w')) ?_ ?_
                    rotate_left
                    · intro hCont
                      refine two_ (i := 11) (j := 15) (Ni := some 56) (Nj := some 8) #[true, true, true, true, true, true, true, true, true, true, true, true, false, false, false, false, false, false] #[true, true, true, true, true, true, true, true, true, true, true, false, false, false, false, true, false, false] rfl rfl rfl rfl (two_of HT_.out (by kernel_rfl)) (by decide) (by decide) (fun K hK => ?_) (fun K hK => ?_)
                      · skip
                        refine goes_ Try.func33 (by kernel_rfl) rfl #[.agg #[.slice Ao21 x663000_2.length co21, .slice Ao22 x663001_2.length co22, .bool x663002_2], .int .i64 ((rd_T53 l1 x7_2).f1), .int .i64 ((rd_T53 l1 x7_2).f2)] (by rfl) rfl rfl (by (try simp only [List.map_toArray, List.map_cons, List.map_nil]); first | done | rfl | (simp only [List.length_drop, List.length_take]; rfl)) ?_
                        with_reducible refine (domup_Add.calls k2 _ _ x663000_2 _ _ x663001_2 x663002_2 ((rd_T53 l1 x7_2).f1) ((rd_T53 l1 x7_2).f2) t666 t669 t672 t673 _ ?side1 ?side2 ?side3 ?side4 A20.out).mono ?_
                        (case side1 => repeat (first | exact (Kd.S_reads' HO_663000.out).2.2 | (with_reducible refine Kd.C_alloc ?_ _) | (with_reducible refine Kd.C_drewN ?_ _) | (with_reducible refine Kd.C_drew ?_)))
                        (case side2 => exact (Kd.S_reads' HO_663000.out).2.1)
                        (case side3 => repeat (first | exact (Kd.R_reads' HO_663001.out).2.2 | (with_reducible refine Kd.C_alloc ?_ _) | (with_reducible refine Kd.C_drewN ?_ _) | (with_reducible refine Kd.C_drew ?_)))
                        (case side4 => exact (Kd.R_reads' HO_663001.out).2.1)
                        rintro e w24 ⟨v667, v670, v674, rfl, ho0, ho1, ho2, hb⟩
                        refine ⟨_, rfl, ?_⟩
                        have n0_ := Aside0.mk (Kd.S_mono (Kd.S_told (Kd.S_told (Kd.S_told (Kd.S_old (by (with_reducible repeat (first | apply Kd.S_alloc | apply Kd.S_drewN | apply Kd.S_drew)); exact HO_663000.out) hb) (Kd.S_base ho0)) (Kd.R_base ho1)) (Kd.R_base ho2)) (fun _ h_ => h_.1))
                        have n1_ := Aside0.mk (Kd.R_mono (Kd.R_told (Kd.R_told (Kd.R_old (by (with_reducible repeat (first | apply Kd.R_alloc | apply Kd.R_drewN | apply Kd.R_drew)); exact HO_663001.out) hb) (Kd.R_base ho1)) (Kd.R_base ho2)) (fun _ h_ => h_.1))
                        have n2_ := Aside0.mk (Kd.S_lower (Kd.S_new' (Kd.S_new' ho0 (Kd.S_lt (by (with_reducible repeat (first | apply Kd.S_alloc | apply Kd.S_drewN | apply Kd.S_drew)); exact HO_663000.out))) (Kd.R_lt (by (with_reducible repeat (first | apply Kd.R_alloc | apply Kd.R_drewN | apply Kd.R_drew)); exact HO_663001.out))) (below_size (by repeat (first | (with_reducible first | exact HB.out | apply below_alloc | apply pw_below_drewN | apply below_drew1 | refine below_set ?_ GE662.out) | exact HB.out))))
                        have n3_ := Aside0.mk (Kd.R_lower (Kd.R_new' ho1 (Kd.R_lt (by (with_reducible repeat (first | apply Kd.R_alloc | apply Kd.R_drewN | apply Kd.R_drew)); exact HO_663001.out))) (below_size (by repeat (first | (with_reducible first | exact HB.out | apply below_alloc | apply pw_below_drewN | apply below_drew1 | refine below_set ?_ GE662.out) | exact HB.out))))
                        have n4_ := Aside0.mk (Kd.R_lower (Kd.R_new' ho2 (Kd.R_lt (by (with_reducible repeat (first | apply Kd.R_alloc | apply Kd.R_drewN | apply Kd.R_drew)); exact HO_663001.out))) (below_size (by repeat (first | (with_reducible first | exact HB.out | apply below_alloc | apply pw_below_drewN | apply below_drew1 | refine below_set ?_ GE662.out) | exact HB.out))))
                        have n5_ := Aside0.mk (blk_below (g := gb662) (o := .cells #[.slice Ao21 x663000_2.length co21, .slice Ao22 x663001_2.length co22, .bool x663002_2] 40 (0, 0)) (by (with_reducible repeat (first | refine blk_drewN ?_ _ | refine blk_drew ?_ | refine blk_alloc ?_ _)); exact BK662.out) hb)
                        have n6_ := Aside0.mk (below_step (by repeat (first | (with_reducible first | exact HB.out | apply below_alloc | apply pw_below_drewN | apply below_drew1 | refine below_set ?_ GE662.out) | exact HB.out)) hb)
                        clear HO_663000
                        clear HO_663001
                        clear BK662
                        clear HB
                        have HO_663000 := n0_
                        have HO_663001 := n1_
                        have HO668 := n2_
                        have HO671 := n3_
                        have HO675 := n4_
                        have BK662 := n5_
                        have HB := n6_
                        clear n0_ n1_ n2_ n3_ n4_ n5_ n6_
                        (try clear hb)
                        (try clear hb2)
                        (try clear hk)
                        (try clear hi)
                        (try clear ho0)
                        (try clear ho1)
                        (try clear ho2)
                        refine hK.out _ _ ⟨(blk_cell BK662.out 0).trans rfl, (blk_cell BK662.out 1).trans rfl, (blk_cell BK662.out 2).trans rfl, ((HB.out.cell (World.block_lt_of_cell? w _ hw664_0)).trans hw664_0), ((HB.out.cell (World.block_lt_of_cell? w _ hw664_1)).trans hw664_1), ((HB.out.cell (World.block_lt_of_cell? w _ hw664_2)).trans hw664_2), ((HB.out.cell (World.block_lt_of_cell? w _ hw665_0)).trans hw665_0), ((HB.out.cell (World.block_lt_of_cell? w _ hw665_1)).trans hw665_1), ((HB.out.cell (World.block_lt_of_cell? w _ hw665_2)).trans hw665_2)⟩ (fun hHeld => ?_)
                        clear hK K
                        refine norm_ (a' := ?_) ?_ ?_
                        rotate_left
                        · show Act.put _ (some 56) _ = _
                          simp only [Act.put, List.setIfInBounds_toArray, List.set_cons_zero, List.set_cons_succ, i64_w, i32_w]
                          rfl
                        refine pure_ (i := 12) (N := some 44) (v := ?_) (a' := ?_) #[true, true, true, true, true, true, true, true, true, true, true, true, true, false, false, false, false, false] rfl rfl (any_of HT_.out (by kernel_rfl)) (fun _ _ _ h => h) (Or.inl ⟨by rfl, ?_⟩) ?_ ?_
                        rotate_left
                        · intro w'
                          go_simp
                          with_reducible rfl
                        rotate_left
                        · simp only [Act.put, List.setIfInBounds_toArray, List.set_cons_zero, List.set_cons_succ, i64_w, i32_w]
                          rfl
                        refine pure_ (i := 13) (N := some 57) (v := ?_) (a' := ?_) #[true, true, true, true, true, true, true, true, true, true, true, true, true, true, false, false, false, false] rfl rfl (any_of HT_.out (by kernel_rfl)) (fun _ _ _ h => h) (Or.inl ⟨by rfl, ?_⟩) ?_ ?_
                        rotate_left
                        · intro w'
                          go_simp
                          with_reducible rfl
                        rotate_left
                        · simp only [Act.put, List.setIfInBounds_toArray, List.set_cons_zero, List.set_cons_succ, i64_w, i32_w]
                          rfl
                        refine pure_ (i := 14) (N := some 58) (v := ?_) (a' := ?_) #[true, true, true, true, true, true, true, true, true, true, true, true, true, true, true, false, false, false] rfl rfl (any_of HT_.out (by kernel_rfl)) (fun _ _ _ h => h) (Or.inl ⟨by rfl, ?_⟩) ?_ ?_
                        rotate_left
                        · intro w'
                          go_simp
                          with_reducible rfl
                        rotate_left
                        · simp only [Act.put, List.setIfInBounds_toArray, List.set_cons_zero, List.set_cons_succ, i64_w, i32_w]
                          rfl
                        refine one_ (i := 15) (N := some 8) #[true, true, true, true, true, true, true, true, true, true, true, true, true, true, true, true, false, false] rfl rfl (one_of HT_.out (by kernel_rfl)) (by decide) (fun K hK => ?_)
                        refine box_step ?hg (N := 8) ?hd (cs := #[.slice none 0 0, .slice none 0 0, .bool false]) (t := 40) ?hr ?_; (case hd => rfl); (case hg => rfl); (case hr => first | (go_simp; done) | (go_simp; rfl))
                        intro gb676 hg w25 hbox hb
                        have n0_ := Aside0.mk (Kd.S_below (by (with_reducible repeat (first | apply Kd.S_alloc | apply Kd.S_drewN | apply Kd.S_drew)); exact HO_663000.out) hb)
                        have n1_ := Aside0.mk (Kd.R_below (by (with_reducible repeat (first | apply Kd.R_alloc | apply Kd.R_drewN | apply Kd.R_drew)); exact HO_663001.out) hb)
                        have n2_ := Aside0.mk (Kd.S_below (by (with_reducible repeat (first | apply Kd.S_alloc | apply Kd.S_drewN | apply Kd.S_drew)); exact HO668.out) hb)
                        have n3_ := Aside0.mk (Kd.R_below (by (with_reducible repeat (first | apply Kd.R_alloc | apply Kd.R_drewN | apply Kd.R_drew)); exact HO671.out) hb)
                        have n4_ := Aside0.mk (Kd.R_below (by (with_reducible repeat (first | apply Kd.R_alloc | apply Kd.R_drewN | apply Kd.R_drew)); exact HO675.out) hb)
                        have n5_ := Aside0.mk (blk_below (g := gb662) (o := .cells #[.slice Ao21 x663000_2.length co21, .slice Ao22 x663001_2.length co22, .bool x663002_2] 40 (0, 0)) (by (with_reducible repeat (first | refine blk_drewN ?_ _ | refine blk_drew ?_ | refine blk_alloc ?_ _)); exact BK662.out) hb)
                        have n6_ := Aside0.mk (below_step (by repeat (first | (with_reducible first | exact HB.out | apply below_alloc | apply pw_below_drewN | apply below_drew1 | refine below_set ?_ GE662.out) | exact HB.out)) hb)
                        have n7_ := Aside0.mk (hbox)
                        have n8_ := Aside0.mk ((by rw [hg]; exact (below_size (by repeat (first | (with_reducible first | exact HB.out | apply below_alloc | apply pw_below_drewN | apply below_drew1 | refine below_set ?_ GE662.out) | exact HB.out))) : w.heap.size ≤ gb676))
                        have n9_ := Aside0.mk ((by rw [hg]; exact (below_size (by repeat (first | (with_reducible first | exact HB.out | apply below_alloc | apply pw_below_drewN | apply below_drew1 | refine below_set ?_ GE662.out) | exact HB.out))) : w.heap.size ≤ gb676))
                        have n10_ := Aside0.mk ((by rw [hg]; exact Nat.ne_of_lt (blk_lt (g := gb662) (o := .cells #[.slice Ao21 x663000_2.length co21, .slice Ao22 x663001_2.length co22, .bool x663002_2] 40 (0, 0)) (by (with_reducible repeat (first | refine blk_drewN ?_ _ | refine blk_drew ?_ | refine blk_alloc ?_ _)); exact BK662.out)) : gb662 ≠ gb676))
                        have n11_ := Aside0.mk ((by rw [hg]; exact Nat.ne_of_gt (blk_lt (g := gb662) (o := .cells #[.slice Ao21 x663000_2.length co21, .slice Ao22 x663001_2.length co22, .bool x663002_2] 40 (0, 0)) (by (with_reducible repeat (first | refine blk_drewN ?_ _ | refine blk_drew ?_ | refine blk_alloc ?_ _)); exact BK662.out)) : gb676 ≠ gb662))
                        clear HO_663000
                        clear HO_663001
                        clear HO668
                        clear HO671
                        clear HO675
                        clear BK662
                        clear HB
                        have HO_663000 := n0_
                        have HO_663001 := n1_
                        have HO668 := n2_
                        have HO671 := n3_
                        have HO675 := n4_
                        have BK662 := n5_
                        have HB := n6_
                        have BK676 := n7_
                        have GW676 := n8_
                        have GE676 := n9_
                        have NB662_676 := n10_
                        have NB676_662 := n11_
                        clear n0_ n1_ n2_ n3_ n4_ n5_ n6_ n7_ n8_ n9_ n10_ n11_
                        clear hb hbox hg
                        refine hK.out _ _ ⟨(blk_cell BK662.out 0).trans rfl, (blk_cell BK662.out 1).trans rfl, (blk_cell BK662.out 2).trans rfl, ((HB.out.cell (World.block_lt_of_cell? w _ hw664_0)).trans hw664_0), ((HB.out.cell (World.block_lt_of_cell? w _ hw664_1)).trans hw664_1), ((HB.out.cell (World.block_lt_of_cell? w _ hw664_2)).trans hw664_2), ((HB.out.cell (World.block_lt_of_cell? w _ hw665_0)).trans hw665_0), ((HB.out.cell (World.block_lt_of_cell? w _ hw665_1)).trans hw665_1), ((HB.out.cell (World.block_lt_of_cell? w _ hw665_2)).trans hw665_2)⟩ (fun hHeld => ?_)
                        clear hK K
                        refine norm_ (a' := ?_) ?_ ?_
                        rotate_left
                        · show Act.put _ (some 8) _ = _
                          simp only [Act.put, List.setIfInBounds_toArray, List.set_cons_zero, List.set_cons_succ, i64_w, i32_w]
                          rfl
                        exact norm_ (by simp only [putAll, Act.put, List.setIfInBounds_toArray, List.set_cons_zero, List.set_cons_succ]) (hCont (v667, v670, v674, gb676) _ ⟨hHeld, (by (with_reducible repeat (first | apply Kd.S_alloc | apply Kd.S_drewN | apply Kd.S_drew)); exact Kd.S_mono HO668.out (fun _ hk => ⟨hk.1.1.1, ⟨hk.1.1.2, ⟨hk.1.2, hk.2⟩⟩⟩)), (by (with_reducible repeat (first | apply Kd.R_alloc | apply Kd.R_drewN | apply Kd.R_drew)); exact HO671.out), (by (with_reducible repeat (first | apply Kd.R_alloc | apply Kd.R_drewN | apply Kd.R_drew)); exact HO675.out), (by (with_reducible repeat (first | apply Kd.S_alloc | apply Kd.S_drewN | apply Kd.S_drew)); exact Kd.S_mono HO_663000.out (fun _ hk => ⟨hk.1.1.2, ⟨hk.1.2, ⟨hk.2, hk.1.1.1⟩⟩⟩)), (by (with_reducible repeat (first | apply Kd.R_alloc | apply Kd.R_drewN | apply Kd.R_drew)); exact Kd.R_mono HO_663001.out (fun _ hk => ⟨hk.1.2, hk.2⟩)), (by (with_reducible repeat (first | refine blk_drewN ?_ _ | refine blk_drew ?_ | refine blk_alloc ?_ _)); exact BK662.out), (by (with_reducible repeat (first | refine blk_drewN ?_ _ | refine blk_drew ?_ | refine blk_alloc ?_ _)); exact BK676.out), GW676.out, GE676.out, NB662_676.out, NB676_662.out, (by repeat (first | (with_reducible first | exact HB.out | apply below_alloc | apply pw_below_drewN | apply below_drew1 | refine below_set ?_ GE662.out | refine below_set ?_ GE676.out) | exact HB.out))⟩)
                      · skip
                        refine box_step ?hg (N := 8) ?hd (cs := #[.slice none 0 0, .slice none 0 0, .bool false]) (t := 40) ?hr ?_; (case hd => rfl); (case hg => rfl); (case hr => first | (go_simp; done) | (go_simp; rfl))
                        intro gb676 hg w24 hbox hb
                        have n0_ := Aside0.mk (Kd.S_below (by (with_reducible repeat (first | apply Kd.S_alloc | apply Kd.S_drewN | apply Kd.S_drew)); exact HO_663000.out) hb)
                        have n1_ := Aside0.mk (Kd.R_below (by (with_reducible repeat (first | apply Kd.R_alloc | apply Kd.R_drewN | apply Kd.R_drew)); exact HO_663001.out) hb)
                        have n2_ := Aside0.mk (blk_below (g := gb662) (o := .cells #[.slice Ao21 x663000_2.length co21, .slice Ao22 x663001_2.length co22, .bool x663002_2] 40 (0, 0)) (by (with_reducible repeat (first | refine blk_drewN ?_ _ | refine blk_drew ?_ | refine blk_alloc ?_ _)); exact BK662.out) hb)
                        have n3_ := Aside0.mk (below_step (by repeat (first | (with_reducible first | exact HB.out | apply below_alloc | apply pw_below_drewN | apply below_drew1 | refine below_set ?_ GE662.out) | exact HB.out)) hb)
                        have n4_ := Aside0.mk (hbox)
                        have n5_ := Aside0.mk ((by rw [hg]; exact (below_size (by repeat (first | (with_reducible first | exact HB.out | apply below_alloc | apply pw_below_drewN | apply below_drew1 | refine below_set ?_ GE662.out) | exact HB.out))) : w.heap.size ≤ gb676))
                        have n6_ := Aside0.mk ((by rw [hg]; exact (below_size (by repeat (first | (with_reducible first | exact HB.out | apply below_alloc | apply pw_below_drewN | apply below_drew1 | refine below_set ?_ GE662.out) | exact HB.out))) : w.heap.size ≤ gb676))
                        have n7_ := Aside0.mk ((by rw [hg]; exact Nat.ne_of_lt (blk_lt (g := gb662) (o := .cells #[.slice Ao21 x663000_2.length co21, .slice Ao22 x663001_2.length co22, .bool x663002_2] 40 (0, 0)) (by (with_reducible repeat (first | refine blk_drewN ?_ _ | refine blk_drew ?_ | refine blk_alloc ?_ _)); exact BK662.out)) : gb662 ≠ gb676))
                        have n8_ := Aside0.mk ((by rw [hg]; exact Nat.ne_of_gt (blk_lt (g := gb662) (o := .cells #[.slice Ao21 x663000_2.length co21, .slice Ao22 x663001_2.length co22, .bool x663002_2] 40 (0, 0)) (by (with_reducible repeat (first | refine blk_drewN ?_ _ | refine blk_drew ?_ | refine blk_alloc ?_ _)); exact BK662.out)) : gb676 ≠ gb662))
                        clear HO_663000
                        clear HO_663001
                        clear BK662
                        clear HB
                        have HO_663000 := n0_
                        have HO_663001 := n1_
                        have BK662 := n2_
                        have HB := n3_
                        have BK676 := n4_
                        have GW676 := n5_
                        have GE676 := n6_
                        have NB662_676 := n7_
                        have NB676_662 := n8_
                        clear n0_ n1_ n2_ n3_ n4_ n5_ n6_ n7_ n8_
                        clear hb hbox hg
                        refine hK.out _ _ ⟨(blk_cell BK662.out 0).trans rfl, (blk_cell BK662.out 1).trans rfl, (blk_cell BK662.out 2).trans rfl, ((HB.out.cell (World.block_lt_of_cell? w _ hw664_0)).trans hw664_0), ((HB.out.cell (World.block_lt_of_cell? w _ hw664_1)).trans hw664_1), ((HB.out.cell (World.block_lt_of_cell? w _ hw664_2)).trans hw664_2), ((HB.out.cell (World.block_lt_of_cell? w _ hw665_0)).trans hw665_0), ((HB.out.cell (World.block_lt_of_cell? w _ hw665_1)).trans hw665_1), ((HB.out.cell (World.block_lt_of_cell? w _ hw665_2)).trans hw665_2)⟩ (fun hHeld => ?_)
                        clear hK K
                        refine norm_ (a' := ?_) ?_ ?_
                        rotate_left
                        · show Act.put _ (some 8) _ = _
                          simp only [Act.put, List.setIfInBounds_toArray, List.set_cons_zero, List.set_cons_succ, i64_w, i32_w]
                          rfl
                        refine one_ (i := 11) (N := some 56) #[true, true, true, true, true, true, true, true, true, true, true, true, false, false, false, true, false, false] rfl rfl (one_of HT_.out (by kernel_rfl)) (by decide) (fun K hK => ?_)
                        refine goes_ Try.func33 (by kernel_rfl) rfl #[.agg #[.slice Ao21 x663000_2.length co21, .slice Ao22 x663001_2.length co22, .bool x663002_2], .int .i64 ((rd_T53 l1 x7_2).f1), .int .i64 ((rd_T53 l1 x7_2).f2)] (by rfl) rfl rfl (by (try simp only [List.map_toArray, List.map_cons, List.map_nil]); first | done | rfl | (simp only [List.length_drop, List.length_take]; rfl)) ?_
                        with_reducible refine (domup_Add.calls k2 _ _ x663000_2 _ _ x663001_2 x663002_2 ((rd_T53 l1 x7_2).f1) ((rd_T53 l1 x7_2).f2) t666 t669 t672 t673 _ ?side1 ?side2 ?side3 ?side4 A20.out).mono ?_
                        (case side1 => repeat (first | exact (Kd.S_reads' HO_663000.out).2.2 | (with_reducible refine Kd.C_alloc ?_ _) | (with_reducible refine Kd.C_drewN ?_ _) | (with_reducible refine Kd.C_drew ?_)))
                        (case side2 => exact (Kd.S_reads' HO_663000.out).2.1)
                        (case side3 => repeat (first | exact (Kd.R_reads' HO_663001.out).2.2 | (with_reducible refine Kd.C_alloc ?_ _) | (with_reducible refine Kd.C_drewN ?_ _) | (with_reducible refine Kd.C_drew ?_)))
                        (case side4 => exact (Kd.R_reads' HO_663001.out).2.1)
                        rintro e w25 ⟨v667, v670, v674, rfl, ho0, ho1, ho2, hb⟩
                        refine ⟨_, rfl, ?_⟩
                        have n0_ := Aside0.mk (Kd.S_mono (Kd.S_told (Kd.S_told (Kd.S_told (Kd.S_old (by (with_reducible repeat (first | apply Kd.S_alloc | apply Kd.S_drewN | apply Kd.S_drew)); exact HO_663000.out) hb) (Kd.S_base ho0)) (Kd.R_base ho1)) (Kd.R_base ho2)) (fun _ h_ => h_.1))
                        have n1_ := Aside0.mk (Kd.R_mono (Kd.R_told (Kd.R_told (Kd.R_old (by (with_reducible repeat (first | apply Kd.R_alloc | apply Kd.R_drewN | apply Kd.R_drew)); exact HO_663001.out) hb) (Kd.R_base ho1)) (Kd.R_base ho2)) (fun _ h_ => h_.1))
                        have n2_ := Aside0.mk (Kd.S_lower (Kd.S_new' (Kd.S_new' ho0 (Kd.S_lt (by (with_reducible repeat (first | apply Kd.S_alloc | apply Kd.S_drewN | apply Kd.S_drew)); exact HO_663000.out))) (Kd.R_lt (by (with_reducible repeat (first | apply Kd.R_alloc | apply Kd.R_drewN | apply Kd.R_drew)); exact HO_663001.out))) (below_size (by repeat (first | (with_reducible first | exact HB.out | apply below_alloc | apply pw_below_drewN | apply below_drew1 | refine below_set ?_ GE662.out | refine below_set ?_ GE676.out) | exact HB.out))))
                        have n3_ := Aside0.mk (Kd.R_lower (Kd.R_new' ho1 (Kd.R_lt (by (with_reducible repeat (first | apply Kd.R_alloc | apply Kd.R_drewN | apply Kd.R_drew)); exact HO_663001.out))) (below_size (by repeat (first | (with_reducible first | exact HB.out | apply below_alloc | apply pw_below_drewN | apply below_drew1 | refine below_set ?_ GE662.out | refine below_set ?_ GE676.out) | exact HB.out))))
                        have n4_ := Aside0.mk (Kd.R_lower (Kd.R_new' ho2 (Kd.R_lt (by (with_reducible repeat (first | apply Kd.R_alloc | apply Kd.R_drewN | apply Kd.R_drew)); exact HO_663001.out))) (below_size (by repeat (first | (with_reducible first | exact HB.out | apply below_alloc | apply pw_below_drewN | apply below_drew1 | refine below_set ?_ GE662.out | refine below_set ?_ GE676.out) | exact HB.out))))
                        have n5_ := Aside0.mk (blk_below (g := gb662) (o := .cells #[.slice Ao21 x663000_2.length co21, .slice Ao22 x663001_2.length co22, .bool x663002_2] 40 (0, 0)) (by (with_reducible repeat (first | refine blk_drewN ?_ _ | refine blk_drew ?_ | refine blk_alloc ?_ _)); exact BK662.out) hb)
                        have n6_ := Aside0.mk (blk_below (g := gb676) (o := .cells #[.slice none 0 0, .slice none 0 0, .bool false] 40 (0, 0)) (by (with_reducible repeat (first | refine blk_drewN ?_ _ | refine blk_drew ?_ | refine blk_alloc ?_ _)); exact BK676.out) hb)
                        have n7_ := Aside0.mk (below_step (by repeat (first | (with_reducible first | exact HB.out | apply below_alloc | apply pw_below_drewN | apply below_drew1 | refine below_set ?_ GE662.out | refine below_set ?_ GE676.out) | exact HB.out)) hb)
                        clear HO_663000
                        clear HO_663001
                        clear BK662
                        clear BK676
                        clear HB
                        have HO_663000 := n0_
                        have HO_663001 := n1_
                        have HO668 := n2_
                        have HO671 := n3_
                        have HO675 := n4_
                        have BK662 := n5_
                        have BK676 := n6_
                        have HB := n7_
                        clear n0_ n1_ n2_ n3_ n4_ n5_ n6_ n7_
                        (try clear hb)
                        (try clear hb2)
                        (try clear hk)
                        (try clear hi)
                        (try clear ho0)
                        (try clear ho1)
                        (try clear ho2)
                        refine hK.out _ _ ⟨(blk_cell BK662.out 0).trans rfl, (blk_cell BK662.out 1).trans rfl, (blk_cell BK662.out 2).trans rfl, ((HB.out.cell (World.block_lt_of_cell? w _ hw664_0)).trans hw664_0), ((HB.out.cell (World.block_lt_of_cell? w _ hw664_1)).trans hw664_1), ((HB.out.cell (World.block_lt_of_cell? w _ hw664_2)).trans hw664_2), ((HB.out.cell (World.block_lt_of_cell? w _ hw665_0)).trans hw665_0), ((HB.out.cell (World.block_lt_of_cell? w _ hw665_1)).trans hw665_1), ((HB.out.cell (World.block_lt_of_cell? w _ hw665_2)).trans hw665_2)⟩ (fun hHeld => ?_)
                        clear hK K
                        refine norm_ (a' := ?_) ?_ ?_
                        rotate_left
                        · show Act.put _ (some 56) _ = _
                          simp only [Act.put, List.setIfInBounds_toArray, List.set_cons_zero, List.set_cons_succ, i64_w, i32_w]
                          rfl
                        refine pure_ (i := 12) (N := some 44) (v := ?_) (a' := ?_) #[true, true, true, true, true, true, true, true, true, true, true, true, true, false, false, true, false, false] rfl rfl (any_of HT_.out (by kernel_rfl)) (fun _ _ _ h => h) (Or.inl ⟨by rfl, ?_⟩) ?_ ?_
                        rotate_left
                        · intro w'
                          go_simp
                          with_reducible rfl
                        rotate_left
                        · simp only [Act.put, List.setIfInBounds_toArray, List.set_cons_zero, List.set_cons_succ, i64_w, i32_w]
                          rfl
                        refine pure_ (i := 13) (N := some 57) (v := ?_) (a' := ?_) #[true, true, true, true, true, true, true, true, true, true, true, true, true, true, false, true, false, false] rfl rfl (any_of HT_.out (by kernel_rfl)) (fun _ _ _ h => h) (Or.inl ⟨by rfl, ?_⟩) ?_ ?_
                        rotate_left
                        · intro w'
                          go_simp
                          with_reducible rfl
                        rotate_left
                        · simp only [Act.put, List.setIfInBounds_toArray, List.set_cons_zero, List.set_cons_succ, i64_w, i32_w]
                          rfl
                        refine pure_ (i := 14) (N := some 58) (v := ?_) (a' := ?_) #[true, true, true, true, true, true, true, true, true, true, true, true, true, true, true, true, false, false] rfl rfl (any_of HT_.out (by kernel_rfl)) (fun _ _ _ h => h) (Or.inl ⟨by rfl, ?_⟩) ?_ ?_
                        rotate_left
                        · intro w'
                          go_simp
                          with_reducible rfl
                        rotate_left
                        · simp only [Act.put, List.setIfInBounds_toArray, List.set_cons_zero, List.set_cons_succ, i64_w, i32_w]
                          rfl
                        exact norm_ (by simp only [putAll, Act.put, List.setIfInBounds_toArray, List.set_cons_zero, List.set_cons_succ]) (hCont (v667, v670, v674, gb676) _ ⟨hHeld, (by (with_reducible repeat (first | apply Kd.S_alloc | apply Kd.S_drewN | apply Kd.S_drew)); exact Kd.S_mono HO668.out (fun _ hk => ⟨hk.1.1.1, ⟨hk.1.1.2, ⟨hk.1.2, hk.2⟩⟩⟩)), (by (with_reducible repeat (first | apply Kd.R_alloc | apply Kd.R_drewN | apply Kd.R_drew)); exact HO671.out), (by (with_reducible repeat (first | apply Kd.R_alloc | apply Kd.R_drewN | apply Kd.R_drew)); exact HO675.out), (by (with_reducible repeat (first | apply Kd.S_alloc | apply Kd.S_drewN | apply Kd.S_drew)); exact Kd.S_mono HO_663000.out (fun _ hk => ⟨hk.1.1.2, ⟨hk.1.2, ⟨hk.2, hk.1.1.1⟩⟩⟩)), (by (with_reducible repeat (first | apply Kd.R_alloc | apply Kd.R_drewN | apply Kd.R_drew)); exact Kd.R_mono HO_663001.out (fun _ hk => ⟨hk.1.2, hk.2⟩)), (by (with_reducible repeat (first | refine blk_drewN ?_ _ | refine blk_drew ?_ | refine blk_alloc ?_ _)); exact BK662.out), (by (with_reducible repeat (first | refine blk_drewN ?_ _ | refine blk_drew ?_ | refine blk_alloc ?_ _)); exact BK676.out), GW676.out, GE676.out, NB662_676.out, NB676_662.out, (by repeat (first | (with_reducible first | exact HB.out | apply below_alloc | apply pw_below_drewN | apply below_drew1 | refine below_set ?_ GE662.out | refine below_set ?_ GE676.out) | exact HB.out))⟩)
                    rintro ⟨v667, v670, v674, gb676⟩ w26 ⟨hS_, h0_, h1_, h2_, h3_, h4_, h5_, h6_, h7_, h8_, h9_, h10_, h11_⟩
                    have n0_ : Aside0 (Kd.S (Kd.slice 3 (Kd.int .i64)) 25 w26 w.heap.size (fun k_ => some k_ ≠ (v670 : Value).ownBlock ∧ some k_ ≠ (v674 : Value).ownBlock ∧ some k_ ≠ (.slice Ao21 x663000_2.length co21 : Value).ownBlock ∧ some k_ ≠ (.slice Ao22 x663001_2.length co22 : Value).ownBlock) v667 t666) := ⟨h0_⟩
                    have n1_ : Aside0 (Kd.R (Kd.int .i64) 3 w26 w.heap.size (fun k_ => some k_ ≠ (v674 : Value).ownBlock ∧ some k_ ≠ (.slice Ao22 x663001_2.length co22 : Value).ownBlock) v670 t669) := ⟨h1_⟩
                    have n2_ : Aside0 (Kd.R (Kd.int .i64) 3 w26 w.heap.size (fun k_ => some k_ ≠ (v670 : Value).ownBlock ∧ some k_ ≠ (.slice Ao22 x663001_2.length co22 : Value).ownBlock) v674 t673) := ⟨h2_⟩
                    have n3_ : Aside0 (Kd.S (Kd.slice 3 (Kd.int .i64)) 25 w26 w.heap.size (fun k_ => some k_ ≠ (v667 : Value).ownBlock ∧ some k_ ≠ (v670 : Value).ownBlock ∧ some k_ ≠ (v674 : Value).ownBlock ∧ some k_ ≠ (.slice Ao22 x663001_2.length co22 : Value).ownBlock) (.slice Ao21 x663000_2.length co21) x663000_2) := ⟨h3_⟩
                    have n4_ : Aside0 (Kd.R (Kd.int .i64) 3 w26 w.heap.size (fun k_ => some k_ ≠ (v670 : Value).ownBlock ∧ some k_ ≠ (v674 : Value).ownBlock) (.slice Ao22 x663001_2.length co22) x663001_2) := ⟨h4_⟩
                    have n5_ : Aside0 (w26.heap[gb662]? = some (.cells #[.slice Ao21 x663000_2.length co21, .slice Ao22 x663001_2.length co22, .bool x663002_2] 40 (0, 0))) := ⟨h5_⟩
                    have n6_ : Aside0 (w26.heap[gb676]? = some (.cells #[.slice none 0 0, .slice none 0 0, .bool false] 40 (0, 0))) := ⟨h6_⟩
                    have n7_ : Aside0 (w.heap.size ≤ gb676) := ⟨h7_⟩
                    have n8_ : Aside0 (w.heap.size ≤ gb676) := ⟨h8_⟩
                    have n9_ : Aside0 (gb662 ≠ gb676) := ⟨h9_⟩
                    have n10_ : Aside0 (gb676 ≠ gb662) := ⟨h10_⟩
                    have n11_ : Aside0 (Below w.heap.size w w26) := ⟨h11_⟩
                    clear HO_663000
                    clear HO_663001
                    clear BK662
                    clear HB
                    clear h0_ h1_ h2_ h3_ h4_ h5_ h6_ h7_ h8_ h9_ h10_ h11_
                    have HO668 := n0_
                    have HO671 := n1_
                    have HO675 := n2_
                    have HO_663000 := n3_
                    have HO_663001 := n4_
                    have BK662 := n5_
                    have BK676 := n6_
                    have GW676 := n7_
                    have GE676 := n8_
                    have NB662_676 := n9_
                    have NB676_662 := n10_
                    have HB := n11_
                    clear n0_ n1_ n2_ n3_ n4_ n5_ n6_ n7_ n8_ n9_ n10_ n11_
                    have hHeld : w26.cell? ⟨gb662, 0, none⟩ = some (.slice Ao21 x663000_2.length co21) ∧ w26.cell? ⟨gb662, 1, none⟩ = some (.slice Ao22 x663001_2.length co22) ∧ w26.cell? ⟨gb662, 2, none⟩ = some (.bool x663002_2) ∧ w26.cell? (ad663.add ((x7_2).toNat * 3)) = some (.int .i64 ((rd_T53 l1 x7_2).f0)) ∧ w26.cell? ⟨(ad663.add ((x7_2).toNat * 3)).block, (ad663.add ((x7_2).toNat * 3)).off + 1, none⟩ = some (.int .i64 ((rd_T53 l1 x7_2).f1)) ∧ w26.cell? ⟨(ad663.add ((x7_2).toNat * 3)).block, (ad663.add ((x7_2).toNat * 3)).off + 2, none⟩ = some (.int .i64 ((rd_T53 l1 x7_2).f2)) ∧ w26.cell? (ad663.add ((x7_2).toNat * 3)) = some (.int .i64 ((rd_T53 l1 x7_2).f0)) ∧ w26.cell? ⟨(ad663.add ((x7_2).toNat * 3)).block, (ad663.add ((x7_2).toNat * 3)).off + 1, none⟩ = some (.int .i64 ((rd_T53 l1 x7_2).f1)) ∧ w26.cell? ⟨(ad663.add ((x7_2).toNat * 3)).block, (ad663.add ((x7_2).toNat * 3)).off + 2, none⟩ = some (.int .i64 ((rd_T53 l1 x7_2).f2)) := hS_
                    obtain ⟨Ao27, co27, eo27⟩ := Kd.S_slice HO668.out
                    (first | subst eo27 | (injection eo27 with f1_ f2_ f3_; have f4_ := f1_.symm; have f5_ := f3_.symm; clear f1_ f2_ f3_; subst f4_; subst f5_))
                    obtain ⟨Ao29, co29, eo29⟩ := Kd.R_slice HO671.out
                    (first | subst eo29 | (injection eo29 with f1_ f2_ f3_; have f4_ := f1_.symm; have f5_ := f3_.symm; clear f1_ f2_ f3_; subst f4_; subst f5_))
                    refine norm_ (a' := ?_) ?_ ?_
                    rotate_left
                    · simp only [putAll, Act.put, List.setIfInBounds_toArray, List.set_cons_zero, List.set_cons_succ]
                      rfl
                    refine one_ (i := 16) (N := none) #[true, true, true, true, true, true, true, true, true, true, true, true, true, true, true, true, true, false] rfl rfl (one_of HT_.out (by kernel_rfl)) (by decide) (fun K hK => ?_)
                    have hs28 : w26.cell? ⟨gb676, 0, none⟩ = some (.slice none 0 0) := (blk_cell BK676.out 0).trans rfl
                    have hfs28 := blk_frozen BK676.out 0
                    have hns28_0 := NB662_676.out
                    have hms28_0 := NB676_662.out
                    have hs30 : w26.cell? ⟨gb676, 1, none⟩ = some (.slice none 0 0) := (blk_cell BK676.out 1).trans rfl
                    have hfs30 := blk_frozen BK676.out 1
                    have hns30_0 := NB662_676.out
                    have hms30_0 := NB676_662.out
                    have hs31 : w26.cell? ⟨gb676, 2, none⟩ = some (.bool false) := (blk_cell BK676.out 2).trans rfl
                    have hfs31 := blk_frozen BK676.out 2
                    have hns31_0 := NB662_676.out
                    have hms31_0 := NB676_662.out
                    refine skip_ (w1 := ?_) (by rfl) rfl ?_ ?_
                    rotate_left
                    · go_simp
                      rfl
                    refine hK.out _ _ ⟨((cell_far (p := ⟨gb676, _, none⟩) NB662_676.out _).trans (((cell_far (p := ⟨gb676, _, none⟩) NB662_676.out _).trans (((cell_far (p := ⟨gb676, _, none⟩) NB662_676.out _).trans (hHeld.1)))))), ((cell_far (p := ⟨gb676, _, none⟩) NB662_676.out _).trans (((cell_far (p := ⟨gb676, _, none⟩) NB662_676.out _).trans (((cell_far (p := ⟨gb676, _, none⟩) NB662_676.out _).trans (hHeld.2.1)))))), ((cell_far (p := ⟨gb676, _, none⟩) NB662_676.out _).trans (((cell_far (p := ⟨gb676, _, none⟩) NB662_676.out _).trans (((cell_far (p := ⟨gb676, _, none⟩) NB662_676.out _).trans (hHeld.2.2.1)))))), ((cell_far (p := ⟨gb676, _, none⟩) (by first | exact Nat.ne_of_lt (Nat.lt_of_lt_of_le (by have := World.block_lt_of_cell? _ _ hw664_0; first | rwa [add_block] at this | exact this) GW676.out) | (rw [add_block]; exact Nat.ne_of_lt (Nat.lt_of_lt_of_le (by have := World.block_lt_of_cell? _ _ hw664_0; first | rwa [add_block] at this | exact this) GW676.out)) | (show (Addr.add _ _).block ≠ _; rw [add_block]; exact Nat.ne_of_lt (Nat.lt_of_lt_of_le (by have := World.block_lt_of_cell? _ _ hw664_0; first | rwa [add_block] at this | exact this) GW676.out)) | (dsimp only; exact Nat.ne_of_lt (Nat.lt_of_lt_of_le (by have := World.block_lt_of_cell? _ _ hw664_0; first | rwa [add_block] at this | exact this) GW676.out))) _).trans (((cell_far (p := ⟨gb676, _, none⟩) (by first | exact Nat.ne_of_lt (Nat.lt_of_lt_of_le (by have := World.block_lt_of_cell? _ _ hw664_0; first | rwa [add_block] at this | exact this) GW676.out) | (rw [add_block]; exact Nat.ne_of_lt (Nat.lt_of_lt_of_le (by have := World.block_lt_of_cell? _ _ hw664_0; first | rwa [add_block] at this | exact this) GW676.out)) | (show (Addr.add _ _).block ≠ _; rw [add_block]; exact Nat.ne_of_lt (Nat.lt_of_lt_of_le (by have := World.block_lt_of_cell? _ _ hw664_0; first | rwa [add_block] at this | exact this) GW676.out)) | (dsimp only; exact Nat.ne_of_lt (Nat.lt_of_lt_of_le (by have := World.block_lt_of_cell? _ _ hw664_0; first | rwa [add_block] at this | exact this) GW676.out))) _).trans (((cell_far (p := ⟨gb676, _, none⟩) (by first | exact Nat.ne_of_lt (Nat.lt_of_lt_of_le (by have := World.block_lt_of_cell? _ _ hw664_0; first | rwa [add_block] at this | exact this) GW676.out) | (rw [add_block]; exact Nat.ne_of_lt (Nat.lt_of_lt_of_le (by have := World.block_lt_of_cell? _ _ hw664_0; first | rwa [add_block] at this | exact this) GW676.out)) | (show (Addr.add _ _).block ≠ _; rw [add_block]; exact Nat.ne_of_lt (Nat.lt_of_lt_of_le (by have := World.block_lt_of_cell? _ _ hw664_0; first | rwa [add_block] at this | exact this) GW676.out)) | (dsimp only; exact Nat.ne_of_lt (Nat.lt_of_lt_of_le (by have := World.block_lt_of_cell? _ _ hw664_0; first | rwa [add_block] at this | exact this) GW676.out))) _).trans (hHeld.2.2.2.1)))))), ((cell_far (p := ⟨gb676, _, none⟩) (by first | exact Nat.ne_of_lt (Nat.lt_of_lt_of_le (by have := World.block_lt_of_cell? _ _ hw664_1; first | rwa [add_block] at this | exact this) GW676.out) | (rw [add_block]; exact Nat.ne_of_lt (Nat.lt_of_lt_of_le (by have := World.block_lt_of_cell? _ _ hw664_1; first | rwa [add_block] at this | exact this) GW676.out)) | (show (Addr.add _ _).block ≠ _; rw [add_block]; exact Nat.ne_of_lt (Nat.lt_of_lt_of_le (by have := World.block_lt_of_cell? _ _ hw664_1; first | rwa [add_block] at this | exact this) GW676.out)) | (dsimp only; exact Nat.ne_of_lt (Nat.lt_of_lt_of_le (by have := World.block_lt_of_cell? _ _ hw664_1; first | rwa [add_block] at this | exact this) GW676.out))) _).trans (((cell_far (p := ⟨gb676, _, none⟩) (by first | exact Nat.ne_of_lt (Nat.lt_of_lt_of_le (by have := World.block_lt_of_cell? _ _ hw664_1; first | rwa [add_block] at this | exact this) GW676.out) | (rw [add_block]; exact Nat.ne_of_lt (Nat.lt_of_lt_of_le (by have := World.block_lt_of_cell? _ _ hw664_1; first | rwa [add_block] at this | exact this) GW676.out)) | (show (Addr.add _ _).block ≠ _; rw [add_block]; exact Nat.ne_of_lt (Nat.lt_of_lt_of_le (by have := World.block_lt_of_cell? _ _ hw664_1; first | rwa [add_block] at this | exact this) GW676.out)) | (dsimp only; exact Nat.ne_of_lt (Nat.lt_of_lt_of_le (by have := World.block_lt_of_cell? _ _ hw664_1; first | rwa [add_block] at this | exact this) GW676.out))) _).trans (((cell_far (p := ⟨gb676, _, none⟩) (by first | exact Nat.ne_of_lt (Nat.lt_of_lt_of_le (by have := World.block_lt_of_cell? _ _ hw664_1; first | rwa [add_block] at this | exact this) GW676.out) | (rw [add_block]; exact Nat.ne_of_lt (Nat.lt_of_lt_of_le (by have := World.block_lt_of_cell? _ _ hw664_1; first | rwa [add_block] at this | exact this) GW676.out)) | (show (Addr.add _ _).block ≠ _; rw [add_block]; exact Nat.ne_of_lt (Nat.lt_of_lt_of_le (by have := World.block_lt_of_cell? _ _ hw664_1; first | rwa [add_block] at this | exact this) GW676.out)) | (dsimp only; exact Nat.ne_of_lt (Nat.lt_of_lt_of_le (by have := World.block_lt_of_cell? _ _ hw664_1; first | rwa [add_block] at this | exact this) GW676.out))) _).trans (hHeld.2.2.2.2.1)))))), ((cell_far (p := ⟨gb676, _, none⟩) (by first | exact Nat.ne_of_lt (Nat.lt_of_lt_of_le (by have := World.block_lt_of_cell? _ _ hw664_2; first | rwa [add_block] at this | exact this) GW676.out) | (rw [add_block]; exact Nat.ne_of_lt (Nat.lt_of_lt_of_le (by have := World.block_lt_of_cell? _ _ hw664_2; first | rwa [add_block] at this | exact this) GW676.out)) | (show (Addr.add _ _).block ≠ _; rw [add_block]; exact Nat.ne_of_lt (Nat.lt_of_lt_of_le (by have := World.block_lt_of_cell? _ _ hw664_2; first | rwa [add_block] at this | exact this) GW676.out)) | (dsimp only; exact Nat.ne_of_lt (Nat.lt_of_lt_of_le (by have := World.block_lt_of_cell? _ _ hw664_2; first | rwa [add_block] at this | exact this) GW676.out))) _).trans (((cell_far (p := ⟨gb676, _, none⟩) (by first | exact Nat.ne_of_lt (Nat.lt_of_lt_of_le (by have := World.block_lt_of_cell? _ _ hw664_2; first | rwa [add_block] at this | exact this) GW676.out) | (rw [add_block]; exact Nat.ne_of_lt (Nat.lt_of_lt_of_le (by have := World.block_lt_of_cell? _ _ hw664_2; first | rwa [add_block] at this | exact this) GW676.out)) | (show (Addr.add _ _).block ≠ _; rw [add_block]; exact Nat.ne_of_lt (Nat.lt_of_lt_of_le (by have := World.block_lt_of_cell? _ _ hw664_2; first | rwa [add_block] at this | exact this) GW676.out)) | (dsimp only; exact Nat.ne_of_lt (Nat.lt_of_lt_of_le (by have := World.block_lt_of_cell? _ _ hw664_2; first | rwa [add_block] at this | exact this) GW676.out))) _).trans (((cell_far (p := ⟨gb676, _, none⟩) (by first | exact Nat.ne_of_lt (Nat.lt_of_lt_of_le (by have := World.block_lt_of_cell? _ _ hw664_2; first | rwa [add_block] at this | exact this) GW676.out) | (rw [add_block]; exact Nat.ne_of_lt (Nat.lt_of_lt_of_le (by have := World.block_lt_of_cell? _ _ hw664_2; first | rwa [add_block] at this | exact this) GW676.out)) | (show (Addr.add _ _).block ≠ _; rw [add_block]; exact Nat.ne_of_lt (Nat.lt_of_lt_of_le (by have := World.block_lt_of_cell? _ _ hw664_2; first | rwa [add_block] at this | exact this) GW676.out)) | (dsimp only; exact Nat.ne_of_lt (Nat.lt_of_lt_of_le (by have := World.block_lt_of_cell? _ _ hw664_2; first | rwa [add_block] at this | exact this) GW676.out))) _).trans (hHeld.2.2.2.2.2.1)))))), ((cell_far (p := ⟨gb676, _, none⟩) (by first | exact Nat.ne_of_lt (Nat.lt_of_lt_of_le (by have := World.block_lt_of_cell? _ _ hw665_0; first | rwa [add_block] at this | exact this) GW676.out) | (rw [add_block]; exact Nat.ne_of_lt (Nat.lt_of_lt_of_le (by have := World.block_lt_of_cell? _ _ hw665_0; first | rwa [add_block] at this | exact this) GW676.out)) | (show (Addr.add _ _).block ≠ _; rw [add_block]; exact Nat.ne_of_lt (Nat.lt_of_lt_of_le (by have := World.block_lt_of_cell? _ _ hw665_0; first | rwa [add_block] at this | exact this) GW676.out)) | (dsimp only; exact Nat.ne_of_lt (Nat.lt_of_lt_of_le (by have := World.block_lt_of_cell? _ _ hw665_0; first | rwa [add_block] at this | exact this) GW676.out))) _).trans (((cell_far (p := ⟨gb676, _, none⟩) (by first | exact Nat.ne_of_lt (Nat.lt_of_lt_of_le (by have := World.block_lt_of_cell? _ _ hw665_0; first | rwa [add_block] at this | exact this) GW676.out) | (rw [add_block]; exact Nat.ne_of_lt (Nat.lt_of_lt_of_le (by have := World.block_lt_of_cell? _ _ hw665_0; first | rwa [add_block] at this | exact this) GW676.out)) | (show (Addr.add _ _).block ≠ _; rw [add_block]; exact Nat.ne_of_lt (Nat.lt_of_lt_of_le (by have := World.block_lt_of_cell? _ _ hw665_0; first | rwa [add_block] at this | exact this) GW676.out)) | (dsimp only; exact Nat.ne_of_lt (Nat.lt_of_lt_of_le (by have := World.block_lt_of_cell? _ _ hw665_0; first | rwa [add_block] at this | exact this) GW676.out))) _).trans (((cell_far (p := ⟨gb676, _, none⟩) (by first | exact Nat.ne_of_lt (Nat.lt_of_lt_of_le (by have := World.block_lt_of_cell? _ _ hw665_0; first | rwa [add_block] at this | exact this) GW676.out) | (rw [add_block]; exact Nat.ne_of_lt (Nat.lt_of_lt_of_le (by have := World.block_lt_of_cell? _ _ hw665_0; first | rwa [add_block] at this | exact this) GW676.out)) | (show (Addr.add _ _).block ≠ _; rw [add_block]; exact Nat.ne_of_lt (Nat.lt_of_lt_of_le (by have := World.block_lt_of_cell? _ _ hw665_0; first | rwa [add_block] at this | exact this) GW676.out)) | (dsimp only; exact Nat.ne_of_lt (Nat.lt_of_lt_of_le (by have := World.block_lt_of_cell? _ _ hw665_0; first | rwa [add_block] at this | exact this) GW676.out))) _).trans (hHeld.2.2.2.2.2.2.1)))))), ((cell_far (p := ⟨gb676, _, none⟩) (by first | exact Nat.ne_of_lt (Nat.lt_of_lt_of_le (by have := World.block_lt_of_cell? _ _ hw665_1; first | rwa [add_block] at this | exact this) GW676.out) | (rw [add_block]; exact Nat.ne_of_lt (Nat.lt_of_lt_of_le (by have := World.block_lt_of_cell? _ _ hw665_1; first | rwa [add_block] at this | exact this) GW676.out)) | (show (Addr.add _ _).block ≠ _; rw [add_block]; exact Nat.ne_of_lt (Nat.lt_of_lt_of_le (by have := World.block_lt_of_cell? _ _ hw665_1; first | rwa [add_block] at this | exact this) GW676.out)) | (dsimp only; exact Nat.ne_of_lt (Nat.lt_of_lt_of_le (by have := World.block_lt_of_cell? _ _ hw665_1; first | rwa [add_block] at this | exact this) GW676.out))) _).trans (((cell_far (p := ⟨gb676, _, none⟩) (by first | exact Nat.ne_of_lt (Nat.lt_of_lt_of_le (by have := World.block_lt_of_cell? _ _ hw665_1; first | rwa [add_block] at this | exact this) GW676.out) | (rw [add_block]; exact Nat.ne_of_lt (Nat.lt_of_lt_of_le (by have := World.block_lt_of_cell? _ _ hw665_1; first | rwa [add_block] at this | exact this) GW676.out)) | (show (Addr.add _ _).block ≠ _; rw [add_block]; exact Nat.ne_of_lt (Nat.lt_of_lt_of_le (by have := World.block_lt_of_cell? _ _ hw665_1; first | rwa [add_block] at this | exact this) GW676.out)) | (dsimp only; exact Nat.ne_of_lt (Nat.lt_of_lt_of_le (by have := World.block_lt_of_cell? _ _ hw665_1; first | rwa [add_block] at this | exact this) GW676.out))) _).trans (((cell_far (p := ⟨gb676, _, none⟩) (by first | exact Nat.ne_of_lt (Nat.lt_of_lt_of_le (by have := World.block_lt_of_cell? _ _ hw665_1; first | rwa [add_block] at this | exact this) GW676.out) | (rw [add_block]; exact Nat.ne_of_lt (Nat.lt_of_lt_of_le (by have := World.block_lt_of_cell? _ _ hw665_1; first | rwa [add_block] at this | exact this) GW676.out)) | (show (Addr.add _ _).block ≠ _; rw [add_block]; exact Nat.ne_of_lt (Nat.lt_of_lt_of_le (by have := World.block_lt_of_cell? _ _ hw665_1; first | rwa [add_block] at this | exact this) GW676.out)) | (dsimp only; exact Nat.ne_of_lt (Nat.lt_of_lt_of_le (by have := World.block_lt_of_cell? _ _ hw665_1; first | rwa [add_block] at this | exact this) GW676.out))) _).trans (hHeld.2.2.2.2.2.2.2.1)))))), ((cell_far (p := ⟨gb676, _, none⟩) (by first | exact Nat.ne_of_lt (Nat.lt_of_lt_of_le (by have := World.block_lt_of_cell? _ _ hw665_2; first | rwa [add_block] at this | exact this) GW676.out) | (rw [add_block]; exact Nat.ne_of_lt (Nat.lt_of_lt_of_le (by have := World.block_lt_of_cell? _ _ hw665_2; first | rwa [add_block] at this | exact this) GW676.out)) | (show (Addr.add _ _).block ≠ _; rw [add_block]; exact Nat.ne_of_lt (Nat.lt_of_lt_of_le (by have := World.block_lt_of_cell? _ _ hw665_2; first | rwa [add_block] at this | exact this) GW676.out)) | (dsimp only; exact Nat.ne_of_lt (Nat.lt_of_lt_of_le (by have := World.block_lt_of_cell? _ _ hw665_2; first | rwa [add_block] at this | exact this) GW676.out))) _).trans (((cell_far (p := ⟨gb676, _, none⟩) (by first | exact Nat.ne_of_lt (Nat.lt_of_lt_of_le (by have := World.block_lt_of_cell? _ _ hw665_2; first | rwa [add_block] at this | exact this) GW676.out) | (rw [add_block]; exact Nat.ne_of_lt (Nat.lt_of_lt_of_le (by have := World.block_lt_of_cell? _ _ hw665_2; first | rwa [add_block] at this | exact this) GW676.out)) | (show (Addr.add _ _).block ≠ _; rw [add_block]; exact Nat.ne_of_lt (Nat.lt_of_lt_of_le (by have := World.block_lt_of_cell? _ _ hw665_2; first | rwa [add_block] at this | exact this) GW676.out)) | (dsimp only; exact Nat.ne_of_lt (Nat.lt_of_lt_of_le (by have := World.block_lt_of_cell? _ _ hw665_2; first | rwa [add_block] at this | exact this) GW676.out))) _).trans (((cell_far (p := ⟨gb676, _, none⟩) (by first | exact Nat.ne_of_lt (Nat.lt_of_lt_of_le (by have := World.block_lt_of_cell? _ _ hw665_2; first | rwa [add_block] at this | exact this) GW676.out) | (rw [add_block]; exact Nat.ne_of_lt (Nat.lt_of_lt_of_le (by have := World.block_lt_of_cell? _ _ hw665_2; first | rwa [add_block] at this | exact this) GW676.out)) | (show (Addr.add _ _).block ≠ _; rw [add_block]; exact Nat.ne_of_lt (Nat.lt_of_lt_of_le (by have := World.block_lt_of_cell? _ _ hw665_2; first | rwa [add_block] at this | exact this) GW676.out)) | (dsimp only; exact Nat.ne_of_lt (Nat.lt_of_lt_of_le (by have := World.block_lt_of_cell? _ _ hw665_2; first | rwa [add_block] at this | exact this) GW676.out))) _).trans (hHeld.2.2.2.2.2.2.2.2))))))⟩ (fun hHeld => ?_)
                    clear hK K
                    refine pure_ (i := 17) (N := some 9) (v := ?_) (a' := ?_) #[true, true, true, true, true, true, true, true, true, true, true, true, true, true, true, true, true, true] rfl rfl (any_of HT_.out (by kernel_rfl)) (fun _ _ _ h => h) (Or.inl ⟨by rfl, ?_⟩) ?_ ?_
                    rotate_left
                    · intro w'
                      go_simp
                      with_reducible rfl
                    rotate_left
                    · simp only [Act.put, List.setIfInBounds_toArray, List.set_cons_zero, List.set_cons_succ, i64_w, i32_w]
                      rfl
                    refine done_ (done_of HT_.out (by kernel_rfl)) ?_
                    have hnb32 := NB676_662.out
                    have hnc32 := NB662_676.out
                    have hcz33_0 : w26.cell? ⟨gb676, 0, none⟩ = some (.slice none 0 0) := (blk_cell BK676.out 0).trans rfl
                    have hcz33_1 : w26.cell? ⟨gb676, 1, none⟩ = some (.slice none 0 0) := (blk_cell BK676.out 1).trans rfl
                    have hcz33_2 : w26.cell? ⟨gb676, 2, none⟩ = some (.bool false) := (blk_cell BK676.out 2).trans rfl
                    have hfz33_0 := blk_frozen BK676.out 0
                    have hfz33_1 := blk_frozen BK676.out 1
                    have hfz33_2 := blk_frozen BK676.out 2
                    have hcz34_0 : w26.cell? ⟨gb662, 0, none⟩ = some (.slice Ao21 x663000_2.length co21) := (blk_cell BK662.out 0).trans rfl
                    have hcz34_1 : w26.cell? ⟨gb662, 1, none⟩ = some (.slice Ao22 x663001_2.length co22) := (blk_cell BK662.out 1).trans rfl
                    have hcz34_2 : w26.cell? ⟨gb662, 2, none⟩ = some (.bool x663002_2) := (blk_cell BK662.out 2).trans rfl
                    have hfz34_0 := blk_frozen BK662.out 0
                    have hfz34_1 := blk_frozen BK662.out 1
                    have hfz34_2 := blk_frozen BK662.out 2
                    try go_wp2
                    go_meet
                    case rel => exact ⟨_, (t666), (t669), (t672), (.slice Ao27 t666.length co27), (.slice Ao29 t669.length co29), H', ⟨by have := HJ3.out; have := HK2.out; first | omega | exact Nat.le_refl _⟩, ⟨by (with_reducible repeat (first | apply Kd.S_alloc | apply Kd.S_drewN | apply Kd.S_drew)); exact Kd.S_mono (Kd.S_far (p := ⟨gb662, 2, none⟩) (Kd.S_far (p := ⟨gb662, 1, none⟩) (Kd.S_far (p := ⟨gb662, 0, none⟩) (Kd.S_far (p := ⟨gb676, 2, none⟩) (Kd.S_far (p := ⟨gb676, 1, none⟩) (Kd.S_far (p := ⟨gb676, 0, none⟩) (Kd.S_types (Kd.S_types HO668.out BK676.out (by decide)) BK662.out (by decide)) (fun _ hk => hk.1.2) (.slice Ao27 t666.length co27)) (fun _ hk => hk.1.2) (.slice Ao29 t669.length co29)) (fun _ hk => hk.1.2) (.bool t672)) (fun _ hk => hk.2) (.slice Ao27 t666.length co27)) (fun _ hk => hk.2) (.slice Ao29 t669.length co29)) (fun _ hk => hk.2) (.bool t672)) (fun _ hk => hk.1.1.1)⟩, ⟨by (with_reducible repeat (first | apply Kd.R_alloc | apply Kd.R_drewN | apply Kd.R_drew)); exact Kd.R_mono (Kd.R_far (p := ⟨gb662, 2, none⟩) (Kd.R_far (p := ⟨gb662, 1, none⟩) (Kd.R_far (p := ⟨gb662, 0, none⟩) (Kd.R_far (p := ⟨gb676, 2, none⟩) (Kd.R_far (p := ⟨gb676, 1, none⟩) (Kd.R_far (p := ⟨gb676, 0, none⟩) (Kd.R_types (Kd.R_types HO671.out BK676.out (by decide)) BK662.out (by decide)) (fun _ hk => hk.1.2) (.slice Ao27 t666.length co27)) (fun _ hk => hk.1.2) (.slice Ao29 t669.length co29)) (fun _ hk => hk.1.2) (.bool t672)) (fun _ hk => hk.2) (.slice Ao27 t666.length co27)) (fun _ hk => hk.2) (.slice Ao29 t669.length co29)) (fun _ hk => hk.2) (.bool t672)) (fun _ hk => trivial)⟩, ⟨by (with_reducible repeat (first | refine blk_drewN ?_ _ | refine blk_drew ?_ | refine blk_alloc ?_ _)); refine blk_put (cs := #[.slice Ao27 t666.length co27, .slice Ao29 t669.length co29, .bool x663002_2]) ?_ 2 _ rfl; (with_reducible repeat (first | refine blk_drewN ?_ _ | refine blk_drew ?_ | refine blk_alloc ?_ _)); refine blk_put (cs := #[.slice Ao27 t666.length co27, .slice Ao22 x663001_2.length co22, .bool x663002_2]) ?_ 1 _ rfl; (with_reducible repeat (first | refine blk_drewN ?_ _ | refine blk_drew ?_ | refine blk_alloc ?_ _)); refine blk_put (cs := #[.slice Ao21 x663000_2.length co21, .slice Ao22 x663001_2.length co22, .bool x663002_2]) ?_ 0 _ rfl; (with_reducible repeat (first | refine blk_drewN ?_ _ | refine blk_drew ?_ | refine blk_alloc ?_ _)); refine blk_far ?_ NB662_676.out _; (with_reducible repeat (first | refine blk_drewN ?_ _ | refine blk_drew ?_ | refine blk_alloc ?_ _)); refine blk_far ?_ NB662_676.out _; (with_reducible repeat (first | refine blk_drewN ?_ _ | refine blk_drew ?_ | refine blk_alloc ?_ _)); refine blk_far ?_ NB662_676.out _; (with_reducible repeat (first | refine blk_drewN ?_ _ | refine blk_drew ?_ | refine blk_alloc ?_ _)); exact BK662.out⟩, ⟨by repeat (first | (with_reducible first | exact HB.out | apply below_alloc | apply pw_below_drewN | apply below_drew1 | refine below_set ?_ GE662.out | refine below_set ?_ GE676.out) | exact HB.out)⟩⟩
                  · rw [if_neg c19] at H
                    have c19b0 : (((rd_T53 l1 x7_2).f0) == 0) = false := beq_eq_false_iff_ne.mpr c19
                    have c19b1 : (((rd_T53 l1 x7_2).f0) != 0) = true := bne_iff_ne.mpr c19
                    (first | rw [c19b0] | (simp only [i64_w, i32_w]; rw [c19b0]) | skip)
                    by_cases c35 : ((rd_T53 l1 x7_2).f0) = 1
                    · rw [if_pos c35] at H
                      have c35b0 : (((rd_T53 l1 x7_2).f0) == 1) = true := beq_iff_eq.mpr c35
                      have c35b1 : (((rd_T53 l1 x7_2).f0) != 1) = false := bne_eq_false_iff_eq.mpr c35
                      clear c35
                      replace H := Option.bind_eq_some_iff.mp H
                      obtain ⟨⟨t679, t682, t685, t686⟩, A360, H⟩ := H
                      replace H : (bywashlaw15_DomupPlays.j2 k2 l0 l1 t653 x7_2 t679 t682 t685) = some r := H
                      have A36 := Aside0.mk A360
                      clear A360
                      have H' := Aside0.mk H
                      clear H
                      obtain ⟨Ao37, co37, eo37⟩ := Kd.S_slice HO_663000.out
                      subst eo37
                      obtain ⟨Ao38, co38, eo38⟩ := Kd.R_slice HO_663001.out
                      subst eo38
                      try go_wp2
                      have n0_ := Aside0.mk (Kd.S_drew HO_663000.out)
                      have n1_ := Aside0.mk (Kd.R_drew HO_663001.out)
                      have n2_ := Aside0.mk (blk_drew BK662.out)
                      have n3_ := Aside0.mk (below_drew1 HB.out)
                      clear HO_663000
                      clear HO_663001
                      clear BK662
                      clear HB
                      have HO_663000 := n0_
                      have HO_663001 := n1_
                      have BK662 := n2_
                      have HB := n3_
                      clear n0_ n1_ n2_ n3_
                      have p677 : 0 ≤ (x7_2 : Int) := of_decide_eq_true (by first | (with_reducible assumption) | assumption)
                      have q677 : x7_2 < (l1.length : Int) := of_decide_eq_true (by first | (with_reducible assumption) | assumption)
                      obtain ⟨ad677, e677, hx677_0, hx677_1, hx677_2⟩ := at_T53 HR1.out x7_2 p677 q677
                      have hw677_2 := hx677_2
                      have hw677_1 := hx677_1
                      have hw677_0 := hx677_0
                      obtain rfl : ad663 = ad677 := (by injection e677)
                      replace hx677_0 := (HB.out.cell (World.block_lt_of_cell? w _ hx677_0)).trans hx677_0
                      replace hx677_1 := (HB.out.cell (World.block_lt_of_cell? w _ hx677_1)).trans hx677_1
                      replace hx677_2 := (HB.out.cell (World.block_lt_of_cell? w _ hx677_2)).trans hx677_2
                      replace p677 := eq_true p677
                      replace q677 := eq_true q677
                      have p678 : 0 ≤ (x7_2 : Int) := of_decide_eq_true (by first | (with_reducible assumption) | assumption)
                      have q678 : x7_2 < (l1.length : Int) := of_decide_eq_true (by first | (with_reducible assumption) | assumption)
                      obtain ⟨ad678, e678, hx678_0, hx678_1, hx678_2⟩ := at_T53 HR1.out x7_2 p678 q678
                      have hw678_2 := hx678_2
                      have hw678_1 := hx678_1
                      have hw678_0 := hx678_0
                      obtain rfl : ad663 = ad678 := (by injection e678)
                      replace hx678_0 := (HB.out.cell (World.block_lt_of_cell? w _ hx678_0)).trans hx678_0
                      replace hx678_1 := (HB.out.cell (World.block_lt_of_cell? w _ hx678_1)).trans hx678_1
                      replace hx678_2 := (HB.out.cell (World.block_lt_of_cell? w _ hx678_2)).trans hx678_2
                      replace p678 := eq_true p678
                      replace q678 := eq_true q678
                      refine start_ (n := 18) (S := fun w' => w'.cell? ⟨gb662, 0, none⟩ = some (.slice Ao37 x663000_2.length co37) ∧ w'.cell? ⟨gb662, 1, none⟩ = some (.slice Ao38 x663001_2.length co38) ∧ w'.cell? ⟨gb662, 2, none⟩ = some (.bool x663002_2) ∧ w'.cell? (ad663.add ((x7_2).toNat * 3)) = some (.int .i64 ((rd_T53 l1 x7_2).f0)) ∧ w'.cell? ⟨(ad663.add ((x7_2).toNat * 3)).block, (ad663.add ((x7_2).toNat * 3)).off + 1, none⟩ = some (.int .i64 ((rd_T53 l1 x7_2).f1)) ∧ w'.cell? ⟨(ad663.add ((x7_2).toNat * 3)).block, (ad663.add ((x7_2).toNat * 3)).off + 2, none⟩ = some (.int .i64 ((rd_T53 l1 x7_2).f2)) ∧ w'.cell? (ad663.add ((x7_2).toNat * 3)) = some (.int .i64 ((rd_T53 l1 x7_2).f0)) ∧ w'.cell? ⟨(ad663.add ((x7_2).toNat * 3)).block, (ad663.add ((x7_2).toNat * 3)).off + 1, none⟩ = some (.int .i64 ((rd_T53 l1 x7_2).f1)) ∧ w'.cell? ⟨(ad663.add ((x7_2).toNat * 3)).block, (ad663.add ((x7_2).toNat * 3)).off + 2, none⟩ = some (.int .i64 ((rd_T53 l1 x7_2).f2))) (ds := []) #[false, false, false, false, false, false, false, false, false, false, false, false, false, false, false, false, false, false] (by kernel_rfl) rfl rfl ⟨(blk_cell BK662.out 0).trans rfl, (blk_cell BK662.out 1).trans rfl, (blk_cell BK662.out 2).trans rfl, ((HB.out.cell (World.block_lt_of_cell? w _ hw677_0)).trans hw677_0), ((HB.out.cell (World.block_lt_of_cell? w _ hw677_1)).trans hw677_1), ((HB.out.cell (World.block_lt_of_cell? w _ hw677_2)).trans hw677_2), ((HB.out.cell (World.block_lt_of_cell? w _ hw678_0)).trans hw678_0), ((HB.out.cell (World.block_lt_of_cell? w _ hw678_1)).trans hw678_1), ((HB.out.cell (World.block_lt_of_cell? w _ hw678_2)).trans hw678_2)⟩ (fun hHeld => ?_); refine with_tabW bywashlaw15_DomupPlays.tab14 bywashlaw15_DomupPlays.bits14 (fun HT_ HW_ => ?_)
                      generalize wr.drew = w39 at HO_663000 HO_663001 BK662 HB hx677_0 hx677_1 hx677_2 hx678_0 hx678_1 hx678_2 hHeld ⊢
                      refine pure_ (i := 1) (N := some 64) (v := ?_) (a' := ?_) #[false, true, false, false, false, false, false, false, false, false, false, false, false, false, false, false, false, false] rfl rfl (any_of HT_.out (by kernel_rfl)) (fun _ _ _ h => h) (Or.inl ⟨by rfl, ?_⟩) ?_ ?_
                      rotate_left
                      · intro w'
                        go_simp
                        with_reducible rfl
                      rotate_left
                      · simp only [Act.put, List.setIfInBounds_toArray, List.set_cons_zero, List.set_cons_succ, i64_w, i32_w]
                        rfl
                      refine pure_ (i := 2) (N := some 65) (v := ?_) (a' := ?_) #[false, true, true, false, false, false, false, false, false, false, false, false, false, false, false, false, false, false] rfl rfl (any_of HT_.out (by kernel_rfl)) (fun _ _ _ h => h) (Or.inl ⟨by rfl, ?_⟩) ?_ ?_
                      rotate_left
                      · intro w'
                        go_simp
                        with_reducible rfl
                      rotate_left
                      · simp only [Act.put, List.setIfInBounds_toArray, List.set_cons_zero, List.set_cons_succ, i64_w, i32_w]
                        rfl
                      refine pure_ (i := 3) (N := some 66) (v := ?_) (a' := ?_) #[false, true, true, true, false, false, false, false, false, false, false, false, false, false, false, false, false, false] rfl rfl (any_of HT_.out (by kernel_rfl)) (fun _ _ _ h => h) (Or.inl ⟨by rfl, ?_⟩) ?_ ?_
                      rotate_left
                      · intro w'
                        go_simp
                        with_reducible rfl
                      rotate_left
                      · simp only [Act.put, List.setIfInBounds_toArray, List.set_cons_zero, List.set_cons_succ, i64_w, i32_w]
                        rfl
                      refine pure_ (i := 4) (N := some 67) (v := ?_) (a' := ?_) #[false, true, true, true, true, false, false, false, false, false, false, false, false, false, false, false, false, false] rfl rfl (any_of HT_.out (by kernel_rfl)) (fun _ _ _ h => h) (Or.inl ⟨by rfl, ?_⟩) ?_ ?_
                      rotate_left
                      · intro w'
                        go_simp
                        with_reducible rfl
                      rotate_left
                      · simp only [Act.put, List.setIfInBounds_toArray, List.set_cons_zero, List.set_cons_succ, i64_w, i32_w]
                        rfl
                      refine pure_ (i := 6) (N := some 69) (v := ?_) (a' := ?_) #[false, true, true, true, true, false, true, false, false, false, false, false, false, false, false, false, false, false] rfl rfl (any_of HT_.out (by kernel_rfl)) (fun _ _ _ h => h) (Or.inl ⟨by rfl, ?_⟩) ?_ ?_
                      rotate_left
                      · intro w'
                        go_simp
                        with_reducible rfl
                      rotate_left
                      · simp only [Act.put, List.setIfInBounds_toArray, List.set_cons_zero, List.set_cons_succ, i64_w, i32_w]
                        rfl
                      refine pure_ (i := 7) (N := some 70) (v := ?_) (a' := ?_) #[false, true, true, true, true, false, true, true, false, false, false, false, false, false, false, false, false, false] rfl rfl (any_of HT_.out (by kernel_rfl)) (fun _ _ _ h => h) (Or.inl ⟨by rfl, ?_⟩) ?_ ?_
                      rotate_left
                      · intro w'
                        go_simp
                        with_reducible rfl
                      rotate_left
                      · simp only [Act.put, List.setIfInBounds_toArray, List.set_cons_zero, List.set_cons_succ, i64_w, i32_w]
                        rfl
                      refine pure_ (i := 8) (N := some 71) (v := ?_) (a' := ?_) #[false, true, true, true, true, false, true, true, true, false, false, false, false, false, false, false, false, false] rfl rfl (any_of HT_.out (by kernel_rfl)) (fun _ _ _ h => h) (Or.inl ⟨by rfl, ?_⟩) ?_ ?_
                      rotate_left
                      · intro w'
                        go_simp
                        with_reducible rfl
                      rotate_left
                      · simp only [Act.put, List.setIfInBounds_toArray, List.set_cons_zero, List.set_cons_succ, i64_w, i32_w]
                        rfl
                      refine pure_ (i := 9) (N := some 72) (v := ?_) (a' := ?_) #[false, true, true, true, true, false, true, true, true, true, false, false, false, false, false, false, false, false] rfl rfl (any_of HT_.out (by kernel_rfl)) (fun _ _ _ h => h) (Or.inl ⟨by rfl, ?_⟩) ?_ ?_
                      rotate_left
                      · intro w'
                        go_simp
                        with_reducible rfl
                      rotate_left
                      · simp only [Act.put, List.setIfInBounds_toArray, List.set_cons_zero, List.set_cons_succ, i64_w, i32_w]
                        rfl
                      refine take_ (i := 0) (N := some 63) (v := ?_) (a' := ?_) #[true, true, true, true, true, false, true, true, true, true, false, false, false, false, false, false, false, false] rfl rfl (take_ofW HT_.out HW_.out (by kernel_rfl)) (fun _ _ _ h => h) (Or.inl ⟨by rfl, ?_⟩) hHeld ?_ ?_
                      rotate_left
                      · rintro w' ⟨s0, s1, s2, s3, s4, s5, s6, s7, s8⟩
                        go_simp
                        with_reducible rfl
                      rotate_left
                      · simp only [Act.put, List.setIfInBounds_toArray, List.set_cons_zero, List.set_cons_succ, i64_w, i32_w]
                        rfl
                      refine take_ (i := 5) (N := some 68) (v := ?_) (a' := ?_) #[true, true, true, true, true, true, true, true, true, true, false, false, false, false, false, false, false, false] rfl rfl (take_ofW HT_.out HW_.out (by kernel_rfl)) (fun _ _ _ h => h) (Or.inl ⟨by rfl, ?_⟩) hHeld ?_ ?_
                      rotate_left
                      · rintro w' ⟨s0, s1, s2, s3, s4, s5, s6, s7, s8⟩
                        go_simp
                        with_reducible rfl
                      rotate_left
                      · simp only [Act.put, List.setIfInBounds_toArray, List.set_cons_zero, List.set_cons_succ, i64_w, i32_w]
                        rfl
                      refine take_ (i := 10) (N := some 73) (v := ?_) (a' := ?_) #[true, true, true, true, true, true, true, true, true, true, true, false, false, false, false, false, false, false] rfl rfl (take_ofW HT_.out HW_.out (by kernel_rfl)) (fun _ _ _ h => h) (Or.inl ⟨by rfl, ?_⟩) hHeld ?_ ?_
                      rotate_left
                      · rintro w' ⟨s0, s1, s2, s3, s4, s5, s6, s7, s8⟩
                        go_simp
                        with_reducible rfl
                      rotate_left
                      · simp only [Act.put, List.setIfInBounds_toArray, List.set_cons_zero, List.set_cons_succ, i64_w, i32_w]
                        rfl
                      refine join_ (σ := Value × Value × Value × Nat) 2 #[true, true, true, true, true, true, true, true, true, true, true, true, true, true, true, true, false, false] (fun s_ => [(74, .tuple #[.agg #[s_.1, s_.2.1, .bool t685], s_.2.2.1]), (10, .pointer (some ⟨s_.2.2.2, 0, none⟩)), (62, .tuple #[.agg #[s_.1, s_.2.1, .bool t685], s_.2.2.1]), (75, .agg #[s_.1, s_.2.1, .bool t685]), (76, s_.2.2.1)]) (fun s_ w' => (w'.cell? ⟨gb662, 0, none⟩ = some (.slice Ao37 x663000_2.length co37) ∧ w'.cell? ⟨gb662, 1, none⟩ = some (.slice Ao38 x663001_2.length co38) ∧ w'.cell? ⟨gb662, 2, none⟩ = some (.bool x663002_2) ∧ w'.cell? (ad663.add ((x7_2).toNat * 3)) = some (.int .i64 ((rd_T53 l1 x7_2).f0)) ∧ w'.cell? ⟨(ad663.add ((x7_2).toNat * 3)).block, (ad663.add ((x7_2).toNat * 3)).off + 1, none⟩ = some (.int .i64 ((rd_T53 l1 x7_2).f1)) ∧ w'.cell? ⟨(ad663.add ((x7_2).toNat * 3)).block, (ad663.add ((x7_2).toNat * 3)).off + 2, none⟩ = some (.int .i64 ((rd_T53 l1 x7_2).f2)) ∧ w'.cell? (ad663.add ((x7_2).toNat * 3)) = some (.int .i64 ((rd_T53 l1 x7_2).f0)) ∧ w'.cell? ⟨(ad663.add ((x7_2).toNat * 3)).block, (ad663.add ((x7_2).toNat * 3)).off + 1, none⟩ = some (.int .i64 ((rd_T53 l1 x7_2).f1)) ∧ w'.cell? ⟨(ad663.add ((x7_2).toNat * 3)).block, (ad663.add ((x7_2).toNat * 3)).off + 2, none⟩ = some (.int .i64 ((rd_T53 l1 x7_2).f2))) ∧ (Kd.S (Kd.slice 3 (Kd.int .i64)) 25 w' w.heap.size (fun k_ => some k_ ≠ (s_.2.1 : Value).ownBlock ∧ some k_ ≠ (s_.2.2.1 : Value).ownBlock ∧ some k_ ≠ (.slice Ao37 x663000_2.length co37 : Value).ownBlock ∧ some k_ ≠ (.slice Ao38 x663001_2.length co38 : Value).ownBlock) s_.1 t679) ∧ (Kd.R (Kd.int .i64) 3 w' w.heap.size (fun k_ => some k_ ≠ (s_.2.2.1 : Value).ownBlock ∧ some k_ ≠ (.slice Ao38 x663001_2.length co38 : Value).ownBlock) s_.2.1 t682) ∧ (Kd.R (Kd.int .i64) 3 w' w.heap.size (fun k_ => some k_ ≠ (s_.2.1 : Value).ownBlock ∧ some k_ ≠ (.slice Ao38 x663001_2.length co38 : Value).ownBlock) s_.2.2.1 t686) ∧ (Kd.S (Kd.slice 3 (Kd.int .i64)) 25 w' w.heap.size (fun k_ => some k_ ≠ (s_.1 : Value).ownBlock ∧ some k_ ≠ (s_.2.1 : Value).ownBlock ∧ some k_ ≠ (s_.2.2.1 : Value).ownBlock ∧ some k_ ≠ (.slice Ao38 x663001_2.length co38 : Value).ownBlock) (.slice Ao37 x663000_2.length co37) x663000_2) ∧ (Kd.R (Kd.int .i64) 3 w' w.heap.size (fun k_ => some k_ ≠ (s_.2.1 : Value).ownBlock ∧ some k_ ≠ (s_.2.2.1 : Value).ownBlock) (.slice Ao38 x663001_2.length co38) x663001_2) ∧ (w'.heap[gb662]? = some (.cells #[.slice Ao37 x663000_2.length co37, .slice Ao38 x663001_2.length co38, .bool x663002_2] 40 (0, 0))) ∧ (w'.heap[s_.2.2.2]? = some (.cells #[.slice none 0 0, .slice none 0 0, .bool false] 40 (0, 0))) ∧ (w.heap.size ≤ s_.2.2.2) ∧ (w.heap.size ≤ s_.2.2.2) ∧ (gb662 ≠ s_.2.2.2) ∧ (s_.2.2.2 ≠ gb662) ∧ (Below w.heap.size w w')) ?_ ?_
                      rotate_left
                      · intro hCont
                        refine two_ (i := 11) (j := 15) (Ni := some 74) (Nj := some 10) #[true, true, true, true, true, true, true, true, true, true, true, true, false, false, false, false, false, false] #[true, true, true, true, true, true, true, true, true, true, true, false, false, false, false, true, false, false] rfl rfl rfl rfl (two_of HT_.out (by kernel_rfl)) (by decide) (by decide) (fun K hK => ?_) (fun K hK => ?_)
                        · skip
                          refine goes_ Try.func35 (by kernel_rfl) rfl #[.agg #[.slice Ao37 x663000_2.length co37, .slice Ao38 x663001_2.length co38, .bool x663002_2], .int .i64 ((rd_T53 l1 x7_2).f1), .int .i64 ((rd_T53 l1 x7_2).f2)] (by rfl) rfl rfl (by (try simp only [List.map_toArray, List.map_cons, List.map_nil]); first | done | rfl | (simp only [List.length_drop, List.length_take]; rfl)) ?_
                          with_reducible refine (domup_Del.calls k2 _ _ x663000_2 _ _ x663001_2 x663002_2 ((rd_T53 l1 x7_2).f1) ((rd_T53 l1 x7_2).f2) t679 t682 t685 t686 _ ?side1 ?side2 ?side3 ?side4 A36.out).mono ?_
                          (case side1 => repeat (first | exact (Kd.S_reads' HO_663000.out).2.2 | (with_reducible refine Kd.C_alloc ?_ _) | (with_reducible refine Kd.C_drewN ?_ _) | (with_reducible refine Kd.C_drew ?_)))
                          (case side2 => exact (Kd.S_reads' HO_663000.out).2.1)
                          (case side3 => repeat (first | exact (Kd.R_reads' HO_663001.out).2.2 | (with_reducible refine Kd.C_alloc ?_ _) | (with_reducible refine Kd.C_drewN ?_ _) | (with_reducible refine Kd.C_drew ?_)))
                          (case side4 => exact (Kd.R_reads' HO_663001.out).2.1)
                          rintro e w40 ⟨v680, v683, v687, rfl, ho0, ho1, ho2, hb⟩
                          refine ⟨_, rfl, ?_⟩
                          have n0_ := Aside0.mk (Kd.S_mono (Kd.S_told (Kd.S_told (Kd.S_told (Kd.S_old (by (with_reducible repeat (first | apply Kd.S_alloc | apply Kd.S_drewN | apply Kd.S_drew)); exact HO_663000.out) hb) (Kd.S_base ho0)) (Kd.R_base ho1)) (Kd.R_base ho2)) (fun _ h_ => h_.1))
                          have n1_ := Aside0.mk (Kd.R_mono (Kd.R_told (Kd.R_told (Kd.R_old (by (with_reducible repeat (first | apply Kd.R_alloc | apply Kd.R_drewN | apply Kd.R_drew)); exact HO_663001.out) hb) (Kd.R_base ho1)) (Kd.R_base ho2)) (fun _ h_ => h_.1))
                          have n2_ := Aside0.mk (Kd.S_lower (Kd.S_new' (Kd.S_new' ho0 (Kd.S_lt (by (with_reducible repeat (first | apply Kd.S_alloc | apply Kd.S_drewN | apply Kd.S_drew)); exact HO_663000.out))) (Kd.R_lt (by (with_reducible repeat (first | apply Kd.R_alloc | apply Kd.R_drewN | apply Kd.R_drew)); exact HO_663001.out))) (below_size (by repeat (first | (with_reducible first | exact HB.out | apply below_alloc | apply pw_below_drewN | apply below_drew1 | refine below_set ?_ GE662.out) | exact HB.out))))
                          have n3_ := Aside0.mk (Kd.R_lower (Kd.R_new' ho1 (Kd.R_lt (by (with_reducible repeat (first | apply Kd.R_alloc | apply Kd.R_drewN | apply Kd.R_drew)); exact HO_663001.out))) (below_size (by repeat (first | (with_reducible first | exact HB.out | apply below_alloc | apply pw_below_drewN | apply below_drew1 | refine below_set ?_ GE662.out) | exact HB.out))))
                          have n4_ := Aside0.mk (Kd.R_lower (Kd.R_new' ho2 (Kd.R_lt (by (with_reducible repeat (first | apply Kd.R_alloc | apply Kd.R_drewN | apply Kd.R_drew)); exact HO_663001.out))) (below_size (by repeat (first | (with_reducible first | exact HB.out | apply below_alloc | apply pw_below_drewN | apply below_drew1 | refine below_set ?_ GE662.out) | exact HB.out))))
                          have n5_ := Aside0.mk (blk_below (g := gb662) (o := .cells #[.slice Ao37 x663000_2.length co37, .slice Ao38 x663001_2.length co38, .bool x663002_2] 40 (0, 0)) (by (with_reducible repeat (first | refine blk_drewN ?_ _ | refine blk_drew ?_ | refine blk_alloc ?_ _)); exact BK662.out) hb)
                          have n6_ := Aside0.mk (below_step (by repeat (first | (with_reducible first | exact HB.out | apply below_alloc | apply pw_below_drewN | apply below_drew1 | refine below_set ?_ GE662.out) | exact HB.out)) hb)
                          clear HO_663000
                          clear HO_663001
                          clear BK662
                          clear HB
                          have HO_663000 := n0_
                          have HO_663001 := n1_
                          have HO681 := n2_
                          have HO684 := n3_
                          have HO688 := n4_
                          have BK662 := n5_
                          have HB := n6_
                          clear n0_ n1_ n2_ n3_ n4_ n5_ n6_
                          (try clear hb)
                          (try clear hb2)
                          (try clear hk)
                          (try clear hi)
                          (try clear ho0)
                          (try clear ho1)
                          (try clear ho2)
                          refine hK.out _ _ ⟨(blk_cell BK662.out 0).trans rfl, (blk_cell BK662.out 1).trans rfl, (blk_cell BK662.out 2).trans rfl, ((HB.out.cell (World.block_lt_of_cell? w _ hw677_0)).trans hw677_0), ((HB.out.cell (World.block_lt_of_cell? w _ hw677_1)).trans hw677_1), ((HB.out.cell (World.block_lt_of_cell? w _ hw677_2)).trans hw677_2), ((HB.out.cell (World.block_lt_of_cell? w _ hw678_0)).trans hw678_0), ((HB.out.cell (World.block_lt_of_cell? w _ hw678_1)).trans hw678_1), ((HB.out.cell (World.block_lt_of_cell? w _ hw678_2)).trans hw678_2)⟩ (fun hHeld => ?_)
                          clear hK K
                          refine norm_ (a' := ?_) ?_ ?_
                          rotate_left
                          · show Act.put _ (some 74) _ = _
                            simp only [Act.put, List.setIfInBounds_toArray, List.set_cons_zero, List.set_cons_succ, i64_w, i32_w]
                            rfl
                          refine pure_ (i := 12) (N := some 62) (v := ?_) (a' := ?_) #[true, true, true, true, true, true, true, true, true, true, true, true, true, false, false, false, false, false] rfl rfl (any_of HT_.out (by kernel_rfl)) (fun _ _ _ h => h) (Or.inl ⟨by rfl, ?_⟩) ?_ ?_
                          rotate_left
                          · intro w'
                            go_simp
                            with_reducible rfl
                          rotate_left
                          · simp only [Act.put, List.setIfInBounds_toArray, List.set_cons_zero, List.set_cons_succ, i64_w, i32_w]
                            rfl
                          refine pure_ (i := 13) (N := some 75) (v := ?_) (a' := ?_) #[true, true, true, true, true, true, true, true, true, true, true, true, true, true, false, false, false, false] rfl rfl (any_of HT_.out (by kernel_rfl)) (fun _ _ _ h => h) (Or.inl ⟨by rfl, ?_⟩) ?_ ?_
                          rotate_left
                          · intro w'
                            go_simp
                            with_reducible rfl
                          rotate_left
                          · simp only [Act.put, List.setIfInBounds_toArray, List.set_cons_zero, List.set_cons_succ, i64_w, i32_w]
                            rfl
                          refine pure_ (i := 14) (N := some 76) (v := ?_) (a' := ?_) #[true, true, true, true, true, true, true, true, true, true, true, true, true, true, true, false, false, false] rfl rfl (any_of HT_.out (by kernel_rfl)) (fun _ _ _ h => h) (Or.inl ⟨by rfl, ?_⟩) ?_ ?_
                          rotate_left
                          · intro w'
                            go_simp
                            with_reducible rfl
                          rotate_left
                          · simp only [Act.put, List.setIfInBounds_toArray, List.set_cons_zero, List.set_cons_succ, i64_w, i32_w]
                            rfl
                          refine one_ (i := 15) (N := some 10) #[true, true, true, true, true, true, true, true, true, true, true, true, true, true, true, true, false, false] rfl rfl (one_of HT_.out (by kernel_rfl)) (by decide) (fun K hK => ?_)
                          refine box_step ?hg (N := 10) ?hd (cs := #[.slice none 0 0, .slice none 0 0, .bool false]) (t := 40) ?hr ?_; (case hd => rfl); (case hg => rfl); (case hr => first | (go_simp; done) | (go_simp; rfl))
                          intro gb689 hg w41 hbox hb
                          have n0_ := Aside0.mk (Kd.S_below (by (with_reducible repeat (first | apply Kd.S_alloc | apply Kd.S_drewN | apply Kd.S_drew)); exact HO_663000.out) hb)
                          have n1_ := Aside0.mk (Kd.R_below (by (with_reducible repeat (first | apply Kd.R_alloc | apply Kd.R_drewN | apply Kd.R_drew)); exact HO_663001.out) hb)
                          have n2_ := Aside0.mk (Kd.S_below (by (with_reducible repeat (first | apply Kd.S_alloc | apply Kd.S_drewN | apply Kd.S_drew)); exact HO681.out) hb)
                          have n3_ := Aside0.mk (Kd.R_below (by (with_reducible repeat (first | apply Kd.R_alloc | apply Kd.R_drewN | apply Kd.R_drew)); exact HO684.out) hb)
                          have n4_ := Aside0.mk (Kd.R_below (by (with_reducible repeat (first | apply Kd.R_alloc | apply Kd.R_drewN | apply Kd.R_drew)); exact HO688.out) hb)
                          have n5_ := Aside0.mk (blk_below (g := gb662) (o := .cells #[.slice Ao37 x663000_2.length co37, .slice Ao38 x663001_2.length co38, .bool x663002_2] 40 (0, 0)) (by (with_reducible repeat (first | refine blk_drewN ?_ _ | refine blk_drew ?_ | refine blk_alloc ?_ _)); exact BK662.out) hb)
                          have n6_ := Aside0.mk (below_step (by repeat (first | (with_reducible first | exact HB.out | apply below_alloc | apply pw_below_drewN | apply below_drew1 | refine below_set ?_ GE662.out) | exact HB.out)) hb)
                          have n7_ := Aside0.mk (hbox)
                          have n8_ := Aside0.mk ((by rw [hg]; exact (below_size (by repeat (first | (with_reducible first | exact HB.out | apply below_alloc | apply pw_below_drewN | apply below_drew1 | refine below_set ?_ GE662.out) | exact HB.out))) : w.heap.size ≤ gb689))
                          have n9_ := Aside0.mk ((by rw [hg]; exact (below_size (by repeat (first | (with_reducible first | exact HB.out | apply below_alloc | apply pw_below_drewN | apply below_drew1 | refine below_set ?_ GE662.out) | exact HB.out))) : w.heap.size ≤ gb689))
                          have n10_ := Aside0.mk ((by rw [hg]; exact Nat.ne_of_lt (blk_lt (g := gb662) (o := .cells #[.slice Ao37 x663000_2.length co37, .slice Ao38 x663001_2.length co38, .bool x663002_2] 40 (0, 0)) (by (with_reducible repeat (first | refine blk_drewN ?_ _ | refine blk_drew ?_ | refine blk_alloc ?_ _)); exact BK662.out)) : gb662 ≠ gb689))
                          have n11_ := Aside0.mk ((by rw [hg]; exact Nat.ne_of_gt (blk_lt (g := gb662) (o := .cells #[.slice Ao37 x663000_2.length co37, .slice Ao38 x663001_2.length co38, .bool x663002_2] 40 (0, 0)) (by (with_reducible repeat (first | refine blk_drewN ?_ _ | refine blk_drew ?_ | refine blk_alloc ?_ _)); exact BK662.out)) : gb689 ≠ gb662))
                          clear HO_663000
                          clear HO_663001
                          clear HO681
                          clear HO684
                          clear HO688
                          clear BK662
                          clear HB
                          have HO_663000 := n0_
                          have HO_663001 := n1_
                          have HO681 := n2_
                          have HO684 := n3_
                          have HO688 := n4_
                          have BK662 := n5_
                          have HB := n6_
                          have BK689 := n7_
                          have GW689 := n8_
                          have GE689 := n9_
                          have NB662_689 := n10_
                          have NB689_662 := n11_
                          clear n0_ n1_ n2_ n3_ n4_ n5_ n6_ n7_ n8_ n9_ n10_ n11_
                          clear hb hbox hg
                          refine hK.out _ _ ⟨(blk_cell BK662.out 0).trans rfl, (blk_cell BK662.out 1).trans rfl, (blk_cell BK662.out 2).trans rfl, ((HB.out.cell (World.block_lt_of_cell? w _ hw677_0)).trans hw677_0), ((HB.out.cell (World.block_lt_of_cell? w _ hw677_1)).trans hw677_1), ((HB.out.cell (World.block_lt_of_cell? w _ hw677_2)).trans hw677_2), ((HB.out.cell (World.block_lt_of_cell? w _ hw678_0)).trans hw678_0), ((HB.out.cell (World.block_lt_of_cell? w _ hw678_1)).trans hw678_1), ((HB.out.cell (World.block_lt_of_cell? w _ hw678_2)).trans hw678_2)⟩ (fun hHeld => ?_)
                          clear hK K
                          refine norm_ (a' := ?_) ?_ ?_
                          rotate_left
                          · show Act.put _ (some 10) _ = _
                            simp only [Act.put, List.setIfInBounds_toArray, List.set_cons_zero, List.set_cons_succ, i64_w, i32_w]
                            rfl
                          exact norm_ (by simp only [putAll, Act.put, List.setIfInBounds_toArray, List.set_cons_zero, List.set_cons_succ]) (hCont (v680, v683, v687, gb689) _ ⟨hHeld, (by (with_reducible repeat (first | apply Kd.S_alloc | apply Kd.S_drewN | apply Kd.S_drew)); exact Kd.S_mono HO681.out (fun _ hk => ⟨hk.1.1.1, ⟨hk.1.1.2, ⟨hk.1.2, hk.2⟩⟩⟩)), (by (with_reducible repeat (first | apply Kd.R_alloc | apply Kd.R_drewN | apply Kd.R_drew)); exact HO684.out), (by (with_reducible repeat (first | apply Kd.R_alloc | apply Kd.R_drewN | apply Kd.R_drew)); exact HO688.out), (by (with_reducible repeat (first | apply Kd.S_alloc | apply Kd.S_drewN | apply Kd.S_drew)); exact Kd.S_mono HO_663000.out (fun _ hk => ⟨hk.1.1.2, ⟨hk.1.2, ⟨hk.2, hk.1.1.1⟩⟩⟩)), (by (with_reducible repeat (first | apply Kd.R_alloc | apply Kd.R_drewN | apply Kd.R_drew)); exact Kd.R_mono HO_663001.out (fun _ hk => ⟨hk.1.2, hk.2⟩)), (by (with_reducible repeat (first | refine blk_drewN ?_ _ | refine blk_drew ?_ | refine blk_alloc ?_ _)); exact BK662.out), (by (with_reducible repeat (first | refine blk_drewN ?_ _ | refine blk_drew ?_ | refine blk_alloc ?_ _)); exact BK689.out), GW689.out, GE689.out, NB662_689.out, NB689_662.out, (by repeat (first | (with_reducible first | exact HB.out | apply below_alloc | apply pw_below_drewN | apply below_drew1 | refine below_set ?_ GE662.out | refine below_set ?_ GE689.out) | exact HB.out))⟩)
                        · skip
                          refine box_step ?hg (N := 10) ?hd (cs := #[.slice none 0 0, .slice none 0 0, .bool false]) (t := 40) ?hr ?_; (case hd => rfl); (case hg => rfl); (case hr => first | (go_simp; done) | (go_simp; rfl))
                          intro gb689 hg w40 hbox hb
                          have n0_ := Aside0.mk (Kd.S_below (by (with_reducible repeat (first | apply Kd.S_alloc | apply Kd.S_drewN | apply Kd.S_drew)); exact HO_663000.out) hb)
                          have n1_ := Aside0.mk (Kd.R_below (by (with_reducible repeat (first | apply Kd.R_alloc | apply Kd.R_drewN | apply Kd.R_drew)); exact HO_663001.out) hb)
                          have n2_ := Aside0.mk (blk_below (g := gb662) (o := .cells #[.slice Ao37 x663000_2.length co37, .slice Ao38 x663001_2.length co38, .bool x663002_2] 40 (0, 0)) (by (with_reducible repeat (first | refine blk_drewN ?_ _ | refine blk_drew ?_ | refine blk_alloc ?_ _)); exact BK662.out) hb)
                          have n3_ := Aside0.mk (below_step (by repeat (first | (with_reducible first | exact HB.out | apply below_alloc | apply pw_below_drewN | apply below_drew1 | refine below_set ?_ GE662.out) | exact HB.out)) hb)
                          have n4_ := Aside0.mk (hbox)
                          have n5_ := Aside0.mk ((by rw [hg]; exact (below_size (by repeat (first | (with_reducible first | exact HB.out | apply below_alloc | apply pw_below_drewN | apply below_drew1 | refine below_set ?_ GE662.out) | exact HB.out))) : w.heap.size ≤ gb689))
                          have n6_ := Aside0.mk ((by rw [hg]; exact (below_size (by repeat (first | (with_reducible first | exact HB.out | apply below_alloc | apply pw_below_drewN | apply below_drew1 | refine below_set ?_ GE662.out) | exact HB.out))) : w.heap.size ≤ gb689))
                          have n7_ := Aside0.mk ((by rw [hg]; exact Nat.ne_of_lt (blk_lt (g := gb662) (o := .cells #[.slice Ao37 x663000_2.length co37, .slice Ao38 x663001_2.length co38, .bool x663002_2] 40 (0, 0)) (by (with_reducible repeat (first | refine blk_drewN ?_ _ | refine blk_drew ?_ | refine blk_alloc ?_ _)); exact BK662.out)) : gb662 ≠ gb689))
                          have n8_ := Aside0.mk ((by rw [hg]; exact Nat.ne_of_gt (blk_lt (g := gb662) (o := .cells #[.slice Ao37 x663000_2.length co37, .slice Ao38 x663001_2.length co38, .bool x663002_2] 40 (0, 0)) (by (with_reducible repeat (first | refine blk_drewN ?_ _ | refine blk_drew ?_ | refine blk_alloc ?_ _)); exact BK662.out)) : gb689 ≠ gb662))
                          clear HO_663000
                          clear HO_663001
                          clear BK662
                          clear HB
                          have HO_663000 := n0_
                          have HO_663001 := n1_
                          have BK662 := n2_
                          have HB := n3_
                          have BK689 := n4_
                          have GW689 := n5_
                          have GE689 := n6_
                          have NB662_689 := n7_
                          have NB689_662 := n8_
                          clear n0_ n1_ n2_ n3_ n4_ n5_ n6_ n7_ n8_
                          clear hb hbox hg
                          refine hK.out _ _ ⟨(blk_cell BK662.out 0).trans rfl, (blk_cell BK662.out 1).trans rfl, (blk_cell BK662.out 2).trans rfl, ((HB.out.cell (World.block_lt_of_cell? w _ hw677_0)).trans hw677_0), ((HB.out.cell (World.block_lt_of_cell? w _ hw677_1)).trans hw677_1), ((HB.out.cell (World.block_lt_of_cell? w _ hw677_2)).trans hw677_2), ((HB.out.cell (World.block_lt_of_cell? w _ hw678_0)).trans hw678_0), ((HB.out.cell (World.block_lt_of_cell? w _ hw678_1)).trans hw678_1), ((HB.out.cell (World.block_lt_of_cell? w _ hw678_2)).trans hw678_2)⟩ (fun hHeld => ?_)
                          clear hK K
                          refine norm_ (a' := ?_) ?_ ?_
                          rotate_left
                          · show Act.put _ (some 10) _ = _
                            simp only [Act.put, List.setIfInBounds_toArray, List.set_cons_zero, List.set_cons_succ, i64_w, i32_w]
                            rfl
                          refine one_ (i := 11) (N := some 74) #[true, true, true, true, true, true, true, true, true, true, true, true, false, false, false, true, false, false] rfl rfl (one_of HT_.out (by kernel_rfl)) (by decide) (fun K hK => ?_)
                          refine goes_ Try.func35 (by kernel_rfl) rfl #[.agg #[.slice Ao37 x663000_2.length co37, .slice Ao38 x663001_2.length co38, .bool x663002_2], .int .i64 ((rd_T53 l1 x7_2).f1), .int .i64 ((rd_T53 l1 x7_2).f2)] (by rfl) rfl rfl (by (try simp only [List.map_toArray, List.map_cons, List.map_nil]); first | done | rfl | (simp only [List.length_drop, List.length_take]; rfl)) ?_
                          with_reducible refine (domup_Del.calls k2 _ _ x663000_2 _ _ x663001_2 x663002_2 ((rd_T53 l1 x7_2).f1) ((rd_T53 l1 x7_2).f2) t679 t682 t685 t686 _ ?side1 ?side2 ?side3 ?side4 A36.out).mono ?_
                          (case side1 => repeat (first | exact (Kd.S_reads' HO_663000.out).2.2 | (with_reducible refine Kd.C_alloc ?_ _) | (with_reducible refine Kd.C_drewN ?_ _) | (with_reducible refine Kd.C_drew ?_)))
                          (case side2 => exact (Kd.S_reads' HO_663000.out).2.1)
                          (case side3 => repeat (first | exact (Kd.R_reads' HO_663001.out).2.2 | (with_reducible refine Kd.C_alloc ?_ _) | (with_reducible refine Kd.C_drewN ?_ _) | (with_reducible refine Kd.C_drew ?_)))
                          (case side4 => exact (Kd.R_reads' HO_663001.out).2.1)
                          rintro e w41 ⟨v680, v683, v687, rfl, ho0, ho1, ho2, hb⟩
                          refine ⟨_, rfl, ?_⟩
                          have n0_ := Aside0.mk (Kd.S_mono (Kd.S_told (Kd.S_told (Kd.S_told (Kd.S_old (by (with_reducible repeat (first | apply Kd.S_alloc | apply Kd.S_drewN | apply Kd.S_drew)); exact HO_663000.out) hb) (Kd.S_base ho0)) (Kd.R_base ho1)) (Kd.R_base ho2)) (fun _ h_ => h_.1))
                          have n1_ := Aside0.mk (Kd.R_mono (Kd.R_told (Kd.R_told (Kd.R_old (by (with_reducible repeat (first | apply Kd.R_alloc | apply Kd.R_drewN | apply Kd.R_drew)); exact HO_663001.out) hb) (Kd.R_base ho1)) (Kd.R_base ho2)) (fun _ h_ => h_.1))
                          have n2_ := Aside0.mk (Kd.S_lower (Kd.S_new' (Kd.S_new' ho0 (Kd.S_lt (by (with_reducible repeat (first | apply Kd.S_alloc | apply Kd.S_drewN | apply Kd.S_drew)); exact HO_663000.out))) (Kd.R_lt (by (with_reducible repeat (first | apply Kd.R_alloc | apply Kd.R_drewN | apply Kd.R_drew)); exact HO_663001.out))) (below_size (by repeat (first | (with_reducible first | exact HB.out | apply below_alloc | apply pw_below_drewN | apply below_drew1 | refine below_set ?_ GE662.out | refine below_set ?_ GE689.out) | exact HB.out))))
                          have n3_ := Aside0.mk (Kd.R_lower (Kd.R_new' ho1 (Kd.R_lt (by (with_reducible repeat (first | apply Kd.R_alloc | apply Kd.R_drewN | apply Kd.R_drew)); exact HO_663001.out))) (below_size (by repeat (first | (with_reducible first | exact HB.out | apply below_alloc | apply pw_below_drewN | apply below_drew1 | refine below_set ?_ GE662.out | refine below_set ?_ GE689.out) | exact HB.out))))
                          have n4_ := Aside0.mk (Kd.R_lower (Kd.R_new' ho2 (Kd.R_lt (by (with_reducible repeat (first | apply Kd.R_alloc | apply Kd.R_drewN | apply Kd.R_drew)); exact HO_663001.out))) (below_size (by repeat (first | (with_reducible first | exact HB.out | apply below_alloc | apply pw_below_drewN | apply below_drew1 | refine below_set ?_ GE662.out | refine below_set ?_ GE689.out) | exact HB.out))))
                          have n5_ := Aside0.mk (blk_below (g := gb662) (o := .cells #[.slice Ao37 x663000_2.length co37, .slice Ao38 x663001_2.length co38, .bool x663002_2] 40 (0, 0)) (by (with_reducible repeat (first | refine blk_drewN ?_ _ | refine blk_drew ?_ | refine blk_alloc ?_ _)); exact BK662.out) hb)
                          have n6_ := Aside0.mk (blk_below (g := gb689) (o := .cells #[.slice none 0 0, .slice none 0 0, .bool false] 40 (0, 0)) (by (with_reducible repeat (first | refine blk_drewN ?_ _ | refine blk_drew ?_ | refine blk_alloc ?_ _)); exact BK689.out) hb)
                          have n7_ := Aside0.mk (below_step (by repeat (first | (with_reducible first | exact HB.out | apply below_alloc | apply pw_below_drewN | apply below_drew1 | refine below_set ?_ GE662.out | refine below_set ?_ GE689.out) | exact HB.out)) hb)
                          clear HO_663000
                          clear HO_663001
                          clear BK662
                          clear BK689
                          clear HB
                          have HO_663000 := n0_
                          have HO_663001 := n1_
                          have HO681 := n2_
                          have HO684 := n3_
                          have HO688 := n4_
                          have BK662 := n5_
                          have BK689 := n6_
                          have HB := n7_
                          clear n0_ n1_ n2_ n3_ n4_ n5_ n6_ n7_
                          (try clear hb)
                          (try clear hb2)
                          (try clear hk)
                          (try clear hi)
                          (try clear ho0)
                          (try clear ho1)
                          (try clear ho2)
                          refine hK.out _ _ ⟨(blk_cell BK662.out 0).trans rfl, (blk_cell BK662.out 1).trans rfl, (blk_cell BK662.out 2).trans rfl, ((HB.out.cell (World.block_lt_of_cell? w _ hw677_0)).trans hw677_0), ((HB.out.cell (World.block_lt_of_cell? w _ hw677_1)).trans hw677_1), ((HB.out.cell (World.block_lt_of_cell? w _ hw677_2)).trans hw677_2), ((HB.out.cell (World.block_lt_of_cell? w _ hw678_0)).trans hw678_0), ((HB.out.cell (World.block_lt_of_cell? w _ hw678_1)).trans hw678_1), ((HB.out.cell (World.block_lt_of_cell? w _ hw678_2)).trans hw678_2)⟩ (fun hHeld => ?_)
                          clear hK K
                          refine norm_ (a' := ?_) ?_ ?_
                          rotate_left
                          · show Act.put _ (some 74) _ = _
                            simp only [Act.put, List.setIfInBounds_toArray, List.set_cons_zero, List.set_cons_succ, i64_w, i32_w]
                            rfl
                          refine pure_ (i := 12) (N := some 62) (v := ?_) (a' := ?_) #[true, true, true, true, true, true, true, true, true, true, true, true, true, false, false, true, false, false] rfl rfl (any_of HT_.out (by kernel_rfl)) (fun _ _ _ h => h) (Or.inl ⟨by rfl, ?_⟩) ?_ ?_
                          rotate_left
                          · intro w'
                            go_simp
                            with_reducible rfl
                          rotate_left
                          · simp only [Act.put, List.setIfInBounds_toArray, List.set_cons_zero, List.set_cons_succ, i64_w, i32_w]
                            rfl
                          refine pure_ (i := 13) (N := some 75) (v := ?_) (a' := ?_) #[true, true, true, true, true, true, true, true, true, true, true, true, true, true, false, true, false, false] rfl rfl (any_of HT_.out (by kernel_rfl)) (fun _ _ _ h => h) (Or.inl ⟨by rfl, ?_⟩) ?_ ?_
                          rotate_left
                          · intro w'
                            go_simp
                            with_reducible rfl
                          rotate_left
                          · simp only [Act.put, List.setIfInBounds_toArray, List.set_cons_zero, List.set_cons_succ, i64_w, i32_w]
                            rfl
                          refine pure_ (i := 14) (N := some 76) (v := ?_) (a' := ?_) #[true, true, true, true, true, true, true, true, true, true, true, true, true, true, true, true, false, false] rfl rfl (any_of HT_.out (by kernel_rfl)) (fun _ _ _ h => h) (Or.inl ⟨by rfl, ?_⟩) ?_ ?_
                          rotate_left
                          · intro w'
                            go_simp
                            with_reducible rfl
                          rotate_left
                          · simp only [Act.put, List.setIfInBounds_toArray, List.set_cons_zero, List.set_cons_succ, i64_w, i32_w]
                            rfl
                          exact norm_ (by simp only [putAll, Act.put, List.setIfInBounds_toArray, List.set_cons_zero, List.set_cons_succ]) (hCont (v680, v683, v687, gb689) _ ⟨hHeld, (by (with_reducible repeat (first | apply Kd.S_alloc | apply Kd.S_drewN | apply Kd.S_drew)); exact Kd.S_mono HO681.out (fun _ hk => ⟨hk.1.1.1, ⟨hk.1.1.2, ⟨hk.1.2, hk.2⟩⟩⟩)), (by (with_reducible repeat (first | apply Kd.R_alloc | apply Kd.R_drewN | apply Kd.R_drew)); exact HO684.out), (by (with_reducible repeat (first | apply Kd.R_alloc | apply Kd.R_drewN | apply Kd.R_drew)); exact HO688.out), (by (with_reducible repeat (first | apply Kd.S_alloc | apply Kd.S_drewN | apply Kd.S_drew)); exact Kd.S_mono HO_663000.out (fun _ hk => ⟨hk.1.1.2, ⟨hk.1.2, ⟨hk.2, hk.1.1.1⟩⟩⟩)), (by (with_reducible repeat (first | apply Kd.R_alloc | apply Kd.R_drewN | apply Kd.R_drew)); exact Kd.R_mono HO_663001.out (fun _ hk => ⟨hk.1.2, hk.2⟩)), (by (with_reducible repeat (first | refine blk_drewN ?_ _ | refine blk_drew ?_ | refine blk_alloc ?_ _)); exact BK662.out), (by (with_reducible repeat (first | refine blk_drewN ?_ _ | refine blk_drew ?_ | refine blk_alloc ?_ _)); exact BK689.out), GW689.out, GE689.out, NB662_689.out, NB689_662.out, (by repeat (first | (with_reducible first | exact HB.out | apply below_alloc | apply pw_below_drewN | apply below_drew1 | refine below_set ?_ GE662.out | refine below_set ?_ GE689.out) | exact HB.out))⟩)
                      rintro ⟨v680, v683, v687, gb689⟩ w42 ⟨hS_, h0_, h1_, h2_, h3_, h4_, h5_, h6_, h7_, h8_, h9_, h10_, h11_⟩
                      have n0_ : Aside0 (Kd.S (Kd.slice 3 (Kd.int .i64)) 25 w42 w.heap.size (fun k_ => some k_ ≠ (v683 : Value).ownBlock ∧ some k_ ≠ (v687 : Value).ownBlock ∧ some k_ ≠ (.slice Ao37 x663000_2.length co37 : Value).ownBlock ∧ some k_ ≠ (.slice Ao38 x663001_2.length co38 : Value).ownBlock) v680 t679) := ⟨h0_⟩
                      have n1_ : Aside0 (Kd.R (Kd.int .i64) 3 w42 w.heap.size (fun k_ => some k_ ≠ (v687 : Value).ownBlock ∧ some k_ ≠ (.slice Ao38 x663001_2.length co38 : Value).ownBlock) v683 t682) := ⟨h1_⟩
                      have n2_ : Aside0 (Kd.R (Kd.int .i64) 3 w42 w.heap.size (fun k_ => some k_ ≠ (v683 : Value).ownBlock ∧ some k_ ≠ (.slice Ao38 x663001_2.length co38 : Value).ownBlock) v687 t686) := ⟨h2_⟩
                      have n3_ : Aside0 (Kd.S (Kd.slice 3 (Kd.int .i64)) 25 w42 w.heap.size (fun k_ => some k_ ≠ (v680 : Value).ownBlock ∧ some k_ ≠ (v683 : Value).ownBlock ∧ some k_ ≠ (v687 : Value).ownBlock ∧ some k_ ≠ (.slice Ao38 x663001_2.length co38 : Value).ownBlock) (.slice Ao37 x663000_2.length co37) x663000_2) := ⟨h3_⟩
                      have n4_ : Aside0 (Kd.R (Kd.int .i64) 3 w42 w.heap.size (fun k_ => some k_ ≠ (v683 : Value).ownBlock ∧ some k_ ≠ (v687 : Value).ownBlock) (.slice Ao38 x663001_2.length co38) x663001_2) := ⟨h4_⟩
                      have n5_ : Aside0 (w42.heap[gb662]? = some (.cells #[.slice Ao37 x663000_2.length co37, .slice Ao38 x663001_2.length co38, .bool x663002_2] 40 (0, 0))) := ⟨h5_⟩
                      have n6_ : Aside0 (w42.heap[gb689]? = some (.cells #[.slice none 0 0, .slice none 0 0, .bool false] 40 (0, 0))) := ⟨h6_⟩
                      have n7_ : Aside0 (w.heap.size ≤ gb689) := ⟨h7_⟩
                      have n8_ : Aside0 (w.heap.size ≤ gb689) := ⟨h8_⟩
                      have n9_ : Aside0 (gb662 ≠ gb689) := ⟨h9_⟩
                      have n10_ : Aside0 (gb689 ≠ gb662) := ⟨h10_⟩
                      have n11_ : Aside0 (Below w.heap.size w w42) := ⟨h11_⟩
                      clear HO_663000
                      clear HO_663001
                      clear BK662
                      clear HB
                      clear h0_ h1_ h2_ h3_ h4_ h5_ h6_ h7_ h8_ h9_ h10_ h11_
                      have HO681 := n0_
                      have HO684 := n1_
                      have HO688 := n2_
                      have HO_663000 := n3_
                      have HO_663001 := n4_
                      have BK662 := n5_
                      have BK689 := n6_
                      have GW689 := n7_
                      have GE689 := n8_
                      have NB662_689 := n9_
                      have NB689_662 := n10_
                      have HB := n11_
                      clear n0_ n1_ n2_ n3_ n4_ n5_ n6_ n7_ n8_ n9_ n10_ n11_
                      have hHeld : w42.cell? ⟨gb662, 0, none⟩ = some (.slice Ao37 x663000_2.length co37) ∧ w42.cell? ⟨gb662, 1, none⟩ = some (.slice Ao38 x663001_2.length co38) ∧ w42.cell? ⟨gb662, 2, none⟩ = some (.bool x663002_2) ∧ w42.cell? (ad663.add ((x7_2).toNat * 3)) = some (.int .i64 ((rd_T53 l1 x7_2).f0)) ∧ w42.cell? ⟨(ad663.add ((x7_2).toNat * 3)).block, (ad663.add ((x7_2).toNat * 3)).off + 1, none⟩ = some (.int .i64 ((rd_T53 l1 x7_2).f1)) ∧ w42.cell? ⟨(ad663.add ((x7_2).toNat * 3)).block, (ad663.add ((x7_2).toNat * 3)).off + 2, none⟩ = some (.int .i64 ((rd_T53 l1 x7_2).f2)) ∧ w42.cell? (ad663.add ((x7_2).toNat * 3)) = some (.int .i64 ((rd_T53 l1 x7_2).f0)) ∧ w42.cell? ⟨(ad663.add ((x7_2).toNat * 3)).block, (ad663.add ((x7_2).toNat * 3)).off + 1, none⟩ = some (.int .i64 ((rd_T53 l1 x7_2).f1)) ∧ w42.cell? ⟨(ad663.add ((x7_2).toNat * 3)).block, (ad663.add ((x7_2).toNat * 3)).off + 2, none⟩ = some (.int .i64 ((rd_T53 l1 x7_2).f2)) := hS_
                      obtain ⟨Ao43, co43, eo43⟩ := Kd.S_slice HO681.out
                      (first | subst eo43 | (injection eo43 with f1_ f2_ f3_; have f4_ := f1_.symm; have f5_ := f3_.symm; clear f1_ f2_ f3_; subst f4_; subst f5_))
                      obtain ⟨Ao45, co45, eo45⟩ := Kd.R_slice HO684.out
                      (first | subst eo45 | (injection eo45 with f1_ f2_ f3_; have f4_ := f1_.symm; have f5_ := f3_.symm; clear f1_ f2_ f3_; subst f4_; subst f5_))
                      refine norm_ (a' := ?_) ?_ ?_
                      rotate_left
                      · simp only [putAll, Act.put, List.setIfInBounds_toArray, List.set_cons_zero, List.set_cons_succ]
                        rfl
                      refine one_ (i := 16) (N := none) #[true, true, true, true, true, true, true, true, true, true, true, true, true, true, true, true, true, false] rfl rfl (one_of HT_.out (by kernel_rfl)) (by decide) (fun K hK => ?_)
                      have hs44 : w42.cell? ⟨gb689, 0, none⟩ = some (.slice none 0 0) := (blk_cell BK689.out 0).trans rfl
                      have hfs44 := blk_frozen BK689.out 0
                      have hns44_0 := NB662_689.out
                      have hms44_0 := NB689_662.out
                      have hs46 : w42.cell? ⟨gb689, 1, none⟩ = some (.slice none 0 0) := (blk_cell BK689.out 1).trans rfl
                      have hfs46 := blk_frozen BK689.out 1
                      have hns46_0 := NB662_689.out
                      have hms46_0 := NB689_662.out
                      have hs47 : w42.cell? ⟨gb689, 2, none⟩ = some (.bool false) := (blk_cell BK689.out 2).trans rfl
                      have hfs47 := blk_frozen BK689.out 2
                      have hns47_0 := NB662_689.out
                      have hms47_0 := NB689_662.out
                      refine skip_ (w1 := ?_) (by rfl) rfl ?_ ?_
                      rotate_left
                      · go_simp
                        rfl
                      refine hK.out _ _ ⟨((cell_far (p := ⟨gb689, _, none⟩) NB662_689.out _).trans (((cell_far (p := ⟨gb689, _, none⟩) NB662_689.out _).trans (((cell_far (p := ⟨gb689, _, none⟩) NB662_689.out _).trans (hHeld.1)))))), ((cell_far (p := ⟨gb689, _, none⟩) NB662_689.out _).trans (((cell_far (p := ⟨gb689, _, none⟩) NB662_689.out _).trans (((cell_far (p := ⟨gb689, _, none⟩) NB662_689.out _).trans (hHeld.2.1)))))), ((cell_far (p := ⟨gb689, _, none⟩) NB662_689.out _).trans (((cell_far (p := ⟨gb689, _, none⟩) NB662_689.out _).trans (((cell_far (p := ⟨gb689, _, none⟩) NB662_689.out _).trans (hHeld.2.2.1)))))), ((cell_far (p := ⟨gb689, _, none⟩) (by first | exact Nat.ne_of_lt (Nat.lt_of_lt_of_le (by have := World.block_lt_of_cell? _ _ hw677_0; first | rwa [add_block] at this | exact this) GW689.out) | (rw [add_block]; exact Nat.ne_of_lt (Nat.lt_of_lt_of_le (by have := World.block_lt_of_cell? _ _ hw677_0; first | rwa [add_block] at this | exact this) GW689.out)) | (show (Addr.add _ _).block ≠ _; rw [add_block]; exact Nat.ne_of_lt (Nat.lt_of_lt_of_le (by have := World.block_lt_of_cell? _ _ hw677_0; first | rwa [add_block] at this | exact this) GW689.out)) | (dsimp only; exact Nat.ne_of_lt (Nat.lt_of_lt_of_le (by have := World.block_lt_of_cell? _ _ hw677_0; first | rwa [add_block] at this | exact this) GW689.out))) _).trans (((cell_far (p := ⟨gb689, _, none⟩) (by first | exact Nat.ne_of_lt (Nat.lt_of_lt_of_le (by have := World.block_lt_of_cell? _ _ hw677_0; first | rwa [add_block] at this | exact this) GW689.out) | (rw [add_block]; exact Nat.ne_of_lt (Nat.lt_of_lt_of_le (by have := World.block_lt_of_cell? _ _ hw677_0; first | rwa [add_block] at this | exact this) GW689.out)) | (show (Addr.add _ _).block ≠ _; rw [add_block]; exact Nat.ne_of_lt (Nat.lt_of_lt_of_le (by have := World.block_lt_of_cell? _ _ hw677_0; first | rwa [add_block] at this | exact this) GW689.out)) | (dsimp only; exact Nat.ne_of_lt (Nat.lt_of_lt_of_le (by have := World.block_lt_of_cell? _ _ hw677_0; first | rwa [add_block] at this | exact this) GW689.out))) _).trans (((cell_far (p := ⟨gb689, _, none⟩) (by first | exact Nat.ne_of_lt (Nat.lt_of_lt_of_le (by have := World.block_lt_of_cell? _ _ hw677_0; first | rwa [add_block] at this | exact this) GW689.out) | (rw [add_block]; exact Nat.ne_of_lt (Nat.lt_of_lt_of_le (by have := World.block_lt_of_cell? _ _ hw677_0; first | rwa [add_block] at this | exact this) GW689.out)) | (show (Addr.add _ _).block ≠ _; rw [add_block]; exact Nat.ne_of_lt (Nat.lt_of_lt_of_le (by have := World.block_lt_of_cell? _ _ hw677_0; first | rwa [add_block] at this | exact this) GW689.out)) | (dsimp only; exact Nat.ne_of_lt (Nat.lt_of_lt_of_le (by have := World.block_lt_of_cell? _ _ hw677_0; first | rwa [add_block] at this | exact this) GW689.out))) _).trans (hHeld.2.2.2.1)))))), ((cell_far (p := ⟨gb689, _, none⟩) (by first | exact Nat.ne_of_lt (Nat.lt_of_lt_of_le (by have := World.block_lt_of_cell? _ _ hw677_1; first | rwa [add_block] at this | exact this) GW689.out) | (rw [add_block]; exact Nat.ne_of_lt (Nat.lt_of_lt_of_le (by have := World.block_lt_of_cell? _ _ hw677_1; first | rwa [add_block] at this | exact this) GW689.out)) | (show (Addr.add _ _).block ≠ _; rw [add_block]; exact Nat.ne_of_lt (Nat.lt_of_lt_of_le (by have := World.block_lt_of_cell? _ _ hw677_1; first | rwa [add_block] at this | exact this) GW689.out)) | (dsimp only; exact Nat.ne_of_lt (Nat.lt_of_lt_of_le (by have := World.block_lt_of_cell? _ _ hw677_1; first | rwa [add_block] at this | exact this) GW689.out))) _).trans (((cell_far (p := ⟨gb689, _, none⟩) (by first | exact Nat.ne_of_lt (Nat.lt_of_lt_of_le (by have := World.block_lt_of_cell? _ _ hw677_1; first | rwa [add_block] at this | exact this) GW689.out) | (rw [add_block]; exact Nat.ne_of_lt (Nat.lt_of_lt_of_le (by have := World.block_lt_of_cell? _ _ hw677_1; first | rwa [add_block] at this | exact this) GW689.out)) | (show (Addr.add _ _).block ≠ _; rw [add_block]; exact Nat.ne_of_lt (Nat.lt_of_lt_of_le (by have := World.block_lt_of_cell? _ _ hw677_1; first | rwa [add_block] at this | exact this) GW689.out)) | (dsimp only; exact Nat.ne_of_lt (Nat.lt_of_lt_of_le (by have := World.block_lt_of_cell? _ _ hw677_1; first | rwa [add_block] at this | exact this) GW689.out))) _).trans (((cell_far (p := ⟨gb689, _, none⟩) (by first | exact Nat.ne_of_lt (Nat.lt_of_lt_of_le (by have := World.block_lt_of_cell? _ _ hw677_1; first | rwa [add_block] at this | exact this) GW689.out) | (rw [add_block]; exact Nat.ne_of_lt (Nat.lt_of_lt_of_le (by have := World.block_lt_of_cell? _ _ hw677_1; first | rwa [add_block] at this | exact this) GW689.out)) | (show (Addr.add _ _).block ≠ _; rw [add_block]; exact Nat.ne_of_lt (Nat.lt_of_lt_of_le (by have := World.block_lt_of_cell? _ _ hw677_1; first | rwa [add_block] at this | exact this) GW689.out)) | (dsimp only; exact Nat.ne_of_lt (Nat.lt_of_lt_of_le (by have := World.block_lt_of_cell? _ _ hw677_1; first | rwa [add_block] at this | exact this) GW689.out))) _).trans (hHeld.2.2.2.2.1)))))), ((cell_far (p := ⟨gb689, _, none⟩) (by first | exact Nat.ne_of_lt (Nat.lt_of_lt_of_le (by have := World.block_lt_of_cell? _ _ hw677_2; first | rwa [add_block] at this | exact this) GW689.out) | (rw [add_block]; exact Nat.ne_of_lt (Nat.lt_of_lt_of_le (by have := World.block_lt_of_cell? _ _ hw677_2; first | rwa [add_block] at this | exact this) GW689.out)) | (show (Addr.add _ _).block ≠ _; rw [add_block]; exact Nat.ne_of_lt (Nat.lt_of_lt_of_le (by have := World.block_lt_of_cell? _ _ hw677_2; first | rwa [add_block] at this | exact this) GW689.out)) | (dsimp only; exact Nat.ne_of_lt (Nat.lt_of_lt_of_le (by have := World.block_lt_of_cell? _ _ hw677_2; first | rwa [add_block] at this | exact this) GW689.out))) _).trans (((cell_far (p := ⟨gb689, _, none⟩) (by first | exact Nat.ne_of_lt (Nat.lt_of_lt_of_le (by have := World.block_lt_of_cell? _ _ hw677_2; first | rwa [add_block] at this | exact this) GW689.out) | (rw [add_block]; exact Nat.ne_of_lt (Nat.lt_of_lt_of_le (by have := World.block_lt_of_cell? _ _ hw677_2; first | rwa [add_block] at this | exact this) GW689.out)) | (show (Addr.add _ _).block ≠ _; rw [add_block]; exact Nat.ne_of_lt (Nat.lt_of_lt_of_le (by have := World.block_lt_of_cell? _ _ hw677_2; first | rwa [add_block] at this | exact this) GW689.out)) | (dsimp only; exact Nat.ne_of_lt (Nat.lt_of_lt_of_le (by have := World.block_lt_of_cell? _ _ hw677_2; first | rwa [add_block] at this | exact this) GW689.out))) _).trans (((cell_far (p := ⟨gb689, _, none⟩) (by first | exact Nat.ne_of_lt (Nat.lt_of_lt_of_le (by have := World.block_lt_of_cell? _ _ hw677_2; first | rwa [add_block] at this | exact this) GW689.out) | (rw [add_block]; exact Nat.ne_of_lt (Nat.lt_of_lt_of_le (by have := World.block_lt_of_cell? _ _ hw677_2; first | rwa [add_block] at this | exact this) GW689.out)) | (show (Addr.add _ _).block ≠ _; rw [add_block]; exact Nat.ne_of_lt (Nat.lt_of_lt_of_le (by have := World.block_lt_of_cell? _ _ hw677_2; first | rwa [add_block] at this | exact this) GW689.out)) | (dsimp only; exact Nat.ne_of_lt (Nat.lt_of_lt_of_le (by have := World.block_lt_of_cell? _ _ hw677_2; first | rwa [add_block] at this | exact this) GW689.out))) _).trans (hHeld.2.2.2.2.2.1)))))), ((cell_far (p := ⟨gb689, _, none⟩) (by first | exact Nat.ne_of_lt (Nat.lt_of_lt_of_le (by have := World.block_lt_of_cell? _ _ hw678_0; first | rwa [add_block] at this | exact this) GW689.out) | (rw [add_block]; exact Nat.ne_of_lt (Nat.lt_of_lt_of_le (by have := World.block_lt_of_cell? _ _ hw678_0; first | rwa [add_block] at this | exact this) GW689.out)) | (show (Addr.add _ _).block ≠ _; rw [add_block]; exact Nat.ne_of_lt (Nat.lt_of_lt_of_le (by have := World.block_lt_of_cell? _ _ hw678_0; first | rwa [add_block] at this | exact this) GW689.out)) | (dsimp only; exact Nat.ne_of_lt (Nat.lt_of_lt_of_le (by have := World.block_lt_of_cell? _ _ hw678_0; first | rwa [add_block] at this | exact this) GW689.out))) _).trans (((cell_far (p := ⟨gb689, _, none⟩) (by first | exact Nat.ne_of_lt (Nat.lt_of_lt_of_le (by have := World.block_lt_of_cell? _ _ hw678_0; first | rwa [add_block] at this | exact this) GW689.out) | (rw [add_block]; exact Nat.ne_of_lt (Nat.lt_of_lt_of_le (by have := World.block_lt_of_cell? _ _ hw678_0; first | rwa [add_block] at this | exact this) GW689.out)) | (show (Addr.add _ _).block ≠ _; rw [add_block]; exact Nat.ne_of_lt (Nat.lt_of_lt_of_le (by have := World.block_lt_of_cell? _ _ hw678_0; first | rwa [add_block] at this | exact this) GW689.out)) | (dsimp only; exact Nat.ne_of_lt (Nat.lt_of_lt_of_le (by have := World.block_lt_of_cell? _ _ hw678_0; first | rwa [add_block] at this | exact this) GW689.out))) _).trans (((cell_far (p := ⟨gb689, _, none⟩) (by first | exact Nat.ne_of_lt (Nat.lt_of_lt_of_le (by have := World.block_lt_of_cell? _ _ hw678_0; first | rwa [add_block] at this | exact this) GW689.out) | (rw [add_block]; exact Nat.ne_of_lt (Nat.lt_of_lt_of_le (by have := World.block_lt_of_cell? _ _ hw678_0; first | rwa [add_block] at this | exact this) GW689.out)) | (show (Addr.add _ _).block ≠ _; rw [add_block]; exact Nat.ne_of_lt (Nat.lt_of_lt_of_le (by have := World.block_lt_of_cell? _ _ hw678_0; first | rwa [add_block] at this | exact this) GW689.out)) | (dsimp only; exact Nat.ne_of_lt (Nat.lt_of_lt_of_le (by have := World.block_lt_of_cell? _ _ hw678_0; first | rwa [add_block] at this | exact this) GW689.out))) _).trans (hHeld.2.2.2.2.2.2.1)))))), ((cell_far (p := ⟨gb689, _, none⟩) (by first | exact Nat.ne_of_lt (Nat.lt_of_lt_of_le (by have := World.block_lt_of_cell? _ _ hw678_1; first | rwa [add_block] at this | exact this) GW689.out) | (rw [add_block]; exact Nat.ne_of_lt (Nat.lt_of_lt_of_le (by have := World.block_lt_of_cell? _ _ hw678_1; first | rwa [add_block] at this | exact this) GW689.out)) | (show (Addr.add _ _).block ≠ _; rw [add_block]; exact Nat.ne_of_lt (Nat.lt_of_lt_of_le (by have := World.block_lt_of_cell? _ _ hw678_1; first | rwa [add_block] at this | exact this) GW689.out)) | (dsimp only; exact Nat.ne_of_lt (Nat.lt_of_lt_of_le (by have := World.block_lt_of_cell? _ _ hw678_1; first | rwa [add_block] at this | exact this) GW689.out))) _).trans (((cell_far (p := ⟨gb689, _, none⟩) (by first | exact Nat.ne_of_lt (Nat.lt_of_lt_of_le (by have := World.block_lt_of_cell? _ _ hw678_1; first | rwa [add_block] at this | exact this) GW689.out) | (rw [add_block]; exact Nat.ne_of_lt (Nat.lt_of_lt_of_le (by have := World.block_lt_of_cell? _ _ hw678_1; first | rwa [add_block] at this | exact this) GW689.out)) | (show (Addr.add _ _).block ≠ _; rw [add_block]; exact Nat.ne_of_lt (Nat.lt_of_lt_of_le (by have := World.block_lt_of_cell? _ _ hw678_1; first | rwa [add_block] at this | exact this) GW689.out)) | (dsimp only; exact Nat.ne_of_lt (Nat.lt_of_lt_of_le (by have := World.block_lt_of_cell? _ _ hw678_1; first | rwa [add_block] at this | exact this) GW689.out))) _).trans (((cell_far (p := ⟨gb689, _, none⟩) (by first | exact Nat.ne_of_lt (Nat.lt_of_lt_of_le (by have := World.block_lt_of_cell? _ _ hw678_1; first | rwa [add_block] at this | exact this) GW689.out) | (rw [add_block]; exact Nat.ne_of_lt (Nat.lt_of_lt_of_le (by have := World.block_lt_of_cell? _ _ hw678_1; first | rwa [add_block] at this | exact this) GW689.out)) | (show (Addr.add _ _).block ≠ _; rw [add_block]; exact Nat.ne_of_lt (Nat.lt_of_lt_of_le (by have := World.block_lt_of_cell? _ _ hw678_1; first | rwa [add_block] at this | exact this) GW689.out)) | (dsimp only; exact Nat.ne_of_lt (Nat.lt_of_lt_of_le (by have := World.block_lt_of_cell? _ _ hw678_1; first | rwa [add_block] at this | exact this) GW689.out))) _).trans (hHeld.2.2.2.2.2.2.2.1)))))), ((cell_far (p := ⟨gb689, _, none⟩) (by first | exact Nat.ne_of_lt (Nat.lt_of_lt_of_le (by have := World.block_lt_of_cell? _ _ hw678_2; first | rwa [add_block] at this | exact this) GW689.out) | (rw [add_block]; exact Nat.ne_of_lt (Nat.lt_of_lt_of_le (by have := World.block_lt_of_cell? _ _ hw678_2; first | rwa [add_block] at this | exact this) GW689.out)) | (show (Addr.add _ _).block ≠ _; rw [add_block]; exact Nat.ne_of_lt (Nat.lt_of_lt_of_le (by have := World.block_lt_of_cell? _ _ hw678_2; first | rwa [add_block] at this | exact this) GW689.out)) | (dsimp only; exact Nat.ne_of_lt (Nat.lt_of_lt_of_le (by have := World.block_lt_of_cell? _ _ hw678_2; first | rwa [add_block] at this | exact this) GW689.out))) _).trans (((cell_far (p := ⟨gb689, _, none⟩) (by first | exact Nat.ne_of_lt (Nat.lt_of_lt_of_le (by have := World.block_lt_of_cell? _ _ hw678_2; first | rwa [add_block] at this | exact this) GW689.out) | (rw [add_block]; exact Nat.ne_of_lt (Nat.lt_of_lt_of_le (by have := World.block_lt_of_cell? _ _ hw678_2; first | rwa [add_block] at this | exact this) GW689.out)) | (show (Addr.add _ _).block ≠ _; rw [add_block]; exact Nat.ne_of_lt (Nat.lt_of_lt_of_le (by have := World.block_lt_of_cell? _ _ hw678_2; first | rwa [add_block] at this | exact this) GW689.out)) | (dsimp only; exact Nat.ne_of_lt (Nat.lt_of_lt_of_le (by have := World.block_lt_of_cell? _ _ hw678_2; first | rwa [add_block] at this | exact this) GW689.out))) _).trans (((cell_far (p := ⟨gb689, _, none⟩) (by first | exact Nat.ne_of_lt (Nat.lt_of_lt_of_le (by have := World.block_lt_of_cell? _ _ hw678_2; first | rwa [add_block] at this | exact this) GW689.out) | (rw [add_block]; exact Nat.ne_of_lt (Nat.lt_of_lt_of_le (by have := World.block_lt_of_cell? _ _ hw678_2; first | rwa [add_block] at this | exact this) GW689.out)) | (show (Addr.add _ _).block ≠ _; rw [add_block]; exact Nat.ne_of_lt (Nat.lt_of_lt_of_le (by have := World.block_lt_of_cell? _ _ hw678_2; first | rwa [add_block] at this | exact this) GW689.out)) | (dsimp only; exact Nat.ne_of_lt (Nat.lt_of_lt_of_le (by have := World.block_lt_of_cell? _ _ hw678_2; first | rwa [add_block] at this | exact this) GW689.out))) _).trans (hHeld.2.2.2.2.2.2.2.2))))))⟩ (fun hHeld => ?_)
                      clear hK K
                      refine pure_ (i := 17) (N := some 11) (v := ?_) (a' := ?_) #[true, true, true, true, true, true, true, true, true, true, true, true, true, true, true, true, true, true] rfl rfl (any_of HT_.out (by kernel_rfl)) (fun _ _ _ h => h) (Or.inl ⟨by rfl, ?_⟩) ?_ ?_
                      rotate_left
                      · intro w'
                        go_simp
                        with_reducible rfl
                      rotate_left
                      · simp only [Act.put, List.setIfInBounds_toArray, List.set_cons_zero, List.set_cons_succ, i64_w, i32_w]
                        rfl
                      refine done_ (done_of HT_.out (by kernel_rfl)) ?_
                      have hnb48 := NB689_662.out
                      have hnc48 := NB662_689.out
                      have hcz49_0 : w42.cell? ⟨gb689, 0, none⟩ = some (.slice none 0 0) := (blk_cell BK689.out 0).trans rfl
                      have hcz49_1 : w42.cell? ⟨gb689, 1, none⟩ = some (.slice none 0 0) := (blk_cell BK689.out 1).trans rfl
                      have hcz49_2 : w42.cell? ⟨gb689, 2, none⟩ = some (.bool false) := (blk_cell BK689.out 2).trans rfl
                      have hfz49_0 := blk_frozen BK689.out 0
                      have hfz49_1 := blk_frozen BK689.out 1
                      have hfz49_2 := blk_frozen BK689.out 2
                      have hcz50_0 : w42.cell? ⟨gb662, 0, none⟩ = some (.slice Ao37 x663000_2.length co37) := (blk_cell BK662.out 0).trans rfl
                      have hcz50_1 : w42.cell? ⟨gb662, 1, none⟩ = some (.slice Ao38 x663001_2.length co38) := (blk_cell BK662.out 1).trans rfl
                      have hcz50_2 : w42.cell? ⟨gb662, 2, none⟩ = some (.bool x663002_2) := (blk_cell BK662.out 2).trans rfl
                      have hfz50_0 := blk_frozen BK662.out 0
                      have hfz50_1 := blk_frozen BK662.out 1
                      have hfz50_2 := blk_frozen BK662.out 2
                      try go_wp2
                      go_meet
                      case rel => exact ⟨_, (t679), (t682), (t685), (.slice Ao43 t679.length co43), (.slice Ao45 t682.length co45), H', ⟨by have := HJ3.out; have := HK2.out; first | omega | exact Nat.le_refl _⟩, ⟨by (with_reducible repeat (first | apply Kd.S_alloc | apply Kd.S_drewN | apply Kd.S_drew)); exact Kd.S_mono (Kd.S_far (p := ⟨gb662, 2, none⟩) (Kd.S_far (p := ⟨gb662, 1, none⟩) (Kd.S_far (p := ⟨gb662, 0, none⟩) (Kd.S_far (p := ⟨gb689, 2, none⟩) (Kd.S_far (p := ⟨gb689, 1, none⟩) (Kd.S_far (p := ⟨gb689, 0, none⟩) (Kd.S_types (Kd.S_types HO681.out BK689.out (by decide)) BK662.out (by decide)) (fun _ hk => hk.1.2) (.slice Ao43 t679.length co43)) (fun _ hk => hk.1.2) (.slice Ao45 t682.length co45)) (fun _ hk => hk.1.2) (.bool t685)) (fun _ hk => hk.2) (.slice Ao43 t679.length co43)) (fun _ hk => hk.2) (.slice Ao45 t682.length co45)) (fun _ hk => hk.2) (.bool t685)) (fun _ hk => hk.1.1.1)⟩, ⟨by (with_reducible repeat (first | apply Kd.R_alloc | apply Kd.R_drewN | apply Kd.R_drew)); exact Kd.R_mono (Kd.R_far (p := ⟨gb662, 2, none⟩) (Kd.R_far (p := ⟨gb662, 1, none⟩) (Kd.R_far (p := ⟨gb662, 0, none⟩) (Kd.R_far (p := ⟨gb689, 2, none⟩) (Kd.R_far (p := ⟨gb689, 1, none⟩) (Kd.R_far (p := ⟨gb689, 0, none⟩) (Kd.R_types (Kd.R_types HO684.out BK689.out (by decide)) BK662.out (by decide)) (fun _ hk => hk.1.2) (.slice Ao43 t679.length co43)) (fun _ hk => hk.1.2) (.slice Ao45 t682.length co45)) (fun _ hk => hk.1.2) (.bool t685)) (fun _ hk => hk.2) (.slice Ao43 t679.length co43)) (fun _ hk => hk.2) (.slice Ao45 t682.length co45)) (fun _ hk => hk.2) (.bool t685)) (fun _ hk => trivial)⟩, ⟨by (with_reducible repeat (first | refine blk_drewN ?_ _ | refine blk_drew ?_ | refine blk_alloc ?_ _)); refine blk_put (cs := #[.slice Ao43 t679.length co43, .slice Ao45 t682.length co45, .bool x663002_2]) ?_ 2 _ rfl; (with_reducible repeat (first | refine blk_drewN ?_ _ | refine blk_drew ?_ | refine blk_alloc ?_ _)); refine blk_put (cs := #[.slice Ao43 t679.length co43, .slice Ao38 x663001_2.length co38, .bool x663002_2]) ?_ 1 _ rfl; (with_reducible repeat (first | refine blk_drewN ?_ _ | refine blk_drew ?_ | refine blk_alloc ?_ _)); refine blk_put (cs := #[.slice Ao37 x663000_2.length co37, .slice Ao38 x663001_2.length co38, .bool x663002_2]) ?_ 0 _ rfl; (with_reducible repeat (first | refine blk_drewN ?_ _ | refine blk_drew ?_ | refine blk_alloc ?_ _)); refine blk_far ?_ NB662_689.out _; (with_reducible repeat (first | refine blk_drewN ?_ _ | refine blk_drew ?_ | refine blk_alloc ?_ _)); refine blk_far ?_ NB662_689.out _; (with_reducible repeat (first | refine blk_drewN ?_ _ | refine blk_drew ?_ | refine blk_alloc ?_ _)); refine blk_far ?_ NB662_689.out _; (with_reducible repeat (first | refine blk_drewN ?_ _ | refine blk_drew ?_ | refine blk_alloc ?_ _)); exact BK662.out⟩, ⟨by repeat (first | (with_reducible first | exact HB.out | apply below_alloc | apply pw_below_drewN | apply below_drew1 | refine below_set ?_ GE662.out | refine below_set ?_ GE689.out) | exact HB.out)⟩⟩
                    · rw [if_neg c35] at H
                      have c35b0 : (((rd_T53 l1 x7_2).f0) == 1) = false := beq_eq_false_iff_ne.mpr c35
                      have c35b1 : (((rd_T53 l1 x7_2).f0) != 1) = true := bne_iff_ne.mpr c35
                      replace H := Option.bind_eq_some_iff.mp H
                      obtain ⟨⟨t690, t693, t696⟩, A510, H⟩ := H
                      replace H : (bywashlaw15_DomupPlays.j2 k2 l0 l1 t653 x7_2 t690 t693 t696) = some r := H
                      have A51 := Aside0.mk A510
                      clear A510
                      have H' := Aside0.mk H
                      clear H
                      have hcz52_0 : wr.cell? ⟨gb662, 0, none⟩ = some (u663000) := (blk_cell BK662.out 0).trans rfl
                      have hcz52_1 : wr.cell? ⟨gb662, 1, none⟩ = some (u663001) := (blk_cell BK662.out 1).trans rfl
                      have hcz52_2 : wr.cell? ⟨gb662, 2, none⟩ = some (.bool x663002_2) := (blk_cell BK662.out 2).trans rfl
                      have hfz52_0 := blk_frozen BK662.out 0
                      have hfz52_1 := blk_frozen BK662.out 1
                      have hfz52_2 := blk_frozen BK662.out 2
                      obtain ⟨Ao53, co53, eo53⟩ := Kd.S_slice HO_663000.out
                      subst eo53
                      obtain ⟨Ao54, co54, eo54⟩ := Kd.R_slice HO_663001.out
                      subst eo54
                      go_wp2_with (first | ((with_reducible refine gate_callee (f := 39) rfl ?_); refine goesL_ (some 41) rfl rfl Try.func39 (by kernel_rfl) rfl #[.agg #[.slice Ao53 x663000_2.length co53, .slice Ao54 x663001_2.length co54, .bool x663002_2]] rfl (by (try simp only [List.map_toArray, List.map_cons, List.map_nil]); first | done | rfl | (simp only [List.length_drop, List.length_take]; rfl)) ?_; (with_reducible refine (domup_Grow.calls k2 _ _ x663000_2 _ _ x663001_2 x663002_2 t690 t693 t696 _ ?side1 ?side2 ?side3 ?side4 A51.out).mono ?_); (case side1 => repeat (first | exact (Kd.S_reads' HO_663000.out).2.2 | (with_reducible refine Kd.C_alloc ?_ _) | (with_reducible refine Kd.C_drewN ?_ _) | (with_reducible refine Kd.C_drew ?_))); (case side2 => exact (Kd.S_reads' HO_663000.out).2.1); (case side3 => repeat (first | exact (Kd.R_reads' HO_663001.out).2.2 | (with_reducible refine Kd.C_alloc ?_ _) | (with_reducible refine Kd.C_drewN ?_ _) | (with_reducible refine Kd.C_drew ?_))); (case side4 => exact (Kd.R_reads' HO_663001.out).2.1); rintro e w55 ⟨v691, v694, rfl, ho0, ho1, hb⟩; refine ⟨_, rfl, ?_⟩; have n0_ := Aside0.mk (Kd.S_mono (Kd.S_told (Kd.S_told (Kd.S_old (by (with_reducible repeat (first | apply Kd.S_alloc | apply Kd.S_drewN | apply Kd.S_drew)); exact HO_663000.out) hb) (Kd.S_base ho0)) (Kd.R_base ho1)) (fun _ h_ => h_.1)); have n1_ := Aside0.mk (Kd.R_elder' (by (with_reducible repeat (first | apply Kd.R_alloc | apply Kd.R_drewN | apply Kd.R_drew)); exact HO_663001.out) (Kd.R_base ho1) hb); have n2_ := Aside0.mk (Kd.S_lower (Kd.S_new' (Kd.S_new' ho0 (Kd.S_lt (by (with_reducible repeat (first | apply Kd.S_alloc | apply Kd.S_drewN | apply Kd.S_drew)); exact HO_663000.out))) (Kd.R_lt (by (with_reducible repeat (first | apply Kd.R_alloc | apply Kd.R_drewN | apply Kd.R_drew)); exact HO_663001.out))) (below_size (by repeat (first | (with_reducible first | exact HB.out | apply below_alloc | apply pw_below_drewN | apply below_drew1 | refine below_set ?_ GE662.out) | exact HB.out)))); have n3_ := Aside0.mk (Kd.R_lower (Kd.R_new' ho1 (Kd.R_lt (by (with_reducible repeat (first | apply Kd.R_alloc | apply Kd.R_drewN | apply Kd.R_drew)); exact HO_663001.out))) (below_size (by repeat (first | (with_reducible first | exact HB.out | apply below_alloc | apply pw_below_drewN | apply below_drew1 | refine below_set ?_ GE662.out) | exact HB.out)))); have n4_ := Aside0.mk (blk_below (g := gb662) (o := .cells #[.slice Ao53 x663000_2.length co53, .slice Ao54 x663001_2.length co54, .bool x663002_2] 40 (0, 0)) (by (with_reducible repeat (first | refine blk_drewN ?_ _ | refine blk_drew ?_ | refine blk_alloc ?_ _)); exact BK662.out) hb); have n5_ := Aside0.mk (below_step (by repeat (first | (with_reducible first | exact HB.out | apply below_alloc | apply pw_below_drewN | apply below_drew1 | refine below_set ?_ GE662.out) | exact HB.out)) hb); clear HO_663000; clear HO_663001; clear BK662; clear HB; have HO_663000 := n0_; have HO_663001 := n1_; have HO692 := n2_; have HO695 := n3_; have BK662 := n4_; have HB := n5_; clear n0_ n1_ n2_ n3_ n4_ n5_; (try clear hb); (try clear hb2); (try clear hk); (try clear hi); (try clear ho0); (try clear ho1); obtain ⟨Ao56, co56, eo56⟩ := Kd.S_slice HO692.out; subst eo56; have hcz57_0 : w55.cell? ⟨gb662, 0, none⟩ = some (.slice Ao53 x663000_2.length co53) := (blk_cell BK662.out 0).trans rfl; have hcz57_1 : w55.cell? ⟨gb662, 1, none⟩ = some (.slice Ao54 x663001_2.length co54) := (blk_cell BK662.out 1).trans rfl; have hcz57_2 : w55.cell? ⟨gb662, 2, none⟩ = some (.bool x663002_2) := (blk_cell BK662.out 2).trans rfl; have hfz57_0 := blk_frozen BK662.out 0; have hfz57_1 := blk_frozen BK662.out 1; have hfz57_2 := blk_frozen BK662.out 2; obtain ⟨Ao58, co58, eo58⟩ := Kd.R_slice HO695.out; subst eo58))
                      go_meet
                      case rel => exact ⟨_, (t690), (t693), (t696), (.slice Ao56 t690.length co56), (.slice Ao58 t693.length co58), H', ⟨by have := HJ3.out; have := HK2.out; first | omega | exact Nat.le_refl _⟩, ⟨by (with_reducible repeat (first | apply Kd.S_alloc | apply Kd.S_drewN | apply Kd.S_drew)); exact Kd.S_mono (Kd.S_far (p := ⟨gb662, 2, none⟩) (Kd.S_far (p := ⟨gb662, 1, none⟩) (Kd.S_far (p := ⟨gb662, 0, none⟩) (Kd.S_types HO692.out BK662.out (by decide)) (fun _ hk => hk.2) (.slice Ao56 t690.length co56)) (fun _ hk => hk.2) (.slice Ao58 t693.length co58)) (fun _ hk => hk.2) (.bool t696)) (fun _ hk => hk.1.1.1)⟩, ⟨by (with_reducible repeat (first | apply Kd.R_alloc | apply Kd.R_drewN | apply Kd.R_drew)); exact Kd.R_mono (Kd.R_far (p := ⟨gb662, 2, none⟩) (Kd.R_far (p := ⟨gb662, 1, none⟩) (Kd.R_far (p := ⟨gb662, 0, none⟩) (Kd.R_types HO695.out BK662.out (by decide)) (fun _ hk => hk.2) (.slice Ao56 t690.length co56)) (fun _ hk => hk.2) (.slice Ao58 t693.length co58)) (fun _ hk => hk.2) (.bool t696)) (fun _ hk => trivial)⟩, ⟨by (with_reducible repeat (first | refine blk_drewN ?_ _ | refine blk_drew ?_ | refine blk_alloc ?_ _)); refine blk_put (cs := #[.slice Ao56 t690.length co56, .slice Ao58 t693.length co58, .bool x663002_2]) ?_ 2 _ rfl; (with_reducible repeat (first | refine blk_drewN ?_ _ | refine blk_drew ?_ | refine blk_alloc ?_ _)); refine blk_put (cs := #[.slice Ao56 t690.length co56, .slice Ao54 x663001_2.length co54, .bool x663002_2]) ?_ 1 _ rfl; (with_reducible repeat (first | refine blk_drewN ?_ _ | refine blk_drew ?_ | refine blk_alloc ?_ _)); refine blk_put (cs := #[.slice Ao53 x663000_2.length co53, .slice Ao54 x663001_2.length co54, .bool x663002_2]) ?_ 0 _ rfl; (with_reducible repeat (first | refine blk_drewN ?_ _ | refine blk_drew ?_ | refine blk_alloc ?_ _)); exact BK662.out⟩, ⟨by repeat (first | (with_reducible first | exact HB.out | apply below_alloc | apply pw_below_drewN | apply below_drew1 | refine below_set ?_ GE662.out) | exact HB.out)⟩⟩
                case rest =>
                  clear HC18
                  try clear c1
                  try clear p2
                  try clear c3
                  try clear c4
                  try clear p6
                  try clear q6
                  try clear hx6
                  try clear c19
                  try clear c19b0
                  try clear c19b1
                  try clear c32
                  try clear c35
                  try clear c35b0
                  try clear c35b1
                  try clear c39
                  try clear c48
                  try clear hcz33_0
                  try clear hcz33_1
                  try clear hcz33_2
                  try clear hcz34_0
                  try clear hcz34_1
                  try clear hcz34_2
                  try clear hcz49_0
                  try clear hcz49_1
                  try clear hcz49_2
                  try clear hcz50_0
                  try clear hcz50_1
                  try clear hcz50_2
                  try clear hcz52_0
                  try clear hcz52_1
                  try clear hcz52_2
                  try clear hcz57_0
                  try clear hcz57_1
                  try clear hcz57_2
                  try clear hfz33_0
                  try clear hfz33_1
                  try clear hfz33_2
                  try clear hfz34_0
                  try clear hfz34_1
                  try clear hfz34_2
                  try clear hfz49_0
                  try clear hfz49_1
                  try clear hfz49_2
                  try clear hfz50_0
                  try clear hfz50_1
                  try clear hfz50_2
                  try clear hfz52_0
                  try clear hfz52_1
                  try clear hfz52_2
                  try clear hfz57_0
                  try clear hfz57_1
                  try clear hfz57_2
                  try clear hx677_0
                  try clear hx677_1
                  try clear hx677_2
                  try clear hx678_0
                  try clear hx678_1
                  try clear hx678_2
                  try clear p677
                  try clear p678
                  try clear q677
                  try clear q678
                  obtain ⟨kq, x663000_17, x663001_17, x663002_17, u663000, u663001, HA, HJ17, HO_663000, HO_663001, BK662, HB⟩ := hcut
                  cases kq with
                  | zero => exact absurd HA.out (by simp [bywashlaw15_DomupPlays.j2])
                  | succ kj17 =>
                    have H := HA.out
                    clear HA
                    simp only [bywashlaw15_DomupPlays.j2] at H
                    replace H := Option.bind_eq_some_iff.mp H
                    obtain ⟨t697, A590, H⟩ := H
                    replace H : ((bywashref01_Ints.f kj17 x663001_17 t697).bind fun t700 => (if t700 = true then ((domup_Sane.f kj17 x663000_17 x663001_17 x663002_17).bind fun t701 => (if t701 = true then (bywashlaw15_DomupPlays.l0 kj17 l0 l1 t653 (wrap64 (x7_2 + 1)) x663000_17 x663001_17 x663002_17) else (some false))) else (some false))) = some r := H
                    have A59 := Aside0.mk A590
                    clear A590
                    replace H := Option.bind_eq_some_iff.mp H
                    obtain ⟨t700, A600, H⟩ := H
                    replace H : (if t700 = true then ((domup_Sane.f kj17 x663000_17 x663001_17 x663002_17).bind fun t701 => (if t701 = true then (bywashlaw15_DomupPlays.l0 kj17 l0 l1 t653 (wrap64 (x7_2 + 1)) x663000_17 x663001_17 x663002_17) else (some false))) else (some false)) = some r := H
                    have A60 := Aside0.mk A600
                    clear A600
                    by_cases c61 : t700 = true
                    · subst c61
                      have H1 : ((domup_Sane.f kj17 x663000_17 x663001_17 x663002_17).bind fun t701 => (if t701 = true then (bywashlaw15_DomupPlays.l0 kj17 l0 l1 t653 (wrap64 (x7_2 + 1)) x663000_17 x663001_17 x663002_17) else (some false))) = some r := by rw [if_pos rfl] at H; exact H
                      clear H
                      have H := H1
                      clear H1
                      replace H := Option.bind_eq_some_iff.mp H
                      obtain ⟨t701, A620, H⟩ := H
                      replace H : (if t701 = true then (bywashlaw15_DomupPlays.l0 kj17 l0 l1 t653 (wrap64 (x7_2 + 1)) x663000_17 x663001_17 x663002_17) else (some false)) = some r := H
                      have A62 := Aside0.mk A620
                      clear A620
                      by_cases c63 : t701 = true
                      · subst c63
                        have H1 : (bywashlaw15_DomupPlays.l0 kj17 l0 l1 t653 (wrap64 (x7_2 + 1)) x663000_17 x663001_17 x663002_17) = some r := by rw [if_pos rfl] at H; exact H
                        clear H
                        have H := H1
                        clear H1
                        have H' := Aside0.mk H
                        clear H
                        try go_wp2
                        have n0_ := Aside0.mk (Kd.S_drew HO_663000.out)
                        have n1_ := Aside0.mk (Kd.R_drew HO_663001.out)
                        have n2_ := Aside0.mk (blk_drew BK662.out)
                        have n3_ := Aside0.mk (below_drew1 HB.out)
                        clear HO_663000
                        clear HO_663001
                        clear BK662
                        clear HB
                        have HO_663000 := n0_
                        have HO_663001 := n1_
                        have BK662 := n2_
                        have HB := n3_
                        clear n0_ n1_ n2_ n3_
                        obtain ⟨Ao65, co65, eo65⟩ := Kd.S_slice HO_663000.out
                        (first | subst eo65 | (injection eo65 with f1_ f2_ f3_; have f4_ := f1_.symm; have f5_ := f3_.symm; clear f1_ f2_ f3_; subst f4_; subst f5_))
                        refine start_ (n := 12) (S := fun w' => w'.cell? ⟨gb662, 0, none⟩ = some (.slice Ao65 x663000_17.length co65) ∧ w'.cell? ⟨gb662, 1, none⟩ = some (u663001) ∧ w'.cell? ⟨gb662, 2, none⟩ = some (.bool x663002_17)) (ds := []) #[false, false, false, false, false, false, false, false, false, false, false, false] (by kernel_rfl) rfl rfl ⟨(blk_cell BK662.out 0).trans rfl, (blk_cell BK662.out 1).trans rfl, (blk_cell BK662.out 2).trans rfl⟩ (fun hHeld => ?_); refine with_tabW bywashlaw15_DomupPlays.tab16 bywashlaw15_DomupPlays.bits16 (fun HT_ HW_ => ?_)
                        generalize wc.drew = w64 at HO_663000 HO_663001 BK662 HB hHeld ⊢
                        refine pure_ (i := 0) (N := some 78) (v := ?_) (a' := ?_) #[true, false, false, false, false, false, false, false, false, false, false, false] rfl rfl (any_of HT_.out (by kernel_rfl)) (fun _ _ _ h => h) (Or.inl ⟨by rfl, ?_⟩) ?_ ?_
                        rotate_left
                        · intro w'
                          go_simp
                          with_reducible rfl
                        rotate_left
                        · simp only [Act.put, List.setIfInBounds_toArray, List.set_cons_zero, List.set_cons_succ, i64_w, i32_w]
                          rfl
                        refine pure_ (i := 2) (N := some 80) (v := ?_) (a' := ?_) #[true, false, true, false, false, false, false, false, false, false, false, false] rfl rfl (any_of HT_.out (by kernel_rfl)) (fun _ _ _ h => h) (Or.inl ⟨by rfl, ?_⟩) ?_ ?_
                        rotate_left
                        · intro w'
                          go_simp
                          with_reducible rfl
                        rotate_left
                        · simp only [Act.put, List.setIfInBounds_toArray, List.set_cons_zero, List.set_cons_succ, i64_w, i32_w]
                          rfl
                        refine take_ (i := 1) (N := some 79) (v := ?_) (a' := ?_) #[true, true, true, false, false, false, false, false, false, false, false, false] rfl rfl (take_ofW HT_.out HW_.out (by kernel_rfl)) (fun _ _ _ h => h) (Or.inl ⟨by rfl, ?_⟩) hHeld ?_ ?_
                        rotate_left
                        · rintro w' ⟨s0, s1, s2⟩
                          go_simp
                          with_reducible rfl
                        rotate_left
                        · simp only [Act.put, List.setIfInBounds_toArray, List.set_cons_zero, List.set_cons_succ, i64_w, i32_w]
                          rfl
                        refine take_ (i := 3) (N := some 81) (v := ?_) (a' := ?_) #[true, true, true, true, false, false, false, false, false, false, false, false] rfl rfl (take_ofW HT_.out HW_.out (by kernel_rfl)) (fun _ _ _ h => h) (Or.inl ⟨by rfl, ?_⟩) hHeld ?_ ?_
                        rotate_left
                        · rintro w' ⟨s0, s1, s2⟩
                          go_simp
                          with_reducible rfl
                        rotate_left
                        · simp only [Act.put, List.setIfInBounds_toArray, List.set_cons_zero, List.set_cons_succ, i64_w, i32_w]
                          rfl
                        refine one_ (i := 4) (N := some 82) #[true, true, true, true, true, false, false, false, false, false, false, false] rfl rfl (one_of HT_.out (by kernel_rfl)) (by decide) (fun K hK => ?_)
                        refine goes_ Try.func15 (by kernel_rfl) rfl #[.slice Ao65 x663000_17.length co65] (by rfl) rfl rfl (by (try simp only [List.map_toArray, List.map_cons, List.map_nil]); first | done | rfl | (simp only [List.length_drop, List.length_take]; rfl)) ?_
                        with_reducible refine (dom_Idoms.calls kj17 _ _ x663000_17 t697 _ ?side1 ?side2 A59.out).mono ?_
                        (case side1 => repeat (first | exact (Kd.S_reads' HO_663000.out).2.2 | (with_reducible refine Kd.C_alloc ?_ _) | (with_reducible refine Kd.C_drewN ?_ _) | (with_reducible refine Kd.C_drew ?_)))
                        (case side2 => exact (Kd.S_reads' HO_663000.out).2.1)
                        rintro e w66 ⟨v698, rfl, ho0, hb⟩
                        refine ⟨_, rfl, ?_⟩
                        have n0_ := Aside0.mk (Kd.S_elder' (by (with_reducible repeat (first | apply Kd.S_alloc | apply Kd.S_drewN | apply Kd.S_drew)); exact HO_663000.out) (Kd.R_base ho0) hb)
                        have n1_ := Aside0.mk (Kd.R_elder' (by (with_reducible repeat (first | apply Kd.R_alloc | apply Kd.R_drewN | apply Kd.R_drew)); exact HO_663001.out) (Kd.R_base ho0) hb)
                        have n2_ := Aside0.mk (Kd.R_lower (Kd.R_new' ho0 (Kd.R_lt (by (with_reducible repeat (first | apply Kd.R_alloc | apply Kd.R_drewN | apply Kd.R_drew)); exact HO_663001.out))) (below_size (by repeat (first | (with_reducible first | exact HB.out | apply below_alloc | apply pw_below_drewN | apply below_drew1 | refine below_set ?_ GE662.out) | exact HB.out))))
                        have n3_ := Aside0.mk (blk_below (g := gb662) (o := .cells #[.slice Ao65 x663000_17.length co65, u663001, .bool x663002_17] 40 (0, 0)) (by (with_reducible repeat (first | refine blk_drewN ?_ _ | refine blk_drew ?_ | refine blk_alloc ?_ _)); exact BK662.out) hb)
                        have n4_ := Aside0.mk (below_step (by repeat (first | (with_reducible first | exact HB.out | apply below_alloc | apply pw_below_drewN | apply below_drew1 | refine below_set ?_ GE662.out) | exact HB.out)) hb)
                        clear HO_663000
                        clear HO_663001
                        clear BK662
                        clear HB
                        have HO_663000 := n0_
                        have HO_663001 := n1_
                        have HO699 := n2_
                        have BK662 := n3_
                        have HB := n4_
                        clear n0_ n1_ n2_ n3_ n4_
                        (try clear hb)
                        (try clear hb2)
                        (try clear hk)
                        (try clear hi)
                        (try clear ho0)
                        obtain ⟨Ao67, co67, eo67⟩ := Kd.R_slice HO_663001.out
                        (first | subst eo67 | (injection eo67 with f1_ f2_ f3_; have f4_ := f1_.symm; have f5_ := f3_.symm; clear f1_ f2_ f3_; subst f4_; subst f5_))
                        obtain ⟨Ao68, co68, eo68⟩ := Kd.R_slice HO699.out
                        (first | subst eo68 | (injection eo68 with f1_ f2_ f3_; have f4_ := f1_.symm; have f5_ := f3_.symm; clear f1_ f2_ f3_; subst f4_; subst f5_))
                        refine hK.out _ _ ⟨(blk_cell BK662.out 0).trans rfl, (blk_cell BK662.out 1).trans rfl, (blk_cell BK662.out 2).trans rfl⟩ (fun hHeld => ?_)
                        clear hK K
                        refine norm_ (a' := ?_) ?_ ?_
                        rotate_left
                        · show Act.put _ (some 82) _ = _
                          simp only [Act.put, List.setIfInBounds_toArray, List.set_cons_zero, List.set_cons_succ, i64_w, i32_w]
                          rfl
                        refine one_ (i := 5) (N := some 83) #[true, true, true, true, true, true, false, false, false, false, false, false] rfl rfl (one_of HT_.out (by kernel_rfl)) (by decide) (fun K hK => ?_)
                        refine goes_ Try.func21 (by kernel_rfl) rfl #[.slice Ao67 x663001_17.length co67, .slice Ao68 t697.length co68] (by rfl) rfl rfl (by (try simp only [List.map_toArray, List.map_cons, List.map_nil]); first | done | rfl | (simp only [List.length_drop, List.length_take]; rfl)) ?_
                        with_reducible refine (bywashref01_Ints.calls kj17 _ _ x663001_17 _ _ t697 true _ ?side1 ?side2 ?side3 ?side4 A60.out).mono ?_
                        (case side1 => repeat (first | exact (Kd.R_reads' HO_663001.out).2.2 | (with_reducible refine Kd.C_alloc ?_ _) | (with_reducible refine Kd.C_drewN ?_ _) | (with_reducible refine Kd.C_drew ?_)))
                        (case side2 => exact (Kd.R_reads' HO_663001.out).2.1)
                        (case side3 => repeat (first | exact (Kd.R_reads' HO699.out).2.2 | (with_reducible refine Kd.C_alloc ?_ _) | (with_reducible refine Kd.C_drewN ?_ _) | (with_reducible refine Kd.C_drew ?_)))
                        (case side4 => exact (Kd.R_reads' HO699.out).2.1)
                        rintro e w' ⟨rfl, ⟨nd, rfl⟩⟩
                        refine ⟨_, rfl, ?_⟩
                        refine hK.out _ _ ⟨(blk_cell BK662.out 0).trans rfl, (blk_cell BK662.out 1).trans rfl, (blk_cell BK662.out 2).trans rfl⟩ (fun hHeld => ?_)
                        clear hK K
                        refine norm_ (a' := ?_) ?_ ?_
                        rotate_left
                        · show Act.put _ (some 83) _ = _
                          simp only [Act.put, List.setIfInBounds_toArray, List.set_cons_zero, List.set_cons_succ, i64_w, i32_w]
                          rfl
                        refine pure_ (i := 6) (N := some 84) (v := ?_) (a' := ?_) #[true, true, true, true, true, true, true, false, false, false, false, false] rfl rfl (any_of HT_.out (by kernel_rfl)) (fun _ _ _ h => h) (Or.inl ⟨by rfl, ?_⟩) ?_ ?_
                        rotate_left
                        · intro w'
                          go_simp
                          with_reducible rfl
                        rotate_left
                        · simp only [Act.put, List.setIfInBounds_toArray, List.set_cons_zero, List.set_cons_succ, i64_w, i32_w]
                          rfl
                        refine pure_ (i := 7) (N := some 85) (v := ?_) (a' := ?_) #[true, true, true, true, true, true, true, true, false, false, false, false] rfl rfl (any_of HT_.out (by kernel_rfl)) (fun _ _ _ h => h) (Or.inl ⟨by rfl, ?_⟩) ?_ ?_
                        rotate_left
                        · intro w'
                          go_simp
                          with_reducible rfl
                        rotate_left
                        · simp only [Act.put, List.setIfInBounds_toArray, List.set_cons_zero, List.set_cons_succ, i64_w, i32_w]
                          rfl
                        refine take_ (i := 8) (N := some 86) (v := ?_) (a' := ?_) #[true, true, true, true, true, true, true, true, true, false, false, false] rfl rfl (take_ofW HT_.out HW_.out (by kernel_rfl)) (fun _ _ _ h => h) (Or.inl ⟨by rfl, ?_⟩) hHeld ?_ ?_
                        rotate_left
                        · rintro w' ⟨s0, s1, s2⟩
                          go_simp
                          with_reducible rfl
                        rotate_left
                        · simp only [Act.put, List.setIfInBounds_toArray, List.set_cons_zero, List.set_cons_succ, i64_w, i32_w]
                          rfl
                        refine one_ (i := 9) (N := some 87) #[true, true, true, true, true, true, true, true, true, true, false, false] rfl rfl (one_of HT_.out (by kernel_rfl)) (by decide) (fun K hK => ?_)
                        refine goes_ Try.func40 (by kernel_rfl) rfl #[.agg #[.slice Ao65 x663000_17.length co65, .slice Ao67 x663001_17.length co67, .bool x663002_17]] (by rfl) rfl rfl (by (try simp only [List.map_toArray, List.map_cons, List.map_nil]); first | done | rfl | (simp only [List.length_drop, List.length_take]; rfl)) ?_
                        with_reducible refine (domup_Sane.calls kj17 _ _ x663000_17 _ _ x663001_17 x663002_17 true _ ?side1 ?side2 ?side3 ?side4 A62.out).mono ?_
                        (case side1 => repeat (first | exact (Kd.S_reads' HO_663000.out).2.2 | (with_reducible refine Kd.C_alloc ?_ _) | (with_reducible refine Kd.C_drewN ?_ _) | (with_reducible refine Kd.C_drew ?_)))
                        (case side2 => exact (Kd.S_reads' HO_663000.out).2.1)
                        (case side3 => repeat (first | exact (Kd.R_reads' HO_663001.out).2.2 | (with_reducible refine Kd.C_alloc ?_ _) | (with_reducible refine Kd.C_drewN ?_ _) | (with_reducible refine Kd.C_drew ?_)))
                        (case side4 => exact (Kd.R_reads' HO_663001.out).2.1)
                        rintro e w69 ⟨rfl, hb⟩
                        refine ⟨_, rfl, ?_⟩
                        have n0_ := Aside0.mk (Kd.S_below (by (with_reducible repeat (first | apply Kd.S_alloc | apply Kd.S_drewN | apply Kd.S_drew)); exact HO_663000.out) hb)
                        have n1_ := Aside0.mk (Kd.R_below (by (with_reducible repeat (first | apply Kd.R_alloc | apply Kd.R_drewN | apply Kd.R_drew)); exact HO_663001.out) hb)
                        have n2_ := Aside0.mk (Kd.R_below (by (with_reducible repeat (first | apply Kd.R_alloc | apply Kd.R_drewN | apply Kd.R_drew)); exact HO699.out) hb)
                        have n3_ := Aside0.mk (blk_below (g := gb662) (o := .cells #[.slice Ao65 x663000_17.length co65, .slice Ao67 x663001_17.length co67, .bool x663002_17] 40 (0, 0)) (by (with_reducible repeat (first | refine blk_drewN ?_ _ | refine blk_drew ?_ | refine blk_alloc ?_ _)); exact BK662.out) hb)
                        have n4_ := Aside0.mk (below_step (by repeat (first | (with_reducible first | exact HB.out | apply below_alloc | apply pw_below_drewN | apply below_drew1 | refine below_set ?_ GE662.out) | exact HB.out)) hb)
                        clear HO_663000
                        clear HO_663001
                        clear HO699
                        clear BK662
                        clear HB
                        have HO_663000 := n0_
                        have HO_663001 := n1_
                        have HO699 := n2_
                        have BK662 := n3_
                        have HB := n4_
                        clear n0_ n1_ n2_ n3_ n4_
                        (try clear hb)
                        (try clear hb2)
                        (try clear hk)
                        (try clear hi)
                        refine hK.out _ _ ⟨(blk_cell BK662.out 0).trans rfl, (blk_cell BK662.out 1).trans rfl, (blk_cell BK662.out 2).trans rfl⟩ (fun hHeld => ?_)
                        clear hK K
                        refine norm_ (a' := ?_) ?_ ?_
                        rotate_left
                        · show Act.put _ (some 87) _ = _
                          simp only [Act.put, List.setIfInBounds_toArray, List.set_cons_zero, List.set_cons_succ, i64_w, i32_w]
                          rfl
                        refine pure_ (i := 10) (N := some 88) (v := ?_) (a' := ?_) #[true, true, true, true, true, true, true, true, true, true, true, false] rfl rfl (any_of HT_.out (by kernel_rfl)) (fun _ _ _ h => h) (Or.inl ⟨by rfl, ?_⟩) ?_ ?_
                        rotate_left
                        · intro w'
                          go_simp
                          with_reducible rfl
                        rotate_left
                        · simp only [Act.put, List.setIfInBounds_toArray, List.set_cons_zero, List.set_cons_succ, i64_w, i32_w]
                          rfl
                        refine pure_ (i := 11) (N := some 89) (v := ?_) (a' := ?_) #[true, true, true, true, true, true, true, true, true, true, true, true] rfl rfl (any_of HT_.out (by kernel_rfl)) (fun _ _ _ h => h) (Or.inl ⟨by rfl, ?_⟩) ?_ ?_
                        rotate_left
                        · intro w'
                          go_simp
                          with_reducible rfl
                        rotate_left
                        · simp only [Act.put, List.setIfInBounds_toArray, List.set_cons_zero, List.set_cons_succ, i64_w, i32_w]
                          rfl
                        refine done_ (done_of HT_.out (by kernel_rfl)) ?_
                        try go_wp2
                        go_roundg kj17
                        case measure => have := HJ3.out; have := HK2.out; have := HJ17.out; omega
                        case rel => exact ⟨(wrap64 (x7_2 + 1)), (x663000_17), (x663001_17), (x663002_17), (.slice Ao65 x663000_17.length co65), (.slice Ao67 x663001_17.length co67), (by first | rfl | (simp; done) | (simp [*]; done)), H', ⟨by have := HJ3.out; have := HK2.out; have := HJ17.out; omega⟩, ⟨by (with_reducible repeat (first | apply Kd.S_alloc | apply Kd.S_drewN | apply Kd.S_drew)); exact Kd.S_mono HO_663000.out (fun _ hk => hk.1)⟩, ⟨by (with_reducible repeat (first | apply Kd.R_alloc | apply Kd.R_drewN | apply Kd.R_drew)); exact Kd.R_mono HO_663001.out (fun _ hk => trivial)⟩, ⟨by (with_reducible repeat (first | refine blk_drewN ?_ _ | refine blk_drew ?_ | refine blk_alloc ?_ _)); exact BK662.out⟩, ⟨by repeat (first | (with_reducible first | exact HB.out | apply below_alloc | apply pw_below_drewN | apply below_drew1 | refine below_set ?_ GE662.out) | exact HB.out)⟩⟩
                      · replace c63 := Bool.eq_false_iff.mpr c63
                        subst c63
                        have H1 : (some false) = some r := by rw [if_neg (show ¬ (false = true) by decide)] at H; exact H
                        clear H
                        have H := H1
                        clear H1
                        obtain rfl := Option.some.inj H
                        try go_wp2
                        have n0_ := Aside0.mk (Kd.S_drew HO_663000.out)
                        have n1_ := Aside0.mk (Kd.R_drew HO_663001.out)
                        have n2_ := Aside0.mk (blk_drew BK662.out)
                        have n3_ := Aside0.mk (below_drew1 HB.out)
                        clear HO_663000
                        clear HO_663001
                        clear BK662
                        clear HB
                        have HO_663000 := n0_
                        have HO_663001 := n1_
                        have BK662 := n2_
                        have HB := n3_
                        clear n0_ n1_ n2_ n3_
                        obtain ⟨Ao71, co71, eo71⟩ := Kd.S_slice HO_663000.out
                        (first | subst eo71 | (injection eo71 with f1_ f2_ f3_; have f4_ := f1_.symm; have f5_ := f3_.symm; clear f1_ f2_ f3_; subst f4_; subst f5_))
                        refine start_ (n := 12) (S := fun w' => w'.cell? ⟨gb662, 0, none⟩ = some (.slice Ao71 x663000_17.length co71) ∧ w'.cell? ⟨gb662, 1, none⟩ = some (u663001) ∧ w'.cell? ⟨gb662, 2, none⟩ = some (.bool x663002_17)) (ds := []) #[false, false, false, false, false, false, false, false, false, false, false, false] (by kernel_rfl) rfl rfl ⟨(blk_cell BK662.out 0).trans rfl, (blk_cell BK662.out 1).trans rfl, (blk_cell BK662.out 2).trans rfl⟩ (fun hHeld => ?_); refine with_tabW bywashlaw15_DomupPlays.tab16 bywashlaw15_DomupPlays.bits16 (fun HT_ HW_ => ?_)
                        generalize wc.drew = w70 at HO_663000 HO_663001 BK662 HB hHeld ⊢
                        refine pure_ (i := 0) (N := some 78) (v := ?_) (a' := ?_) #[true, false, false, false, false, false, false, false, false, false, false, false] rfl rfl (any_of HT_.out (by kernel_rfl)) (fun _ _ _ h => h) (Or.inl ⟨by rfl, ?_⟩) ?_ ?_
                        rotate_left
                        · intro w'
                          go_simp
                          with_reducible rfl
                        rotate_left
                        · simp only [Act.put, List.setIfInBounds_toArray, List.set_cons_zero, List.set_cons_succ, i64_w, i32_w]
                          rfl
                        refine pure_ (i := 2) (N := some 80) (v := ?_) (a' := ?_) #[true, false, true, false, false, false, false, false, false, false, false, false] rfl rfl (any_of HT_.out (by kernel_rfl)) (fun _ _ _ h => h) (Or.inl ⟨by rfl, ?_⟩) ?_ ?_
                        rotate_left
                        · intro w'
                          go_simp
                          with_reducible rfl
                        rotate_left
                        · simp only [Act.put, List.setIfInBounds_toArray, List.set_cons_zero, List.set_cons_succ, i64_w, i32_w]
                          rfl
                        refine take_ (i := 1) (N := some 79) (v := ?_) (a' := ?_) #[true, true, true, false, false, false, false, false, false, false, false, false] rfl rfl (take_ofW HT_.out HW_.out (by kernel_rfl)) (fun _ _ _ h => h) (Or.inl ⟨by rfl, ?_⟩) hHeld ?_ ?_
                        rotate_left
                        · rintro w' ⟨s0, s1, s2⟩
                          go_simp
                          with_reducible rfl
                        rotate_left
                        · simp only [Act.put, List.setIfInBounds_toArray, List.set_cons_zero, List.set_cons_succ, i64_w, i32_w]
                          rfl
                        refine take_ (i := 3) (N := some 81) (v := ?_) (a' := ?_) #[true, true, true, true, false, false, false, false, false, false, false, false] rfl rfl (take_ofW HT_.out HW_.out (by kernel_rfl)) (fun _ _ _ h => h) (Or.inl ⟨by rfl, ?_⟩) hHeld ?_ ?_
                        rotate_left
                        · rintro w' ⟨s0, s1, s2⟩
                          go_simp
                          with_reducible rfl
                        rotate_left
                        · simp only [Act.put, List.setIfInBounds_toArray, List.set_cons_zero, List.set_cons_succ, i64_w, i32_w]
                          rfl
                        refine one_ (i := 4) (N := some 82) #[true, true, true, true, true, false, false, false, false, false, false, false] rfl rfl (one_of HT_.out (by kernel_rfl)) (by decide) (fun K hK => ?_)
                        refine goes_ Try.func15 (by kernel_rfl) rfl #[.slice Ao71 x663000_17.length co71] (by rfl) rfl rfl (by (try simp only [List.map_toArray, List.map_cons, List.map_nil]); first | done | rfl | (simp only [List.length_drop, List.length_take]; rfl)) ?_
                        with_reducible refine (dom_Idoms.calls kj17 _ _ x663000_17 t697 _ ?side1 ?side2 A59.out).mono ?_
                        (case side1 => repeat (first | exact (Kd.S_reads' HO_663000.out).2.2 | (with_reducible refine Kd.C_alloc ?_ _) | (with_reducible refine Kd.C_drewN ?_ _) | (with_reducible refine Kd.C_drew ?_)))
                        (case side2 => exact (Kd.S_reads' HO_663000.out).2.1)
                        rintro e w72 ⟨v698, rfl, ho0, hb⟩
                        refine ⟨_, rfl, ?_⟩
                        have n0_ := Aside0.mk (Kd.S_elder' (by (with_reducible repeat (first | apply Kd.S_alloc | apply Kd.S_drewN | apply Kd.S_drew)); exact HO_663000.out) (Kd.R_base ho0) hb)
                        have n1_ := Aside0.mk (Kd.R_elder' (by (with_reducible repeat (first | apply Kd.R_alloc | apply Kd.R_drewN | apply Kd.R_drew)); exact HO_663001.out) (Kd.R_base ho0) hb)
                        have n2_ := Aside0.mk (Kd.R_lower (Kd.R_new' ho0 (Kd.R_lt (by (with_reducible repeat (first | apply Kd.R_alloc | apply Kd.R_drewN | apply Kd.R_drew)); exact HO_663001.out))) (below_size (by repeat (first | (with_reducible first | exact HB.out | apply below_alloc | apply pw_below_drewN | apply below_drew1 | refine below_set ?_ GE662.out) | exact HB.out))))
                        have n3_ := Aside0.mk (blk_below (g := gb662) (o := .cells #[.slice Ao71 x663000_17.length co71, u663001, .bool x663002_17] 40 (0, 0)) (by (with_reducible repeat (first | refine blk_drewN ?_ _ | refine blk_drew ?_ | refine blk_alloc ?_ _)); exact BK662.out) hb)
                        have n4_ := Aside0.mk (below_step (by repeat (first | (with_reducible first | exact HB.out | apply below_alloc | apply pw_below_drewN | apply below_drew1 | refine below_set ?_ GE662.out) | exact HB.out)) hb)
                        clear HO_663000
                        clear HO_663001
                        clear BK662
                        clear HB
                        have HO_663000 := n0_
                        have HO_663001 := n1_
                        have HO699 := n2_
                        have BK662 := n3_
                        have HB := n4_
                        clear n0_ n1_ n2_ n3_ n4_
                        (try clear hb)
                        (try clear hb2)
                        (try clear hk)
                        (try clear hi)
                        (try clear ho0)
                        obtain ⟨Ao73, co73, eo73⟩ := Kd.R_slice HO_663001.out
                        (first | subst eo73 | (injection eo73 with f1_ f2_ f3_; have f4_ := f1_.symm; have f5_ := f3_.symm; clear f1_ f2_ f3_; subst f4_; subst f5_))
                        obtain ⟨Ao74, co74, eo74⟩ := Kd.R_slice HO699.out
                        (first | subst eo74 | (injection eo74 with f1_ f2_ f3_; have f4_ := f1_.symm; have f5_ := f3_.symm; clear f1_ f2_ f3_; subst f4_; subst f5_))
                        refine hK.out _ _ ⟨(blk_cell BK662.out 0).trans rfl, (blk_cell BK662.out 1).trans rfl, (blk_cell BK662.out 2).trans rfl⟩ (fun hHeld => ?_)
                        clear hK K
                        refine norm_ (a' := ?_) ?_ ?_
                        rotate_left
                        · show Act.put _ (some 82) _ = _
                          simp only [Act.put, List.setIfInBounds_toArray, List.set_cons_zero, List.set_cons_succ, i64_w, i32_w]
                          rfl
                        refine one_ (i := 5) (N := some 83) #[true, true, true, true, true, true, false, false, false, false, false, false] rfl rfl (one_of HT_.out (by kernel_rfl)) (by decide) (fun K hK => ?_)
                        refine goes_ Try.func21 (by kernel_rfl) rfl #[.slice Ao73 x663001_17.length co73, .slice Ao74 t697.length co74] (by rfl) rfl rfl (by (try simp only [List.map_toArray, List.map_cons, List.map_nil]); first | done | rfl | (simp only [List.length_drop, List.length_take]; rfl)) ?_
                        with_reducible refine (bywashref01_Ints.calls kj17 _ _ x663001_17 _ _ t697 true _ ?side1 ?side2 ?side3 ?side4 A60.out).mono ?_
                        (case side1 => repeat (first | exact (Kd.R_reads' HO_663001.out).2.2 | (with_reducible refine Kd.C_alloc ?_ _) | (with_reducible refine Kd.C_drewN ?_ _) | (with_reducible refine Kd.C_drew ?_)))
                        (case side2 => exact (Kd.R_reads' HO_663001.out).2.1)
                        (case side3 => repeat (first | exact (Kd.R_reads' HO699.out).2.2 | (with_reducible refine Kd.C_alloc ?_ _) | (with_reducible refine Kd.C_drewN ?_ _) | (with_reducible refine Kd.C_drew ?_)))
                        (case side4 => exact (Kd.R_reads' HO699.out).2.1)
                        rintro e w' ⟨rfl, ⟨nd, rfl⟩⟩
                        refine ⟨_, rfl, ?_⟩
                        refine hK.out _ _ ⟨(blk_cell BK662.out 0).trans rfl, (blk_cell BK662.out 1).trans rfl, (blk_cell BK662.out 2).trans rfl⟩ (fun hHeld => ?_)
                        clear hK K
                        refine norm_ (a' := ?_) ?_ ?_
                        rotate_left
                        · show Act.put _ (some 83) _ = _
                          simp only [Act.put, List.setIfInBounds_toArray, List.set_cons_zero, List.set_cons_succ, i64_w, i32_w]
                          rfl
                        refine pure_ (i := 6) (N := some 84) (v := ?_) (a' := ?_) #[true, true, true, true, true, true, true, false, false, false, false, false] rfl rfl (any_of HT_.out (by kernel_rfl)) (fun _ _ _ h => h) (Or.inl ⟨by rfl, ?_⟩) ?_ ?_
                        rotate_left
                        · intro w'
                          go_simp
                          with_reducible rfl
                        rotate_left
                        · simp only [Act.put, List.setIfInBounds_toArray, List.set_cons_zero, List.set_cons_succ, i64_w, i32_w]
                          rfl
                        refine pure_ (i := 7) (N := some 85) (v := ?_) (a' := ?_) #[true, true, true, true, true, true, true, true, false, false, false, false] rfl rfl (any_of HT_.out (by kernel_rfl)) (fun _ _ _ h => h) (Or.inl ⟨by rfl, ?_⟩) ?_ ?_
                        rotate_left
                        · intro w'
                          go_simp
                          with_reducible rfl
                        rotate_left
                        · simp only [Act.put, List.setIfInBounds_toArray, List.set_cons_zero, List.set_cons_succ, i64_w, i32_w]
                          rfl
                        refine take_ (i := 8) (N := some 86) (v := ?_) (a' := ?_) #[true, true, true, true, true, true, true, true, true, false, false, false] rfl rfl (take_ofW HT_.out HW_.out (by kernel_rfl)) (fun _ _ _ h => h) (Or.inl ⟨by rfl, ?_⟩) hHeld ?_ ?_
                        rotate_left
                        · rintro w' ⟨s0, s1, s2⟩
                          go_simp
                          with_reducible rfl
                        rotate_left
                        · simp only [Act.put, List.setIfInBounds_toArray, List.set_cons_zero, List.set_cons_succ, i64_w, i32_w]
                          rfl
                        refine one_ (i := 9) (N := some 87) #[true, true, true, true, true, true, true, true, true, true, false, false] rfl rfl (one_of HT_.out (by kernel_rfl)) (by decide) (fun K hK => ?_)
                        refine goes_ Try.func40 (by kernel_rfl) rfl #[.agg #[.slice Ao71 x663000_17.length co71, .slice Ao73 x663001_17.length co73, .bool x663002_17]] (by rfl) rfl rfl (by (try simp only [List.map_toArray, List.map_cons, List.map_nil]); first | done | rfl | (simp only [List.length_drop, List.length_take]; rfl)) ?_
                        with_reducible refine (domup_Sane.calls kj17 _ _ x663000_17 _ _ x663001_17 x663002_17 false _ ?side1 ?side2 ?side3 ?side4 A62.out).mono ?_
                        (case side1 => repeat (first | exact (Kd.S_reads' HO_663000.out).2.2 | (with_reducible refine Kd.C_alloc ?_ _) | (with_reducible refine Kd.C_drewN ?_ _) | (with_reducible refine Kd.C_drew ?_)))
                        (case side2 => exact (Kd.S_reads' HO_663000.out).2.1)
                        (case side3 => repeat (first | exact (Kd.R_reads' HO_663001.out).2.2 | (with_reducible refine Kd.C_alloc ?_ _) | (with_reducible refine Kd.C_drewN ?_ _) | (with_reducible refine Kd.C_drew ?_)))
                        (case side4 => exact (Kd.R_reads' HO_663001.out).2.1)
                        rintro e w75 ⟨rfl, hb⟩
                        refine ⟨_, rfl, ?_⟩
                        have n0_ := Aside0.mk (Kd.S_below (by (with_reducible repeat (first | apply Kd.S_alloc | apply Kd.S_drewN | apply Kd.S_drew)); exact HO_663000.out) hb)
                        have n1_ := Aside0.mk (Kd.R_below (by (with_reducible repeat (first | apply Kd.R_alloc | apply Kd.R_drewN | apply Kd.R_drew)); exact HO_663001.out) hb)
                        have n2_ := Aside0.mk (Kd.R_below (by (with_reducible repeat (first | apply Kd.R_alloc | apply Kd.R_drewN | apply Kd.R_drew)); exact HO699.out) hb)
                        have n3_ := Aside0.mk (blk_below (g := gb662) (o := .cells #[.slice Ao71 x663000_17.length co71, .slice Ao73 x663001_17.length co73, .bool x663002_17] 40 (0, 0)) (by (with_reducible repeat (first | refine blk_drewN ?_ _ | refine blk_drew ?_ | refine blk_alloc ?_ _)); exact BK662.out) hb)
                        have n4_ := Aside0.mk (below_step (by repeat (first | (with_reducible first | exact HB.out | apply below_alloc | apply pw_below_drewN | apply below_drew1 | refine below_set ?_ GE662.out) | exact HB.out)) hb)
                        clear HO_663000
                        clear HO_663001
                        clear HO699
                        clear BK662
                        clear HB
                        have HO_663000 := n0_
                        have HO_663001 := n1_
                        have HO699 := n2_
                        have BK662 := n3_
                        have HB := n4_
                        clear n0_ n1_ n2_ n3_ n4_
                        (try clear hb)
                        (try clear hb2)
                        (try clear hk)
                        (try clear hi)
                        refine hK.out _ _ ⟨(blk_cell BK662.out 0).trans rfl, (blk_cell BK662.out 1).trans rfl, (blk_cell BK662.out 2).trans rfl⟩ (fun hHeld => ?_)
                        clear hK K
                        refine norm_ (a' := ?_) ?_ ?_
                        rotate_left
                        · show Act.put _ (some 87) _ = _
                          simp only [Act.put, List.setIfInBounds_toArray, List.set_cons_zero, List.set_cons_succ, i64_w, i32_w]
                          rfl
                        refine pure_ (i := 10) (N := some 88) (v := ?_) (a' := ?_) #[true, true, true, true, true, true, true, true, true, true, true, false] rfl rfl (any_of HT_.out (by kernel_rfl)) (fun _ _ _ h => h) (Or.inl ⟨by rfl, ?_⟩) ?_ ?_
                        rotate_left
                        · intro w'
                          go_simp
                          with_reducible rfl
                        rotate_left
                        · simp only [Act.put, List.setIfInBounds_toArray, List.set_cons_zero, List.set_cons_succ, i64_w, i32_w]
                          rfl
                        refine pure_ (i := 11) (N := some 89) (v := ?_) (a' := ?_) #[true, true, true, true, true, true, true, true, true, true, true, true] rfl rfl (any_of HT_.out (by kernel_rfl)) (fun _ _ _ h => h) (Or.inl ⟨by rfl, ?_⟩) ?_ ?_
                        rotate_left
                        · intro w'
                          go_simp
                          with_reducible rfl
                        rotate_left
                        · simp only [Act.put, List.setIfInBounds_toArray, List.set_cons_zero, List.set_cons_succ, i64_w, i32_w]
                          rfl
                        refine done_ (done_of HT_.out (by kernel_rfl)) ?_
                        try go_wp2
                        go_ret
                        exact ⟨by first | rfl | (simp [errW_none, errW_some] <;> rfl) | (simp [*, errW_none, errW_some] <;> rfl) | (exfalso; (try simp_all); (try omega); done), by repeat (first | (with_reducible first | exact HB.out | apply below_alloc | apply pw_below_drewN | apply below_drew1 | refine below_set ?_ GE662.out) | exact HB.out)⟩
                    · replace c61 := Bool.eq_false_iff.mpr c61
                      subst c61
                      have H1 : (some false) = some r := by rw [if_neg (show ¬ (false = true) by decide)] at H; exact H
                      clear H
                      have H := H1
                      clear H1
                      obtain rfl := Option.some.inj H
                      try go_wp2
                      have n0_ := Aside0.mk (Kd.S_drew HO_663000.out)
                      have n1_ := Aside0.mk (Kd.R_drew HO_663001.out)
                      have n2_ := Aside0.mk (blk_drew BK662.out)
                      have n3_ := Aside0.mk (below_drew1 HB.out)
                      clear HO_663000
                      clear HO_663001
                      clear BK662
                      clear HB
                      have HO_663000 := n0_
                      have HO_663001 := n1_
                      have BK662 := n2_
                      have HB := n3_
                      clear n0_ n1_ n2_ n3_
                      obtain ⟨Ao77, co77, eo77⟩ := Kd.S_slice HO_663000.out
                      (first | subst eo77 | (injection eo77 with f1_ f2_ f3_; have f4_ := f1_.symm; have f5_ := f3_.symm; clear f1_ f2_ f3_; subst f4_; subst f5_))
                      refine start_ (n := 12) (S := fun w' => w'.cell? ⟨gb662, 0, none⟩ = some (.slice Ao77 x663000_17.length co77) ∧ w'.cell? ⟨gb662, 1, none⟩ = some (u663001) ∧ w'.cell? ⟨gb662, 2, none⟩ = some (.bool x663002_17)) (ds := []) #[false, false, false, false, false, false, false, false, false, false, false, false] (by kernel_rfl) rfl rfl ⟨(blk_cell BK662.out 0).trans rfl, (blk_cell BK662.out 1).trans rfl, (blk_cell BK662.out 2).trans rfl⟩ (fun hHeld => ?_); refine with_tabW bywashlaw15_DomupPlays.tab16 bywashlaw15_DomupPlays.bits16 (fun HT_ HW_ => ?_)
                      generalize wc.drew = w76 at HO_663000 HO_663001 BK662 HB hHeld ⊢
                      refine pure_ (i := 0) (N := some 78) (v := ?_) (a' := ?_) #[true, false, false, false, false, false, false, false, false, false, false, false] rfl rfl (any_of HT_.out (by kernel_rfl)) (fun _ _ _ h => h) (Or.inl ⟨by rfl, ?_⟩) ?_ ?_
                      rotate_left
                      · intro w'
                        go_simp
                        with_reducible rfl
                      rotate_left
                      · simp only [Act.put, List.setIfInBounds_toArray, List.set_cons_zero, List.set_cons_succ, i64_w, i32_w]
                        rfl
                      refine pure_ (i := 2) (N := some 80) (v := ?_) (a' := ?_) #[true, false, true, false, false, false, false, false, false, false, false, false] rfl rfl (any_of HT_.out (by kernel_rfl)) (fun _ _ _ h => h) (Or.inl ⟨by rfl, ?_⟩) ?_ ?_
                      rotate_left
                      · intro w'
                        go_simp
                        with_reducible rfl
                      rotate_left
                      · simp only [Act.put, List.setIfInBounds_toArray, List.set_cons_zero, List.set_cons_succ, i64_w, i32_w]
                        rfl
                      refine take_ (i := 1) (N := some 79) (v := ?_) (a' := ?_) #[true, true, true, false, false, false, false, false, false, false, false, false] rfl rfl (take_ofW HT_.out HW_.out (by kernel_rfl)) (fun _ _ _ h => h) (Or.inl ⟨by rfl, ?_⟩) hHeld ?_ ?_
                      rotate_left
                      · rintro w' ⟨s0, s1, s2⟩
                        go_simp
                        with_reducible rfl
                      rotate_left
                      · simp only [Act.put, List.setIfInBounds_toArray, List.set_cons_zero, List.set_cons_succ, i64_w, i32_w]
                        rfl
                      refine take_ (i := 3) (N := some 81) (v := ?_) (a' := ?_) #[true, true, true, true, false, false, false, false, false, false, false, false] rfl rfl (take_ofW HT_.out HW_.out (by kernel_rfl)) (fun _ _ _ h => h) (Or.inl ⟨by rfl, ?_⟩) hHeld ?_ ?_
                      rotate_left
                      · rintro w' ⟨s0, s1, s2⟩
                        go_simp
                        with_reducible rfl
                      rotate_left
                      · simp only [Act.put, List.setIfInBounds_toArray, List.set_cons_zero, List.set_cons_succ, i64_w, i32_w]
                        rfl
                      refine one_ (i := 4) (N := some 82) #[true, true, true, true, true, false, false, false, false, false, false, false] rfl rfl (one_of HT_.out (by kernel_rfl)) (by decide) (fun K hK => ?_)
                      refine goes_ Try.func15 (by kernel_rfl) rfl #[.slice Ao77 x663000_17.length co77] (by rfl) rfl rfl (by (try simp only [List.map_toArray, List.map_cons, List.map_nil]); first | done | rfl | (simp only [List.length_drop, List.length_take]; rfl)) ?_
                      with_reducible refine (dom_Idoms.calls kj17 _ _ x663000_17 t697 _ ?side1 ?side2 A59.out).mono ?_
                      (case side1 => repeat (first | exact (Kd.S_reads' HO_663000.out).2.2 | (with_reducible refine Kd.C_alloc ?_ _) | (with_reducible refine Kd.C_drewN ?_ _) | (with_reducible refine Kd.C_drew ?_)))
                      (case side2 => exact (Kd.S_reads' HO_663000.out).2.1)
                      rintro e w78 ⟨v698, rfl, ho0, hb⟩
                      refine ⟨_, rfl, ?_⟩
                      have n0_ := Aside0.mk (Kd.S_elder' (by (with_reducible repeat (first | apply Kd.S_alloc | apply Kd.S_drewN | apply Kd.S_drew)); exact HO_663000.out) (Kd.R_base ho0) hb)
                      have n1_ := Aside0.mk (Kd.R_elder' (by (with_reducible repeat (first | apply Kd.R_alloc | apply Kd.R_drewN | apply Kd.R_drew)); exact HO_663001.out) (Kd.R_base ho0) hb)
                      have n2_ := Aside0.mk (Kd.R_lower (Kd.R_new' ho0 (Kd.R_lt (by (with_reducible repeat (first | apply Kd.R_alloc | apply Kd.R_drewN | apply Kd.R_drew)); exact HO_663001.out))) (below_size (by repeat (first | (with_reducible first | exact HB.out | apply below_alloc | apply pw_below_drewN | apply below_drew1 | refine below_set ?_ GE662.out) | exact HB.out))))
                      have n3_ := Aside0.mk (blk_below (g := gb662) (o := .cells #[.slice Ao77 x663000_17.length co77, u663001, .bool x663002_17] 40 (0, 0)) (by (with_reducible repeat (first | refine blk_drewN ?_ _ | refine blk_drew ?_ | refine blk_alloc ?_ _)); exact BK662.out) hb)
                      have n4_ := Aside0.mk (below_step (by repeat (first | (with_reducible first | exact HB.out | apply below_alloc | apply pw_below_drewN | apply below_drew1 | refine below_set ?_ GE662.out) | exact HB.out)) hb)
                      clear HO_663000
                      clear HO_663001
                      clear BK662
                      clear HB
                      have HO_663000 := n0_
                      have HO_663001 := n1_
                      have HO699 := n2_
                      have BK662 := n3_
                      have HB := n4_
                      clear n0_ n1_ n2_ n3_ n4_
                      (try clear hb)
                      (try clear hb2)
                      (try clear hk)
                      (try clear hi)
                      (try clear ho0)
                      obtain ⟨Ao79, co79, eo79⟩ := Kd.R_slice HO_663001.out
                      (first | subst eo79 | (injection eo79 with f1_ f2_ f3_; have f4_ := f1_.symm; have f5_ := f3_.symm; clear f1_ f2_ f3_; subst f4_; subst f5_))
                      obtain ⟨Ao80, co80, eo80⟩ := Kd.R_slice HO699.out
                      (first | subst eo80 | (injection eo80 with f1_ f2_ f3_; have f4_ := f1_.symm; have f5_ := f3_.symm; clear f1_ f2_ f3_; subst f4_; subst f5_))
                      refine hK.out _ _ ⟨(blk_cell BK662.out 0).trans rfl, (blk_cell BK662.out 1).trans rfl, (blk_cell BK662.out 2).trans rfl⟩ (fun hHeld => ?_)
                      clear hK K
                      refine norm_ (a' := ?_) ?_ ?_
                      rotate_left
                      · show Act.put _ (some 82) _ = _
                        simp only [Act.put, List.setIfInBounds_toArray, List.set_cons_zero, List.set_cons_succ, i64_w, i32_w]
                        rfl
                      refine one_ (i := 5) (N := some 83) #[true, true, true, true, true, true, false, false, false, false, false, false] rfl rfl (one_of HT_.out (by kernel_rfl)) (by decide) (fun K hK => ?_)
                      refine goes_ Try.func21 (by kernel_rfl) rfl #[.slice Ao79 x663001_17.length co79, .slice Ao80 t697.length co80] (by rfl) rfl rfl (by (try simp only [List.map_toArray, List.map_cons, List.map_nil]); first | done | rfl | (simp only [List.length_drop, List.length_take]; rfl)) ?_
                      with_reducible refine (bywashref01_Ints.calls kj17 _ _ x663001_17 _ _ t697 false _ ?side1 ?side2 ?side3 ?side4 A60.out).mono ?_
                      (case side1 => repeat (first | exact (Kd.R_reads' HO_663001.out).2.2 | (with_reducible refine Kd.C_alloc ?_ _) | (with_reducible refine Kd.C_drewN ?_ _) | (with_reducible refine Kd.C_drew ?_)))
                      (case side2 => exact (Kd.R_reads' HO_663001.out).2.1)
                      (case side3 => repeat (first | exact (Kd.R_reads' HO699.out).2.2 | (with_reducible refine Kd.C_alloc ?_ _) | (with_reducible refine Kd.C_drewN ?_ _) | (with_reducible refine Kd.C_drew ?_)))
                      (case side4 => exact (Kd.R_reads' HO699.out).2.1)
                      rintro e w' ⟨rfl, ⟨nd, rfl⟩⟩
                      refine ⟨_, rfl, ?_⟩
                      refine hK.out _ _ ⟨(blk_cell BK662.out 0).trans rfl, (blk_cell BK662.out 1).trans rfl, (blk_cell BK662.out 2).trans rfl⟩ (fun hHeld => ?_)
                      clear hK K
                      refine norm_ (a' := ?_) ?_ ?_
                      rotate_left
                      · show Act.put _ (some 83) _ = _
                        simp only [Act.put, List.setIfInBounds_toArray, List.set_cons_zero, List.set_cons_succ, i64_w, i32_w]
                        rfl
                      refine pure_ (i := 6) (N := some 84) (v := ?_) (a' := ?_) #[true, true, true, true, true, true, true, false, false, false, false, false] rfl rfl (any_of HT_.out (by kernel_rfl)) (fun _ _ _ h => h) (Or.inl ⟨by rfl, ?_⟩) ?_ ?_
                      rotate_left
                      · intro w'
                        go_simp
                        with_reducible rfl
                      rotate_left
                      · simp only [Act.put, List.setIfInBounds_toArray, List.set_cons_zero, List.set_cons_succ, i64_w, i32_w]
                        rfl
                      refine pure_ (i := 7) (N := some 85) (v := ?_) (a' := ?_) #[true, true, true, true, true, true, true, true, false, false, false, false] rfl rfl (any_of HT_.out (by kernel_rfl)) (fun _ _ _ h => h) (Or.inl ⟨by rfl, ?_⟩) ?_ ?_
                      rotate_left
                      · intro w'
                        go_simp
                        with_reducible rfl
                      rotate_left
                      · simp only [Act.put, List.setIfInBounds_toArray, List.set_cons_zero, List.set_cons_succ, i64_w, i32_w]
                        rfl
                      refine pure_ (i := 8) (N := some 86) (v := undef) (a' := ?_) #[true, true, true, true, true, true, true, true, true, false, false, false] rfl rfl (any_of HT_.out (by kernel_rfl)) (fun _ _ _ h => h) (Or.inr ⟨by rfl, rfl⟩) ?_ ?_
                      rotate_left
                      · simp only [Act.put, List.setIfInBounds_toArray, List.set_cons_zero, List.set_cons_succ, i64_w, i32_w]
                        rfl
                      refine pure_ (i := 9) (N := some 87) (v := undef) (a' := ?_) #[true, true, true, true, true, true, true, true, true, true, false, false] rfl rfl (any_of HT_.out (by kernel_rfl)) (fun _ _ _ h => h) (Or.inr ⟨by rfl, rfl⟩) ?_ ?_
                      rotate_left
                      · simp only [Act.put, List.setIfInBounds_toArray, List.set_cons_zero, List.set_cons_succ, i64_w, i32_w]
                        rfl
                      refine pure_ (i := 10) (N := some 88) (v := undef) (a' := ?_) #[true, true, true, true, true, true, true, true, true, true, true, false] rfl rfl (any_of HT_.out (by kernel_rfl)) (fun _ _ _ h => h) (Or.inr ⟨by rfl, rfl⟩) ?_ ?_
                      rotate_left
                      · simp only [Act.put, List.setIfInBounds_toArray, List.set_cons_zero, List.set_cons_succ, i64_w, i32_w]
                        rfl
                      refine pure_ (i := 11) (N := some 89) (v := ?_) (a' := ?_) #[true, true, true, true, true, true, true, true, true, true, true, true] rfl rfl (any_of HT_.out (by kernel_rfl)) (fun _ _ _ h => h) (Or.inl ⟨by rfl, ?_⟩) ?_ ?_
                      rotate_left
                      · intro w'
                        go_simp
                        with_reducible rfl
                      rotate_left
                      · simp only [Act.put, List.setIfInBounds_toArray, List.set_cons_zero, List.set_cons_succ, i64_w, i32_w]
                        rfl
                      refine done_ (done_of HT_.out (by kernel_rfl)) ?_
                      try go_wp2
                      go_ret
                      exact ⟨by first | rfl | (simp [errW_none, errW_some] <;> rfl) | (simp [*, errW_none, errW_some] <;> rfl) | (exfalso; (try simp_all); (try omega); done), by repeat (first | (with_reducible first | exact HB.out | apply below_alloc | apply pw_below_drewN | apply below_drew1 | refine below_set ?_ GE662.out) | exact HB.out)⟩
              · rw [if_neg c17] at H
                exact absurd H (by simp)
            · rw [if_neg c16] at H
              have c16b0 : decide (x7_2 < (l1.length : Int)) = false := decide_eq_false c16
              clear c16
              by_cases c81 : t653 = true
              · subst c81
                have H1 : (some (decide ((x663000_2.length : Int) ≥ (l0.length : Int)))) = some r := by rw [if_pos rfl] at H; exact H
                clear H
                have H := H1
                clear H1
                obtain rfl := Option.some.inj H
                have hcz82_0 : wr.cell? ⟨gb662, 0, none⟩ = some (u663000) := (blk_cell BK662.out 0).trans rfl
                have hcz82_1 : wr.cell? ⟨gb662, 1, none⟩ = some (u663001) := (blk_cell BK662.out 1).trans rfl
                have hcz82_2 : wr.cell? ⟨gb662, 2, none⟩ = some (.bool x663002_2) := (blk_cell BK662.out 2).trans rfl
                have hfz82_0 := blk_frozen BK662.out 0
                have hfz82_1 := blk_frozen BK662.out 1
                have hfz82_2 := blk_frozen BK662.out 2
                obtain ⟨Ao83, co83, eo83⟩ := Kd.S_slice HO_663000.out
                subst eo83
                go_wp2
                go_ret
                exact ⟨by first | rfl | (simp [errW_none, errW_some] <;> rfl) | (simp [*, errW_none, errW_some] <;> rfl) | (exfalso; (try simp_all); (try omega); done), by repeat (first | (with_reducible first | exact HB.out | apply below_alloc | apply pw_below_drewN | apply below_drew1 | refine below_set ?_ GE662.out) | exact HB.out)⟩
              · replace c81 := Bool.eq_false_iff.mpr c81
                subst c81
                have H1 : (some false) = some r := by rw [if_neg (show ¬ (false = true) by decide)] at H; exact H
                clear H
                have H := H1
                clear H1
                obtain rfl := Option.some.inj H
                go_wp2
                go_ret
                exact ⟨by first | rfl | (simp [errW_none, errW_some] <;> rfl) | (simp [*, errW_none, errW_some] <;> rfl) | (exfalso; (try simp_all); (try omega); done), by repeat (first | (with_reducible first | exact HB.out | apply below_alloc | apply pw_below_drewN | apply below_drew1 | refine below_set ?_ GE662.out) | exact HB.out)⟩
end Go.Proofs.Ytemcmcnhpdkdfaa.P
