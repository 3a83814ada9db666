/- graph.Clean: what it answers, for every graph of at most 100000 nodes with at most 100000 followers each; nothing that was there is written. -/
import Derived.Test.YtnhcimhdkdgccaaHbase
import Derived.Test.YtnhcimhdkdgccaaShelf
import Derived.Test.YtnhcimhdkdgccaaGdefs
namespace Go.Proofs.Ytnhcimhdkdgccaa.P
open Go.RowKit Go.Lib Go.Sort Go.Shelf Go.Proofs.YtnhcimhdkdgccaaW.PrintWords Go.Proofs.YtnhcimhdkdgccaaW.PrintLast Go.Proofs.YtnhcimhdkdgccaaW.PrintMore

/-! #### the library's slices, in the print's words -/
theorem clone_c (A : Option Addr) (c : Nat) (xs : List Int) (w : World) (h : dI.C w A xs.length xs) (hb : xs.length * 8 ≤ 140737488355328) :
    Calls Try.prog 48 #[.slice A xs.length c] w fun e w' => ∃ v, e = .returned v ∧ dI.R 3 w' w.heap.size (fun _ => True) v xs ∧ Below w.heap.size w w' := by
  cases A with
  | none =>
    have hn : xs.length = 0 := by
      rcases Nat.eq_zero_or_pos xs.length with h0 | h0
      · exact h0
      · obtain ⟨ad, he, _⟩ := h.2.2 h0
        cases he
    obtain rfl := List.eq_nil_of_length_eq_zero hn
    refine (Try.slices_Clone_int_nil _ _ w).mono ?_
    rintro e w' ⟨rfl, rfl⟩
    exact ⟨_, rfl, Kd.R_nil _ _ _ _ _, Below.refl _ _⟩
  | some a =>
    rcases Nat.eq_zero_or_pos xs.length with h0 | h0
    · obtain rfl := List.eq_nil_of_length_eq_zero h0
      refine (Try.slices_Clone_int_zero a c w).mono ?_
      rintro e w' ⟨v, rfl, ho, _, hB⟩
      exact ⟨_, rfl, ints_R ho (fun _ _ => trivial), hB⟩
    · obtain ⟨b, off, he, _, hc⟩ := C_ints h h0
      cases he
      refine (Try.slices_Clone_int b off xs.length c xs w (Nat.le_refl _) hb hc).mono ?_
      rintro e w' ⟨v, rfl, ho, _, hB⟩
      rw [List.take_length] at ho
      exact ⟨_, rfl, ints_R ho (fun _ _ => trivial), hB⟩

theorem sort_c (v : Value) (xs : List Int) (base : Nat) (ok : Nat → Prop) (w : World) (h : dI.R 3 w base ok v xs) (hb : xs.length < 4611686018427387904) (hw : base ≤ w.heap.size) :
    Calls Try.prog 60 #[v] w fun e w' => e = .returned (.tuple #[]) ∧ dI.R 3 w' base ok v (xs.mergeSort fun x y => decide (x ≤ y)) ∧ Below base w w' := by
  rcases R_ints_form h with ⟨rfl, rfl⟩ | ⟨g, cap, rfl, hbg, hlt, hn, hH⟩
  · refine (Try.slices_Sort_int_none none 0 w).mono ?_
    rintro e w' ⟨rfl, rfl⟩
    exact ⟨rfl, by simpa using h, Below.refl _ _⟩
  · refine (Try.slices_Sort_int g 0 cap xs w hH hlt hb).mono ?_
    rintro e w' ⟨rfl, n, os, rfl⟩
    refine ⟨rfl, R_growos ?_ os, below_grow (below_putRow' hbg) (by simp [putRow, mapBlock, Sort.ahead]; omega) os⟩
    exact R_put h (by simp) (by simp) (by rw [List.take_of_length_le (Nat.le_refl _)]) (by simp)

theorem compact_c (v : Value) (xs : List Int) (base : Nat) (ok : Nat → Prop) (w : World) (h : dI.R 3 w base ok v xs) (hb : xs.length ≤ 9223372036854775807) :
    Calls Try.prog 61 #[v] w fun e w' => ∃ v', e = .returned v' ∧ dI.R 3 w' base ok v' (Lib.compact xs) ∧ Below base w w' := by
  rcases R_ints_form h with ⟨rfl, rfl⟩ | ⟨g, cap, rfl, hbg, hlt, hn, hH⟩
  · refine (Try.slices_Compact_int_empty none 0 w).mono ?_
    rintro e w' ⟨rfl, rfl⟩
    exact ⟨_, rfl, h, Below.refl _ _⟩
  · have hle := Lib.compact_length_le xs
    refine (Try.slices_Compact_int g 0 cap xs w hH hb hn).mono ?_
    rintro e w' ⟨rfl, q, rfl⟩
    refine ⟨_, rfl, R_put h ?_ rfl ?_ hle, below_putRow' hbg⟩
    · rw [List.length_append, List.length_replicate]; omega
    · rw [List.take_left']; rfl

/-! #### DeleteFunc at whatever predicate that reads below the row -/
set_option maxHeartbeats 1000000 in
theorem del_nil_c (fv : Value) (w : World) :
    Calls Try.prog 57 #[.slice none 0 0, fv] w fun e w' => e = .returned (.slice none 0 0) ∧ w' = w := by
  have hi : ∀ W, Calls Try.prog 72 #[.slice none 0 0, fv] W fun e w' => e = .returned (.int .i64 (-1)) ∧ w' = W := fun W => Try.slices_IndexFunc_empty (α := Int) none 0 fv W
  go_enter Try.func57, Try.ntmps57
  go_wp2_with (go_at_call 72; refine (hi _).mono ?_; rintro e w' ⟨rfl, rfl⟩)
  go_ret
  exact ⟨rfl, rfl⟩

/-- g: the closure's function; lb: what it captured; p: what it tells, in every world that is as w below base. -/
theorem del_c (g : Nat) (lb : Array Value) (p : Int → Bool) (eg : ∀ args w, (callFunc g args).run Try.prog w = .ok (.enter g args) w) (v : Value) (xs : List Int) (base : Nat) (ok : Nat → Prop) (w : World)
    (hp : ∀ W x, Below base w W → FnGives Try.prog g lb #[.int .i64 x] (.bool (p x)) W) (h : dI.R 3 w base ok v xs) (hb : xs.length ≤ 9223372036854775807) (hw : base ≤ w.heap.size) :
    Calls Try.prog 57 #[v, .func (.func g) #[] lb] w fun e w' => ∃ v', e = .returned v' ∧ dI.R 3 w' base ok v' (xs.filter fun x => !p x) ∧ Below base w w' := by
  rcases R_ints_form h with ⟨rfl, rfl⟩ | ⟨gb, cap, rfl, hbg, hlt, hn, hH⟩
  · refine (del_nil_c _ w).mono ?_
    rintro e w' ⟨rfl, rfl⟩
    exact ⟨_, rfl, h, Below.refl _ _⟩
  · have hle : (xs.filter fun x => !p x).length ≤ xs.length := List.length_filter_le _ _
    have hc := Try.slices_DeleteFunc (Value.int .i64) (fun _ => rfl) p g lb eg 0 Try.zeroValue3 gb 0 cap xs.toArray w
      (fun W x hB => hp W x (hB.mono hw)) (fun n os dk x hd => hp _ x (below_grow (below_putRow' hbg) (by simp [putRow, mapBlock, Sort.ahead]; omega) os)) hH (by simpa using hb) (by simpa using hn)
    simp only [List.size_toArray] at hc
    refine hc.mono ?_
    rintro e w' ⟨rfl, q, rfl⟩
    refine ⟨_, rfl, R_put h ?_ rfl ?_ hle, below_putRow' hbg⟩
    · rw [List.length_append, List.length_replicate]; omega
    · rw [List.take_left']; rfl

/-! #### graph.Clean -/

set_option maxHeartbeats 1000000 in
theorem cleanfn_gives (x : Int) (B : Nat) (A : Option Addr) (n c : Nat) (W : World) (hc : W.cell? ⟨B, 0, none⟩ = some (.slice A n c)) :
    FnGives Try.prog 58 #[.pointer (some ⟨B, 0, none⟩)] #[.int .i64 x] (.bool (!isN n x)) W := by
  show Calls Try.prog 58 #[.int .i64 x, .pointer (some ⟨B, 0, none⟩)] W _
  have hq : (!isN n x) = (!(decide (0 ≤ x) && decide (x < (n : Int)))) := by unfold isN; rw [Bool.decide_and]
  rw [hq]
  clear hq
  by_cases h1 : 0 ≤ x
  · by_cases h2 : x < (n : Int)
    · go_enter Try.func58, Try.ntmps58
      go_wp2
      go_ret
      exact ⟨by simp [h1, h2], 0, rfl⟩
    · go_enter Try.func58, Try.ntmps58
      go_wp2
      go_ret
      exact ⟨by simp [h2], 0, rfl⟩
  · go_enter Try.func58, Try.ntmps58
    go_wp2
    go_ret
    exact ⟨by simp [h1], 0, rfl⟩

set_option maxHeartbeats 1000000 in
theorem is_c (x : Int) (A : Option Addr) (n c : Nat) (w : World) : Calls Try.prog 59 #[.slice A n c, .int .i64 x] w fun e w' => e = .returned (.bool (isN n x)) ∧ w = w' := by
  have hq : isN n x = (decide (0 ≤ x) && decide (x < (n : Int))) := by unfold isN; rw [Bool.decide_and]
  rw [hq]
  clear hq
  by_cases h1 : 0 ≤ x
  · by_cases h2 : x < (n : Int)
    · go_enter Try.func59, Try.ntmps59
      go_wp2
      go_ret
      exact ⟨by simp [h1, h2], rfl⟩
    · go_enter Try.func59, Try.ntmps59
      go_wp2
      go_ret
      exact ⟨by simp [h2], rfl⟩
  · go_enter Try.func59, Try.ntmps59
    go_wp2
    go_ret
    exact ⟨by rw [decide_eq_false (show ¬ 0 ≤ x by omega)]; rfl, rfl⟩
theorem rd_nat (g : List (List Int)) (k : Nat) (hk : k < g.length) : rd_L1 g k = g[k] := by
  unfold rd_L1
  rw [Int.toNat_natCast, List.getD_eq_getElem?_getD, List.getElem?_eq_getElem hk]
  rfl

set_option maxHeartbeats 4000000 in
set_option maxRecDepth 100000 in
theorem graph_Clean.calls (A0 : Option Addr) (c0 : Nat) (l0 : List (List Int)) (r : List (List Int)) (w : World) (hr0 : Kd.C (Kd.slice 3 (Kd.int .i64)) w A0 l0.length l0) (hc0 : l0.length ≤ c0) (h : graph_Clean.f l0 = some r) :
    Calls Try.prog 24 #[.slice A0 l0.length c0] w fun e w' => ∃ v0_ : Value, e = .returned v0_ ∧ Kd.S (Kd.slice 3 (Kd.int .i64)) 22 w' w.heap.size (fun _ => True) v0_ r ∧ Below w.heap.size w w' := by
  have HR0 := Aside0.mk hr0
  have HC0 := Aside0.mk hc0
  have HF : Aside0 (fits l0 = true ∧ r = clean l0) := by
    unfold graph_Clean.f at h
    split at h
    · exact ⟨⟨by assumption, (Option.some.inj h).symm⟩⟩
    · cases h
  clear hr0 hc0 h
  have hn : l0.length ≤ 100000 := by
    have := HF.out.1
    unfold fits at this
    simp at this
    exact this.1
  have hz : 0 ≤ (l0.length : Int) := by omega
  go_enter Try.func24, Try.ntmps24
  go_wp2_with ((with_reducible refine gate_dst (N := 9) rfl ?_); refine Kd.S_make (Kd.slice 3 (Kd.int .i64)) (w0 := w.alloc (.cells #[.slice A0 l0.length c0] 31)) (w.heap.size + 1) 22 rfl (N := 9) rfl 31 _ _ rfl (l0.length : Int) rfl rfl Try.underlying31 (.slice none 0 0) 24 info22 rfl Nat.one_pos (by omega) [] (ok := fun _ => True) (okp := fun _ => True) ⟨_, rfl, Kd.R_nil _ _ _ _ _⟩ (fun _ hk => hk) trivial hz (by omega) (Below.refl _ _) (le_alloc1 _ _) ?_; intro v1 w1 ho1 hb1 hg1 hn1; clear hg1 hn1; have hbx := box_cell hb1 (Nat.lt_succ_self _); rw [Int.toNat_natCast, ← cleanSo_zero] at ho1; have HS := Aside0.mk ho1; have HB := Aside0.mk hb1; clear ho1 hb1)
  go_loopw [12] (fun v12 wr => ∃ k : Nat, v12 = .int .i64 k ∧ k ≤ l0.length ∧ Aside0 (Kd.S (Kd.slice 3 (Kd.int .i64)) 22 wr (w.heap.size + 1) (fun _ => True) v1 (cleanSo l0 k)) ∧ Aside0 (Below (w.heap.size + 1) (w.alloc (.cells #[.slice A0 l0.length c0] 31)) wr)) (fun v12 _ => l0.length - (intOf v12).toNat)
  case atStart => exact ⟨0, rfl, Nat.zero_le _, HS, HB⟩
  case round =>
    obtain ⟨k, rfl, hk, HSr, HBr⟩ := hrel
    clear HS HB hbx
    by_cases hlt : k < l0.length
    · have hbx := box_cell HBr.out (Nat.lt_succ_self _)
      obtain ⟨ad, A1, c1, e1, hx1, hl1, hC1⟩ := at_L1 HR0.out (k : Int) (by omega) (by omega)
      subst e1
      have hBw : Below w.heap.size w wr := below_step (below_alloc (Below.refl _ _) _) (HBr.out.mono (Nat.le_of_eq (size_alloc1 _ _)))
      replace hx1 := (hBw.cell (World.block_lt_of_cell? w _ hx1)).trans hx1
      replace hC1 := Kd.C_below hC1 hBw
      rw [Int.toNat_natCast] at hx1
      have hrow : Aside0 ((rd_L1 l0 k).length ≤ 100000 ∧ cleanRow l0.length (rd_L1 l0 k) = cleanRow l0.length l0[k]) := by
        rw [rd_nat l0 k hlt]
        exact ⟨fits_row HF.out.1 hlt, rfl⟩
      obtain ⟨row, er⟩ : ∃ row, row = rd_L1 l0 k := ⟨_, rfl⟩
      rw [← er] at hx1 hl1 hC1 hrow
      clear er
      have HC1 := Aside0.mk hC1
      clear hC1 hl1
      have hwz : Aside0 (w.heap.size + 1 ≤ wr.heap.size) := ⟨Nat.le_trans (le_alloc1 _ _) HBr.out.size⟩
      obtain ⟨go, capo, e0, hgo, hgl, _⟩ := Kd.S_form HSr.out (by rw [cleanSo_len _ _ hk]; omega)
      rw [cleanSo_len _ _ hk] at e0
      subst e0
      have hgo' : Aside0 (w.heap.size + 1 ≤ go ∧ go < wr.heap.size) := ⟨hgo, hgl⟩
      clear hgo hgl
      go_wp2_with (go_at_call 48; refine (clone_c _ _ row _ HC1.out (by have := hrow.out.1; omega)).mono ?_; rintro e w2 ⟨v2, rfl, ho2, hb2⟩; have HO2 := Aside0.mk ho2; have HB2 := Aside0.mk hb2; clear ho2 hb2; have hbx2 := cell_later HB2.out hbx (by have := hwz.out; omega))
      go_wp2_with (go_at_call 57; refine (del_c 58 _ (fun x => !isN l0.length x) (enters_of Try.func58 (by kernel_rfl) rfl) v2 row wr.heap.size (fun _ => True) w2 (fun W x hW => cleanfn_gives x _ _ _ _ W (cell_later hW hbx2 (by have := hwz.out; omega))) HO2.out (by have := hrow.out.1; omega) HB2.out.size).mono ?_; rintro e w3 ⟨v3, rfl, ho3, hb3⟩; have HO3 := Aside0.mk ho3; have HB3 := Aside0.mk (HB2.out.trans hb3); clear ho3 hb3 HO2 HB2 hbx2)
      go_wp2_with (go_at_call 60; refine (sort_c v3 _ wr.heap.size (fun _ => True) w3 HO3.out (by have := hrow.out.1; have := List.length_filter_le (fun x => !!isN l0.length x) row; omega) HB3.out.size).mono ?_; rintro e w4 ⟨rfl, ho4, hb4⟩; have HO4 := Aside0.mk ho4; have HB4 := Aside0.mk (HB3.out.trans hb4); clear ho4 hb4 HO3 HB3)
      go_wp2_with (go_at_call 61; refine (compact_c v3 _ wr.heap.size (fun _ => True) w4 HO4.out (by simp only [List.length_mergeSort]; have := hrow.out.1; have := List.length_filter_le (fun x => !!isN l0.length x) row; omega)).mono ?_; rintro e w5 ⟨v5, rfl, ho5, hb5⟩; simp only [Bool.not_not] at ho5; have HB5 := Aside0.mk (HB4.out.trans hb5); (obtain ⟨⟨u5, hu5, hf5⟩, hs5⟩ := S_setrow HSr.out hlt HB5.out ho5); have HS5 := Aside0.mk hs5; obtain ⟨A5, c5, rfl⟩ := Kd.R_slice ho5; clear ho5 hb5 HO4 HB4 hs5)
      go_roundw
      case rel =>
        refine ⟨k + 1, by go_num, by omega, ⟨?_⟩, ⟨?_⟩⟩
        · rw [← cleanSo_succ l0 k hlt, ← hrow.out.2]
          exact HS5.out
        · exact HBr.out.trans ((HB5.out.mono hwz.out).setCell hgo'.out.1 _)
      case measure => simp [intOf]; omega
    · obtain rfl : k = l0.length := by omega
      clear hlt
      go_wp2
      go_ret
      have hfin := HSr.out
      rw [cleanSo_all, ← HF.out.2] at hfin
      exact ⟨_, rfl, Kd.S_lower hfin (Nat.le_succ _), below_step (below_alloc (Below.refl _ _) _) (HBr.out.mono (Nat.le_of_eq (size_alloc1 _ _)))⟩

end Go.Proofs.Ytnhcimhdkdgccaa.P
