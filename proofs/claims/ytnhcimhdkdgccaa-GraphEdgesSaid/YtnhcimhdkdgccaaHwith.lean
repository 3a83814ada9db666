/- graph.With and graph.Without: what they answer. -/
import Derived.Test.YtnhcimhdkdgccaaHinsert
namespace Go.Proofs.Ytnhcimhdkdgccaa.P
open Go.RowKit Go.Lib Go.Sort Go.Shelf Go.Proofs.YtnhcimhdkdgccaaW.PrintWords Go.Proofs.YtnhcimhdkdgccaaW.PrintLast Go.Proofs.YtnhcimhdkdgccaaW.PrintMore

/-- An element of a row of rows is turned (where it lies, or in a new block), and stored back. -/
theorem S_newelem {w : World} {base go n cap j : Nat} {xs : List (List Int)} {ok : Nat → Prop} (h : Kd.S dG 22 w base ok (.slice (some ⟨go, 0, none⟩) n cap) xs) (hnew : ∀ k, w.heap.size ≤ k → ok k) (hj : j < n) :
    ∃ A c, w.cell? ⟨go, j, none⟩ = some (.slice A (xs.getD j []).length c) ∧ dI.R 3 w base (fun k => ok k ∧ k ≠ go) (.slice A (xs.getD j []).length c) (xs.getD j []) ∧ ok go ∧
      ∀ w2 v2 ys, w2.ownsRow base 3 1 v2 ys.length (ys.map (Value.int .i64)) → Fr (fun k => (Value.slice A (xs.getD j []).length c).ownBlock = some k) w w2 →
        (v2.ownBlock = (Value.slice A (xs.getD j []).length c).ownBlock ∨ ∃ b, v2.ownBlock = some b ∧ w.heap.size ≤ b) →
        (∃ u, w2.cell? ⟨go, j, none⟩ = some u ∧ w2.frozen? ⟨go, j, none⟩ = false) ∧ Kd.S dG 22 (w2.setCell ⟨go, j, none⟩ v2) base ok (.slice (some ⟨go, 0, none⟩) n cap) (xs.set j ys) := by
  have hgo : go < w.heap.size := Kd.S_lt h go (by simp [Value.ownBlock])
  have hgb : base ≤ go := Kd.S_base h go (by simp [Value.ownBlock])
  have h2 : Kd.S dG 22 w base (fun k => ok k ∧ ¬ (w.heap.size ≤ k)) (.slice (some ⟨go, 0, none⟩) n cap) xs := Kd.S_mono (Kd.S_bound h) (fun k hk => ⟨hk.1, by have := hk.2.2.1; omega⟩)
  obtain ⟨oki, c, hcl, hM, hcc, hfr, hoki, hH⟩ := Kd.S_elem h2 [] (j : Int) (by omega) (by omega)
  have hs1 : dG.sz = 1 := rfl
  obtain ⟨u, rfl⟩ : ∃ u, c = [u] := List.length_eq_one_iff.1 (hcl.trans hs1)
  have hu := hcc 0 u rfl
  have hf := hfr 0
  rw [hs1, Int.toNat_natCast, Nat.mul_one, Nat.add_zero] at hu
  rw [Int.toNat_natCast] at hM
  obtain ⟨u', e, hR⟩ := hM
  injection e with e
  subst e
  obtain ⟨A, cc, rfl⟩ := Kd.R_slice hR
  refine ⟨A, cc, hu, Kd.R_mono hR (fun k hk => ⟨(hoki k hk).1.1, (hoki k hk).2⟩), (Kd.S_R h).1 go (by simp [Value.ownBlock]), fun w2 v2 ys ho hf2 hat => ?_⟩
  have hb : ∀ k, (Value.slice A (xs.getD j []).length cc).ownBlock = some k → oki k := fun k hk => hR.1 k hk
  have hg : w.grownBy w2 (Value.slice A (xs.getD j []).length cc).ownBlock := ⟨hf2.os, hf2.tape, hf2.output, hf2.size, fun k hk hne => hf2.block k hk (fun e => hne e.symm)⟩
  have hH2 := Kd.H_grown hH hg hb
  have hs2 := hf2.size
  have hne : (Value.slice A (xs.getD j []).length cc).ownBlock ≠ some go := fun e => (hoki go (hb go e)).2 rfl
  have hbk : w2.heap[go]? = w.heap[go]? := hf2.block go hgo hne
  have hcell : ∀ p : Nat, w2.cell? ⟨go, p, none⟩ = w.cell? ⟨go, p, none⟩ := fun p => by simp only [World.cell?, hbk]
  have hfrz : ∀ p : Nat, w2.frozen? ⟨go, p, none⟩ = w.frozen? ⟨go, p, none⟩ := fun p => by simp only [World.frozen?, hbk]
  refine ⟨⟨_, (hcell j).trans hu, (hfrz j).trans (by rw [hs1, Int.toNat_natCast, Nat.mul_one, Nat.add_zero] at hf; exact hf)⟩, ?_⟩
  have hR2 : dI.R 3 w2 base (fun k => oki k ∨ w.heap.size ≤ k) v2 ys := by
    refine ints_R ho (fun k hk => ?_)
    rcases hat with e | ⟨b, e, hbs⟩
    · exact .inl (hb k (by rw [← e]; exact hk))
    · rw [e] at hk
      injection hk with hk
      exact .inr (by omega)
  have hP := Kd.S_seg (okg := fun k => w.heap.size ≤ k) hH2 (by omega) (by omega) (seg := [v2]) (j := 0) (show 0 + 1 ≤ 1 from Nat.le_refl _) (x' := ys) (okp := fun k => oki k ∨ w.heap.size ≤ k)
    ⟨v2, rfl, hR2⟩ (fun k hk => hk) (fun k hk => ⟨hnew k hk, by omega⟩)
  have hP1 := hP.1
  rw [hs1, Int.toNat_natCast, Nat.mul_one, Nat.add_zero] at hP1
  exact hP1

/-- DeleteFunc, that keeps to its row. -/
theorem del_f (g : Nat) (lb : Array Value) (p : Int → Bool) (eg : ∀ args w, (callFunc g args).run Try.prog w = .ok (.enter g args) w) (v : Value) (xs : List Int) (base : Nat) (ok : Nat → Prop) (w : World)
    (hp : ∀ W x, Fr (fun k => v.ownBlock = some k) w W → FnGives Try.prog g lb #[.int .i64 x] (.bool (p x)) W) (h : dI.R 3 w base ok v xs) (hb : xs.length ≤ 9223372036854775807) :
    Calls Try.prog 57 #[v, .func (.func g) #[] lb] w fun e w' => ∃ v', e = .returned v' ∧ dI.R 3 w' base ok v' (xs.filter fun x => !p x) ∧ Fr (fun k => v.ownBlock = some k) w w' ∧ v'.ownBlock = v.ownBlock := by
  rcases R_ints_form h with ⟨rfl, rfl⟩ | ⟨gb, cap, rfl, hbg, hlt, hn, hH⟩
  · refine (del_nil_c _ w).mono ?_
    rintro e w' ⟨rfl, rfl⟩
    exact ⟨_, rfl, h, Fr.refl _ _, rfl⟩
  · have hle : (xs.filter fun x => !p x).length ≤ xs.length := List.length_filter_le _ _
    have hput : ∀ q d, Fr (fun k => (Value.slice (some ⟨gb, 0, none⟩) xs.length cap).ownBlock = some k) w (putRow (Value.int .i64) (Sort.ahead w q) gb 0 d) := fun q d => by
      have := fr_putRow w gb q d
      exact ⟨this.os, this.tape, this.output, this.size, fun k hk hn => this.block k hk (fun e => hn (by simp [Value.ownBlock, e]))⟩
    have hc := Try.slices_DeleteFunc (Value.int .i64) (fun _ => rfl) p g lb eg 0 Try.zeroValue3 gb 0 cap xs.toArray w
      (fun W x hB => hp W x ⟨hB.os, hB.tape, hB.output, hB.size, fun k hk _ => hB.block k hk⟩) (fun n os dk x hd => hp _ x (by
        have h1 := hput n dk
        refine ⟨h1.os, h1.tape, h1.output, by have := h1.size; simp only [sortWorld, grow, Array.size_append]; omega, fun k hk hn => ?_⟩
        rw [← h1.block k hk hn]
        show ((putRow (Value.int .i64) (Sort.ahead w n) gb 0 dk).heap ++ os)[k]? = _
        rw [Array.getElem?_append_left (Nat.lt_of_lt_of_le hk h1.size)])) hH (by simpa using hb) (by simpa using hn)
    simp only [List.size_toArray] at hc
    refine hc.mono ?_
    rintro e w' ⟨rfl, q, rfl⟩
    refine ⟨_, rfl, R_put h ?_ rfl ?_ hle, hput _ _, rfl⟩
    · rw [List.length_append, List.length_replicate]; omega
    · rw [List.take_left']; rfl

set_option maxHeartbeats 1000000 in
theorem withoutfn_gives (x b : Int) (B : Nat) (W : World) (hc : W.cell? ⟨B, 0, none⟩ = some (.int .i64 b)) :
    FnGives Try.prog 66 #[.pointer (some ⟨B, 0, none⟩)] #[.int .i64 x] (.bool (decide (x = b))) W := by
  show Calls Try.prog 66 #[.int .i64 x, .pointer (some ⟨B, 0, none⟩)] W _
  go_enter Try.func66, Try.ntmps66
  go_wp2
  go_ret
  refine ⟨?_, 0, rfl⟩
  first | rfl | (congr 2; by_cases h : x = b <;> simp [h])

set_option maxHeartbeats 4000000 in
set_option maxRecDepth 100000 in
theorem graph_Without.calls (A0 : Option Addr) (c0 : Nat) (l0 : List (List Int)) (a1 : Int) (a2 : Int) (r : List (List Int)) (w : World) (hr0 : Kd.C (Kd.slice 3 (Kd.int .i64)) w A0 l0.length l0) (hc0 : l0.length ≤ c0) (h : graph_Without.f l0 a1 a2 = some r) :
    Calls Try.prog 38 #[.slice A0 l0.length c0, .int .i64 a1, .int .i64 a2] w fun e w' => ∃ v0_ : Value, e = .returned v0_ ∧ Kd.S (Kd.slice 3 (Kd.int .i64)) 22 w' w.heap.size (fun _ => True) v0_ r ∧ Below w.heap.size w w' := by
  have HR0 := Aside0.mk hr0
  have HC0 := Aside0.mk hc0
  have HF : Aside0 (fits l0 = true ∧ r = withoutE (clean l0) a1 a2) := by
    unfold graph_Without.f at h
    split at h
    · exact ⟨⟨by assumption, (Option.some.inj h).symm⟩⟩
    · cases h
  clear hr0 hc0 h
  have HCL' : Aside0 (∀ W, Below w.heap.size w W → Calls Try.prog 24 #[.slice A0 l0.length c0] W fun e w' => ∃ v0_ : Value, e = .returned v0_ ∧ Kd.S (Kd.slice 3 (Kd.int .i64)) 22 w' W.heap.size (fun _ => True) v0_ (clean l0) ∧ Below W.heap.size W w') :=
    ⟨fun W hW => graph_Clean.calls A0 c0 l0 (clean l0) W (Kd.C_below HR0.out hW) HC0.out (by unfold graph_Clean.f; rw [if_pos HF.out.1])⟩
  have HIS : ∀ W, Calls Try.prog 59 #[.slice A0 l0.length c0, .int .i64 a1] W fun e w' => e = .returned (.bool (isN l0.length a1)) ∧ W = w' := fun W => is_c a1 A0 l0.length c0 W
  rcases Bool.eq_false_or_eq_true (isN l0.length a1) with hna | hna
  · rw [hna] at HIS
    obtain ⟨ha0, ha1⟩ := isN_iff.1 hna
    have HRS : Aside0 (r = (clean l0).set a1.toNat (((clean l0).getD a1.toNat []).filter fun x => !decide (x = a2))) := by
      have := HF.out.2
      unfold withoutE at this
      rw [clean_len, if_pos hna] at this
      exact ⟨this⟩
    clear hna
    go_enter Try.func38, Try.ntmps38
    go_wp2_with (first | (go_at_call 24; refine (HCL'.out _ (below_alloc (Below.refl _ _) _)).mono ?_; rintro e w2 ⟨v2, rfl, ho2, hb2⟩; rw [size_alloc1] at ho2 hb2; obtain ⟨go, cap, e2, hgo1, hgo2, _⟩ := Kd.S_form ho2 (by rw [clean_len]; omega); rw [clean_len] at e2; subst e2; have hbx := box_cell hb2 (Nat.lt_succ_self _); have HO2 := Aside0.mk ho2; have HB2 := Aside0.mk hb2; have HGO := Aside0.mk (And.intro hgo1 hgo2); (obtain ⟨Au, cu, hcu, hRu, _, hnx⟩ := S_newelem ho2 (fun _ _ => trivial) (j := a1.toNat) (by omega)); have HRU := Aside0.mk hRu; have HNX := Aside0.mk hnx; clear ho2 hb2 hgo1 hgo2 hRu hnx) | (go_at_call 59; (with_reducible refine (HIS _).mono ?_); rintro e w' ⟨rfl, rfl⟩))
    have hln : Aside0 (((clean l0).getD a1.toNat []).length ≤ 100000) := by
      rw [List.getD_eq_getElem?_getD, List.getElem?_eq_getElem (by rw [clean_len]; omega)]
      exact ⟨clean_small HF.out.1 _ (List.getElem_mem _)⟩
    go_wp2_with (go_at_call 57; refine (del_f 66 _ (fun x => decide (x = a2)) (enters_of Try.func66 (by kernel_rfl) rfl) _ _ _ _ w2 (fun W x hW => withoutfn_gives x a2 _ W (by
      have hlt : w.heap.size < w2.heap.size := by have := HB2.out.size; rw [size_alloc1] at this; omega
      have hbk := hW.block w.heap.size hlt (fun e => by have := own_base (R_ints HRU.out) _ e; omega)
      simp only [World.cell?, hbk]
      exact hbx)) HRU.out (by have := hln.out; omega)).mono ?_; rintro e w3 ⟨v3, rfl, ho3, hf3, he3⟩; (obtain ⟨⟨u5, hu5, hf5⟩, hs5⟩ := HNX.out w3 v3 _ (R_ints ho3) hf3 (.inl he3)); have HS5 := Aside0.mk hs5; have HF3 := Aside0.mk hf3; obtain ⟨A3, c3, rfl⟩ := Kd.R_slice ho3; clear ho3 hf3 he3 hs5)
    go_ret
    refine ⟨_, rfl, ?_, ?_⟩
    · rw [HRS.out]
      exact Kd.S_lower HS5.out (Nat.le_succ _)
    · have h2 : Below w.heap.size w w2 := (below_alloc (Below.refl _ _) _).trans (HB2.out.mono (Nat.le_succ _))
      have h3 := below_fr h2 HF3.out (fun k hk => by have := own_base (R_ints HRU.out) k hk; omega) h2.size
      exact h3.setCell (by have := HGO.out.1; show w.heap.size ≤ go; omega) _
  · rw [hna] at HIS
    have HRS : Aside0 (r = clean l0) := by
      have := HF.out.2
      unfold withoutE at this
      rw [clean_len, if_neg (by rw [hna]; simp)] at this
      exact ⟨this⟩
    clear hna
    go_enter Try.func38, Try.ntmps38
    go_wp2_with (first | (go_at_call 24; refine (HCL'.out _ (below_alloc (Below.refl _ _) _)).mono ?_; rintro e w2 ⟨v2, rfl, ho2, hb2⟩; rw [size_alloc1] at ho2 hb2; have HO2 := Aside0.mk ho2; have HB2 := Aside0.mk hb2; clear ho2 hb2) | (go_at_call 59; (with_reducible refine (HIS _).mono ?_); rintro e w' ⟨rfl, rfl⟩))
    go_ret
    refine ⟨_, rfl, ?_, (below_alloc (Below.refl _ _) _).trans (HB2.out.mono (Nat.le_succ _))⟩
    rw [HRS.out]
    exact Kd.S_lower HO2.out (Nat.le_succ _)

theorem bs_c (A : Option Addr) (c : Nat) (xs : List Int) (x : Int) (w : World) (h : dI.C w A xs.length xs) (hb : xs.length ≤ 1000000) (hs : xs.Pairwise (· ≤ ·)) :
    Calls Try.prog 64 #[.slice A xs.length c, .int .i64 x] w fun e w' => e = .returned (.tuple #[.int .i64 (xs.countP (fun y => decide (y < x)) : Nat), .bool (xs.contains x)]) ∧ ∃ q, w' = w.drewN q := by
  rcases Nat.eq_zero_or_pos xs.length with h0 | h0
  · obtain rfl := List.eq_nil_of_length_eq_zero h0
    refine (Try.slices_BinarySearch_int_empty A c x w).mono ?_
    rintro e w' ⟨rfl, hw⟩
    exact ⟨rfl, 0, by rw [hw]; rfl⟩
  · obtain ⟨b, off, he, _, hc⟩ := C_ints h h0
    subst he
    have := Try.slices_BinarySearch_int b off xs.length c xs x w (Nat.le_refl _) (by omega) hc (by rw [List.take_length]; exact hs)
    rw [List.take_length] at this
    exact this

set_option maxHeartbeats 4000000 in
set_option maxRecDepth 100000 in
theorem graph_With.calls (A0 : Option Addr) (c0 : Nat) (l0 : List (List Int)) (a1 : Int) (a2 : Int) (r : List (List Int)) (w : World) (hr0 : Kd.C (Kd.slice 3 (Kd.int .i64)) w A0 l0.length l0) (hc0 : l0.length ≤ c0) (h : graph_With.f l0 a1 a2 = some r) :
    Calls Try.prog 37 #[.slice A0 l0.length c0, .int .i64 a1, .int .i64 a2] w fun e w' => ∃ v0_ : Value, e = .returned v0_ ∧ Kd.S (Kd.slice 3 (Kd.int .i64)) 22 w' w.heap.size (fun _ => True) v0_ r ∧ Below w.heap.size w w' := by
  have HR0 := Aside0.mk hr0
  have HC0 := Aside0.mk hc0
  have HF : Aside0 (fits l0 = true ∧ r = withE (clean l0) a1 a2) := by
    unfold graph_With.f at h
    split at h
    · exact ⟨⟨by assumption, (Option.some.inj h).symm⟩⟩
    · cases h
  clear hr0 hc0 h
  have HCL' : Aside0 (∀ W, Below w.heap.size w W → Calls Try.prog 24 #[.slice A0 l0.length c0] W fun e w' => ∃ v0_ : Value, e = .returned v0_ ∧ Kd.S (Kd.slice 3 (Kd.int .i64)) 22 w' W.heap.size (fun _ => True) v0_ (clean l0) ∧ Below W.heap.size W w') :=
    ⟨fun W hW => graph_Clean.calls A0 c0 l0 (clean l0) W (Kd.C_below HR0.out hW) HC0.out (by unfold graph_Clean.f; rw [if_pos HF.out.1])⟩
  have HIS : ∀ W, Calls Try.prog 59 #[.slice A0 l0.length c0, .int .i64 a1] W fun e w' => e = .returned (.bool (isN l0.length a1)) ∧ W = w' := fun W => is_c a1 A0 l0.length c0 W
  have HIT : ∀ W, Calls Try.prog 59 #[.slice A0 l0.length c0, .int .i64 a2] W fun e w' => e = .returned (.bool (isN l0.length a2)) ∧ W = w' := fun W => is_c a2 A0 l0.length c0 W
  have hno : ∀ (hx : ¬ (isN l0.length a1 = true ∧ isN l0.length a2 = true)), Aside0 (r = clean l0) := by
    intro hx
    have := HF.out.2
    unfold withE at this
    rw [clean_len, if_neg (fun hh => hx ⟨hh.1, hh.2.1⟩)] at this
    exact ⟨this⟩
  have HNO := Aside0.mk hno
  clear hno
  have CLN := HCL'.out w (Below.refl _ _)
  have CL := Aside0.mk CLN
  clear CLN HCL'
  rcases Bool.eq_false_or_eq_true (isN l0.length a1) with hna | hna
  · rw [hna] at HIS
    rcases Bool.eq_false_or_eq_true (isN l0.length a2) with hnb | hnb
    · rw [hnb] at HIT
      obtain ⟨ha0, ha1⟩ := isN_iff.1 hna
      obtain ⟨row_, erow⟩ : ∃ row_, row_ = (clean l0).getD a1.toNat [] := ⟨_, rfl⟩
      have hmem : row_ ∈ clean l0 := by
        rw [erow, List.getD_eq_getElem?_getD, List.getElem?_eq_getElem (by rw [clean_len]; omega)]
        exact List.getElem_mem _
      have HRW : Aside0 (row_.length ≤ 100000 ∧ row_.Pairwise (· ≤ ·) ∧ row_ = (clean l0).getD a1.toNat []) := by
        refine ⟨clean_small HF.out.1 _ hmem, ?_, erow⟩
        obtain ⟨q, _, e⟩ := List.mem_map.1 hmem
        rw [← e]
        exact (cleanRow_rises _ _).imp (fun h => by omega)
      have HRS : Aside0 ((row_.contains a2 = true → r = clean l0) ∧ (row_.contains a2 = false → r = (clean l0).set a1.toNat (row_.take (row_.countP (fun y => decide (y < a2))) ++ a2 :: row_.drop (row_.countP (fun y => decide (y < a2)))))) := by
        have hr := HF.out.2
        unfold withE at hr
        rw [clean_len, ← erow] at hr
        refine ⟨fun hc => ?_, fun hc => ?_⟩
        · rw [if_neg (fun hh => hh.2.2 (by simpa using hc))] at hr
          exact hr
        · rw [if_pos ⟨hna, hnb, by simpa using hc⟩] at hr
          exact hr
      clear hna hnb hmem HNO erow
      obtain ⟨con, hcon⟩ : ∃ con, con = row_.contains a2 := ⟨_, rfl⟩
      rw [← hcon] at HRS
      have HCON := Aside0.mk hcon
      clear hcon
      cases con with
      | true =>
        have HRT := Aside0.mk (HRS.out.1 rfl)
        have HBS : Aside0 (∀ W A c, dI.C W A row_.length row_ → Calls Try.prog 64 #[.slice A row_.length c, .int .i64 a2] W fun e w' => (∃ kk : Nat, e = .returned (.tuple #[.int .i64 kk, .bool true])) ∧ ∃ q, w' = W.drewN q) :=
          ⟨fun W A c hC => (bs_c A c row_ a2 W hC (by have := HRW.out.1; omega) HRW.out.2.1).mono fun e w' hh => ⟨⟨_, by rw [HCON.out]; exact hh.1⟩, hh.2⟩⟩
        go_enter Try.func37, Try.ntmps37
        go_wp2_with (first | (go_at_call 24; refine CL.out.mono ?_; rintro e w2 ⟨v2, rfl, ho2, hb2⟩; obtain ⟨go, cap, e2, hgo1, hgo2, _⟩ := Kd.S_form ho2 (by rw [clean_len]; omega); rw [clean_len] at e2; subst e2; have HO2 := Aside0.mk ho2; have HB2 := Aside0.mk hb2; have HGO := Aside0.mk (And.intro hgo1 hgo2); (obtain ⟨Au, cu, hcu, hRu, _, hnx⟩ := S_newelem ho2 (fun _ _ => trivial) (j := a1.toNat) (by omega)); rw [← HRW.out.2.2] at hcu hRu hnx; have HRU := Aside0.mk hRu; have HNX := Aside0.mk hnx; clear ho2 hb2 hgo1 hgo2 hRu hnx) | (go_at_call 59; (with_reducible refine (HIS _).mono ?_); rintro e w' ⟨rfl, rfl⟩) | (go_at_call 59; (with_reducible refine (HIT _).mono ?_); rintro e w' ⟨rfl, rfl⟩))
        go_wp2_with (go_at_call 64; refine (HBS.out _ _ _ (Kd.R_reads' HRU.out).2.2).mono ?_; rintro e w3 ⟨⟨kk, rfl⟩, q, rfl⟩)
        go_ret
        refine ⟨_, rfl, ?_, by repeat (first | exact HB2.out | apply pw_below_drewN | apply below_drew1)⟩
        rw [HRT.out]
        exact Kd.S_drewN HO2.out _
      | false =>
        obtain ⟨kk, hkk⟩ : ∃ kk, kk = row_.countP (fun y => decide (y < a2)) := ⟨_, rfl⟩
        rw [← hkk] at HRS
        obtain ⟨ys, hys⟩ : ∃ ys, ys = row_.take kk ++ a2 :: row_.drop kk := ⟨_, rfl⟩
        rw [← hys] at HRS
        have HRT := Aside0.mk (HRS.out.2 rfl)
        have HYS := Aside0.mk hys
        have HBS : Aside0 (∀ W A c, dI.C W A row_.length row_ → Calls Try.prog 64 #[.slice A row_.length c, .int .i64 a2] W fun e w' => e = .returned (.tuple #[.int .i64 kk, .bool false]) ∧ ∃ q, w' = W.drewN q) :=
          ⟨fun W A c hC => (bs_c A c row_ a2 W hC (by have := HRW.out.1; omega) HRW.out.2.1).mono fun e w' hh => ⟨by rw [HCON.out, hkk]; exact hh.1, hh.2⟩⟩
        have HKK : Aside0 (kk ≤ row_.length) := by
          rw [hkk]
          exact ⟨List.countP_le_length⟩
        have hyl : Aside0 (ys.length = row_.length + 1) := by
          have := HKK.out
          refine ⟨?_⟩
          rw [hys]
          simp
          omega
        clear hkk hys
        go_enter Try.func37, Try.ntmps37
        go_wp2_with (first | (go_at_call 24; refine CL.out.mono ?_; rintro e w2 ⟨v2, rfl, ho2, hb2⟩; obtain ⟨go, cap, e2, hgo1, hgo2, _⟩ := Kd.S_form ho2 (by rw [clean_len]; omega); rw [clean_len] at e2; subst e2; have HO2 := Aside0.mk ho2; have HB2 := Aside0.mk hb2; have HGO := Aside0.mk (And.intro hgo1 hgo2); (obtain ⟨Au, cu, hcu, hRu, _, hnx⟩ := S_newelem ho2 (fun _ _ => trivial) (j := a1.toNat) (by omega)); rw [← HRW.out.2.2] at hcu hRu hnx; have HRU := Aside0.mk hRu; have HNX := Aside0.mk hnx; clear ho2 hb2 hgo1 hgo2 hRu hnx) | (go_at_call 59; (with_reducible refine (HIS _).mono ?_); rintro e w' ⟨rfl, rfl⟩) | (go_at_call 59; (with_reducible refine (HIT _).mono ?_); rintro e w' ⟨rfl, rfl⟩))
        go_wp2_with (go_at_call 64; refine (HBS.out _ _ _ (Kd.R_reads' HRU.out).2.2).mono ?_; rintro e w3 ⟨rfl, q, rfl⟩)
        go_wp2_with (go_at_call 65; refine (insert_c _ row_ a2 kk (w.heap.size) (fun k => True ∧ k ≠ go) _ _ (Kd.R_alloc (Kd.R_drewN HRU.out q) _) HKK.out (by have := HRW.out.1; omega) (heap_alloc_new (w2.drewN q) _) (fun e => absurd (show w2.heap.size < w2.heap.size from own_lt (R_ints HRU.out) _ e) (Nat.lt_irrefl _)) (by rw [size_alloc1]; have := HB2.out.size; show w.heap.size ≤ w2.heap.size + 1; omega)).mono ?_; rintro e w4 ⟨v4, rfl, ho4, hf4, hat4⟩; rw [← HYS.out, ← hyl.out] at ho4; (have hf5 := (((Fr.drewN (fun k => (Value.slice Au row_.length cu).ownBlock = some k) w2 q).alloc (.cells #[.int .i64 a2] 3)).trans hf4 (fun _ hh => .inl hh))); (obtain ⟨⟨u5, hu5, hf6⟩, hs5⟩ := HNX.out w4 v4 _ ho4 hf5 (hat4.imp id (fun ⟨b, h1, h2⟩ => ⟨b, h1, by rw [size_alloc1] at h2; exact Nat.le_trans (Nat.le_succ _) h2⟩))); have HS5 := Aside0.mk hs5; have HF5 := Aside0.mk hf5; obtain ⟨A4, c4, rfl⟩ := own_slice ho4; clear ho4 hf4 hat4 hf5 hs5)
        go_ret
        refine ⟨_, rfl, ?_, ?_⟩
        · rw [HRT.out]
          exact HS5.out
        · have h3 := below_fr HB2.out HF5.out (fun k hk => own_base (R_ints HRU.out) k hk) HB2.out.size
          exact h3.setCell (by have := HGO.out.1; show w.heap.size ≤ go; omega) _
    · rw [hnb] at HIT
      have HRS := HNO.out (by rw [hnb]; simp)
      clear hna hnb HNO
      go_enter Try.func37, Try.ntmps37
      go_wp2_with (first | (go_at_call 24; refine CL.out.mono ?_; rintro e w2 ⟨v2, rfl, ho2, hb2⟩; have HO2 := Aside0.mk ho2; have HB2 := Aside0.mk hb2; clear ho2 hb2) | (go_at_call 59; (with_reducible refine (HIS _).mono ?_); rintro e w' ⟨rfl, rfl⟩) | (go_at_call 59; (with_reducible refine (HIT _).mono ?_); rintro e w' ⟨rfl, rfl⟩))
      go_ret
      exact ⟨_, rfl, by rw [HRS.out]; exact HO2.out, HB2.out⟩
  · rw [hna] at HIS
    have HRS := HNO.out (by rw [hna]; simp)
    clear hna HNO
    go_enter Try.func37, Try.ntmps37
    go_wp2_with (first | (go_at_call 24; refine CL.out.mono ?_; rintro e w2 ⟨v2, rfl, ho2, hb2⟩; have HO2 := Aside0.mk ho2; have HB2 := Aside0.mk hb2; clear ho2 hb2) | (go_at_call 59; (with_reducible refine (HIS _).mono ?_); rintro e w' ⟨rfl, rfl⟩))
    go_ret
    exact ⟨_, rfl, by rw [HRS.out]; exact HO2.out, HB2.out⟩

end Go.Proofs.Ytnhcimhdkdgccaa.P
