/- graph.Turn: what it answers. -/
import Derived.Test.YtnhcimhdkdgccaaHreach
namespace Go.Proofs.Ytnhcimhdkdgccaa.P
open Go.RowKit Go.Lib Go.Sort Go.Shelf Go.Proofs.YtnhcimhdkdgccaaW.PrintWords Go.Proofs.YtnhcimhdkdgccaaW.PrintLast Go.Proofs.YtnhcimhdkdgccaaW.PrintMore

/-- An element of a row of rows is appended to, and stored back. -/
theorem S_appelem {w : World} {base go n cap j : Nat} {xs : List (List Int)} {ok : Nat → Prop} (h : Kd.S dG 22 w base ok (.slice (some ⟨go, 0, none⟩) n cap) xs) (hnew : ∀ k, w.heap.size ≤ k → ok k) (hj : j < n) :
    ∃ A c, w.cell? ⟨go, j, none⟩ = some (.slice A (xs.getD j []).length c) ∧ w.ownsRow base 3 1 (.slice A (xs.getD j []).length c) (xs.getD j []).length ((xs.getD j []).map (Value.int .i64)) ∧ (∀ k, (Value.slice A (xs.getD j []).length c).ownBlock = some k → ok k) ∧ ok go ∧
      ∀ o w2 v2 a, w2.ownsRow base 3 1 v2 ((xs.getD j []).length + 1) ((xs.getD j []).map (Value.int .i64) ++ [.int .i64 a]) → (w.alloc o).grownBy w2 (Value.slice A (xs.getD j []).length c).ownBlock →
        (v2.ownBlock = (Value.slice A (xs.getD j []).length c).ownBlock ∨ v2.ownBlock = some (w.heap.size + 1)) →
        (∃ u, w2.cell? ⟨go, j, none⟩ = some u ∧ w2.frozen? ⟨go, j, none⟩ = false) ∧ Kd.S dG 22 (w2.setCell ⟨go, j, none⟩ v2) base ok (.slice (some ⟨go, 0, none⟩) n cap) (xs.set j (xs.getD j [] ++ [a])) := by
  have hgo : go < w.heap.size := Kd.S_lt h go (by simp [Value.ownBlock])
  have hgb : base ≤ go := Kd.S_base h go (by simp [Value.ownBlock])
  have h2 : Kd.S dG 22 w base (fun k => ok k ∧ ¬ (w.heap.size ≤ k)) (.slice (some ⟨go, 0, none⟩) n cap) xs := Kd.S_mono (Kd.S_bound h) (fun k hk => ⟨hk.1, by have := hk.2.2.1; omega⟩)
  obtain ⟨oki, c, hcl, hM, hcc, hfr, hoki, hH⟩ := Kd.S_elem h2 [] (j : Int) (by omega) (by omega)
  have hs1 : dG.sz = 1 := rfl
  obtain ⟨u, rfl⟩ : ∃ u, c = [u] := List.length_eq_one_iff.1 (hcl.trans hs1)
  have hu := hcc 0 u rfl
  have hf := hfr 0
  rw [hs1, Int.toNat_natCast, Nat.mul_one, Nat.add_zero] at hu
  rw [Int.toNat_natCast] at hM
  obtain ⟨u', e, hR⟩ := hM
  injection e with e
  subst e
  obtain ⟨A, cc, rfl⟩ := Kd.R_slice hR
  refine ⟨A, cc, hu, R_ints hR, fun k hk => (hoki k (hR.1 k hk)).1.1, (Kd.S_R h).1 go (by simp [Value.ownBlock]), fun o w2 v2 a ho hg hat => ?_⟩
  have hb : ∀ k, (Value.slice A (xs.getD j []).length cc).ownBlock = some k → oki k := fun k hk => hR.1 k hk
  have hH2 := Kd.H_grown (Kd.H_alloc hH o) hg hb
  have hs2 := hg.size
  rw [size_alloc1] at hs2
  -- the row's own cells stay
  have hne : (Value.slice A (xs.getD j []).length cc).ownBlock ≠ some go := fun e => (hoki go (hb go e)).2 rfl
  have hbk : w2.heap[go]? = w.heap[go]? := by
    rw [hg.block go (by rw [size_alloc1]; omega) (fun e => hne e.symm), Below.heap_alloc _ _ _ hgo]
  have hcell : ∀ p : Nat, w2.cell? ⟨go, p, none⟩ = w.cell? ⟨go, p, none⟩ := fun p => by simp only [World.cell?, hbk]
  have hfrz : ∀ p : Nat, w2.frozen? ⟨go, p, none⟩ = w.frozen? ⟨go, p, none⟩ := fun p => by simp only [World.frozen?, hbk]
  refine ⟨⟨_, (hcell j).trans hu, (hfrz j).trans (by rw [hs1, Int.toNat_natCast, Nat.mul_one, Nat.add_zero] at hf; exact hf)⟩, ?_⟩
  have hbase2 : ∀ k, v2.ownBlock = some k → base ≤ k := fun k hk => own_base ho k hk
  have hR2 : dI.R 3 w2 base (fun k => oki k ∨ w.heap.size ≤ k) v2 (xs.getD j [] ++ [a]) := by
    refine ints_R ?_ (fun k hk => ?_)
    · rw [List.length_append, List.length_singleton, List.map_append]
      exact ho
    · rcases hat with e | e
      · exact .inl (hb k (by rw [← e]; exact hk))
      · rw [e] at hk
        injection hk with hk
        exact .inr (by omega)
  have hP := Kd.S_seg (okg := fun k => w.heap.size ≤ k) hH2 (by omega) (by omega) (seg := [v2]) (j := 0) (show 0 + 1 ≤ 1 from Nat.le_refl _) (x' := xs.getD j [] ++ [a]) (okp := fun k => oki k ∨ w.heap.size ≤ k)
    ⟨v2, rfl, hR2⟩ (fun k hk => hk) (fun k hk => ⟨hnew k hk, by omega⟩)
  have hP1 := hP.1
  rw [hs1, Int.toNat_natCast, Nat.mul_one, Nat.add_zero] at hP1
  exact hP1

set_option maxHeartbeats 4000000 in
set_option maxRecDepth 100000 in
theorem graph_Turn.calls (A0 : Option Addr) (c0 : Nat) (l0 : List (List Int)) (r : List (List Int)) (w : World) (hr0 : Kd.C (Kd.slice 3 (Kd.int .i64)) w A0 l0.length l0) (hc0 : l0.length ≤ c0) (h : graph_Turn.f l0 = some r) :
    Calls Try.prog 25 #[.slice A0 l0.length c0] w fun e w' => ∃ v0_ : Value, e = .returned v0_ ∧ Kd.S (Kd.slice 3 (Kd.int .i64)) 22 w' w.heap.size (fun _ => True) v0_ r ∧ Below w.heap.size w w' := by
  have HR0 := Aside0.mk hr0
  have HC0 := Aside0.mk hc0
  have HF : Aside0 (fits l0 = true ∧ r = turn (clean l0)) := by
    unfold graph_Turn.f at h
    split at h
    · exact ⟨⟨by assumption, (Option.some.inj h).symm⟩⟩
    · cases h
  clear hr0 hc0 h
  have hn : l0.length ≤ 100000 := by
    have := HF.out.1
    unfold fits at this
    simp at this
    exact this.1
  have hz : 0 ≤ (l0.length : Int) := by omega
  have HCL' : Aside0 (∀ W, Below w.heap.size w W → Calls Try.prog 24 #[.slice A0 l0.length c0] W fun e w' => ∃ v0_ : Value, e = .returned v0_ ∧ Kd.S (Kd.slice 3 (Kd.int .i64)) 22 w' W.heap.size (fun _ => True) v0_ (clean l0) ∧ Below W.heap.size W w') :=
    ⟨fun W hW => graph_Clean.calls A0 c0 l0 (clean l0) W (Kd.C_below HR0.out hW) HC0.out (by unfold graph_Clean.f; rw [if_pos HF.out.1])⟩
  go_enter Try.func25, Try.ntmps25
  go_wp2_with (first | ((with_reducible refine gate_dst (N := 10) rfl ?_); refine Kd.S_make (Kd.slice 3 (Kd.int .i64)) (w0 := w) w.heap.size 22 rfl (N := 10) rfl 31 _ _ rfl (l0.length : Int) rfl rfl Try.underlying31 (.slice none 0 0) 24 info22 rfl Nat.one_pos (by omega) [] (ok := fun _ => True) (okp := fun _ => True) ⟨_, rfl, Kd.R_nil _ _ _ _ _⟩ (fun _ hk => hk) trivial hz (by omega) (Below.refl _ _) (Nat.le_refl _) ?_; intro v1 w1 ho1 hb1 hg1 hn1; clear hg1; obtain ⟨go, hn1, _⟩ := hn1; obtain ⟨cap, e1⟩ := R_form' (Kd.S_R ho1) hn1; rw [List.length_replicate, Int.toNat_natCast] at e1; subst e1; rw [Int.toNat_natCast] at ho1; have HO1 := Aside0.mk ho1; have HB1 := Aside0.mk hb1; clear ho1 hb1 hn1) | (go_at_call 24; refine (HCL'.out _ HB1.out).mono ?_; rintro e w2 ⟨v2, rfl, ho2, hb2⟩; obtain ⟨A2, c2, e2, hl2, _⟩ := Kd.S_reads ho2; rw [clean_len] at e2 hl2; subst e2; have HO2 := Aside0.mk ho2; have HB2 := Aside0.mk hb2; clear ho2 hb2))
  have HS1 : Aside0 (Kd.S dG 22 w2 w.heap.size (fun k => k < w1.heap.size ∨ w2.heap.size ≤ k) (.slice (some ⟨go, 0, none⟩) l0.length cap) (turnSo (clean l0) 0)) := by
    rw [turnSo, clean_len]
    exact ⟨Kd.S_mono (Kd.S_below (Kd.S_bound HO1.out) HB2.out) (fun k hk => .inl hk.2.2.1)⟩
  have hlen : (turnSo (clean l0) 0).length = l0.length := by rw [turnSo_len, clean_len]
  go_loopw [14] (fun v14 wr => ∃ k : Nat, v14 = .int .i64 k ∧ k ≤ l0.length ∧ Aside0 (Kd.S dG 22 wr w.heap.size (fun k => k < w1.heap.size ∨ w2.heap.size ≤ k) (.slice (some ⟨go, 0, none⟩) l0.length cap) (turnSo (clean l0) k)) ∧ Aside0 (NoLonger (turnSo (clean l0) k) (k * 100000)) ∧ Aside0 (Fr (fun k => w.heap.size ≤ k ∧ k < w1.heap.size) w2 wr)) (fun v14 _ => l0.length - (intOf v14).toNat)
  case atStart => exact ⟨0, rfl, Nat.zero_le _, HS1, ⟨fun j => by rw [turnSo]; simp [List.getD_eq_getElem?_getD, List.getElem?_replicate]; split <;> simp⟩, ⟨Fr.refl _ _⟩⟩
  case round =>
    obtain ⟨k, rfl, hk, HSr, HNL, HFr⟩ := hrel
    clear HS1
    by_cases hlt : k < l0.length
    · obtain ⟨wo, rfl⟩ : ∃ wo, wo = wr := ⟨_, rfl⟩
      obtain ⟨g2, A1, c1, e1, hl1, hst⟩ := row_stays HO2.out (S := fun k => w.heap.size ≤ k ∧ k < w1.heap.size) (fun k hk => hk.2) hlt
      subst e1
      obtain ⟨rw_, er⟩ : ∃ x, x = (clean l0).getD k [] := ⟨_, rfl⟩
      rw [← er] at hst hl1
      have HER := Aside0.mk er
      have hrl : Aside0 (rw_.length ≤ 100000 ∧ ∀ b ∈ rw_, 0 ≤ b ∧ b < (l0.length : Int)) := by
        have hm : rw_ ∈ clean l0 := by
          rw [er, List.getD_eq_getElem?_getD, List.getElem?_eq_getElem (by rw [clean_len]; exact hlt)]
          exact List.getElem_mem _
        exact ⟨clean_small HF.out.1 _ hm, clean_valid _ hm⟩
      have hrb : rw_.length ≤ 100000 := hrl.out.1
      obtain ⟨hx1, _⟩ := hst wo HFr.out
      have HST := Aside0.mk hst
      clear er hst hl1
      go_wp2_with (fail)
      go_loopw [21] (fun v21 wr => ∃ j : Nat, v21 = .int .i64 j ∧ j ≤ rw_.length ∧ Aside0 (Kd.S dG 22 wr w.heap.size (fun k => k < w1.heap.size ∨ w2.heap.size ≤ k) (.slice (some ⟨go, 0, none⟩) l0.length cap) ((rw_.take j).foldl (turnStep (k : Int)) (turnSo (clean l0) k))) ∧ Aside0 (NoLonger ((rw_.take j).foldl (turnStep (k : Int)) (turnSo (clean l0) k)) (k * 100000 + j)) ∧ Aside0 (Fr (fun k => w.heap.size ≤ k ∧ k < w1.heap.size) w2 wr)) (fun v21 _ => rw_.length - (intOf v21).toNat)
      case atStart =>
        refine ⟨0, rfl, Nat.zero_le _, ?_, ?_, HFr⟩
        · rw [List.take_zero, List.foldl_nil]
          exact HSr
        · rw [List.take_zero, List.foldl_nil, Nat.add_zero]
          exact HNL
      case round =>
        clear HSr HNL HFr hx1
        obtain ⟨j, rfl, hj, HSr, HNL, HFr⟩ := hrel
        by_cases hjl : j < rw_.length
        · obtain ⟨xs, exs⟩ : ∃ xs, xs = (rw_.take j).foldl (turnStep (k : Int)) (turnSo (clean l0) k) := ⟨_, rfl⟩
          rw [← exs] at HSr HNL
          have HXS := Aside0.mk exs
          obtain ⟨_, hC1⟩ := HST.out wr HFr.out
          obtain ⟨rb, ro, e2, _, hrc⟩ := C_ints hC1 (by omega)
          subst e2
          have hcb := hrc j hjl
          obtain ⟨b, eb⟩ : ∃ b, b = rw_.getD j 0 := ⟨_, rfl⟩
          rw [← eb] at hcb
          have hbm : 0 ≤ b ∧ b < (l0.length : Int) := by
            refine hrl.out.2 b ?_
            rw [eb, List.getD_eq_getElem?_getD, List.getElem?_eq_getElem hjl]
            exact List.getElem_mem _
          have HBB := Aside0.mk eb
          obtain ⟨hb0, hb1⟩ := hbm
          have hnew : ∀ k, wr.heap.size ≤ k → k < w1.heap.size ∨ w2.heap.size ≤ k := fun k hk => .inr (by have := HFr.out.size; omega)
          obtain ⟨Ab, cb, hxb, hob, hokb, hokg, happ⟩ := S_appelem HSr.out hnew (j := b.toNat) (by omega)
          have hnl := HNL.out b.toNat
          have hk9 : k * 100000 ≤ 10000000000 := by
            have := Nat.mul_le_mul_right 100000 (show k ≤ 100000 by omega)
            omega
          obtain ⟨m, em⟩ : ∃ m, m = (xs.getD b.toNat []).length := ⟨_, rfl⟩
          rw [← em] at hxb hnl hob
          have hmb : m ≤ 10000100000 := by omega
          have HOB := Aside0.mk hob
          have HAP := Aside0.mk (And.intro hokb (And.intro hokg happ))
          have HEM := Aside0.mk em
          have HW := Aside0.mk (Nat.le_trans HB2.out.size HFr.out.size)
          obtain ⟨ti, hti, hz0, hz1, hz2⟩ := info_parts info3
          have HTI := Aside0.mk (And.intro hti (And.intro hz0 (And.intro hz1 hz2)))
          clear exs hC1 hrc eb hnew hob hokb hokg happ hnl hk9 em hti hz0 hz1 hz2
          go_wp2_with (at_builtin; refine wpList_append_own_at _ rfl _ _ 22 rfl w.heap.size 3 ti (.int .i64 0) 1 8 Try.underlying22 HTI.out.1 HTI.out.2.1 HTI.out.2.2.1 HTI.out.2.2.2 rfl (by decide) (.slice Ab m cb) m _ rfl (HOB.out.alloc _) ⟨_, 0, none⟩ 1 1 [.int .i64 k] rfl rfl (one_cells rfl _ _) (fun u hu => by simp at hu; subst hu; rfl) (by unfold maxLen; omega) (by omega) (by rw [size_alloc1]; have := HW.out; have := HB1.out.size; omega) ?_; intro v3 w3 ho3 hg3 _ hat3; rw [size_alloc1] at hat3; (obtain ⟨⟨u5, hu5, hf5⟩, hs5⟩ := HAP.out.2.2 _ w3 v3 (k : Int) (by rw [← HEM.out]; exact ho3) (by rw [← HEM.out]; exact hg3) (by rw [← HEM.out]; exact hat3)); have HS5 := Aside0.mk hs5; have HG3 := Aside0.mk hg3; obtain ⟨A3, c3, rfl⟩ := own_slice ho3; clear ho3 hg3 hat3 hs5)
          go_roundw
          case rel =>
            have etk : rw_.take (j + 1) = rw_.take j ++ [b] := by
              rw [List.take_succ_eq_append_getElem hjl, HBB.out, List.getD_eq_getElem?_getD, List.getElem?_eq_getElem hjl]
              rfl
            have ef : (rw_.take (j + 1)).foldl (turnStep (k : Int)) (turnSo (clean l0) k) = turnStep (k : Int) xs b := by
              rw [etk, List.foldl_append, ← HXS.out]
              rfl
            refine ⟨j + 1, by go_num, by omega, ?_, ?_, ⟨?_⟩⟩
            · rw [ef]
              exact HS5
            · rw [ef]
              have hst := HNL.out.step (a := (k : Int)) (b := b)
              rw [Nat.add_assoc] at hst
              exact ⟨hst⟩
            · refine ((HFr.out.alloc _).grown HG3.out (fun q e => ?_)).setCell ?_ _
              · rcases HAP.out.1 q (by rw [← HEM.out]; exact e) with h1 | h1
                · exact .inl ⟨own_base HOB.out q e, h1⟩
                · exact .inr h1
              · rcases HAP.out.2.1 with h1 | h1
                · exact .inl ⟨Kd.S_base HS5.out go (by simp [Value.ownBlock]), h1⟩
                · exact .inr h1
          case measure => simp [intOf]; omega
        · obtain rfl : j = rw_.length := by omega
          clear hjl
          go_wp2
          go_roundw
          case rel =>
            have ef : turnSo (clean l0) (k + 1) = (rw_.take rw_.length).foldl (turnStep (k : Int)) (turnSo (clean l0) k) := by
              rw [turnSo, ← HER.out, List.take_length]
            refine ⟨k + 1, by go_num, by omega, ?_, ?_, HFr⟩
            · rw [ef]
              exact HSr
            · rw [ef]
              refine ⟨fun q => Nat.le_trans (HNL.out q) ?_⟩
              have := hrl.out.1
              rw [Nat.succ_mul]
              omega
          case measure => simp [intOf]; omega
    · obtain rfl : k = l0.length := by omega
      clear hlt
      go_wp2
      go_ret
      have hfin := HSr.out
      rw [show turnSo (clean l0) l0.length = r from by rw [HF.out.2, turn, clean_len]] at hfin
      refine ⟨_, rfl, Kd.S_mono hfin (fun _ _ => trivial), ?_⟩
      have h2 : Below w.heap.size w w2 := HB1.out.trans (HB2.out.mono HB1.out.size)
      exact below_fr h2 HFr.out (fun k hk => hk.1) h2.size

end Go.Proofs.Ytnhcimhdkdgccaa.P
