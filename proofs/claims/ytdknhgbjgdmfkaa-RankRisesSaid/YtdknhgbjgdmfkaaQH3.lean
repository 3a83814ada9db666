/- What the claim uses of: Hshrink Prank Gkahn2 Gawake11 Gshr3 Granks Gplaces Hsched Hsched2 Hsched3 Hpath Hsound -/
import Derived.Deep.MidRow
import Derived.Deep.RegionWith
import Derived.Test.YtdknhgbjgdmfkaaQH2
namespace Go.Proofs.Ytdknhgbjgdmfkaa.P
open Go.RowKit Go.Shelf Go.Lib Go.Sort Go.Proofs.YtdknhgbjgdmfkaaW.PrintWords Go.Proofs.YtdknhgbjgdmfkaaW.PrintLast Go.Proofs.YtdknhgbjgdmfkaaW.PrintMore
theorem S_appelem2 {w : World} {base go n cap j : Nat} {xs : List (List Int)} {ok : Nat → Prop} (h : Kd.S dG 32 w base ok (.slice (some ⟨go, 0, none⟩) n cap) xs) (hnew : ∀ k, w.heap.size ≤ k → ok k) (hj : j < n) :
    ∃ A c, w.cell? ⟨go, j, none⟩ = some (.slice A (xs.getD j []).length c) ∧ w.ownsRow base 3 1 (.slice A (xs.getD j []).length c) (xs.getD j []).length ((xs.getD j []).map (Value.int .i64)) ∧ (∀ k, (Value.slice A (xs.getD j []).length c).ownBlock = some k → ok k) ∧ ok go ∧
      ∀ w2 v2 a, w2.ownsRow base 3 1 v2 ((xs.getD j []).length + 1) ((xs.getD j []).map (Value.int .i64) ++ [.int .i64 a]) → w.grownBy w2 (Value.slice A (xs.getD j []).length c).ownBlock →
        (v2.ownBlock = (Value.slice A (xs.getD j []).length c).ownBlock ∨ ∃ b, v2.ownBlock = some b ∧ w.heap.size ≤ b) →
        (∃ u, w2.cell? ⟨go, j, none⟩ = some u ∧ w2.frozen? ⟨go, j, none⟩ = false) ∧ Kd.S dG 32 (w2.setCell ⟨go, j, none⟩ v2) base ok (.slice (some ⟨go, 0, none⟩) n cap) (xs.set j (xs.getD j [] ++ [a])) := by
  have hgo : go < w.heap.size := Kd.S_lt h go (by simp [Value.ownBlock])
  have hgb : base ≤ go := Kd.S_base h go (by simp [Value.ownBlock])
  have h2 : Kd.S dG 32 w base (fun k => ok k ∧ ¬ (w.heap.size ≤ k)) (.slice (some ⟨go, 0, none⟩) n cap) xs := Kd.S_mono (Kd.S_bound h) (fun k hk => ⟨hk.1, by have := hk.2.2.1; omega⟩)
  obtain ⟨oki, c, hcl, hM, hcc, hfr, hoki, hH⟩ := Kd.S_elem h2 [] (j : Int) (by omega) (by omega)
  have hs1 : dG.sz = 1 := rfl
  obtain ⟨u, rfl⟩ : ∃ u, c = [u] := List.length_eq_one_iff.1 (hcl.trans hs1)
  have hu := hcc 0 u rfl
  have hf := hfr 0
  rw [hs1, Int.toNat_natCast, Nat.mul_one, Nat.add_zero] at hu
  rw [Int.toNat_natCast] at hM
  obtain ⟨u', e, hR⟩ := hM
  injection e with e
  subst e
  obtain ⟨A, cc, rfl⟩ := Kd.R_slice hR
  refine ⟨A, cc, hu, R_ints hR, fun k hk => (hoki k (hR.1 k hk)).1.1, (Kd.S_R h).1 go (by simp [Value.ownBlock]), fun w2 v2 a ho hg hat => ?_⟩
  have hb : ∀ k, (Value.slice A (xs.getD j []).length cc).ownBlock = some k → oki k := fun k hk => hR.1 k hk
  have hH2 := Kd.H_grown hH hg hb
  have hs2 := hg.size
  have hne : (Value.slice A (xs.getD j []).length cc).ownBlock ≠ some go := fun e => (hoki go (hb go e)).2 rfl
  have hbk : w2.heap[go]? = w.heap[go]? := hg.block go hgo (fun e => hne e.symm)
  have hcell : ∀ p : Nat, w2.cell? ⟨go, p, none⟩ = w.cell? ⟨go, p, none⟩ := fun p => by simp only [World.cell?, hbk]
  have hfrz : ∀ p : Nat, w2.frozen? ⟨go, p, none⟩ = w.frozen? ⟨go, p, none⟩ := fun p => by simp only [World.frozen?, hbk]
  refine ⟨⟨_, (hcell j).trans hu, (hfrz j).trans (by rw [hs1, Int.toNat_natCast, Nat.mul_one, Nat.add_zero] at hf; exact hf)⟩, ?_⟩
  have hR2 : dI.R 3 w2 base (fun k => oki k ∨ w.heap.size ≤ k) v2 (xs.getD j [] ++ [a]) := by
    refine ints_R ?_ (fun k hk => ?_)
    · rw [List.length_append, List.length_singleton, List.map_append]
      exact ho
    · rcases hat with e | ⟨b, e, hbl⟩
      · exact .inl (hb k (by rw [← e]; exact hk))
      · rw [e] at hk
        injection hk with hk
        exact .inr (by omega)
  have hP := Kd.S_seg (okg := fun k => w.heap.size ≤ k) hH2 (by omega) (by omega) (seg := [v2]) (j := 0) (show 0 + 1 ≤ 1 from Nat.le_refl _) (x' := xs.getD j [] ++ [a]) (okp := fun k => oki k ∨ w.heap.size ≤ k)
    ⟨v2, rfl, hR2⟩ (fun k hk => hk) (fun k hk => ⟨hnew k hk, by omega⟩)
  have hP1 := hP.1
  rw [hs1, Int.toNat_natCast, Nat.mul_one, Nat.add_zero] at hP1
  exact hP1
theorem take_succ_getD {l : List Int} {j : Nat} (h : j < l.length) : l.take (j + 1) = l.take j ++ [l.getD j 0] := by
  rw [List.take_succ_eq_append_getElem h, List.getD_eq_getElem?_getD, List.getElem?_eq_getElem h]
  rfl
theorem S_rowT {w : World} {base : Nat} {ok T : Nat → Prop} {A : Option Addr} {n c : Nat} {xs : List (List Int)} (h : Kd.S dG 32 w base ok (.slice A n c) xs) (hT : ∀ k, ok k → ¬ T k) {k : Nat} (hk : k < n) :
    ∃ g A1 c1, A = some ⟨g, 0, none⟩ ∧ (xs.getD k []).length ≤ c1 ∧ ∀ W, Fr T w W → W.cell? ⟨g, k, none⟩ = some (.slice A1 (xs.getD k []).length c1) ∧ dI.C W A1 (xs.getD k []).length (xs.getD k []) := by
  have hn := (Kd.S_reads' h).1
  obtain ⟨g, cap, e, hb, hl, _⟩ := Kd.S_form h (by omega)
  have hgo : ok g := (Kd.S_R h).1 g (by rw [e]; simp [Value.ownBlock])
  injection e with e1 e2 e3
  subst e1
  obtain ⟨oki, cc, hcl, hM, hcc, _, hoki, _⟩ := Kd.S_elem h [] (k : Int) (by omega) (by omega)
  have hs1 : dG.sz = 1 := rfl
  obtain ⟨u, rfl⟩ : ∃ u, cc = [u] := List.length_eq_one_iff.1 (hcl.trans hs1)
  have hu := hcc 0 u rfl
  rw [hs1, Int.toNat_natCast, Nat.mul_one, Nat.add_zero] at hu
  rw [Int.toNat_natCast] at hM
  obtain ⟨u', e', hR⟩ := hM
  injection e' with e'
  subst e'
  obtain ⟨A1, c1, e4, hl1, _⟩ := Kd.R_reads hR
  subst e4
  refine ⟨g, A1, c1, rfl, hl1, fun W hf => ⟨?_, ?_⟩⟩
  · have hbk := hf.block g hl (hT g hgo)
    simp only [World.cell?, hbk]
    exact hu
  · have h2 := Kd.R_step (w1 := W) (Kd.R_bound hR) (fun b hbk hlt => hf.block b hlt (hT b (hoki b hbk.1).1))
    exact (Kd.R_reads' h2).2.2
theorem R_int_cell' {W : World} {base g n cap : Nat} {ok : Nat → Prop} {xs : List Int} (h : dI.R 3 W base ok (.slice (some ⟨g, 0, none⟩) n cap) xs) {i : Nat} (hi : i < n) : W.cell? ⟨g, i, none⟩ = some (.int .i64 (xs.getD i 0)) ∧ W.frozen? ⟨g, i, none⟩ = false := by
  have := Kd.R_celln (0 : Int) h (i : Int) (by omega) (by omega)
  rw [Int.toNat_natCast] at this
  exact this
set_option maxHeartbeats 8000000 in
set_option maxRecDepth 100000 in
theorem scc_Shrink.calls (A0 : Option Addr) (c0 : Nat) (l0 : List (List Int)) (r0 : List (List Int)) (r1 : List Int) (w : World) (hr0 : Kd.C (Kd.slice 3 (Kd.int .i64)) w A0 l0.length l0) (hc0 : l0.length ≤ c0) (h : scc_Shrink.f l0 = some (r0, r1)) :
    Calls Try.prog 37 #[.slice A0 l0.length c0] w fun e w' => ∃ v0_ v1_ : Value, e = .returned (.tuple #[v0_, v1_]) ∧ Kd.S (Kd.slice 3 (Kd.int .i64)) 32 w' w.heap.size (fun _ => True) v0_ r0 ∧ dI.R 3 w' w.heap.size (fun _ => True) v1_ r1 ∧ Below w.heap.size w w' := by
  have HF : Aside0 (fits l0 = true ∧ fits (shrB (clean l0)) = true ∧ r0 = clean (shrB (clean l0)) ∧ r1 = inB (clean l0)) := by
    unfold scc_Shrink.f at h
    split at h
    · split at h
      · have h1 := Option.some.inj h
        exact ⟨⟨by assumption, by assumption, (congrArg Prod.fst h1).symm, (congrArg Prod.snd h1).symm⟩⟩
      · cases h
    · cases h
  have HCL : Aside0 (∀ W, Below w.heap.size w W → Calls Try.prog 16 #[.slice A0 l0.length c0] W fun e w' => ∃ v0_ : Value, e = .returned v0_ ∧ Kd.S (Kd.slice 3 (Kd.int .i64)) 32 w' W.heap.size (fun _ => True) v0_ (clean l0) ∧ Below W.heap.size W w') :=
    ⟨fun W hW => graph_Clean.calls A0 c0 l0 (clean l0) W (Kd.C_below hr0 hW) hc0 (by unfold graph_Clean.f; rw [if_pos HF.out.1])⟩
  have HPT : Aside0 (Calls Try.prog 36 #[.slice A0 l0.length c0] w fun e w' => ∃ v0_ : Value, e = .returned v0_ ∧ Kd.S (Kd.slice 3 (Kd.int .i64)) 32 w' w.heap.size (fun _ => True) v0_ (partsB (clean l0)) ∧ Below w.heap.size w w') :=
    ⟨scc_Parts.calls A0 c0 l0 _ w hr0 hc0 (by unfold scc_Parts.f; rw [if_pos HF.out.1])⟩
  clear hr0 hc0 h
  have hn : l0.length ≤ 100000 := by
    have := HF.out.1
    unfold fits at this
    simp at this
    exact this.1
  obtain ⟨n, en⟩ : ∃ n, n = l0.length := ⟨_, rfl⟩
  rw [← en] at HCL HPT hn ⊢
  have HEN := Aside0.mk en
  have HV : Aside0 (Valid (clean l0)) := ⟨clean_Valid l0⟩
  have HCN : Aside0 ((clean l0).length = n) := ⟨by rw [clean_len, en]⟩
  have HRW : Aside0 (∀ j, j < n → ((clean l0).getD j []).length ≤ n) := ⟨fun j hj => by
    have hjl : j < (clean l0).length := by rw [HCN.out]; exact hj
    rw [List.getD_eq_getElem?_getD, List.getElem?_eq_getElem hjl, en]
    exact clean_row_le _ (List.getElem_mem hjl)⟩
  clear en
  obtain ⟨c, ec⟩ : ∃ c, c = clean l0 := ⟨_, rfl⟩
  rw [← ec] at HCL HPT HV HCN HRW HF
  clear ec
  obtain ⟨P, eP⟩ : ∃ P, P = partsB c := ⟨_, rfl⟩
  rw [← eP] at HPT
  have HP := Aside0.mk eP
  clear eP
  have HPN : Aside0 (∀ j, ∀ x ∈ P.getD j [], 0 ≤ x ∧ x < (n : Int)) := ⟨fun j x hx => by
    have h1 := (partsB_facts HV.out).1
    rw [← HP.out] at h1
    have hj : j < P.length := by
      rcases Nat.lt_or_ge j P.length with h | h
      · exact h
      · rw [List.getD_eq_getElem?_getD, List.getElem?_eq_none h] at hx; cases hx
    rw [List.getD_eq_getElem?_getD, List.getElem?_eq_getElem hj] at hx
    have h2 := h1 _ (List.getElem_mem hj) x hx
    have h3 := h2.1
    have h4 := h2.2
    rw [HCN.out] at h4
    exact ⟨h3, h4⟩⟩
  have hmk := run_make_row' (P := Try.prog) 32 3 (.int .i64 0) 8 Try.underlying32 info3 rfl .i64 .i64 n (by omega) (by omega)
  go_enter Try.func37, Try.ntmps37
  go_upto_region 2 with (go_at_call 36; refine HPT.out.mono ?_; rintro e w1 ⟨vP, rfl, hoP, hbP⟩; obtain ⟨AP, cP, rfl, _⟩ := Kd.S_reads hoP; have HOP := Aside0.mk hoP; have HBP := Aside0.mk hbP; clear hoP hbP)
  go_upto_region 3 with (fail)
  have hb1 := HBP.out.size
  have HR2 := Aside0.mk (R_made (W := w1.alloc (.cells (madeCells #[.int .i64 0] n) 3)) (base := w.heap.size) (n := n) (pheap_new w1 _ _ rfl) hb1 hn)
  have HS2 := Aside0.mk (Kd.S_mono (ok' := fun k => k < w1.heap.size) (Kd.S_alloc (Kd.S_bound HOP.out) (.cells (madeCells #[.int .i64 0] n) 3)) (fun k hk => hk.2.2.1))
  have HB2 := Aside0.mk (below_alloc HBP.out (.cells (madeCells #[.int .i64 0] n) 3))
  have HG2 : Aside0 (w1.heap.size < (w1.alloc (.cells (madeCells #[.int .i64 0] n) 3)).heap.size ∧ w.heap.size ≤ w1.heap.size) := ⟨by rw [size_alloc1]; omega, hb1⟩
  obtain ⟨W2, hW2⟩ : ∃ W2, W2 = w1.alloc (.cells (madeCells #[.int .i64 0] n) 3) := ⟨_, rfl⟩
  obtain ⟨gi, egi⟩ : ∃ gi, gi = w1.heap.size := ⟨_, rfl⟩
  rw [← hW2, ← egi] at HR2 HS2 HG2
  rw [← hW2] at HB2
  rw [← hW2, ← egi]
  have HPL : Aside0 (P.length ≤ n ∧ ∀ j, (P.getD j []).length ≤ n) := ⟨by
    refine ⟨?_, fun j => ?_⟩
    · rw [HP.out]
      unfold partsB
      rw [List.length_map]
      refine Nat.le_trans (List.length_filter_le _ _) ?_
      rw [nodes_len, HCN.out]
      exact Nat.le_refl _
    · rcases Nat.lt_or_ge j P.length with hj | hj
      · have h3 := (partsB_facts HV.out).2.2 (P.getD j []) (by rw [← HP.out, List.getD_eq_getElem?_getD, List.getElem?_eq_getElem hj]; exact List.getElem_mem hj)
        exact few_nodes (h3.2.1.imp (fun h => by omega)) (HPN.out j)
      · rw [List.getD_eq_getElem?_getD, List.getElem?_eq_none hj]; exact Nat.zero_le _⟩
  clear hW2 egi HOP HBP HPT hb1 hmk
  obtain ⟨m, em⟩ : ∃ m, m = P.length := ⟨_, rfl⟩
  have HM := Aside0.mk em
  have hm : m ≤ n := by rw [em]; exact HPL.out.1
  rw [← em] at HS2 ⊢
  clear em
  go_wp2
  go_loopw [22] (fun v22 wr => ∃ k : Nat, v22 = .int .i64 k ∧ k ≤ m ∧ Aside0 (dI.R 3 wr w.heap.size (fun k => k = gi) (.slice (some ⟨gi, 0, none⟩) n n) (inSo n P k)) ∧ Aside0 (Fr (fun k => k = gi) W2 wr)) (fun v22 _ => m - (intOf v22).toNat)
  case atStart => exact ⟨0, rfl, Nat.zero_le _, HR2, ⟨Fr.refl _ _⟩⟩
  case round =>
    clear HR2
    obtain ⟨k, rfl, hk, HR, HFr⟩ := hrel
    by_cases hlt : k < m
    · obtain ⟨g, A1, c1, hAP, hc1, hst⟩ := S_rowT HS2.out (T := fun k => k = gi) (fun k hk e => by omega) hlt
      subst hAP
      obtain ⟨R, eR⟩ : ∃ R, R = (P.getD k []).length := ⟨_, rfl⟩
      have hRn : R ≤ n := by rw [eR]; exact HPL.out.2 k
      rw [← eR] at hst hc1
      have HER := Aside0.mk eR
      have HST := Aside0.mk hst
      obtain ⟨hx1, _⟩ := hst wr HFr.out
      clear hst eR
      go_wp2
      go_loopw [29] (fun v29 wr => ∃ j : Nat, v29 = .int .i64 j ∧ j ≤ R ∧ Aside0 (dI.R 3 wr w.heap.size (fun k => k = gi) (.slice (some ⟨gi, 0, none⟩) n n) (inRow (k : Int) ((P.getD k []).take j) (inSo n P k))) ∧ Aside0 (Fr (fun k => k = gi) W2 wr)) (fun v29 _ => R - (intOf v29).toNat)
      case atStart => exact ⟨0, rfl, Nat.zero_le _, ⟨by rw [List.take_zero]; exact HR.out⟩, HFr⟩
      case round =>
        clear HR HFr hx1
        obtain ⟨j, rfl, hj, HR, HFr⟩ := hrel
        by_cases hjl : j < R
        · obtain ⟨_, hC1⟩ := HST.out wr HFr.out
          obtain ⟨gb, ob, e2, _, hrc⟩ := C_ints hC1 (by omega)
          subst e2
          have hjP : j < (P.getD k []).length := by have := HER.out; omega
          have hcb := hrc j hjP
          obtain ⟨x, ex⟩ : ∃ x, x = (P.getD k []).getD j 0 := ⟨_, rfl⟩
          rw [← ex] at hcb
          have hxn : 0 ≤ x ∧ x < (n : Int) := HPN.out k x (by rw [ex]; exact getD_mem hjP)
          have htake : (P.getD k []).take (j + 1) = (P.getD k []).take j ++ [x] := by rw [ex]; exact take_succ_getD hjP
          obtain ⟨y, rfl⟩ : ∃ y : Nat, x = (y : Int) := ⟨x.toNat, by omega⟩
          have hyn : y < n := by omega
          have hfz := (R_int_cell' HR.out hyn)
          obtain ⟨hfc, hfz⟩ := hfz
          have HTK := Aside0.mk htake
          clear ex hrc hC1 htake hxn
          go_wp2
          go_roundw
          case rel =>
            refine ⟨j + 1, by go_num, by omega, ⟨?_⟩, ⟨HFr.out.setCell (p := ⟨gi, y, none⟩) (.inl rfl) _⟩⟩
            rw [HTK.out]
            unfold inRow
            rw [List.foldl_append]
            exact Kd.R_putn HR.out (y : Int) (k : Int)
          case measure => simp [intOf]; omega
        · obtain rfl : j = R := by omega
          go_wp2
          go_roundw
          case rel =>
            refine ⟨k + 1, by go_num, by omega, ⟨?_⟩, HFr⟩
            rw [inSo]
            have h := HR.out
            rw [HER.out, List.take_length] at h
            exact h
          case measure => simp [intOf]; omega
    · obtain rfl : k = m := by omega
      obtain ⟨wa, rfl⟩ : ∃ wa, wa = wr := ⟨_, rfl⟩
      have hbw : Below w.heap.size w wa := below_fr HB2.out HFr.out (fun k e => by have := HG2.out.2; omega) HB2.out.size
      have HBW := Aside0.mk hbw
      have hz : 0 ≤ (k : Int) := by omega
      obtain ⟨inn, einn⟩ : ∃ inn, inn = inSo n P k := ⟨_, rfl⟩
      have HIN : Aside0 (inn = inB c) := ⟨by rw [einn]; unfold inB; rw [HCN.out, ← HP.out, ← HM.out]⟩
      rw [← einn] at HR
      have hgl : gi < wa.heap.size := Nat.lt_of_lt_of_le HG2.out.1 HFr.out.size
      have HGL := Aside0.mk hgl
      clear einn HS2 HPN hlt hbw HFr HPL hgl
      go_upto_region 14 with (first | ((with_reducible refine gate_dst (N := 41) rfl ?_); refine Kd.S_make (Kd.slice 3 (Kd.int .i64)) (w0 := wa) wa.heap.size 32 rfl (N := 41) rfl 22 _ _ rfl (k : Int) rfl rfl Try.underlying22 (.slice none 0 0) 24 info32 rfl Nat.one_pos (by omega) [] (ok := fun _ => True) (okp := fun _ => True) ⟨_, rfl, Kd.R_nil _ _ _ _ _⟩ (fun _ hk => hk) trivial hz (by omega) (Below.refl _ _) (Nat.le_refl _) ?_; intro v3 w3 ho3 hb3 hg3 hn3; clear hg3; obtain ⟨go, hn3, _⟩ := hn3; obtain ⟨cap, e3⟩ := R_form' (Kd.S_R ho3) hn3; rw [List.length_replicate, Int.toNat_natCast] at e3; subst e3; rw [Int.toNat_natCast] at ho3; have HO3 := Aside0.mk ho3; have HB3 := Aside0.mk hb3; clear ho3 hb3 hn3) | (go_at_call 16; refine (HCL.out _ (pbel_next HBW.out HB3.out)).mono ?_; rintro e w4 ⟨v4, rfl, ho4, hb4⟩; obtain ⟨A4, c4, e4, hl4, _⟩ := Kd.S_reads ho4; rw [HCN.out] at e4; subst e4; have HO4 := Aside0.mk ho4; have HB4 := Aside0.mk hb4; clear ho4 hb4))
      have hs3 := HB3.out.size
      have hs4 := HB4.out.size
      have HSZ := Aside0.mk (And.intro hs3 hs4)
      have HR4 := Aside0.mk (Kd.R_below (Kd.R_below HR.out HB3.out) HB4.out)
      have HS4 : Aside0 (Kd.S dG 32 w4 wa.heap.size (fun q => q < w3.heap.size ∨ w4.heap.size ≤ q) (.slice (some ⟨go, 0, none⟩) k cap) (shrSo k inn c 0)) := ⟨Kd.S_mono (Kd.S_below (Kd.S_bound HO3.out) HB4.out) (fun q hq => .inl hq.2.2.1)⟩
      have HC4 : Aside0 (Kd.S dG 32 w4 w3.heap.size (fun q => w3.heap.size ≤ q ∧ q < w4.heap.size) (.slice A4 n c4) c) := ⟨Kd.S_mono (Kd.S_bound HO4.out) (fun q hq => ⟨hq.2.1, hq.2.2.1⟩)⟩
      have HX : Aside0 (∀ a : Nat, a < n → ∃ x : Nat, x < k ∧ inn.getD a 0 = (x : Int)) := ⟨fun a ha => by
        obtain ⟨j, h1, h2, _⟩ := inB_spec HV.out (a := (a : Int)) ⟨by omega, by rw [HCN.out]; omega⟩
        rw [← HIN.out, rdc] at h2
        exact ⟨j, by rw [HM.out, HP.out]; exact h1, h2⟩⟩
      clear HO3 HO4 hl4 HR hs3 hs4 hz
      go_loopw [45] (fun v45 wr' => ∃ a : Nat, v45 = .int .i64 a ∧ a ≤ n ∧ Aside0 (Kd.S dG 32 wr' wa.heap.size (fun q => q < w3.heap.size ∨ w4.heap.size ≤ q) (.slice (some ⟨go, 0, none⟩) k cap) (shrSo k inn c a)) ∧ Aside0 (NoLonger (shrSo k inn c a) (a * 100000)) ∧ Aside0 (Fr (fun q => wa.heap.size ≤ q ∧ q < w3.heap.size) w4 wr')) (fun v45 _ => n - (intOf v45).toNat)
      case atStart => exact ⟨0, rfl, Nat.zero_le _, HS4, ⟨fun j => by rw [shrSo]; simp [List.getD_eq_getElem?_getD, List.getElem?_replicate]; split <;> simp⟩, ⟨Fr.refl _ _⟩⟩
      case round =>
        clear HS4
        obtain ⟨a, rfl, ha, HSr, HNL, HFr⟩ := hrel
        by_cases hlt : a < n
        · obtain ⟨g, A1, c1, hAP, hc1, hst⟩ := S_rowT HC4.out (T := fun q => wa.heap.size ≤ q ∧ q < w3.heap.size) (fun q hq e => by omega) hlt
          subst hAP
          obtain ⟨R, eR⟩ : ∃ R, R = (c.getD a []).length := ⟨_, rfl⟩
          have hRn : R ≤ n := by rw [eR]; exact HRW.out a hlt
          rw [← eR] at hst hc1
          have HER := Aside0.mk eR
          have HST := Aside0.mk hst
          obtain ⟨hx1, _⟩ := hst _ HFr.out
          clear hst eR
          go_wp2
          go_loopw [52] (fun v52 wr' => ∃ j : Nat, v52 = .int .i64 j ∧ j ≤ R ∧ Aside0 (Kd.S dG 32 wr' wa.heap.size (fun q => q < w3.heap.size ∨ w4.heap.size ≤ q) (.slice (some ⟨go, 0, none⟩) k cap) (((c.getD a []).take j).foldl (shrStep inn (a : Int)) (shrSo k inn c a))) ∧ Aside0 (NoLonger (((c.getD a []).take j).foldl (shrStep inn (a : Int)) (shrSo k inn c a)) (a * 100000 + j)) ∧ Aside0 (Fr (fun q => wa.heap.size ≤ q ∧ q < w3.heap.size) w4 wr')) (fun v52 _ => R - (intOf v52).toNat)
          case atStart => exact ⟨0, rfl, Nat.zero_le _, ⟨by rw [List.take_zero]; exact HSr.out⟩, ⟨by rw [List.take_zero, Nat.add_zero]; exact HNL.out⟩, HFr⟩
          case round =>
            clear HSr HNL HFr hx1
            obtain ⟨j, rfl, hj, HSr, HNL, HFr⟩ := hrel
            by_cases hjl : j < R
            · obtain ⟨_, hC1⟩ := HST.out _ HFr.out
              obtain ⟨gb, ob, e2, _, hrc⟩ := C_ints hC1 (by omega)
              subst e2
              have hjP : j < (c.getD a []).length := by have := HER.out; omega
              have hcb := hrc j hjP
              obtain ⟨b, ex⟩ : ∃ b, b = (c.getD a []).getD j 0 := ⟨_, rfl⟩
              rw [← ex] at hcb
              have hbN : Node c b := by
                refine row_node HV.out (a := (a : Int)) ?_
                show b ∈ c.getD (Int.toNat (a : Int)) []
                rw [Int.toNat_natCast, ex]
                exact getD_mem hjP
              have htake : (c.getD a []).take (j + 1) = (c.getD a []).take j ++ [b] := by rw [ex]; exact take_succ_getD hjP
              obtain ⟨y, rfl⟩ : ∃ y : Nat, b = (y : Int) := ⟨b.toNat, by have := hbN.1; omega⟩
              have hyn : y < n := by have := hbN.2; have := HCN.out; omega
              have HRI := Aside0.mk (R_fr HR4.out HFr.out (fun q e _ h => by have := HGL.out; have := h.1; omega))
              obtain ⟨xa, hxa, exa⟩ := HX.out a hlt
              obtain ⟨xb, hxb, exb⟩ := HX.out y hyn
              have cia := (R_int_cell' HRI.out hlt).1
              have cib := (R_int_cell' HRI.out hyn).1
              rw [exa] at cia
              rw [exb] at cib
              have HXA := Aside0.mk exa
              have HXB := Aside0.mk exb
              have HTK := Aside0.mk htake
              clear ex hrc hC1 htake hbN exa exb
              go_upto_region 19 with (fail)
              by_cases hab : xa = xb
              · subst hab
                go_quiet ((fail))
                go_wp2
                go_roundw
                case rel =>
                  have ef : ((c.getD a []).take (j + 1)).foldl (shrStep inn (a : Int)) (shrSo k inn c a) = ((c.getD a []).take j).foldl (shrStep inn (a : Int)) (shrSo k inn c a) := by
                    rw [HTK.out, List.foldl_append]
                    show shrStep inn (a : Int) _ (y : Int) = _
                    unfold shrStep
                    rw [if_pos (by rw [rdc, rdc, HXA.out, HXB.out])]
                  refine ⟨j + 1, by go_num, by omega, ⟨?_⟩, ⟨?_⟩, ⟨HFr.out.trans (Fr.drewN (fun _ => False) _ _) (fun _ h => h.elim)⟩⟩
                  · rw [ef]; exact Kd.S_drewN HSr.out _
                  · rw [ef]; exact fun q => Nat.le_trans (HNL.out q) (by omega)
                case measure => simp [intOf]; omega
              · have b1 : ((xa : Int) == (xb : Int)) = false := beq_eq_false_iff_ne.2 (by omega)
                have b2 : ((xa : Int) != (xb : Int)) = true := bne_iff_ne.2 (by omega)
                go_quiet ((fail))
                go_upto_region 20 with (fail)
                obtain ⟨xs, exs⟩ : ∃ xs, xs = ((c.getD a []).take j).foldl (shrStep inn (a : Int)) (shrSo k inn c a) := ⟨_, rfl⟩
                rw [← exs] at HSr HNL
                have HXS := Aside0.mk exs
                obtain ⟨Wd, eWd⟩ : ∃ Wd, Wd = wr.drewN nq := ⟨_, rfl⟩
                have HSd : Aside0 (Kd.S dG 32 Wd.drew wa.heap.size (fun q => q < w3.heap.size ∨ w4.heap.size ≤ q) (.slice (some ⟨go, 0, none⟩) k cap) xs) := ⟨by rw [eWd]; exact Kd.S_drew (Kd.S_drewN HSr.out nq)⟩
                have HFd : Aside0 (Fr (fun q => wa.heap.size ≤ q ∧ q < w3.heap.size) w4 Wd.drew) := ⟨by rw [eWd]; exact (HFr.out.trans (Fr.drewN (fun _ => False) _ nq) (fun _ h => h.elim)).trans (Fr.drewN (fun _ => False) _ 1) (fun _ h => h.elim)⟩
                have ga : Wd.cell? ⟨gi, a, none⟩ = some (.int .i64 (xa : Int)) := by rw [eWd]; exact cia
                have gy : Wd.cell? ⟨gi, y, none⟩ = some (.int .i64 (xb : Int)) := by rw [eWd]; exact cib
                have hgd : gi < Wd.heap.size := World.block_lt_of_cell? _ _ ga
                have hsz : w4.heap.size ≤ Wd.drew.heap.size := HFd.out.size
                rw [← eWd]
                have hnew : ∀ q, Wd.drew.heap.size ≤ q → q < w3.heap.size ∨ w4.heap.size ≤ q := fun q hq => .inr (by omega)
                obtain ⟨Ab, cb, hxb_, hob, hokb, hokg, happ⟩ := S_appelem2 HSd.out hnew (j := xa) hxa
                have hnl := HNL.out xa
                have ha9 : a * 100000 ≤ 10000000000 := by
                  have := Nat.mul_le_mul_right 100000 (show a ≤ 100000 by omega)
                  omega
                obtain ⟨mm, emm⟩ : ∃ mm, mm = (xs.getD xa []).length := ⟨_, rfl⟩
                rw [← emm] at hxb_ hnl hob hokb happ
                have hmm : mm ≤ 10000100000 := by omega
                have HOB := Aside0.mk hob
                have HAP := Aside0.mk (And.intro hokb (And.intro hokg happ))
                have HEM := Aside0.mk emm
                have hbase : wa.heap.size ≤ Wd.drew.heap.size := by have := HSZ.out; omega
                have hgo := Kd.S_lt HSd.out go (by simp [Value.ownBlock])
                have gaA : ∀ o, (Wd.alloc o).cell? ⟨gi, a, none⟩ = some (.int .i64 (xa : Int)) := fun o => (World.cell?_alloc_lt Wd o ⟨gi, a, none⟩ hgd).trans ga
                have gyA : ∀ o, (Wd.alloc o).cell? ⟨gi, y, none⟩ = some (.int .i64 (xb : Int)) := fun o => (World.cell?_alloc_lt Wd o ⟨gi, y, none⟩ hgd).trans gy
                have goD : Wd.cell? ⟨go, xa, none⟩ = some (.slice Ab mm cb) := hxb_
                have goA : ∀ o, (Wd.alloc o).cell? ⟨go, xa, none⟩ = some (.slice Ab mm cb) := fun o => (World.cell?_alloc_lt Wd o ⟨go, xa, none⟩ hgo).trans goD
                have HGI : Aside0 (∀ w9, Wd.drew.grownBy w9 (Value.slice Ab mm cb).ownBlock → ∀ j, w9.cell? ⟨gi, j, none⟩ = Wd.cell? ⟨gi, j, none⟩) := ⟨fun w9 hg9 j => by
                  have hb := hg9.block gi hgd (fun e => by
                    have h1 := HAP.out.1 gi e.symm
                    have h2 := own_base HOB.out gi e.symm
                    have h3 := HGL.out
                    omega)
                  have hb' : w9.heap[gi]? = Wd.heap[gi]? := hb
                  simp only [World.cell?, hb']⟩
                have HEF : Aside0 (((c.getD a []).take (j + 1)).foldl (shrStep inn (a : Int)) (shrSo k inn c a) = xs.set xa (xs.getD xa [] ++ [(xb : Int)])) := ⟨by
                  rw [HTK.out, List.foldl_append, ← exs]
                  show shrStep inn (a : Int) xs (y : Int) = _
                  unfold shrStep turnStep
                  rw [if_neg (by rw [rdc, rdc, HXA.out, HXB.out]; omega), rdc, rdc, HXA.out, HXB.out, Int.toNat_natCast]⟩
                have HNF : Aside0 (NoLonger (xs.set xa (xs.getD xa [] ++ [(xb : Int)])) (a * 100000 + (j + 1))) := ⟨by
                  have h1 := (HNL.out.step (a := (xb : Int)) (b := (xa : Int)))
                  unfold turnStep at h1
                  rw [Int.toNat_natCast, Nat.add_assoc] at h1
                  exact h1⟩
                have HFF : Aside0 (∀ w9 u, Wd.drew.grownBy w9 (Value.slice Ab mm cb).ownBlock → Fr (fun q => wa.heap.size ≤ q ∧ q < w3.heap.size) w4 (w9.setCell ⟨go, xa, none⟩ u)) := ⟨fun w9 u hg9 => by
                  refine (HFd.out.grown hg9 (fun q e => ?_)).setCell ?_ _
                  · rcases HAP.out.1 q e with h1 | h1
                    · exact .inl ⟨own_base HOB.out q e, h1⟩
                    · exact .inr h1
                  · rcases HAP.out.2.1 with h1 | h1
                    · exact .inl ⟨Kd.S_base HSd.out go (by simp [Value.ownBlock]), h1⟩
                    · exact .inr h1⟩
                have HGA := Aside0.mk ga
                have HGY := Aside0.mk gy
                clear exs eWd cia cib hnew hob hokb hokg happ hnl ha9 emm hxb_ hgd hsz hgo HSr HFr HRI
                go_region_law (refine step_append_cells (w0 := Wd.drew) (W := Wd.drew) wa.heap.size rfl (.tmp 76) (.tmp 81) 32 3 (.int .i64 0) 1 8 rfl Try.underlying32 info3 rfl (by decide) (by omega) (.slice Ab mm cb) mm _ [.int .i64 (xb : Int)] (by simp [Act.eval]) (by simp [Act.eval]) rfl (fun u hu => by simp at hu; subst hu; rfl) HOB.out (Below.refl _ _) hbase (by omega) ?_; intro v9 w9 ho9 _ hg9 hat9; (obtain ⟨⟨u9, hu9, hf9⟩, hs9⟩ := HAP.out.2.2 w9 v9 (xb : Int) ho9 hg9 hat9); have k1 := (HGI.out w9 hg9 a).trans HGA.out; have k2 := (HGI.out w9 hg9 y).trans HGY.out; have HS9 := Aside0.mk hs9; have HG9 := Aside0.mk hg9; (obtain ⟨A9, c9, rfl⟩ := own_slice ho9); clear ho9 hg9 hat9 hs9)
                all_goals
                  go_wp2
                  go_roundw
                  case rel => exact ⟨j + 1, by go_num, by omega, ⟨by rw [HEF.out]; exact HS9.out⟩, ⟨by rw [HEF.out]; exact HNF.out⟩, ⟨HFF.out _ _ HG9.out⟩⟩
                  case measure => simp [intOf]; omega
            · obtain rfl : j = R := by omega
              clear hjl
              go_wp2
              go_roundw
              case rel =>
                have ef : shrSo k inn c (a + 1) = ((c.getD a []).take j).foldl (shrStep inn (a : Int)) (shrSo k inn c a) := by
                  rw [shrSo, HER.out, List.take_length]
                refine ⟨a + 1, by go_num, by omega, ?_, ?_, HFr⟩
                · rw [ef]; exact HSr
                · rw [ef]
                  refine ⟨fun q => Nat.le_trans (HNL.out q) ?_⟩
                  rw [Nat.succ_mul]
                  omega
              case measure => simp [intOf]; omega
        · obtain rfl : a = n := by omega
          clear hlt
          have hwa : Below w.heap.size w wr := below_fr (pbel_next (pbel_next HBW.out HB3.out) HB4.out) HFr.out (fun q e => Nat.le_trans HBW.out.size e.1) (pbel_next (pbel_next HBW.out HB3.out) HB4.out).size
          have HBR := Aside0.mk hwa
          obtain ⟨xs, exs⟩ : ∃ xs, xs = shrSo k inn c a := ⟨_, rfl⟩
          have HXS : Aside0 (xs = shrB c) := ⟨by rw [exs]; unfold shrB; rw [← HIN.out, ← HP.out, ← HM.out, HCN.out]⟩
          rw [← exs] at HSr
          obtain ⟨hk1, hk2, hk3⟩ := Kd.S_reads' HSr.out
          have HC2 : Aside0 (Calls Try.prog 16 #[.slice (some ⟨go, 0, none⟩) k cap] wr fun e w' => ∃ v0_ : Value, e = .returned v0_ ∧ Kd.S (Kd.slice 3 (Kd.int .i64)) 32 w' wr.heap.size (fun _ => True) v0_ (clean xs) ∧ Below wr.heap.size wr w') := ⟨by
            have h := graph_Clean.calls (some ⟨go, 0, none⟩) cap xs (clean xs) wr hk3 (by rw [← hk1]; exact hk2) (by unfold graph_Clean.f; rw [if_pos (by rw [HXS.out]; exact HF.out.2.1)])
            rw [← hk1] at h
            exact h⟩
          have HRI := Aside0.mk (R_fr HR4.out HFr.out (fun q e _ h => by have := HGL.out; have := h.1; omega))
          clear hwa exs hk1 hk2 hk3
          go_wp2_with (go_at_call 16; refine HC2.out.mono ?_; rintro e w5 ⟨v5, rfl, ho5, hb5⟩; have HO5 := Aside0.mk ho5; have HB5 := Aside0.mk hb5; clear ho5 hb5)
          go_ret2
          refine ⟨_, _, rfl, ?_, ?_, pbel_next HBR.out HB5.out⟩
          · rw [HF.out.2.2.1, ← HXS.out]
            exact Kd.S_lower HO5.out HBR.out.size
          · rw [HF.out.2.2.2, ← HIN.out]
            exact Kd.R_mono (Kd.R_below HRI.out HB5.out) (fun _ _ => trivial)
end Go.Proofs.Ytdknhgbjgdmfkaa.P
namespace Go.Proofs.Ytdknhgbjgdmfkaa.P
open Go.RowKit Go.Proofs.YtdknhgbjgdmfkaaW.PrintWords Go.Proofs.YtdknhgbjgdmfkaaW.PrintLast Go.Proofs.YtdknhgbjgdmfkaaW.PrintMore
attribute [local go_sem] max2_int min2_int max_two min_two max_three min_three max_four min_four
set_option linter.unusedVariables false
set_option linter.unusedSimpArgs false
mutual
def rank_of.l0 : Nat → List (List Int) → List Int → List Int → List (List Int) → Int → Int → Option (List Int)
  | 0, _, _, _, _, _, _ => none
  | k + 1, x0, x3, x4, x21, x22, x23 => if x23 < x22 then (if 0 ≤ x23 then (if x23 < (x21.length : Int) then (rank_of.l1 k x0 x3 x4 x21 x22 x23 (rd_L1 x21 x23) ((rd_L1 x21 x23).length : Int) 0) else (none)) else (none)) else (rank_of.l2 k x0 x3 x4 ([] : List Int) x4 (x4.length : Int) 0)
def rank_of.l1 : Nat → List (List Int) → List Int → List Int → List (List Int) → Int → Int → List Int → Int → Int → Option (List Int)
  | 0, _, _, _, _, _, _, _, _, _ => none
  | k + 1, x0, x3, x4, x21, x22, x23, x27, x28, x29 => if x29 < x28 then (if 0 ≤ x29 then (if x29 < (x27.length : Int) then (if 0 ≤ (rd x27 x29) then (if (rd x27 x29) < (x4.length : Int) then (rank_of.l1 k x0 x3 (x4.set ((rd x27 x29) : Int).toNat (wrap64 ((rd x4 (rd x27 x29)) + 1))) x21 x22 x23 x27 x28 (wrap64 (x29 + 1))) else (none)) else (none)) else (none)) else (none)) else (rank_of.l0 k x0 x3 x4 x21 x22 (wrap64 (x23 + 1)))
def rank_of.l2 : Nat → List (List Int) → List Int → List Int → List Int → List Int → Int → Int → Option (List Int)
  | 0, _, _, _, _, _, _, _ => none
  | k + 1, x0, x3, x4, x9, x41, x42, x43 => if x43 < x42 then (if 0 ≤ x43 then (if x43 < (x41.length : Int) then (if (rd x41 x43) = 0 then (if x9.length < 17592186044416 then (rank_of.l2 k x0 x3 x4 (x9 ++ [x43]) x41 x42 (wrap64 (x43 + 1))) else (none)) else (rank_of.l2 k x0 x3 x4 x9 x41 x42 (wrap64 (x43 + 1)))) else (none)) else (none)) else (rank_of.l3 k x0 x3 x4 x9)
def rank_of.l3 : Nat → List (List Int) → List Int → List Int → List Int → Option (List Int)
  | 0, _, _, _, _ => none
  | k + 1, x0, x3, x4, x9 => if (x9.length : Int) > 0 then (if 0 < (x9.length : Int) then (if 1 ≤ (x9.length : Int) then (if 0 ≤ (rd x9 0) then (if (rd x9 0) < (x0.length : Int) then (rank_of.l4 k x0 x3 x4 (x9.drop (1 : Int).toNat) (rd x9 0) (rd_L1 x0 (rd x9 0)) ((rd_L1 x0 (rd x9 0)).length : Int) 0) else (none)) else (none)) else (none)) else (none)) else (some x3)
def rank_of.l4 : Nat → List (List Int) → List Int → List Int → List Int → Int → List Int → Int → Int → Option (List Int)
  | 0, _, _, _, _, _, _, _, _ => none
  | k + 1, x0, x3, x4, x9, x12, x66, x67, x68 => if x68 < x67 then (if 0 ≤ x68 then (if x68 < (x66.length : Int) then (if 0 ≤ (rd x66 x68) then (if (rd x66 x68) < (x3.length : Int) then (if 0 ≤ x12 then (if x12 < (x3.length : Int) then ((some (x3.set ((rd x66 x68) : Int).toNat (mx (rd x3 (rd x66 x68)) (wrap64 ((rd x3 x12) + 1))) : List Int)).bind fun y434 => (if (rd x66 x68) < (x4.length : Int) then ((some (x4.set ((rd x66 x68) : Int).toNat (wrap64 ((rd x4 (rd x66 x68)) - 1)) : List Int)).bind fun y436 => (if (rd y436 (rd x66 x68)) = 0 then (if x9.length < 17592186044416 then (rank_of.l4 k x0 y434 y436 (x9 ++ [rd x66 x68]) x12 x66 x67 (wrap64 (x68 + 1))) else (none)) else (rank_of.l4 k x0 y434 y436 x9 x12 x66 x67 (wrap64 (x68 + 1))))) else (none))) else (none)) else (none)) else (none)) else (none)) else (none)) else (none)) else (rank_of.l3 k x0 x3 x4 x9)
end
def rank_of.f (k : Nat) (l0 : List (List Int)) : Option (List Int) := if 0 ≤ (l0.length : Int) then (if ((l0.length : Int) : Int).toNat ≤ 35184372088832 then (rank_of.l0 k l0 (List.replicate ((l0.length : Int) : Int).toNat 0) (List.replicate ((l0.length : Int) : Int).toNat 0) l0 (l0.length : Int) 0) else (none)) else (none)
theorem rank_of.mono_l : ∀ k, (∀ y0 y1 y2 y3 y4 y5, LeO (rank_of.l0 k y0 y1 y2 y3 y4 y5) (rank_of.l0 (k + 1) y0 y1 y2 y3 y4 y5)) ∧ (∀ y0 y1 y2 y3 y4 y5 y6 y7 y8, LeO (rank_of.l1 k y0 y1 y2 y3 y4 y5 y6 y7 y8) (rank_of.l1 (k + 1) y0 y1 y2 y3 y4 y5 y6 y7 y8)) ∧ (∀ y0 y1 y2 y3 y4 y5 y6, LeO (rank_of.l2 k y0 y1 y2 y3 y4 y5 y6) (rank_of.l2 (k + 1) y0 y1 y2 y3 y4 y5 y6)) ∧ (∀ y0 y1 y2 y3, LeO (rank_of.l3 k y0 y1 y2 y3) (rank_of.l3 (k + 1) y0 y1 y2 y3)) ∧ (∀ y0 y1 y2 y3 y4 y5 y6 y7, LeO (rank_of.l4 k y0 y1 y2 y3 y4 y5 y6 y7) (rank_of.l4 (k + 1) y0 y1 y2 y3 y4 y5 y6 y7))
  | 0 => ⟨fun _ _ _ _ _ _ r h => by simp [rank_of.l0] at h, fun _ _ _ _ _ _ _ _ _ r h => by simp [rank_of.l1] at h, fun _ _ _ _ _ _ _ r h => by simp [rank_of.l2] at h, fun _ _ _ _ r h => by simp [rank_of.l3] at h, fun _ _ _ _ _ _ _ _ r h => by simp [rank_of.l4] at h⟩
  | k + 1 => by
    obtain ⟨ih0, ih1, ih2, ih3, ih4⟩ := rank_of.mono_l k
    refine ⟨?_, ?_, ?_, ?_, ?_⟩
    · intro y0 y1 y2 y3 y4 y5
      unfold rank_of.l0
      repeat' first
      | (with_reducible exact ih0 _ _ _ _ _ _)
      | (with_reducible exact ih1 _ _ _ _ _ _ _ _ _)
      | (with_reducible exact ih2 _ _ _ _ _ _ _)
      | (with_reducible exact ih3 _ _ _ _)
      | (with_reducible exact ih4 _ _ _ _ _ _ _ _)
      | (with_reducible exact LeO.refl _)
      | (with_reducible exact LeO.none _)
      | (with_reducible refine LeO.ite ?_ ?_)
      | (with_reducible refine LeO.bind ?_ (fun _ => ?_))
      | exact ih0 _ _ _ _ _ _
      | exact ih1 _ _ _ _ _ _ _ _ _
      | exact ih2 _ _ _ _ _ _ _
      | exact ih3 _ _ _ _
      | exact ih4 _ _ _ _ _ _ _ _
      | exact LeO.none _
      | refine LeO.ite ?_ ?_
      | refine LeO.bind ?_ (fun _ => ?_)
    · intro y0 y1 y2 y3 y4 y5 y6 y7 y8
      unfold rank_of.l1
      repeat' first
      | (with_reducible exact ih0 _ _ _ _ _ _)
      | (with_reducible exact ih1 _ _ _ _ _ _ _ _ _)
      | (with_reducible exact ih2 _ _ _ _ _ _ _)
      | (with_reducible exact ih3 _ _ _ _)
      | (with_reducible exact ih4 _ _ _ _ _ _ _ _)
      | (with_reducible exact LeO.refl _)
      | (with_reducible exact LeO.none _)
      | (with_reducible refine LeO.ite ?_ ?_)
      | (with_reducible refine LeO.bind ?_ (fun _ => ?_))
      | exact ih0 _ _ _ _ _ _
      | exact ih1 _ _ _ _ _ _ _ _ _
      | exact ih2 _ _ _ _ _ _ _
      | exact ih3 _ _ _ _
      | exact ih4 _ _ _ _ _ _ _ _
      | exact LeO.none _
      | refine LeO.ite ?_ ?_
      | refine LeO.bind ?_ (fun _ => ?_)
    · intro y0 y1 y2 y3 y4 y5 y6
      unfold rank_of.l2
      repeat' first
      | (with_reducible exact ih0 _ _ _ _ _ _)
      | (with_reducible exact ih1 _ _ _ _ _ _ _ _ _)
      | (with_reducible exact ih2 _ _ _ _ _ _ _)
      | (with_reducible exact ih3 _ _ _ _)
      | (with_reducible exact ih4 _ _ _ _ _ _ _ _)
      | (with_reducible exact LeO.refl _)
      | (with_reducible exact LeO.none _)
      | (with_reducible refine LeO.ite ?_ ?_)
      | (with_reducible refine LeO.bind ?_ (fun _ => ?_))
      | exact ih0 _ _ _ _ _ _
      | exact ih1 _ _ _ _ _ _ _ _ _
      | exact ih2 _ _ _ _ _ _ _
      | exact ih3 _ _ _ _
      | exact ih4 _ _ _ _ _ _ _ _
      | exact LeO.none _
      | refine LeO.ite ?_ ?_
      | refine LeO.bind ?_ (fun _ => ?_)
    · intro y0 y1 y2 y3
      unfold rank_of.l3
      repeat' first
      | (with_reducible exact ih0 _ _ _ _ _ _)
      | (with_reducible exact ih1 _ _ _ _ _ _ _ _ _)
      | (with_reducible exact ih2 _ _ _ _ _ _ _)
      | (with_reducible exact ih3 _ _ _ _)
      | (with_reducible exact ih4 _ _ _ _ _ _ _ _)
      | (with_reducible exact LeO.refl _)
      | (with_reducible exact LeO.none _)
      | (with_reducible refine LeO.ite ?_ ?_)
      | (with_reducible refine LeO.bind ?_ (fun _ => ?_))
      | exact ih0 _ _ _ _ _ _
      | exact ih1 _ _ _ _ _ _ _ _ _
      | exact ih2 _ _ _ _ _ _ _
      | exact ih3 _ _ _ _
      | exact ih4 _ _ _ _ _ _ _ _
      | exact LeO.none _
      | refine LeO.ite ?_ ?_
      | refine LeO.bind ?_ (fun _ => ?_)
    · intro y0 y1 y2 y3 y4 y5 y6 y7
      unfold rank_of.l4
      repeat' first
      | (with_reducible exact ih0 _ _ _ _ _ _)
      | (with_reducible exact ih1 _ _ _ _ _ _ _ _ _)
      | (with_reducible exact ih2 _ _ _ _ _ _ _)
      | (with_reducible exact ih3 _ _ _ _)
      | (with_reducible exact ih4 _ _ _ _ _ _ _ _)
      | (with_reducible exact LeO.refl _)
      | (with_reducible exact LeO.none _)
      | (with_reducible refine LeO.ite ?_ ?_)
      | (with_reducible refine LeO.bind ?_ (fun _ => ?_))
      | exact ih0 _ _ _ _ _ _
      | exact ih1 _ _ _ _ _ _ _ _ _
      | exact ih2 _ _ _ _ _ _ _
      | exact ih3 _ _ _ _
      | exact ih4 _ _ _ _ _ _ _ _
      | exact LeO.none _
      | refine LeO.ite ?_ ?_
      | refine LeO.bind ?_ (fun _ => ?_)
theorem rank_of.mono : ∀ a0 k, LeO (rank_of.f k a0) (rank_of.f (k + 1) a0) := by
  intro a0 k
  obtain ⟨ih0, ih1, ih2, ih3, ih4⟩ := rank_of.mono_l k
  unfold rank_of.f
  repeat' first
      | (with_reducible exact ih0 _ _ _ _ _ _)
      | (with_reducible exact ih1 _ _ _ _ _ _ _ _ _)
      | (with_reducible exact ih2 _ _ _ _ _ _ _)
      | (with_reducible exact ih3 _ _ _ _)
      | (with_reducible exact ih4 _ _ _ _ _ _ _ _)
      | (with_reducible exact LeO.refl _)
      | (with_reducible exact LeO.none _)
      | (with_reducible refine LeO.ite ?_ ?_)
      | (with_reducible refine LeO.bind ?_ (fun _ => ?_))
      | exact ih0 _ _ _ _ _ _
      | exact ih1 _ _ _ _ _ _ _ _ _
      | exact ih2 _ _ _ _ _ _ _
      | exact ih3 _ _ _ _
      | exact ih4 _ _ _ _ _ _ _ _
      | exact LeO.none _
      | refine LeO.ite ?_ ?_
      | refine LeO.bind ?_ (fun _ => ?_)
def rank_of.T25 : Bool × List (List Nat × List Nat) := (true, [([], []), ([], []), ([], []), ([], []), ([2, 3], [2, 3]), ([4], [4]), ([], []), ([], []), ([6, 7], [6, 7]), ([8], [8]), ([9], [9]), ([5, 10], [5, 10]), ([0, 1, 0, 1, 2, 3, 4, 5, 6, 7, 8, 9, 10, 11], [0, 1]), ([12, 11, 0, 1, 2, 3, 4, 5, 6, 7, 8, 9, 10, 11], [11, 12])])
def rank_of.B25 : List Nat := [0, 0, 0, 0, 12, 28, 0, 0, 192, 448, 960, 2044, 4095, 8191]
theorem rank_of.tab25 : rtab .any (opsOf Try.f75 25) = rank_of.T25 := by kernel_rfl
theorem rank_of.bits25 : waitsOk rank_of.T25.2 rank_of.B25 = true := by kernel_rfl
set_option maxHeartbeats 8000000 in
set_option maxRecDepth 100000 in
theorem rank_of.calls (k : Nat) (A0 : Option Addr) (c0 : Nat) (l0 : List (List Int)) (r : List Int) (w : World) (hr0 : Kd.C (Kd.slice 3 (Kd.int .i64)) w A0 l0.length l0) (hc0 : l0.length ≤ c0) (h : rank_of.f k l0 = some r) :
    Calls Try.prog 75 #[.slice A0 l0.length c0] w fun e w' => ∃ v0_ : Value, e = .returned (v0_) ∧ Kd.R (Kd.int .i64) 3 w' w.heap.size (fun _ => True) v0_ r ∧ Below w.heap.size w w' := by
  have HR0 := Aside0.mk hr0
  have HC0 := Aside0.mk hc0
  clear hr0 hc0
  have HB := Aside0.mk (Below.refl w.heap.size w)
  have H : (if 0 ≤ (l0.length : Int) then (if ((l0.length : Int) : Int).toNat ≤ 35184372088832 then (rank_of.l0 k l0 (List.replicate ((l0.length : Int) : Int).toNat 0) (List.replicate ((l0.length : Int) : Int).toNat 0) l0 (l0.length : Int) 0) else (none)) else (none)) = some r := h
  clear h
  by_cases c2 : 0 ≤ (l0.length : Int)
  · rw [if_pos c2] at H
    have c2b0 := eq_true c2
    have c2b1 : decide (0 ≤ (l0.length : Int)) = true := decide_eq_true c2
    clear c2
    by_cases c3 : ((l0.length : Int) : Int).toNat ≤ 35184372088832
    · rw [if_pos c3] at H
      have c3b0 := eq_true c3
      have c3b1 : decide (((l0.length : Int) : Int).toNat ≤ 35184372088832) = true := decide_eq_true c3
      clear c3
      obtain ⟨y412, hy412⟩ : ∃ y_ : List Int, y_ = (List.replicate ((l0.length : Int) : Int).toNat 0) := ⟨_, rfl⟩
      replace H : (rank_of.l0 k l0 y412 (List.replicate ((l0.length : Int) : Int).toNat 0) l0 (l0.length : Int) 0) = some r := by first | (rw [hy412]; with_reducible exact H) | (have H2_ := (Option.bind_some _ _).symm.trans H; rw [hy412]; with_reducible exact H2_) | (have H2_ := (Option.bind_some _ _).symm.trans H; with_reducible exact H2_) | with_reducible exact H | (rw [hy412]; exact H) | exact H
      have Ny412 := Aside0.mk hy412
      clear hy412
      obtain ⟨y415, hy415⟩ : ∃ y_ : List Int, y_ = (List.replicate ((l0.length : Int) : Int).toNat 0) := ⟨_, rfl⟩
      replace H : (rank_of.l0 k l0 y412 y415 l0 (l0.length : Int) 0) = some r := by first | (rw [hy415]; with_reducible exact H) | (have H2_ := (Option.bind_some _ _).symm.trans H; rw [hy415]; with_reducible exact H2_) | (have H2_ := (Option.bind_some _ _).symm.trans H; with_reducible exact H2_) | with_reducible exact H | (rw [hy415]; exact H) | exact H
      have Ny415 := Aside0.mk hy415
      clear hy415
      have H' := Aside0.mk H
      clear H
      go_enter Try.func75, Try.ntmps75
      go_wp2_with (first | ((with_reducible refine gate_dst (N := 17) rfl ?_); refine Kd.R_make (Kd.int .i64) _ 3 rfl (N := 17) rfl 32 _ _ rfl (l0.length : Int) rfl rfl Try.underlying32 (.int .i64 0) 8 info3 rfl (by decide) (by omega) 0 (ok := fun _ => True) (okp := fun _ => True) rfl (fun _ hk => hk) trivial (of_decide_eq_true (by first | (with_reducible assumption) | assumption)) (Nat.le_trans (Nat.mul_le_mul_right _ (of_decide_eq_true (by first | (with_reducible assumption) | assumption) : (l0.length : Int).toNat ≤ 35184372088832)) (by omega)) (Below.refl _ _) (Nat.le_refl _) ?_; intro v413 w4 ho5 hb hg_ hnew_; clear hg_ hnew_; (first | rw [← Ny412.out] at ho5 | (simp only [Int.reduceToNat] at ho5; rw [← Ny412.out] at ho5)); have n0_ := Aside0.mk (Kd.R_lower ho5 (below_size (by repeat (first | (with_reducible first | exact HB.out | apply below_alloc | apply pw_below_drewN | apply below_drew1) | exact HB.out)))); have n1_ := Aside0.mk (below_step (by repeat (first | (with_reducible first | exact HB.out | apply below_alloc | apply pw_below_drewN | apply below_drew1) | exact HB.out)) hb); clear HB; have HO414 := n0_; have HB := n1_; clear n0_ n1_; clear hb ho5) | ((with_reducible refine gate_dst (N := 20) rfl ?_); refine Kd.R_make (Kd.int .i64) _ 3 rfl (N := 20) rfl 32 _ _ rfl (l0.length : Int) rfl rfl Try.underlying32 (.int .i64 0) 8 info3 rfl (by decide) (by omega) 0 (ok := fun _ => True) (okp := fun _ => True) rfl (fun _ hk => hk) trivial (of_decide_eq_true (by first | (with_reducible assumption) | assumption)) (Nat.le_trans (Nat.mul_le_mul_right _ (of_decide_eq_true (by first | (with_reducible assumption) | assumption) : (l0.length : Int).toNat ≤ 35184372088832)) (by omega)) (Below.refl _ _) (Nat.le_refl _) ?_; intro v416 w6 ho7 hb hg_ hnew_; clear hg_ hnew_; (first | rw [← Ny415.out] at ho7 | (simp only [Int.reduceToNat] at ho7; rw [← Ny415.out] at ho7)); have n0_ := Aside0.mk (Kd.R_elder' (by (with_reducible repeat (first | apply Kd.R_alloc | apply Kd.R_drewN | apply Kd.R_drew)); exact HO414.out) (Kd.R_base ho7) hb); have n1_ := Aside0.mk (Kd.R_lower (Kd.R_new' ho7 (Kd.R_lt (by (with_reducible repeat (first | apply Kd.R_alloc | apply Kd.R_drewN | apply Kd.R_drew)); exact HO414.out))) (below_size (by repeat (first | (with_reducible first | exact HB.out | apply below_alloc | apply pw_below_drewN | apply below_drew1) | exact HB.out)))); have n2_ := Aside0.mk (below_step (by repeat (first | (with_reducible first | exact HB.out | apply below_alloc | apply pw_below_drewN | apply below_drew1) | exact HB.out)) hb); clear HO414; clear HB; have HO414 := n0_; have HO417 := n1_; have HB := n2_; clear n0_ n1_ n2_; clear hb ho7))
      go_loopg [23] k (fun kq v23 w' => ∃ (x4_1 : List Int) (x23_1 : Int), v23 = .int .i64 x23_1 ∧ Aside0 (rank_of.l0 kq l0 y412 x4_1 l0 (l0.length : Int) x23_1 = some r) ∧ Aside0 (kq ≤ k) ∧ Aside0 (Kd.R (Kd.int .i64) 3 w' w.heap.size (fun k_ => some k_ ≠ (v416 : Value).ownBlock) v413 y412) ∧ Aside0 (Kd.R (Kd.int .i64) 3 w' w.heap.size (fun k_ => some k_ ≠ (v413 : Value).ownBlock) v416 x4_1) ∧ Aside0 (Below w.heap.size w w'))
      case atStart => exact ⟨(y415), (0), (by first | rfl | (simp; done) | (simp [*]; done)), H', ⟨Nat.le_refl _⟩, ⟨by (with_reducible repeat (first | apply Kd.R_alloc | apply Kd.R_drewN | apply Kd.R_drew)); exact Kd.R_mono HO414.out (fun _ hk => hk.2)⟩, ⟨by (with_reducible repeat (first | apply Kd.R_alloc | apply Kd.R_drewN | apply Kd.R_drew)); exact Kd.R_mono HO417.out (fun _ hk => hk.2)⟩, ⟨by repeat (first | (with_reducible first | exact HB.out | apply below_alloc | apply pw_below_drewN | apply below_drew1) | exact HB.out)⟩⟩
      case round =>
        clear H'
        try clear c2
        try clear c2b0
        try clear c2b1
        try clear p2
        try clear c3
        try clear c3b0
        try clear c3b1
        try clear c7
        obtain ⟨x4_1, x23_1, rfl, HA, HK1, HO_3, HO_4, HB⟩ := hrel
        cases gk with
        | zero => exact absurd HA.out (by simp [rank_of.l0])
        | succ k1 =>
          have H := HA.out
          clear HA
          simp only [rank_of.l0] at H
          by_cases c8 : x23_1 < (l0.length : Int)
          · rw [if_pos c8] at H
            have c8b0 : decide (x23_1 < (l0.length : Int)) = true := decide_eq_true c8
            clear c8
            by_cases c9 : 0 ≤ x23_1
            · rw [if_pos c9] at H
              have c9b0 : decide (0 ≤ x23_1) = true := decide_eq_true c9
              clear c9
              by_cases c10 : x23_1 < (l0.length : Int)
              · rw [if_pos c10] at H
                have c10b0 : decide (x23_1 < (l0.length : Int)) = true := decide_eq_true c10
                clear c10
                have H' := Aside0.mk H
                clear H
                have p418 : 0 ≤ (x23_1 : Int) := of_decide_eq_true (by first | (with_reducible assumption) | assumption)
                have q418 : x23_1 < (l0.length : Int) := of_decide_eq_true (by first | (with_reducible assumption) | assumption)
                obtain ⟨ad418, A418_0, c418_0, e418, hx418_0, hl418_0, hi418_0⟩ := at_L1 HR0.out x23_1 p418 q418
                cases e418
                (try replace hx418_0 := (HB.out.cell (World.block_lt_of_cell? w _ hx418_0)).trans hx418_0)
                have HR418_0 := Aside0.mk hi418_0
                have HC418_0 := Aside0.mk hl418_0
                clear hi418_0 hl418_0
                replace p418 := eq_true p418
                replace q418 := eq_true q418
                go_wp2
                go_loopg [29] k1 (fun kq v29 w' => ∃ (x4_2 : List Int) (x29_2 : Int), v29 = .int .i64 x29_2 ∧ Aside0 (rank_of.l1 kq l0 y412 x4_2 l0 (l0.length : Int) x23_1 (rd_L1 l0 x23_1) ((rd_L1 l0 x23_1).length : Int) x29_2 = some r) ∧ Aside0 (kq ≤ k1) ∧ Aside0 (Kd.R (Kd.int .i64) 3 w' w.heap.size (fun k_ => some k_ ≠ (v416 : Value).ownBlock) v413 y412) ∧ Aside0 (Kd.R (Kd.int .i64) 3 w' w.heap.size (fun k_ => some k_ ≠ (v413 : Value).ownBlock) v416 x4_2) ∧ Aside0 (Below w.heap.size w w'))
                case atStart => exact ⟨(x4_1), (0), (by first | rfl | (simp; done) | (simp [*]; done)), H', ⟨Nat.le_refl _⟩, ⟨by (with_reducible repeat (first | apply Kd.R_alloc | apply Kd.R_drewN | apply Kd.R_drew)); exact HO_3.out⟩, ⟨by (with_reducible repeat (first | apply Kd.R_alloc | apply Kd.R_drewN | apply Kd.R_drew)); exact HO_4.out⟩, ⟨by repeat (first | (with_reducible first | exact HB.out | apply below_alloc | apply pw_below_drewN | apply below_drew1) | exact HB.out)⟩⟩
                case round =>
                  clear H'
                  try clear c1
                  try clear c2
                  try clear c2b0
                  try clear c2b1
                  try clear p2
                  try clear c3
                  try clear c3b0
                  try clear c3b1
                  try clear c4
                  try clear p4
                  try clear q4
                  try clear hx4
                  try clear c7
                  try clear c8
                  try clear c8b0
                  try clear c9
                  try clear c9b0
                  try clear c10
                  try clear c10b0
                  try clear hx418_0
                  try clear p2
                  try clear p418
                  try clear q418
                  obtain ⟨x4_2, x29_2, rfl, HA, HK2, HO_3, HO_4, HB⟩ := hrel
                  cases gk with
                  | zero => exact absurd HA.out (by simp [rank_of.l1])
                  | succ k2 =>
                    have H := HA.out
                    clear HA
                    simp only [rank_of.l1] at H
                    by_cases c11 : x29_2 < ((rd_L1 l0 x23_1).length : Int)
                    · rw [if_pos c11] at H
                      have c11b0 : decide (x29_2 < ((rd_L1 l0 x23_1).length : Int)) = true := decide_eq_true c11
                      clear c11
                      by_cases c12 : 0 ≤ x29_2
                      · rw [if_pos c12] at H
                        have c12b0 : decide (0 ≤ x29_2) = true := decide_eq_true c12
                        clear c12
                        by_cases c13 : x29_2 < ((rd_L1 l0 x23_1).length : Int)
                        · rw [if_pos c13] at H
                          have c13b0 : decide (x29_2 < ((rd_L1 l0 x23_1).length : Int)) = true := decide_eq_true c13
                          clear c13
                          by_cases c14 : 0 ≤ (rd (rd_L1 l0 x23_1) x29_2)
                          · rw [if_pos c14] at H
                            have c14b0 : decide (0 ≤ (rd (rd_L1 l0 x23_1) x29_2)) = true := decide_eq_true c14
                            clear c14
                            by_cases c15 : (rd (rd_L1 l0 x23_1) x29_2) < (x4_2.length : Int)
                            · rw [if_pos c15] at H
                              have c15b0 : decide ((rd (rd_L1 l0 x23_1) x29_2) < (x4_2.length : Int)) = true := decide_eq_true c15
                              clear c15
                              obtain ⟨y421, hy421⟩ : ∃ y_ : List Int, y_ = (x4_2.set ((rd (rd_L1 l0 x23_1) x29_2) : Int).toNat (wrap64 ((rd x4_2 (rd (rd_L1 l0 x23_1) x29_2)) + 1))) := ⟨_, rfl⟩
                              replace H : (rank_of.l1 k2 l0 y412 y421 l0 (l0.length : Int) x23_1 (rd_L1 l0 x23_1) ((rd_L1 l0 x23_1).length : Int) (wrap64 (x29_2 + 1))) = some r := by first | (rw [hy421]; with_reducible exact H) | (have H2_ := (Option.bind_some _ _).symm.trans H; rw [hy421]; with_reducible exact H2_) | (have H2_ := (Option.bind_some _ _).symm.trans H; with_reducible exact H2_) | with_reducible exact H | (rw [hy421]; exact H) | exact H
                              have Ny421 := Aside0.mk hy421
                              clear hy421
                              have H' := Aside0.mk H
                              clear H
                              have p419 : 0 ≤ (x29_2 : Int) := of_decide_eq_true (by first | (with_reducible assumption) | assumption)
                              have q419 : x29_2 < ((rd_L1 l0 x23_1).length : Int) := of_decide_eq_true (by first | (with_reducible assumption) | assumption)
                              obtain ⟨ad419, e419, hx419_0⟩ := Kd.at_int HR418_0.out x29_2 p419 q419
                              cases e419
                              (try replace hx419_0 := (HB.out.cell (World.block_lt_of_cell? w _ hx419_0)).trans hx419_0)
                              replace p419 := eq_true p419
                              replace q419 := eq_true q419
                              obtain ⟨Ao17, co17, eo17⟩ := Kd.R_slice HO_4.out
                              subst eo17
                              have p420 : 0 ≤ ((rd (rd_L1 l0 x23_1) x29_2) : Int) := of_decide_eq_true (by first | (with_reducible assumption) | assumption)
                              have q420 : (rd (rd_L1 l0 x23_1) x29_2) < (x4_2.length : Int) := of_decide_eq_true (by first | (with_reducible assumption) | assumption)
                              obtain ⟨ad420, e420, hx420_0⟩ := Kd.at_int (Kd.R_reads' HO_4.out).2.2 (rd (rd_L1 l0 x23_1) x29_2) p420 q420
                              cases e420
                              replace p420 := eq_true p420
                              replace q420 := eq_true q420
                              have p16 : 0 ≤ ((rd (rd_L1 l0 x23_1) x29_2) : Int) := of_decide_eq_true (by first | (with_reducible assumption) | assumption)
                              have q16 : ((rd (rd_L1 l0 x23_1) x29_2) : Int) < ((x4_2.length : Int) : Int) := of_decide_eq_true (by first | (with_reducible assumption) | assumption)
                              obtain ⟨go16, co16, eo16, gb16, gl16, cl16, HG16⟩ := Kd.R_form HO_4.out (by omega)
                              (first | cases eo16 | (injection eo16 with ea_ en_ ec_; (first | subst ea_ | (injection ea_ with ea_; subst ea_)); subst ec_; clear en_))
                              have GB16 := Aside0.mk gb16
                              have GG16 := Aside0.mk HG16
                              clear gb16 gl16 HG16
                              (first | simp only [add_plain] at hx420_0 | skip)
                              obtain ⟨hx16_0, hf16_0⟩ := Kd.R_celln 0 HO_4.out ((rd (rd_L1 l0 x23_1) x29_2) : Int) p16 q16
                              replace p16 := eq_true p16
                              replace q16 := eq_true q16
                              have HP18 := Kd.R_putg HO_4.out ((rd (rd_L1 l0 x23_1) x29_2) : Int) (wrap64 ((rd x4_2 (rd (rd_L1 l0 x23_1) x29_2)) + 1))
                              go_wp2_with (first | ((with_reducible refine gate_store (t := 3) (p := 38) rfl ?_); refine store_event (t := 3) (p := 38) (v := ?vo_w19) (w1 := (wr.setCell ⟨go16, ((rd (rd_L1 l0 x23_1) x29_2) : Int).toNat, none⟩ (.int .i64 (wrap64 ((rd x4_2 (rd (rd_L1 l0 x23_1) x29_2)) + 1))))) ?hg ?ho ?hn ?hr ?_; (case ho => rfl); (case hg => rfl); (case hn => rfl); (case hr => first | (go_simp; done) | (go_simp; rfl)); intro w19 hw; have hg : wr.grownBy w19 (some go16) := (by rw [hw]; exact HP18.2); have hp_ : Kd.R (Kd.int .i64) 3 w19 w.heap.size (fun k_ => some k_ ≠ (v413 : Value).ownBlock) (.slice (some ⟨go16, 0, none⟩) x4_2.length co17) y421 := (by rw [hw, Ny421.out]; exact HP18.1); clear HP18; have n0_ := Aside0.mk (Kd.R_after (v := (.slice (some ⟨go16, 0, none⟩) x4_2.length co17)) (v1 := (.slice (some ⟨go16, 0, none⟩) x4_2.length co17)) (ok := (fun _ => True)) (by (with_reducible repeat (first | apply Kd.R_alloc | apply Kd.R_drewN | apply Kd.R_drew)); exact Kd.R_mono HO_3.out (fun _ hk => ⟨trivial, hk⟩)) hg (.inl rfl)); have n1_ := Aside0.mk (hp_); have n2_ := Aside0.mk ((by rw [hw]; exact below_set (HB.out) GB16.out : Below w.heap.size w w19)); clear HO_3; clear HO_4; clear HB; have HO_3 := n0_; have HO_4 := n1_; have HB := n2_; clear n0_ n1_ n2_; clear hg hw hp_))
                              go_roundg k2
                              case measure => have := HK1.out; have := HK2.out; omega
                              case rel => exact ⟨(y421), (wrap64 (x29_2 + 1)), (by first | rfl | (simp; done) | (simp [*]; done)), H', ⟨by have := HK1.out; have := HK2.out; omega⟩, ⟨by (with_reducible repeat (first | apply Kd.R_alloc | apply Kd.R_drewN | apply Kd.R_drew)); exact Kd.R_mono HO_3.out (fun _ hk => hk.2)⟩, ⟨by (with_reducible repeat (first | apply Kd.R_alloc | apply Kd.R_drewN | apply Kd.R_drew)); exact HO_4.out⟩, ⟨by repeat (first | (with_reducible first | exact HB.out | apply below_alloc | apply pw_below_drewN | apply below_drew1) | exact HB.out)⟩⟩
                            · rw [if_neg c15] at H
                              exact absurd H (by simp)
                          · rw [if_neg c14] at H
                            exact absurd H (by simp)
                        · rw [if_neg c13] at H
                          exact absurd H (by simp)
                      · rw [if_neg c12] at H
                        exact absurd H (by simp)
                    · rw [if_neg c11] at H
                      have c11b0 : decide (x29_2 < ((rd_L1 l0 x23_1).length : Int)) = false := decide_eq_false c11
                      clear c11
                      have H' := Aside0.mk H
                      clear H
                      go_wp2
                      go_roundg k2
                      case measure => have := HK1.out; have := HK2.out; omega
                      case rel => exact ⟨(x4_2), (wrap64 (x23_1 + 1)), (by first | rfl | (simp; done) | (simp [*]; done)), H', ⟨by have := HK1.out; have := HK2.out; omega⟩, ⟨by (with_reducible repeat (first | apply Kd.R_alloc | apply Kd.R_drewN | apply Kd.R_drew)); exact HO_3.out⟩, ⟨by (with_reducible repeat (first | apply Kd.R_alloc | apply Kd.R_drewN | apply Kd.R_drew)); exact HO_4.out⟩, ⟨by repeat (first | (with_reducible first | exact HB.out | apply below_alloc | apply pw_below_drewN | apply below_drew1) | exact HB.out)⟩⟩
              · rw [if_neg c10] at H
                exact absurd H (by simp)
            · rw [if_neg c9] at H
              exact absurd H (by simp)
          · rw [if_neg c8] at H
            have c8b0 : decide (x23_1 < (l0.length : Int)) = false := decide_eq_false c8
            clear c8
            have H' := Aside0.mk H
            clear H
            obtain ⟨Ao20, co20, eo20⟩ := Kd.R_slice HO_4.out
            subst eo20
            go_wp2
            go_loopg [9, 43] k1 (fun kq v9 v43 w' => ∃ (x9_2 : List Int) (x43_2 : Int), v43 = .int .i64 x43_2 ∧ Aside0 (rank_of.l2 kq l0 y412 x4_1 x9_2 x4_1 (x4_1.length : Int) x43_2 = some r) ∧ Aside0 (kq ≤ k1) ∧ Aside0 (Kd.R (Kd.int .i64) 3 w' w.heap.size (fun k_ => some k_ ≠ ((.slice Ao20 x4_1.length co20) : Value).ownBlock ∧ some k_ ≠ (v9 : Value).ownBlock ∧ some k_ ≠ ((.slice Ao20 x4_1.length co20) : Value).ownBlock) v413 y412) ∧ Aside0 (Kd.R (Kd.int .i64) 3 w' w.heap.size (fun k_ => some k_ ≠ (v413 : Value).ownBlock ∧ some k_ ≠ (v9 : Value).ownBlock) (.slice Ao20 x4_1.length co20) x4_1) ∧ Aside0 (Kd.Q (Kd.int .i64) 3 w' w.heap.size (fun k_ => some k_ ≠ (v413 : Value).ownBlock ∧ some k_ ≠ ((.slice Ao20 x4_1.length co20) : Value).ownBlock ∧ some k_ ≠ ((.slice Ao20 x4_1.length co20) : Value).ownBlock) v9 x9_2) ∧ Aside0 (Kd.R (Kd.int .i64) 3 w' w.heap.size (fun k_ => some k_ ≠ (v413 : Value).ownBlock ∧ some k_ ≠ (v9 : Value).ownBlock) (.slice Ao20 x4_1.length co20) x4_1) ∧ Aside0 (Below w.heap.size w w'))
            case atStart => exact ⟨(([] : List Int)), (0), (by first | rfl | (simp; done) | (simp [*]; done)), H', ⟨Nat.le_refl _⟩, ⟨by (with_reducible repeat (first | apply Kd.R_alloc | apply Kd.R_drewN | apply Kd.R_drew)); exact Kd.R_mono HO_3.out (fun _ hk => ⟨hk, ⟨(by simp [Value.ownBlock]), hk⟩⟩)⟩, ⟨by (with_reducible repeat (first | apply Kd.R_alloc | apply Kd.R_drewN | apply Kd.R_drew)); exact Kd.R_mono HO_4.out (fun _ hk => ⟨hk, (by simp [Value.ownBlock])⟩)⟩, ⟨Kd.Q_of_R (by first | exact Kd.R_nil _ _ _ _ _ | exact Kd.N_nil _ _ _ _ _ | exact Kd.V_nil _ _ _ _ _ | exact Kd.Q_nil _ _ _ _ _ | exact Kd.S_nil _ _ _ _ _)⟩, ⟨by (with_reducible repeat (first | apply Kd.R_alloc | apply Kd.R_drewN | apply Kd.R_drew)); exact Kd.R_mono HO_4.out (fun _ hk => ⟨hk, (by simp [Value.ownBlock])⟩)⟩, ⟨by repeat (first | (with_reducible first | exact HB.out | apply below_alloc | apply pw_below_drewN | apply below_drew1) | exact HB.out)⟩⟩
            case round =>
              clear H'
              try clear c1
              try clear p1
              try clear q1
              try clear hx1
              try clear hf1
              try clear c2
              try clear c2b0
              try clear c2b1
              try clear p2
              try clear c3
              try clear c3b0
              try clear c3b1
              try clear c4
              try clear p4
              try clear q4
              try clear hx4
              try clear p6
              try clear c7
              try clear c8
              try clear c8b0
              try clear c9
              try clear c9b0
              try clear c10
              try clear c10b0
              try clear c11
              try clear c11b0
              try clear c12
              try clear c12b0
              try clear c13
              try clear c13b0
              try clear c14
              try clear c14b0
              try clear c15
              try clear c15b0
              try clear p16
              try clear q16
              try clear hx16
              try clear hf16
              try clear hx16_0
              try clear hx418_0
              try clear hx419_0
              try clear hx420_0
              try clear p16
              try clear p2
              try clear p4
              try clear p418
              try clear p419
              try clear p420
              try clear q16
              try clear q4
              try clear q418
              try clear q419
              try clear q420
              obtain ⟨x9_2, x43_2, rfl, HA, HK2, HO_3, HO_4, HO_9, HO_41, HB⟩ := hrel
              cases gk with
              | zero => exact absurd HA.out (by simp [rank_of.l2])
              | succ k2 =>
                have H := HA.out
                clear HA
                simp only [rank_of.l2] at H
                by_cases c21 : x43_2 < (x4_1.length : Int)
                · rw [if_pos c21] at H
                  have c21b0 : decide (x43_2 < (x4_1.length : Int)) = true := decide_eq_true c21
                  clear c21
                  by_cases c22 : 0 ≤ x43_2
                  · rw [if_pos c22] at H
                    have c22b0 : decide (0 ≤ x43_2) = true := decide_eq_true c22
                    clear c22
                    by_cases c23 : x43_2 < (x4_1.length : Int)
                    · rw [if_pos c23] at H
                      have c23b0 : decide (x43_2 < (x4_1.length : Int)) = true := decide_eq_true c23
                      clear c23
                      by_cases c24 : (rd x4_1 x43_2) = 0
                      · rw [if_pos c24] at H
                        have c24b0 : ((rd x4_1 x43_2) == 0) = true := beq_iff_eq.mpr c24
                        have c24b1 : ((rd x4_1 x43_2) != 0) = false := bne_eq_false_iff_eq.mpr c24
                        clear c24
                        by_cases c25 : x9_2.length < 17592186044416
                        · rw [if_pos c25] at H
                          have LMc25 := Aside0.mk c25
                          clear c25
                          obtain ⟨y423, hy423⟩ : ∃ y_ : List Int, y_ = (x9_2 ++ [x43_2]) := ⟨_, rfl⟩
                          replace H : (rank_of.l2 k2 l0 y412 x4_1 y423 x4_1 (x4_1.length : Int) (wrap64 (x43_2 + 1))) = some r := by first | (rw [hy423]; with_reducible exact H) | (have H2_ := (Option.bind_some _ _).symm.trans H; rw [hy423]; with_reducible exact H2_) | (have H2_ := (Option.bind_some _ _).symm.trans H; with_reducible exact H2_) | with_reducible exact H | (rw [hy423]; exact H) | exact H
                          have Ny423 := Aside0.mk hy423
                          clear hy423
                          have H' := Aside0.mk H
                          clear H
                          have p422 : 0 ≤ (x43_2 : Int) := of_decide_eq_true (by first | (with_reducible assumption) | assumption)
                          have q422 : x43_2 < (x4_1.length : Int) := of_decide_eq_true (by first | (with_reducible assumption) | assumption)
                          obtain ⟨ad422, e422, hx422_0⟩ := Kd.at_int (Kd.R_reads' HO_41.out).2.2 x43_2 p422 q422
                          cases e422
                          replace p422 := eq_true p422
                          replace q422 := eq_true q422
                          go_wp2_with (first | ((with_reducible refine gate_builtin (b := .append) (xs := #[.tmp 50, .tmp 52]) rfl ?_); at_builtin; refine Kd.Q_append (Kd.int .i64) (w0 := w) w.heap.size rfl (.tmp 50) (.tmp 52) 32 3 (.int .i64 0) 8 rfl Try.underlying32 info3 rfl (by decide) (by omega) u9 x9_2 x43_2 [.int .i64 x43_2] (fun k_ => some k_ ≠ (v413 : Value).ownBlock ∧ some k_ ≠ (.slice (some ad422) x4_1.length co20 : Value).ownBlock ∧ some k_ ≠ (.slice (some ad422) x4_1.length co20 : Value).ownBlock) (fun _ => False) rfl rfl ?aP (fun _ hk => hk.elim) ?aF ?aO ?aB ?aS ?aL ?_; (case aP => exact rfl); (case aB => exact (by repeat (first | (with_reducible first | exact HB.out | apply below_alloc | apply pw_below_drewN | apply below_drew1) | exact HB.out))); (case aF => exact (fun k_ hk => ⟨Kd.fresh' (Kd.R_lt (by (with_reducible repeat (first | apply Kd.R_alloc | apply Kd.R_drewN | apply Kd.R_drew)); exact HO_3.out)) k_ hk, Kd.fresh' (Kd.R_lt (by (with_reducible repeat (first | apply Kd.R_alloc | apply Kd.R_drewN | apply Kd.R_drew)); exact HO_4.out)) k_ hk, Kd.fresh' (Kd.R_lt (by (with_reducible repeat (first | apply Kd.R_alloc | apply Kd.R_drewN | apply Kd.R_drew)); exact HO_41.out)) k_ hk⟩)); (case aO => exact (by (with_reducible repeat (first | apply Kd.Q_alloc | apply Kd.Q_drewN | apply Kd.Q_drew)); exact HO_9.out)); (case aS => exact (below_size (by repeat (first | (with_reducible first | exact HB.out | apply below_alloc | apply pw_below_drewN | apply below_drew1) | exact HB.out)))); (case aL => have := LMc25.out; omega); intro v424 w26 ho hb hg hat; rw [← Ny423.out] at ho; have n0_ := Aside0.mk (Kd.R_after (ok := (fun k_ => some k_ ≠ (.slice (some ad422) x4_1.length co20 : Value).ownBlock ∧ some k_ ≠ (.slice (some ad422) x4_1.length co20 : Value).ownBlock)) (by (with_reducible repeat (first | apply Kd.R_alloc | apply Kd.R_drewN | apply Kd.R_drew)); exact Kd.R_mono HO_3.out (fun _ hk => ⟨⟨hk.1, hk.2.2⟩, hk.2.1⟩)) hg hat); have n1_ := Aside0.mk (Kd.R_after (ok := (fun k_ => some k_ ≠ (v413 : Value).ownBlock)) (by (with_reducible repeat (first | apply Kd.R_alloc | apply Kd.R_drewN | apply Kd.R_drew)); exact HO_4.out) hg hat); have n2_ := Aside0.mk (Kd.R_after (ok := (fun k_ => some k_ ≠ (v413 : Value).ownBlock)) (by (with_reducible repeat (first | apply Kd.R_alloc | apply Kd.R_drewN | apply Kd.R_drew)); exact HO_41.out) hg hat); have n3_ := Aside0.mk (hb); have n4_ := Aside0.mk (ho); clear HO_3; clear HO_4; clear HO_41; clear HB; clear HO_9; have HO_3 := n0_; have HO_4 := n1_; have HO_41 := n2_; have HB := n3_; have HO425 := n4_; clear n0_ n1_ n2_ n3_ n4_; clear ho hb hg hat))
                          go_roundg k2
                          case measure => have := HK1.out; have := HK2.out; omega
                          case rel => exact ⟨(y423), (wrap64 (x43_2 + 1)), (by first | rfl | (simp; done) | (simp [*]; done)), H', ⟨by have := HK1.out; have := HK2.out; omega⟩, ⟨by (with_reducible repeat (first | apply Kd.R_alloc | apply Kd.R_drewN | apply Kd.R_drew)); exact Kd.R_mono HO_3.out (fun _ hk => ⟨hk.1.1, ⟨hk.2, hk.1.2⟩⟩)⟩, ⟨by (with_reducible repeat (first | apply Kd.R_alloc | apply Kd.R_drewN | apply Kd.R_drew)); exact HO_4.out⟩, ⟨by (with_reducible repeat (first | apply Kd.Q_alloc | apply Kd.Q_drewN | apply Kd.Q_drew)); exact HO425.out⟩, ⟨by (with_reducible repeat (first | apply Kd.R_alloc | apply Kd.R_drewN | apply Kd.R_drew)); exact HO_41.out⟩, ⟨by repeat (first | (with_reducible first | exact HB.out | apply below_alloc | apply pw_below_drewN | apply below_drew1) | exact HB.out)⟩⟩
                        · rw [if_neg c25] at H
                          exact absurd H (by simp)
                      · rw [if_neg c24] at H
                        have c24b0 : ((rd x4_1 x43_2) == 0) = false := beq_eq_false_iff_ne.mpr c24
                        have c24b1 : ((rd x4_1 x43_2) != 0) = true := bne_iff_ne.mpr c24
                        have H' := Aside0.mk H
                        clear H
                        have p422 : 0 ≤ (x43_2 : Int) := of_decide_eq_true (by first | (with_reducible assumption) | assumption)
                        have q422 : x43_2 < (x4_1.length : Int) := of_decide_eq_true (by first | (with_reducible assumption) | assumption)
                        obtain ⟨ad422, e422, hx422_0⟩ := Kd.at_int (Kd.R_reads' HO_41.out).2.2 x43_2 p422 q422
                        cases e422
                        replace p422 := eq_true p422
                        replace q422 := eq_true q422
                        go_wp2
                        go_roundg k2
                        case measure => have := HK1.out; have := HK2.out; omega
                        case rel => exact ⟨(x9_2), (wrap64 (x43_2 + 1)), (by first | rfl | (simp; done) | (simp [*]; done)), H', ⟨by have := HK1.out; have := HK2.out; omega⟩, ⟨by (with_reducible repeat (first | apply Kd.R_alloc | apply Kd.R_drewN | apply Kd.R_drew)); exact HO_3.out⟩, ⟨by (with_reducible repeat (first | apply Kd.R_alloc | apply Kd.R_drewN | apply Kd.R_drew)); exact HO_4.out⟩, ⟨by (with_reducible repeat (first | apply Kd.Q_alloc | apply Kd.Q_drewN | apply Kd.Q_drew)); exact HO_9.out⟩, ⟨by (with_reducible repeat (first | apply Kd.R_alloc | apply Kd.R_drewN | apply Kd.R_drew)); exact HO_41.out⟩, ⟨by repeat (first | (with_reducible first | exact HB.out | apply below_alloc | apply pw_below_drewN | apply below_drew1) | exact HB.out)⟩⟩
                    · rw [if_neg c23] at H
                      exact absurd H (by simp)
                  · rw [if_neg c22] at H
                    exact absurd H (by simp)
                · rw [if_neg c21] at H
                  have c21b0 : decide (x43_2 < (x4_1.length : Int)) = false := decide_eq_false c21
                  clear c21
                  have H' := Aside0.mk H
                  clear H
                  go_wp2
                  go_loopg [9] k2 (fun kq v9 w' => ∃ (x3_3 : List Int) (x4_3 : List Int) (x9_3 : List Int), Aside0 (rank_of.l3 kq l0 x3_3 x4_3 x9_3 = some r) ∧ Aside0 (kq ≤ k2) ∧ Aside0 (Kd.R (Kd.int .i64) 3 w' w.heap.size (fun k_ => some k_ ≠ ((.slice Ao20 x4_1.length co20) : Value).ownBlock ∧ some k_ ≠ (v9 : Value).ownBlock) v413 x3_3) ∧ Aside0 (Kd.R (Kd.int .i64) 3 w' w.heap.size (fun k_ => some k_ ≠ (v413 : Value).ownBlock ∧ some k_ ≠ (v9 : Value).ownBlock) (.slice Ao20 x4_1.length co20) x4_3) ∧ Aside0 (Kd.Q (Kd.int .i64) 3 w' w.heap.size (fun k_ => some k_ ≠ (v413 : Value).ownBlock ∧ some k_ ≠ ((.slice Ao20 x4_1.length co20) : Value).ownBlock) v9 x9_3) ∧ Aside0 (Below w.heap.size w w'))
                  case atStart => exact ⟨(y412), (x4_1), (x9_2), H', ⟨Nat.le_refl _⟩, ⟨by (with_reducible repeat (first | apply Kd.R_alloc | apply Kd.R_drewN | apply Kd.R_drew)); exact Kd.R_mono HO_3.out (fun _ hk => ⟨hk.1, hk.2.1⟩)⟩, ⟨by (with_reducible repeat (first | apply Kd.R_alloc | apply Kd.R_drewN | apply Kd.R_drew)); exact HO_4.out⟩, ⟨by (with_reducible repeat (first | apply Kd.Q_alloc | apply Kd.Q_drewN | apply Kd.Q_drew)); exact Kd.Q_mono HO_9.out (fun _ hk => ⟨hk.1, hk.2.1⟩)⟩, ⟨by repeat (first | (with_reducible first | exact HB.out | apply below_alloc | apply pw_below_drewN | apply below_drew1) | exact HB.out)⟩⟩
                  case round =>
                    clear H'
                    try clear c1
                    try clear p1
                    try clear q1
                    try clear hx1
                    try clear hf1
                    try clear c2
                    try clear c2b0
                    try clear c2b1
                    try clear p2
                    try clear c3
                    try clear c3b0
                    try clear c3b1
                    try clear c4
                    try clear p4
                    try clear q4
                    try clear hx4
                    try clear p6
                    try clear c7
                    try clear c8
                    try clear c8b0
                    try clear c9
                    try clear c9b0
                    try clear c10
                    try clear c10b0
                    try clear c11
                    try clear c11b0
                    try clear c12
                    try clear c12b0
                    try clear c13
                    try clear c13b0
                    try clear c14
                    try clear c14b0
                    try clear c15
                    try clear c15b0
                    try clear p16
                    try clear q16
                    try clear hx16
                    try clear hf16
                    try clear c21
                    try clear c21b0
                    try clear c22
                    try clear c22b0
                    try clear c23
                    try clear c23b0
                    try clear c24
                    try clear c24b0
                    try clear c24b1
                    try clear c25
                    try clear hx16_0
                    try clear hx418_0
                    try clear hx419_0
                    try clear hx420_0
                    try clear hx422_0
                    try clear p1
                    try clear p16
                    try clear p2
                    try clear p4
                    try clear p418
                    try clear p419
                    try clear p420
                    try clear p422
                    try clear p6
                    try clear q1
                    try clear q16
                    try clear q4
                    try clear q418
                    try clear q419
                    try clear q420
                    try clear q422
                    obtain ⟨x3_3, x4_3, x9_3, HA, HK3, HO_3, HO_4, HO_9, HB⟩ := hrel
                    have hl4_3 := (Kd.R_reads' HO_4.out).1
                    rw [hl4_3] at HO_4
                    (try simp only [hl4_3])
                    (try simp only [hl4_3] at HO_3)
                    (try simp only [hl4_3] at HO_9)
                    cases gk with
                    | zero => exact absurd HA.out (by simp [rank_of.l3])
                    | succ k3 =>
                      have H := HA.out
                      clear HA
                      simp only [rank_of.l3] at H
                      by_cases c27 : (x9_3.length : Int) > 0
                      · rw [if_pos c27] at H
                        have c27b0 : decide (0 < (x9_3.length : Int)) = true := decide_eq_true c27
                        have c27b1 : decide (0 < x9_3.length) = true := decide_eq_true (by omega)
                        clear c27
                        by_cases c28 : 0 < (x9_3.length : Int)
                        · rw [if_pos c28] at H
                          have c28b0 : decide (0 < (x9_3.length : Int)) = true := decide_eq_true c28
                          have c28b1 : decide (0 < x9_3.length) = true := decide_eq_true (by omega)
                          clear c28
                          by_cases c29 : 1 ≤ (x9_3.length : Int)
                          · rw [if_pos c29] at H
                            have c29b0 := eq_true c29
                            have c29b1 : decide (1 ≤ (x9_3.length : Int)) = true := decide_eq_true c29
                            clear c29
                            obtain ⟨y427, hy427⟩ : ∃ y_ : List Int, y_ = (x9_3.drop (1 : Int).toNat) := ⟨_, rfl⟩
                            replace H : (if 0 ≤ (rd x9_3 0) then (if (rd x9_3 0) < (l0.length : Int) then (rank_of.l4 k3 l0 x3_3 x4_3 y427 (rd x9_3 0) (rd_L1 l0 (rd x9_3 0)) ((rd_L1 l0 (rd x9_3 0)).length : Int) 0) else (none)) else (none)) = some r := by first | (rw [hy427]; with_reducible exact H) | (have H2_ := (Option.bind_some _ _).symm.trans H; rw [hy427]; with_reducible exact H2_) | (have H2_ := (Option.bind_some _ _).symm.trans H; with_reducible exact H2_) | with_reducible exact H | (rw [hy427]; exact H) | exact H
                            have Ny427 := Aside0.mk hy427
                            clear hy427
                            by_cases c30 : 0 ≤ (rd x9_3 0)
                            · rw [if_pos c30] at H
                              have c30b0 : decide (0 ≤ (rd x9_3 0)) = true := decide_eq_true c30
                              clear c30
                              by_cases c31 : (rd x9_3 0) < (l0.length : Int)
                              · rw [if_pos c31] at H
                                have c31b0 : decide ((rd x9_3 0) < (l0.length : Int)) = true := decide_eq_true c31
                                clear c31
                                have H' := Aside0.mk H
                                clear H
                                obtain ⟨Ao32, co32, eo32, _⟩ := Kd.Q_slice HO_9.out
                                subst eo32
                                have p426 : 0 ≤ (0 : Int) := (by omega)
                                have q426 : 0 < (x9_3.length : Int) := of_decide_eq_true (by first | (with_reducible assumption) | assumption)
                                obtain ⟨ad426, e426, hx426_0⟩ := Kd.at_int (Kd.Q_reads' HO_9.out).2.2 0 p426 q426
                                cases e426
                                have qi426 : (0 < x9_3.length) = True := eq_true (by omega)
                                (try rw [show ((0 : Int)).toNat = 0 from rfl] at hx426_0)
                                (try rw [Addr.add_zero'] at hx426_0)
                                replace p426 := eq_true p426
                                replace q426 := eq_true q426
                                have q33 : (1 : Int) ≤ ((x9_3.length : Int) : Int) := of_decide_eq_true (by first | (with_reducible assumption) | assumption)
                                obtain ⟨i033, hi033, _, hsz33, _⟩ := info_parts info3
                                have hcut33 := cut_from (P := Try.prog) 32 3 .i64 Try.underlying32 hi033 1 hsz33 (some ad426) x9_3.length co32 1 (by omega) q33
                                have hr33 := Kd.Q_drop (k := (1 : Int).toNat) HO_9.out (by omega)
                                obtain ⟨A33, hA33⟩ : ∃ A1, A1 = (if co32 = (1 : Int).toNat then (some ad426) else ((some ad426) : Option Addr).map (·.add ((1 : Int).toNat * 1))) := ⟨_, rfl⟩
                                obtain ⟨c33, hc33⟩ : ∃ c1, c1 = co32 - (1 : Int).toNat := ⟨_, rfl⟩
                                have hy33 : y427.length = x9_3.length - (1 : Int).toNat := (by rw [Ny427.out, List.length_drop])
                                rw [← Ny427.out] at hr33
                                rw [← hy33, ← hA33, ← hc33] at hcut33
                                replace hr33 : Kd.Q (Kd.int .i64) 3 wr w.heap.size (fun k_ => some k_ ≠ (v413 : Value).ownBlock ∧ some k_ ≠ (.slice Ao20 x4_3.length co20 : Value).ownBlock) (.slice A33 y427.length c33) y427 := (by rw [hA33, hc33, hy33]; exact hr33)
                                have HE33 : Aside0 ((Value.slice A33 y427.length c33).ownBlock = (.slice (some ad426) x9_3.length co32 : Value).ownBlock) := ⟨by rw [hA33]; split <;> (cases ((some ad426) : Option Addr) <;> rfl)⟩
                                clear hy33 hi033 hsz33 HO_9 hA33 hc33
                                have HO429 := Aside0.mk hr33
                                clear hr33
                                replace q33 := eq_true q33
                                have n_ := Aside0.mk (Kd.R_mono (ok' := fun k_ => (some k_ ≠ (.slice Ao20 x4_3.length co20 : Value).ownBlock ∧ some k_ ≠ (.slice A33 y427.length c33 : Value).ownBlock)) HO_3.out (fun k_ hk => ⟨hk.1, (by rw [HE33.out]; exact hk.2)⟩))
                                clear HO_3
                                have HO_3 := n_
                                clear n_
                                have n_ := Aside0.mk (Kd.R_mono (ok' := fun k_ => (some k_ ≠ (v413 : Value).ownBlock ∧ some k_ ≠ (.slice A33 y427.length c33 : Value).ownBlock)) HO_4.out (fun k_ hk => ⟨hk.1, (by rw [HE33.out]; exact hk.2)⟩))
                                clear HO_4
                                have HO_4 := n_
                                clear n_
                                have p430 : 0 ≤ ((rd x9_3 0) : Int) := of_decide_eq_true (by first | (with_reducible assumption) | assumption)
                                have q430 : (rd x9_3 0) < (l0.length : Int) := of_decide_eq_true (by first | (with_reducible assumption) | assumption)
                                obtain ⟨ad430, A430_0, c430_0, e430, hx430_0, hl430_0, hi430_0⟩ := at_L1 HR0.out (rd x9_3 0) p430 q430
                                cases e430
                                (try replace hx430_0 := (HB.out.cell (World.block_lt_of_cell? w _ hx430_0)).trans hx430_0)
                                have HR430_0 := Aside0.mk hi430_0
                                have HC430_0 := Aside0.mk hl430_0
                                clear hi430_0 hl430_0
                                replace p430 := eq_true p430
                                replace q430 := eq_true q430
                                go_wp2
                                go_loopg [9, 68] k3 (fun kq v9 v68 w' => ∃ (x3_4 : List Int) (x4_4 : List Int) (x9_4 : List Int) (x68_4 : Int), v68 = .int .i64 x68_4 ∧ Aside0 (rank_of.l4 kq l0 x3_4 x4_4 x9_4 (rd x9_3 0) (rd_L1 l0 (rd x9_3 0)) ((rd_L1 l0 (rd x9_3 0)).length : Int) x68_4 = some r) ∧ Aside0 (kq ≤ k3) ∧ Aside0 (Kd.R (Kd.int .i64) 3 w' w.heap.size (fun k_ => some k_ ≠ ((.slice Ao20 x4_3.length co20) : Value).ownBlock ∧ some k_ ≠ (v9 : Value).ownBlock) v413 x3_4) ∧ Aside0 (Kd.R (Kd.int .i64) 3 w' w.heap.size (fun k_ => some k_ ≠ (v413 : Value).ownBlock ∧ some k_ ≠ (v9 : Value).ownBlock) (.slice Ao20 x4_3.length co20) x4_4) ∧ Aside0 (Kd.Q (Kd.int .i64) 3 w' w.heap.size (fun k_ => some k_ ≠ (v413 : Value).ownBlock ∧ some k_ ≠ ((.slice Ao20 x4_3.length co20) : Value).ownBlock) v9 x9_4) ∧ Aside0 (Below w.heap.size w w'))
                                case atStart => exact ⟨(x3_3), (x4_3), (y427), (0), (by first | rfl | (simp; done) | (simp [*]; done)), H', ⟨Nat.le_refl _⟩, ⟨by (try simp only [hl4_3]); (with_reducible repeat (first | apply Kd.R_alloc | apply Kd.R_drewN | apply Kd.R_drew)); exact HO_3.out⟩, ⟨by (try simp only [hl4_3]); (with_reducible repeat (first | apply Kd.R_alloc | apply Kd.R_drewN | apply Kd.R_drew)); exact HO_4.out⟩, ⟨by (try simp only [hl4_3]); (with_reducible repeat (first | apply Kd.Q_alloc | apply Kd.Q_drewN | apply Kd.Q_drew)); exact HO429.out⟩, ⟨by repeat (first | (with_reducible first | exact HB.out | apply below_alloc | apply pw_below_drewN | apply below_drew1) | exact HB.out)⟩⟩
                                case round =>
                                  clear H'
                                  try clear c1
                                  try clear p1
                                  try clear q1
                                  try clear hx1
                                  try clear hf1
                                  try clear c2
                                  try clear c2b0
                                  try clear c2b1
                                  try clear p2
                                  try clear c3
                                  try clear c3b0
                                  try clear c3b1
                                  try clear q3
                                  try clear c4
                                  try clear p4
                                  try clear q4
                                  try clear hx4
                                  try clear qi4
                                  try clear p6
                                  try clear c7
                                  try clear c8
                                  try clear c8b0
                                  try clear c9
                                  try clear c9b0
                                  try clear c10
                                  try clear c10b0
                                  try clear c11
                                  try clear c11b0
                                  try clear c12
                                  try clear c12b0
                                  try clear c13
                                  try clear c13b0
                                  try clear c14
                                  try clear c14b0
                                  try clear c15
                                  try clear c15b0
                                  try clear p16
                                  try clear q16
                                  try clear hx16
                                  try clear hf16
                                  try clear c21
                                  try clear c21b0
                                  try clear c22
                                  try clear c22b0
                                  try clear c23
                                  try clear c23b0
                                  try clear c24
                                  try clear c24b0
                                  try clear c24b1
                                  try clear c25
                                  try clear c27
                                  try clear c27b0
                                  try clear c27b1
                                  try clear c28
                                  try clear c28b0
                                  try clear c28b1
                                  try clear c29
                                  try clear c29b0
                                  try clear c29b1
                                  try clear c30
                                  try clear c30b0
                                  try clear c31
                                  try clear c31b0
                                  try clear c33
                                  try clear q33
                                  try clear hx16_0
                                  try clear hx418_0
                                  try clear hx419_0
                                  try clear hx420_0
                                  try clear hx422_0
                                  try clear hx426_0
                                  try clear hx430_0
                                  try clear p1
                                  try clear p16
                                  try clear p2
                                  try clear p4
                                  try clear p418
                                  try clear p419
                                  try clear p420
                                  try clear p422
                                  try clear p426
                                  try clear p430
                                  try clear p6
                                  try clear q1
                                  try clear q16
                                  try clear q33
                                  try clear q4
                                  try clear q418
                                  try clear q419
                                  try clear q420
                                  try clear q422
                                  try clear q426
                                  try clear q430
                                  obtain ⟨x3_4, x4_4, x9_4, x68_4, rfl, HA, HK4, HO_3, HO_4, HO_9, HB⟩ := hrel
                                  have hl4_4 := (Kd.R_reads' HO_4.out).1
                                  rw [hl4_4] at HO_4
                                  (try simp only [hl4_4])
                                  (try simp only [hl4_4] at HO_3)
                                  (try simp only [hl4_4] at HO_9)
                                  cases gk with
                                  | zero => exact absurd HA.out (by simp [rank_of.l4])
                                  | succ k4 =>
                                    have H := HA.out
                                    clear HA
                                    simp only [rank_of.l4] at H
                                    by_cases c34 : x68_4 < ((rd_L1 l0 (rd x9_3 0)).length : Int)
                                    · rw [if_pos c34] at H
                                      have c34b0 : decide (x68_4 < ((rd_L1 l0 (rd x9_3 0)).length : Int)) = true := decide_eq_true c34
                                      clear c34
                                      by_cases c35 : 0 ≤ x68_4
                                      · rw [if_pos c35] at H
                                        have c35b0 : decide (0 ≤ x68_4) = true := decide_eq_true c35
                                        clear c35
                                        by_cases c36 : x68_4 < ((rd_L1 l0 (rd x9_3 0)).length : Int)
                                        · rw [if_pos c36] at H
                                          have c36b0 : decide (x68_4 < ((rd_L1 l0 (rd x9_3 0)).length : Int)) = true := decide_eq_true c36
                                          clear c36
                                          by_cases c37 : 0 ≤ (rd (rd_L1 l0 (rd x9_3 0)) x68_4)
                                          · rw [if_pos c37] at H
                                            have c37b0 : decide (0 ≤ (rd (rd_L1 l0 (rd x9_3 0)) x68_4)) = true := decide_eq_true c37
                                            clear c37
                                            by_cases c38 : (rd (rd_L1 l0 (rd x9_3 0)) x68_4) < (x3_4.length : Int)
                                            · rw [if_pos c38] at H
                                              have c38b0 : decide ((rd (rd_L1 l0 (rd x9_3 0)) x68_4) < (x3_4.length : Int)) = true := decide_eq_true c38
                                              clear c38
                                              by_cases c39 : 0 ≤ (rd x9_3 0)
                                              · rw [if_pos c39] at H
                                                have c39b0 : decide (0 ≤ (rd x9_3 0)) = true := decide_eq_true c39
                                                clear c39
                                                by_cases c40 : (rd x9_3 0) < (x3_4.length : Int)
                                                · rw [if_pos c40] at H
                                                  have c40b0 : decide ((rd x9_3 0) < (x3_4.length : Int)) = true := decide_eq_true c40
                                                  clear c40
                                                  obtain ⟨ji41, hji41⟩ : ∃ j_ : Int, (mx (rd x3_4 (rd (rd_L1 l0 (rd x9_3 0)) x68_4)) (wrap64 ((rd x3_4 (rd x9_3 0)) + 1))) = j_ := ⟨_, rfl⟩
                                                  replace H : ((some (x3_4.set ((rd (rd_L1 l0 (rd x9_3 0)) x68_4) : Int).toNat (ji41) : List Int)).bind fun y434 => (if (rd (rd_L1 l0 (rd x9_3 0)) x68_4) < (x4_4.length : Int) then ((some (x4_4.set ((rd (rd_L1 l0 (rd x9_3 0)) x68_4) : Int).toNat (wrap64 ((rd x4_4 (rd (rd_L1 l0 (rd x9_3 0)) x68_4)) - 1)) : List Int)).bind fun y436 => (if (rd y436 (rd (rd_L1 l0 (rd x9_3 0)) x68_4)) = 0 then (if x9_4.length < 17592186044416 then (rank_of.l4 k4 l0 y434 y436 (x9_4 ++ [rd (rd_L1 l0 (rd x9_3 0)) x68_4]) (rd x9_3 0) (rd_L1 l0 (rd x9_3 0)) ((rd_L1 l0 (rd x9_3 0)).length : Int) (wrap64 (x68_4 + 1))) else (none)) else (rank_of.l4 k4 l0 y434 y436 x9_4 (rd x9_3 0) (rd_L1 l0 (rd x9_3 0)) ((rd_L1 l0 (rd x9_3 0)).length : Int) (wrap64 (x68_4 + 1))))) else (none))) = some r := by first | (rw [hji41] at H; exact H) | (simp only [hji41] at H ⊢; exact H)
                                                  have hji41_ : (if (rd x3_4 (rd (rd_L1 l0 (rd x9_3 0)) x68_4)) < (wrap64 ((rd x3_4 (rd x9_3 0)) + 1)) then (wrap64 ((rd x3_4 (rd x9_3 0)) + 1)) else (rd x3_4 (rd (rd_L1 l0 (rd x9_3 0)) x68_4))) = ji41 := hji41
                                                  obtain ⟨y434, hy434⟩ : ∃ y_ : List Int, y_ = (x3_4.set ((rd (rd_L1 l0 (rd x9_3 0)) x68_4) : Int).toNat (ji41)) := ⟨_, rfl⟩
                                                  replace H : (if (rd (rd_L1 l0 (rd x9_3 0)) x68_4) < (x4_4.length : Int) then ((some (x4_4.set ((rd (rd_L1 l0 (rd x9_3 0)) x68_4) : Int).toNat (wrap64 ((rd x4_4 (rd (rd_L1 l0 (rd x9_3 0)) x68_4)) - 1)) : List Int)).bind fun y436 => (if (rd y436 (rd (rd_L1 l0 (rd x9_3 0)) x68_4)) = 0 then (if x9_4.length < 17592186044416 then (rank_of.l4 k4 l0 y434 y436 (x9_4 ++ [rd (rd_L1 l0 (rd x9_3 0)) x68_4]) (rd x9_3 0) (rd_L1 l0 (rd x9_3 0)) ((rd_L1 l0 (rd x9_3 0)).length : Int) (wrap64 (x68_4 + 1))) else (none)) else (rank_of.l4 k4 l0 y434 y436 x9_4 (rd x9_3 0) (rd_L1 l0 (rd x9_3 0)) ((rd_L1 l0 (rd x9_3 0)).length : Int) (wrap64 (x68_4 + 1))))) else (none)) = some r := by first | (rw [hy434]; with_reducible exact H) | (have H2_ := (Option.bind_some _ _).symm.trans H; rw [hy434]; with_reducible exact H2_) | (have H2_ := (Option.bind_some _ _).symm.trans H; with_reducible exact H2_) | with_reducible exact H | (rw [hy434]; exact H) | exact H
                                                  have Ny434 := Aside0.mk hy434
                                                  clear hy434
                                                  by_cases c43 : (rd (rd_L1 l0 (rd x9_3 0)) x68_4) < (x4_4.length : Int)
                                                  · rw [if_pos c43] at H
                                                    have c43b0 : decide ((rd (rd_L1 l0 (rd x9_3 0)) x68_4) < (x4_4.length : Int)) = true := decide_eq_true c43
                                                    clear c43
                                                    obtain ⟨y436, hy436⟩ : ∃ y_ : List Int, y_ = (x4_4.set ((rd (rd_L1 l0 (rd x9_3 0)) x68_4) : Int).toNat (wrap64 ((rd x4_4 (rd (rd_L1 l0 (rd x9_3 0)) x68_4)) - 1))) := ⟨_, rfl⟩
                                                    replace H : (if (rd y436 (rd (rd_L1 l0 (rd x9_3 0)) x68_4)) = 0 then (if x9_4.length < 17592186044416 then (rank_of.l4 k4 l0 y434 y436 (x9_4 ++ [rd (rd_L1 l0 (rd x9_3 0)) x68_4]) (rd x9_3 0) (rd_L1 l0 (rd x9_3 0)) ((rd_L1 l0 (rd x9_3 0)).length : Int) (wrap64 (x68_4 + 1))) else (none)) else (rank_of.l4 k4 l0 y434 y436 x9_4 (rd x9_3 0) (rd_L1 l0 (rd x9_3 0)) ((rd_L1 l0 (rd x9_3 0)).length : Int) (wrap64 (x68_4 + 1)))) = some r := by first | (rw [hy436]; with_reducible exact H) | (have H2_ := (Option.bind_some _ _).symm.trans H; rw [hy436]; with_reducible exact H2_) | (have H2_ := (Option.bind_some _ _).symm.trans H; with_reducible exact H2_) | with_reducible exact H | (rw [hy436]; exact H) | exact H
                                                    have Ny436 := Aside0.mk hy436
                                                    clear hy436
                                                    by_cases c45 : (rd y436 (rd (rd_L1 l0 (rd x9_3 0)) x68_4)) = 0
                                                    · rw [if_pos c45] at H
                                                      have c45b0 : ((rd y436 (rd (rd_L1 l0 (rd x9_3 0)) x68_4)) == 0) = true := beq_iff_eq.mpr c45
                                                      have c45b1 : ((rd y436 (rd (rd_L1 l0 (rd x9_3 0)) x68_4)) != 0) = false := bne_eq_false_iff_eq.mpr c45
                                                      clear c45
                                                      by_cases c46 : x9_4.length < 17592186044416
                                                      · rw [if_pos c46] at H
                                                        have LMc46 := Aside0.mk c46
                                                        clear c46
                                                        obtain ⟨y438, hy438⟩ : ∃ y_ : List Int, y_ = (x9_4 ++ [rd (rd_L1 l0 (rd x9_3 0)) x68_4]) := ⟨_, rfl⟩
                                                        replace H : (rank_of.l4 k4 l0 y434 y436 y438 (rd x9_3 0) (rd_L1 l0 (rd x9_3 0)) ((rd_L1 l0 (rd x9_3 0)).length : Int) (wrap64 (x68_4 + 1))) = some r := by first | (rw [hy438]; with_reducible exact H) | (have H2_ := (Option.bind_some _ _).symm.trans H; rw [hy438]; with_reducible exact H2_) | (have H2_ := (Option.bind_some _ _).symm.trans H; with_reducible exact H2_) | with_reducible exact H | (rw [hy438]; exact H) | exact H
                                                        have Ny438 := Aside0.mk hy438
                                                        clear hy438
                                                        have H' := Aside0.mk H
                                                        clear H
                                                        have p431 : 0 ≤ (x68_4 : Int) := of_decide_eq_true (by first | (with_reducible assumption) | assumption)
                                                        have q431 : x68_4 < ((rd_L1 l0 (rd x9_3 0)).length : Int) := of_decide_eq_true (by first | (with_reducible assumption) | assumption)
                                                        obtain ⟨ad431, e431, hx431_0⟩ := Kd.at_int HR430_0.out x68_4 p431 q431
                                                        cases e431
                                                        (try replace hx431_0 := (HB.out.cell (World.block_lt_of_cell? w _ hx431_0)).trans hx431_0)
                                                        replace p431 := eq_true p431
                                                        replace q431 := eq_true q431
                                                        try go_wp2
                                                        have n0_ := Aside0.mk (Kd.R_drew HO_3.out)
                                                        have n1_ := Aside0.mk (Kd.R_drew HO_4.out)
                                                        have n2_ := Aside0.mk (Kd.Q_drew HO_9.out)
                                                        have n3_ := Aside0.mk (below_drew1 HB.out)
                                                        clear HO_3
                                                        clear HO_4
                                                        clear HO_9
                                                        clear HB
                                                        have HO_3 := n0_
                                                        have HO_4 := n1_
                                                        have HO_9 := n2_
                                                        have HB := n3_
                                                        clear n0_ n1_ n2_ n3_
                                                        obtain ⟨Ao48, co48, eo48⟩ := Kd.R_slice HO_3.out
                                                        (first | subst eo48 | (injection eo48 with f1_ f2_ f3_; have f4_ := f1_.symm; have f5_ := f3_.symm; clear f1_ f2_ f3_; subst f4_; subst f5_))
                                                        have p432 : 0 ≤ ((rd (rd_L1 l0 (rd x9_3 0)) x68_4) : Int) := of_decide_eq_true (by first | (with_reducible assumption) | assumption)
                                                        have q432 : (rd (rd_L1 l0 (rd x9_3 0)) x68_4) < (x3_4.length : Int) := of_decide_eq_true (by first | (with_reducible assumption) | assumption)
                                                        obtain ⟨ad432, e432, hx432_0⟩ := Kd.at_int (Kd.R_reads' HO_3.out).2.2 (rd (rd_L1 l0 (rd x9_3 0)) x68_4) p432 q432
                                                        cases e432
                                                        replace p432 := eq_true p432
                                                        replace q432 := eq_true q432
                                                        have p433 : 0 ≤ ((rd x9_3 0) : Int) := of_decide_eq_true (by first | (with_reducible assumption) | assumption)
                                                        have q433 : (rd x9_3 0) < (x3_4.length : Int) := of_decide_eq_true (by first | (with_reducible assumption) | assumption)
                                                        obtain ⟨ad433, e433, hx433_0⟩ := Kd.at_int (Kd.R_reads' HO_3.out).2.2 (rd x9_3 0) p433 q433
                                                        obtain rfl : ad432 = ad433 := (by injection e433)
                                                        replace p433 := eq_true p433
                                                        replace q433 := eq_true q433
                                                        have p42 : 0 ≤ ((rd (rd_L1 l0 (rd x9_3 0)) x68_4) : Int) := of_decide_eq_true (by first | (with_reducible assumption) | assumption)
                                                        have q42 : ((rd (rd_L1 l0 (rd x9_3 0)) x68_4) : Int) < ((x3_4.length : Int) : Int) := of_decide_eq_true (by first | (with_reducible assumption) | assumption)
                                                        obtain ⟨go42, co42, eo42, gb42, gl42, cl42, HG42⟩ := Kd.R_form HO_3.out (by omega)
                                                        (first | cases eo42 | (injection eo42 with ea_ en_ ec_; (first | subst ea_ | (injection ea_ with ea_; subst ea_)); subst ec_; clear en_))
                                                        have GB42 := Aside0.mk gb42
                                                        have GG42 := Aside0.mk HG42
                                                        clear gb42 gl42 HG42
                                                        (first | simp only [add_plain] at hx432_0 | skip)
                                                        (first | simp only [add_plain] at hx433_0 | skip)
                                                        obtain ⟨hx42_0, hf42_0⟩ := Kd.R_celln 0 HO_3.out ((rd (rd_L1 l0 (rd x9_3 0)) x68_4) : Int) p42 q42
                                                        replace p42 := eq_true p42
                                                        replace q42 := eq_true q42
                                                        have HP49 := Kd.R_putn HO_3.out ((rd (rd_L1 l0 (rd x9_3 0)) x68_4) : Int) ji41
                                                        rw [← Ny434.out] at HP49
                                                        have HQ49 := Aside0.mk HP49
                                                        clear HP49
                                                        refine start_ (n := 14) (S := fun w' => w'.cell? ⟨go42, ((rd (rd_L1 l0 (rd x9_3 0)) x68_4)).toNat, none⟩ = some (.int .i64 (rd x3_4 (rd (rd_L1 l0 (rd x9_3 0)) x68_4))) ∧ w'.cell? ⟨go42, ((rd x9_3 0)).toNat, none⟩ = some (.int .i64 (rd x3_4 (rd x9_3 0)))) (ds := [13]) #[false, false, false, false, false, false, false, false, false, false, false, false, false, false] (by kernel_rfl) rfl rfl ⟨hx432_0, hx433_0⟩ (fun hHeld => ?_); refine with_tabW rank_of.tab25 rank_of.bits25 (fun HT_ HW_ => ?_)
                                                        generalize wr.drew = w47 at HO_3 HO_4 HO_9 HB GG42 HQ49 hf42_0 hx42_0 hx432_0 hx433_0 hHeld ⊢
                                                        refine pure_ (i := 0) (N := some 72) (v := ?_) (a' := ?_) #[true, false, false, false, false, false, false, false, false, false, false, false, false, false] rfl rfl (any_of HT_.out (by kernel_rfl)) (fun _ _ _ h => h) (Or.inl ⟨by rfl, ?_⟩) ?_ ?_
                                                        rotate_left
                                                        · intro w'
                                                          go_simp
                                                          with_reducible rfl
                                                        rotate_left
                                                        · simp only [Act.put, List.setIfInBounds_toArray, List.set_cons_zero, List.set_cons_succ, i64_w, i32_w]
                                                          rfl
                                                        refine pure_ (i := 1) (N := some 73) (v := ?_) (a' := ?_) #[true, true, false, false, false, false, false, false, false, false, false, false, false, false] rfl rfl (any_of HT_.out (by kernel_rfl)) (fun _ _ _ h => h) (Or.inl ⟨by rfl, ?_⟩) ?_ ?_
                                                        rotate_left
                                                        · intro w'
                                                          go_simp
                                                          with_reducible rfl
                                                        rotate_left
                                                        · simp only [Act.put, List.setIfInBounds_toArray, List.set_cons_zero, List.set_cons_succ, i64_w, i32_w]
                                                          rfl
                                                        refine pure_ (i := 2) (N := some 74) (v := ?_) (a' := ?_) #[true, true, true, false, false, false, false, false, false, false, false, false, false, false] rfl rfl (any_of HT_.out (by kernel_rfl)) (fun _ _ _ h => h) (Or.inl ⟨by rfl, ?_⟩) ?_ ?_
                                                        rotate_left
                                                        · intro w'
                                                          go_simp
                                                          with_reducible rfl
                                                        rotate_left
                                                        · simp only [Act.put, List.setIfInBounds_toArray, List.set_cons_zero, List.set_cons_succ, i64_w, i32_w]
                                                          rfl
                                                        refine pure_ (i := 3) (N := some 75) (v := ?_) (a' := ?_) #[true, true, true, true, false, false, false, false, false, false, false, false, false, false] rfl rfl (any_of HT_.out (by kernel_rfl)) (fun _ _ _ h => h) (Or.inl ⟨by rfl, ?_⟩) ?_ ?_
                                                        rotate_left
                                                        · intro w'
                                                          go_simp
                                                          with_reducible rfl
                                                        rotate_left
                                                        · simp only [Act.put, List.setIfInBounds_toArray, List.set_cons_zero, List.set_cons_succ, i64_w, i32_w]
                                                          rfl
                                                        refine pure_ (i := 4) (N := some 76) (v := ?_) (a' := ?_) #[true, true, true, true, true, false, false, false, false, false, false, false, false, false] rfl rfl (any_of HT_.out (by kernel_rfl)) (fun _ _ _ h => h) (Or.inl ⟨by rfl, ?_⟩) ?_ ?_
                                                        rotate_left
                                                        · intro w'
                                                          go_simp
                                                          with_reducible rfl
                                                        rotate_left
                                                        · simp only [Act.put, List.setIfInBounds_toArray, List.set_cons_zero, List.set_cons_succ, i64_w, i32_w]
                                                          rfl
                                                        refine pure_ (i := 6) (N := some 78) (v := ?_) (a' := ?_) #[true, true, true, true, true, false, true, false, false, false, false, false, false, false] rfl rfl (any_of HT_.out (by kernel_rfl)) (fun _ _ _ h => h) (Or.inl ⟨by rfl, ?_⟩) ?_ ?_
                                                        rotate_left
                                                        · intro w'
                                                          go_simp
                                                          with_reducible rfl
                                                        rotate_left
                                                        · simp only [Act.put, List.setIfInBounds_toArray, List.set_cons_zero, List.set_cons_succ, i64_w, i32_w]
                                                          rfl
                                                        refine pure_ (i := 7) (N := some 79) (v := ?_) (a' := ?_) #[true, true, true, true, true, false, true, true, false, false, false, false, false, false] rfl rfl (any_of HT_.out (by kernel_rfl)) (fun _ _ _ h => h) (Or.inl ⟨by rfl, ?_⟩) ?_ ?_
                                                        rotate_left
                                                        · intro w'
                                                          go_simp
                                                          with_reducible rfl
                                                        rotate_left
                                                        · simp only [Act.put, List.setIfInBounds_toArray, List.set_cons_zero, List.set_cons_succ, i64_w, i32_w]
                                                          rfl
                                                        refine pure_ (i := 8) (N := some 80) (v := ?_) (a' := ?_) #[true, true, true, true, true, false, true, true, true, false, false, false, false, false] rfl rfl (any_of HT_.out (by kernel_rfl)) (fun _ _ _ h => h) (Or.inl ⟨by rfl, ?_⟩) ?_ ?_
                                                        rotate_left
                                                        · intro w'
                                                          go_simp
                                                          with_reducible rfl
                                                        rotate_left
                                                        · simp only [Act.put, List.setIfInBounds_toArray, List.set_cons_zero, List.set_cons_succ, i64_w, i32_w]
                                                          rfl
                                                        refine take_ (i := 5) (N := some 77) (v := ?_) (a' := ?_) #[true, true, true, true, true, true, true, true, true, false, false, false, false, false] rfl rfl (take_ofW HT_.out HW_.out (by kernel_rfl)) (fun _ _ _ h => h) (Or.inl ⟨by rfl, ?_⟩) hHeld ?_ ?_
                                                        rotate_left
                                                        · rintro w' ⟨s0, s1⟩
                                                          go_simp
                                                          with_reducible rfl
                                                        rotate_left
                                                        · simp only [Act.put, List.setIfInBounds_toArray, List.set_cons_zero, List.set_cons_succ, i64_w, i32_w]
                                                          rfl
                                                        refine take_ (i := 9) (N := some 81) (v := ?_) (a' := ?_) #[true, true, true, true, true, true, true, true, true, true, false, false, false, false] rfl rfl (take_ofW HT_.out HW_.out (by kernel_rfl)) (fun _ _ _ h => h) (Or.inl ⟨by rfl, ?_⟩) hHeld ?_ ?_
                                                        rotate_left
                                                        · rintro w' ⟨s0, s1⟩
                                                          go_simp
                                                          with_reducible rfl
                                                        rotate_left
                                                        · simp only [Act.put, List.setIfInBounds_toArray, List.set_cons_zero, List.set_cons_succ, i64_w, i32_w]
                                                          rfl
                                                        refine pure_ (i := 10) (N := some 82) (v := ?_) (a' := ?_) #[true, true, true, true, true, true, true, true, true, true, true, false, false, false] rfl rfl (any_of HT_.out (by kernel_rfl)) (fun _ _ _ h => h) (Or.inl ⟨by rfl, ?_⟩) ?_ ?_
                                                        rotate_left
                                                        · intro w'
                                                          go_simp
                                                          with_reducible rfl
                                                        rotate_left
                                                        · simp only [Act.put, List.setIfInBounds_toArray, List.set_cons_zero, List.set_cons_succ, i64_w, i32_w]
                                                          rfl
                                                        refine pure_ (i := 11) (N := some 83) (v := ?_) (a' := ?_) #[true, true, true, true, true, true, true, true, true, true, true, true, false, false] rfl rfl (any_of HT_.out (by kernel_rfl)) (fun _ _ _ h => h) (Or.inl ⟨by rfl, ?_⟩) ?_ ?_
                                                        rotate_left
                                                        · intro w'
                                                          go_simp
                                                          with_reducible rfl
                                                        rotate_left
                                                        · simp only [Act.put, List.setIfInBounds_toArray, List.set_cons_zero, List.set_cons_succ, i64_w, i32_w]
                                                          rfl
                                                        refine pure_ (i := 12) (N := some 84) (v := ?_) (a' := ?_) #[true, true, true, true, true, true, true, true, true, true, true, true, true, false] rfl rfl (any_of HT_.out (by kernel_rfl)) (fun _ _ _ h => h) (Or.inl ⟨by rfl, ?_⟩) ?_ ?_
                                                        rotate_left
                                                        · intro w'
                                                          go_simp
                                                          with_reducible rfl
                                                        rotate_left
                                                        · simp only [Act.put, List.setIfInBounds_toArray, List.set_cons_zero, List.set_cons_succ, i64_w, i32_w]
                                                          rfl
                                                        refine last_ (i := 13) (N := none) #[true, true, true, true, true, true, true, true, true, true, true, true, true, true] rfl rfl (one_of HT_.out (by kernel_rfl)) (by decide) (fun K hK => ?_)
                                                        refine skip_ (w1 := ?_) (by rfl) rfl ?_ ?_
                                                        rotate_left
                                                        · go_simp
                                                          rfl
                                                        refine hK.out _ _ ?_
                                                        clear hK K
                                                        refine done_ (done_of HT_.out (by kernel_rfl)) ?_
                                                        have n0_ : Aside0 (Kd.R (Kd.int .i64) 3 (w47.setCell ⟨go42, ((rd (rd_L1 l0 (rd x9_3 0)) x68_4) : Int).toNat, none⟩ (.int .i64 ji41)) w.heap.size (fun k_ => some k_ ≠ (.slice Ao20 x4_4.length co20 : Value).ownBlock ∧ some k_ ≠ (u9 : Value).ownBlock) (.slice (some ⟨go42, 0, none⟩) x3_4.length co48) y434) := ⟨by (with_reducible repeat (first | apply Kd.R_alloc | apply Kd.R_drewN | apply Kd.R_drew)); exact HQ49.out⟩
                                                        have n1_ : Aside0 (Kd.R (Kd.int .i64) 3 (w47.setCell ⟨go42, ((rd (rd_L1 l0 (rd x9_3 0)) x68_4) : Int).toNat, none⟩ (.int .i64 ji41)) w.heap.size (fun k_ => some k_ ≠ (.slice (some ⟨go42, 0, none⟩) x3_4.length co48 : Value).ownBlock ∧ some k_ ≠ (u9 : Value).ownBlock) (.slice Ao20 x4_4.length co20) x4_4) := ⟨by (with_reducible repeat (first | apply Kd.R_alloc | apply Kd.R_drewN | apply Kd.R_drew)); exact Kd.R_mono (Kd.R_far (p := ⟨go42, ((rd (rd_L1 l0 (rd x9_3 0)) x68_4) : Int).toNat, none⟩) (Kd.R_mono HO_4.out (fun k_ hk => (⟨hk, fun e_ => hk.1 (by rw [e_]; rfl)⟩ : _ ∧ k_ ≠ go42))) (fun _ hk => hk.2) (.int .i64 ji41)) (fun _ hk => ⟨hk.1.1, hk.1.2⟩)⟩
                                                        have n2_ : Aside0 (Kd.Q (Kd.int .i64) 3 (w47.setCell ⟨go42, ((rd (rd_L1 l0 (rd x9_3 0)) x68_4) : Int).toNat, none⟩ (.int .i64 ji41)) w.heap.size (fun k_ => some k_ ≠ (.slice (some ⟨go42, 0, none⟩) x3_4.length co48 : Value).ownBlock ∧ some k_ ≠ (.slice Ao20 x4_4.length co20 : Value).ownBlock) u9 x9_4) := ⟨by (with_reducible repeat (first | apply Kd.Q_alloc | apply Kd.Q_drewN | apply Kd.Q_drew)); exact Kd.Q_mono (Kd.Q_far (p := ⟨go42, ((rd (rd_L1 l0 (rd x9_3 0)) x68_4) : Int).toNat, none⟩) (Kd.Q_mono HO_9.out (fun k_ hk => (⟨hk, fun e_ => hk.1 (by rw [e_]; rfl)⟩ : _ ∧ k_ ≠ go42))) (fun _ hk => hk.2) (.int .i64 ji41)) (fun _ hk => ⟨hk.1.1, hk.1.2⟩)⟩
                                                        have n3_ : Aside0 (Below w.heap.size w (w47.setCell ⟨go42, ((rd (rd_L1 l0 (rd x9_3 0)) x68_4) : Int).toNat, none⟩ (.int .i64 ji41))) := ⟨by repeat (first | (with_reducible first | exact HB.out | apply below_alloc | apply pw_below_drewN | apply below_drew1 | refine below_set ?_ GB42.out) | exact HB.out)⟩
                                                        (try clear HO_3)
                                                        (try clear HO_4)
                                                        (try clear HO_9)
                                                        (try clear HB)
                                                        generalize (w47.setCell ⟨go42, ((rd (rd_L1 l0 (rd x9_3 0)) x68_4) : Int).toNat, none⟩ (.int .i64 ji41)) = w50 at n0_ n1_ n2_ n3_ ⊢
                                                        have HO_3 := n0_
                                                        have HO_4 := n1_
                                                        have HO_9 := n2_
                                                        have HB := n3_
                                                        clear n0_ n1_ n2_ n3_
                                                        have p435 : 0 ≤ ((rd (rd_L1 l0 (rd x9_3 0)) x68_4) : Int) := of_decide_eq_true (by first | (with_reducible assumption) | assumption)
                                                        have q435 : (rd (rd_L1 l0 (rd x9_3 0)) x68_4) < (x4_4.length : Int) := of_decide_eq_true (by first | (with_reducible assumption) | assumption)
                                                        obtain ⟨ad435, e435, hx435_0⟩ := Kd.at_int (Kd.R_reads' HO_4.out).2.2 (rd (rd_L1 l0 (rd x9_3 0)) x68_4) p435 q435
                                                        cases e435
                                                        replace p435 := eq_true p435
                                                        replace q435 := eq_true q435
                                                        have p44 : 0 ≤ ((rd (rd_L1 l0 (rd x9_3 0)) x68_4) : Int) := of_decide_eq_true (by first | (with_reducible assumption) | assumption)
                                                        have q44 : ((rd (rd_L1 l0 (rd x9_3 0)) x68_4) : Int) < ((x4_4.length : Int) : Int) := of_decide_eq_true (by first | (with_reducible assumption) | assumption)
                                                        obtain ⟨go44, co44, eo44, gb44, gl44, cl44, HG44⟩ := Kd.R_form HO_4.out (by omega)
                                                        (first | cases eo44 | (injection eo44 with ea_ en_ ec_; (first | subst ea_ | (injection ea_ with ea_; subst ea_)); subst ec_; clear en_))
                                                        have GB44 := Aside0.mk gb44
                                                        have GG44 := Aside0.mk HG44
                                                        clear gb44 gl44 HG44
                                                        (first | simp only [add_plain] at hx435_0 | skip)
                                                        obtain ⟨hx44_0, hf44_0⟩ := Kd.R_celln 0 HO_4.out ((rd (rd_L1 l0 (rd x9_3 0)) x68_4) : Int) p44 q44
                                                        replace p44 := eq_true p44
                                                        replace q44 := eq_true q44
                                                        obtain ⟨hy51_, hz51_⟩ := Kd.R_celln 0 HO_4.out ((rd (rd_L1 l0 (rd x9_3 0)) x68_4) : Int) (of_decide_eq_true (by first | (with_reducible assumption) | assumption)) (of_decide_eq_true (by first | (with_reducible assumption) | assumption))
                                                        have HP51 := Kd.R_putg HO_4.out ((rd (rd_L1 l0 (rd x9_3 0)) x68_4) : Int) (wrap64 ((rd x4_4 (rd (rd_L1 l0 (rd x9_3 0)) x68_4)) - 1))
                                                        try go_wp2_with (first | ((with_reducible refine gate_store (t := 3) (p := 90) rfl ?_); refine store_event (t := 3) (p := 90) (v := ?vo_w52) (w1 := (w50.setCell ⟨go44, ((rd (rd_L1 l0 (rd x9_3 0)) x68_4) : Int).toNat, none⟩ (.int .i64 (wrap64 ((rd x4_4 (rd (rd_L1 l0 (rd x9_3 0)) x68_4)) - 1))))) ?hg ?ho ?hn ?hr ?_; (case ho => rfl); (case hg => rfl); (case hn => rfl); (case hr => first | (go_simp; done) | (go_simp; rfl)); intro w52 hw; have hg : w50.grownBy w52 (some go44) := (by rw [hw]; exact HP51.2); have hp_ : Kd.R (Kd.int .i64) 3 w52 w.heap.size (fun k_ => some k_ ≠ (.slice (some ⟨go42, 0, none⟩) x3_4.length co48 : Value).ownBlock ∧ some k_ ≠ (u9 : Value).ownBlock) (.slice (some ⟨go44, 0, none⟩) x4_4.length co20) y436 := (by rw [hw, Ny436.out]; exact HP51.1); clear HP51; have n0_ := Aside0.mk (Kd.R_after (v := (.slice (some ⟨go44, 0, none⟩) x4_4.length co20)) (v1 := (.slice (some ⟨go44, 0, none⟩) x4_4.length co20)) (ok := (fun k_ => some k_ ≠ (u9 : Value).ownBlock)) (by (with_reducible repeat (first | apply Kd.R_alloc | apply Kd.R_drewN | apply Kd.R_drew)); exact Kd.R_mono HO_3.out (fun _ hk => ⟨hk.2, hk.1⟩)) hg (.inl rfl)); have n1_ := Aside0.mk (hp_); have n2_ := Aside0.mk (Kd.Q_after (v := (.slice (some ⟨go44, 0, none⟩) x4_4.length co20)) (v1 := (.slice (some ⟨go44, 0, none⟩) x4_4.length co20)) (ok := (fun k_ => some k_ ≠ (.slice (some ⟨go42, 0, none⟩) x3_4.length co48 : Value).ownBlock)) (by (with_reducible repeat (first | apply Kd.Q_alloc | apply Kd.Q_drewN | apply Kd.Q_drew)); exact HO_9.out) hg (.inl rfl)); have n3_ := Aside0.mk ((by rw [hw]; exact below_set (HB.out) GB44.out : Below w.heap.size w w52)); clear HO_3; clear HO_4; clear HO_9; clear HB; have HO_3 := n0_; have HO_4 := n1_; have HO_9 := n2_; have HB := n3_; clear n0_ n1_ n2_ n3_; clear hg hw hp_; have p437 : 0 ≤ ((rd (rd_L1 l0 (rd x9_3 0)) x68_4) : Int) := of_decide_eq_true (by first | (with_reducible assumption) | assumption); have q437 : (rd (rd_L1 l0 (rd x9_3 0)) x68_4) < (y436.length : Int) := (by have h_ : ((rd (rd_L1 l0 (rd x9_3 0)) x68_4) : Int) < ((x4_4.length : Int) : Int) := of_decide_eq_true (by first | (with_reducible assumption) | assumption); first | (have e_ := (Kd.R_reads' HO_4.out).1; omega) | simpa only [Ny436.out, List.length_set] using h_); have ql437 : (((rd (rd_L1 l0 (rd x9_3 0)) x68_4) : Int) < ((x4_4.length : Int) : Int)) = True := eq_true (of_decide_eq_true (by first | (with_reducible assumption) | assumption)); obtain ⟨ad437, e437, hx437_0⟩ := Kd.at_int (Kd.R_reads' HO_4.out).2.2 (rd (rd_L1 l0 (rd x9_3 0)) x68_4) p437 q437; obtain rfl : (⟨go44, 0, none⟩ : Addr) = ad437 := (by injection e437); (first | simp only [add_plain] at hx437_0 | simp only [add_at] at hx437_0 | simp only [Addr.add, Nat.zero_add] at hx437_0 | skip); replace p437 := eq_true p437; replace q437 := eq_true q437) | ((with_reducible refine gate_builtin (b := .append) (xs := #[.tmp 96, .tmp 98]) rfl ?_); at_builtin; refine Kd.Q_append (Kd.int .i64) (w0 := w) w.heap.size rfl (.tmp 96) (.tmp 98) 32 3 (.int .i64 0) 8 rfl Try.underlying32 info3 rfl (by decide) (by omega) u9 x9_4 (rd (rd_L1 l0 (rd x9_3 0)) x68_4) [.int .i64 (rd (rd_L1 l0 (rd x9_3 0)) x68_4)] (fun k_ => some k_ ≠ (.slice (some ⟨go42, 0, none⟩) x3_4.length co48 : Value).ownBlock ∧ some k_ ≠ (.slice (some ⟨go44, 0, none⟩) x4_4.length co20 : Value).ownBlock) (fun _ => False) rfl rfl ?aP (fun _ hk => hk.elim) ?aF ?aO ?aB ?aS ?aL ?_; (case aP => exact rfl); (case aB => exact (by repeat (first | (with_reducible first | exact HB.out | apply below_alloc | apply pw_below_drewN | apply below_drew1) | exact HB.out))); (case aF => exact (fun k_ hk => ⟨Kd.fresh' (Kd.R_lt (by (with_reducible repeat (first | apply Kd.R_alloc | apply Kd.R_drewN | apply Kd.R_drew)); exact HO_3.out)) k_ hk, Kd.fresh' (Kd.R_lt (by (with_reducible repeat (first | apply Kd.R_alloc | apply Kd.R_drewN | apply Kd.R_drew)); exact HO_4.out)) k_ hk⟩)); (case aO => exact (by (with_reducible repeat (first | apply Kd.Q_alloc | apply Kd.Q_drewN | apply Kd.Q_drew)); exact HO_9.out)); (case aS => exact (below_size (by repeat (first | (with_reducible first | exact HB.out | apply below_alloc | apply pw_below_drewN | apply below_drew1) | exact HB.out)))); (case aL => have := LMc46.out; omega); intro v439 w53 ho hb hg hat; rw [← Ny438.out] at ho; have n0_ := Aside0.mk (Kd.R_after (ok := (fun k_ => some k_ ≠ (.slice (some ⟨go44, 0, none⟩) x4_4.length co20 : Value).ownBlock)) (by (with_reducible repeat (first | apply Kd.R_alloc | apply Kd.R_drewN | apply Kd.R_drew)); exact Kd.R_mono HO_3.out (fun _ hk => ⟨hk.2, hk.1⟩)) hg hat); have n1_ := Aside0.mk (Kd.R_after (ok := (fun k_ => some k_ ≠ (.slice (some ⟨go42, 0, none⟩) x3_4.length co48 : Value).ownBlock)) (by (with_reducible repeat (first | apply Kd.R_alloc | apply Kd.R_drewN | apply Kd.R_drew)); exact HO_4.out) hg hat); have n2_ := Aside0.mk (hb); have n3_ := Aside0.mk (ho); clear HO_3; clear HO_4; clear HB; clear HO_9; have HO_3 := n0_; have HO_4 := n1_; have HB := n2_; have HO440 := n3_; clear n0_ n1_ n2_ n3_; clear ho hb hg hat))
                                                        (try simp only [← hl4_4])
                                                        go_roundg k4
                                                        case measure => have := HK1.out; have := HK2.out; have := HK3.out; have := HK4.out; omega
                                                        case rel => exact ⟨(y434), (y436), (y438), (wrap64 (x68_4 + 1)), (by first | rfl | (simp; done) | (simp [*]; done)), H', ⟨by have := HK1.out; have := HK2.out; have := HK3.out; have := HK4.out; omega⟩, ⟨by (try simp only [hl4_3]); (try simp only [hl4_4]); (with_reducible repeat (first | apply Kd.R_alloc | apply Kd.R_drewN | apply Kd.R_drew)); exact HO_3.out⟩, ⟨by (try simp only [hl4_3]); (try simp only [hl4_4]); (with_reducible repeat (first | apply Kd.R_alloc | apply Kd.R_drewN | apply Kd.R_drew)); exact HO_4.out⟩, ⟨by (try simp only [hl4_3]); (try simp only [hl4_4]); (with_reducible repeat (first | apply Kd.Q_alloc | apply Kd.Q_drewN | apply Kd.Q_drew)); exact HO440.out⟩, ⟨by repeat (first | (with_reducible first | exact HB.out | apply below_alloc | apply pw_below_drewN | apply below_drew1) | exact HB.out)⟩⟩
                                                      · rw [if_neg c46] at H
                                                        exact absurd H (by simp)
                                                    · rw [if_neg c45] at H
                                                      have c45b0 : ((rd y436 (rd (rd_L1 l0 (rd x9_3 0)) x68_4)) == 0) = false := beq_eq_false_iff_ne.mpr c45
                                                      have c45b1 : ((rd y436 (rd (rd_L1 l0 (rd x9_3 0)) x68_4)) != 0) = true := bne_iff_ne.mpr c45
                                                      have H' := Aside0.mk H
                                                      clear H
                                                      have p431 : 0 ≤ (x68_4 : Int) := of_decide_eq_true (by first | (with_reducible assumption) | assumption)
                                                      have q431 : x68_4 < ((rd_L1 l0 (rd x9_3 0)).length : Int) := of_decide_eq_true (by first | (with_reducible assumption) | assumption)
                                                      obtain ⟨ad431, e431, hx431_0⟩ := Kd.at_int HR430_0.out x68_4 p431 q431
                                                      cases e431
                                                      (try replace hx431_0 := (HB.out.cell (World.block_lt_of_cell? w _ hx431_0)).trans hx431_0)
                                                      replace p431 := eq_true p431
                                                      replace q431 := eq_true q431
                                                      try go_wp2
                                                      have n0_ := Aside0.mk (Kd.R_drew HO_3.out)
                                                      have n1_ := Aside0.mk (Kd.R_drew HO_4.out)
                                                      have n2_ := Aside0.mk (Kd.Q_drew HO_9.out)
                                                      have n3_ := Aside0.mk (below_drew1 HB.out)
                                                      clear HO_3
                                                      clear HO_4
                                                      clear HO_9
                                                      clear HB
                                                      have HO_3 := n0_
                                                      have HO_4 := n1_
                                                      have HO_9 := n2_
                                                      have HB := n3_
                                                      clear n0_ n1_ n2_ n3_
                                                      obtain ⟨Ao55, co55, eo55⟩ := Kd.R_slice HO_3.out
                                                      (first | subst eo55 | (injection eo55 with f1_ f2_ f3_; have f4_ := f1_.symm; have f5_ := f3_.symm; clear f1_ f2_ f3_; subst f4_; subst f5_))
                                                      have p432 : 0 ≤ ((rd (rd_L1 l0 (rd x9_3 0)) x68_4) : Int) := of_decide_eq_true (by first | (with_reducible assumption) | assumption)
                                                      have q432 : (rd (rd_L1 l0 (rd x9_3 0)) x68_4) < (x3_4.length : Int) := of_decide_eq_true (by first | (with_reducible assumption) | assumption)
                                                      obtain ⟨ad432, e432, hx432_0⟩ := Kd.at_int (Kd.R_reads' HO_3.out).2.2 (rd (rd_L1 l0 (rd x9_3 0)) x68_4) p432 q432
                                                      cases e432
                                                      replace p432 := eq_true p432
                                                      replace q432 := eq_true q432
                                                      have p433 : 0 ≤ ((rd x9_3 0) : Int) := of_decide_eq_true (by first | (with_reducible assumption) | assumption)
                                                      have q433 : (rd x9_3 0) < (x3_4.length : Int) := of_decide_eq_true (by first | (with_reducible assumption) | assumption)
                                                      obtain ⟨ad433, e433, hx433_0⟩ := Kd.at_int (Kd.R_reads' HO_3.out).2.2 (rd x9_3 0) p433 q433
                                                      obtain rfl : ad432 = ad433 := (by injection e433)
                                                      replace p433 := eq_true p433
                                                      replace q433 := eq_true q433
                                                      have p42 : 0 ≤ ((rd (rd_L1 l0 (rd x9_3 0)) x68_4) : Int) := of_decide_eq_true (by first | (with_reducible assumption) | assumption)
                                                      have q42 : ((rd (rd_L1 l0 (rd x9_3 0)) x68_4) : Int) < ((x3_4.length : Int) : Int) := of_decide_eq_true (by first | (with_reducible assumption) | assumption)
                                                      obtain ⟨go42, co42, eo42, gb42, gl42, cl42, HG42⟩ := Kd.R_form HO_3.out (by omega)
                                                      (first | cases eo42 | (injection eo42 with ea_ en_ ec_; (first | subst ea_ | (injection ea_ with ea_; subst ea_)); subst ec_; clear en_))
                                                      have GB42 := Aside0.mk gb42
                                                      have GG42 := Aside0.mk HG42
                                                      clear gb42 gl42 HG42
                                                      (first | simp only [add_plain] at hx432_0 | skip)
                                                      (first | simp only [add_plain] at hx433_0 | skip)
                                                      obtain ⟨hx42_0, hf42_0⟩ := Kd.R_celln 0 HO_3.out ((rd (rd_L1 l0 (rd x9_3 0)) x68_4) : Int) p42 q42
                                                      replace p42 := eq_true p42
                                                      replace q42 := eq_true q42
                                                      have HP56 := Kd.R_putn HO_3.out ((rd (rd_L1 l0 (rd x9_3 0)) x68_4) : Int) ji41
                                                      rw [← Ny434.out] at HP56
                                                      have HQ56 := Aside0.mk HP56
                                                      clear HP56
                                                      refine start_ (n := 14) (S := fun w' => w'.cell? ⟨go42, ((rd (rd_L1 l0 (rd x9_3 0)) x68_4)).toNat, none⟩ = some (.int .i64 (rd x3_4 (rd (rd_L1 l0 (rd x9_3 0)) x68_4))) ∧ w'.cell? ⟨go42, ((rd x9_3 0)).toNat, none⟩ = some (.int .i64 (rd x3_4 (rd x9_3 0)))) (ds := [13]) #[false, false, false, false, false, false, false, false, false, false, false, false, false, false] (by kernel_rfl) rfl rfl ⟨hx432_0, hx433_0⟩ (fun hHeld => ?_); refine with_tabW rank_of.tab25 rank_of.bits25 (fun HT_ HW_ => ?_)
                                                      generalize wr.drew = w54 at HO_3 HO_4 HO_9 HB GG42 HQ56 hf42_0 hx42_0 hx432_0 hx433_0 hHeld ⊢
                                                      refine pure_ (i := 0) (N := some 72) (v := ?_) (a' := ?_) #[true, false, false, false, false, false, false, false, false, false, false, false, false, false] rfl rfl (any_of HT_.out (by kernel_rfl)) (fun _ _ _ h => h) (Or.inl ⟨by rfl, ?_⟩) ?_ ?_
                                                      rotate_left
                                                      · intro w'
                                                        go_simp
                                                        with_reducible rfl
                                                      rotate_left
                                                      · simp only [Act.put, List.setIfInBounds_toArray, List.set_cons_zero, List.set_cons_succ, i64_w, i32_w]
                                                        rfl
                                                      refine pure_ (i := 1) (N := some 73) (v := ?_) (a' := ?_) #[true, true, false, false, false, false, false, false, false, false, false, false, false, false] rfl rfl (any_of HT_.out (by kernel_rfl)) (fun _ _ _ h => h) (Or.inl ⟨by rfl, ?_⟩) ?_ ?_
                                                      rotate_left
                                                      · intro w'
                                                        go_simp
                                                        with_reducible rfl
                                                      rotate_left
                                                      · simp only [Act.put, List.setIfInBounds_toArray, List.set_cons_zero, List.set_cons_succ, i64_w, i32_w]
                                                        rfl
                                                      refine pure_ (i := 2) (N := some 74) (v := ?_) (a' := ?_) #[true, true, true, false, false, false, false, false, false, false, false, false, false, false] rfl rfl (any_of HT_.out (by kernel_rfl)) (fun _ _ _ h => h) (Or.inl ⟨by rfl, ?_⟩) ?_ ?_
                                                      rotate_left
                                                      · intro w'
                                                        go_simp
                                                        with_reducible rfl
                                                      rotate_left
                                                      · simp only [Act.put, List.setIfInBounds_toArray, List.set_cons_zero, List.set_cons_succ, i64_w, i32_w]
                                                        rfl
                                                      refine pure_ (i := 3) (N := some 75) (v := ?_) (a' := ?_) #[true, true, true, true, false, false, false, false, false, false, false, false, false, false] rfl rfl (any_of HT_.out (by kernel_rfl)) (fun _ _ _ h => h) (Or.inl ⟨by rfl, ?_⟩) ?_ ?_
                                                      rotate_left
                                                      · intro w'
                                                        go_simp
                                                        with_reducible rfl
                                                      rotate_left
                                                      · simp only [Act.put, List.setIfInBounds_toArray, List.set_cons_zero, List.set_cons_succ, i64_w, i32_w]
                                                        rfl
                                                      refine pure_ (i := 4) (N := some 76) (v := ?_) (a' := ?_) #[true, true, true, true, true, false, false, false, false, false, false, false, false, false] rfl rfl (any_of HT_.out (by kernel_rfl)) (fun _ _ _ h => h) (Or.inl ⟨by rfl, ?_⟩) ?_ ?_
                                                      rotate_left
                                                      · intro w'
                                                        go_simp
                                                        with_reducible rfl
                                                      rotate_left
                                                      · simp only [Act.put, List.setIfInBounds_toArray, List.set_cons_zero, List.set_cons_succ, i64_w, i32_w]
                                                        rfl
                                                      refine pure_ (i := 6) (N := some 78) (v := ?_) (a' := ?_) #[true, true, true, true, true, false, true, false, false, false, false, false, false, false] rfl rfl (any_of HT_.out (by kernel_rfl)) (fun _ _ _ h => h) (Or.inl ⟨by rfl, ?_⟩) ?_ ?_
                                                      rotate_left
                                                      · intro w'
                                                        go_simp
                                                        with_reducible rfl
                                                      rotate_left
                                                      · simp only [Act.put, List.setIfInBounds_toArray, List.set_cons_zero, List.set_cons_succ, i64_w, i32_w]
                                                        rfl
                                                      refine pure_ (i := 7) (N := some 79) (v := ?_) (a' := ?_) #[true, true, true, true, true, false, true, true, false, false, false, false, false, false] rfl rfl (any_of HT_.out (by kernel_rfl)) (fun _ _ _ h => h) (Or.inl ⟨by rfl, ?_⟩) ?_ ?_
                                                      rotate_left
                                                      · intro w'
                                                        go_simp
                                                        with_reducible rfl
                                                      rotate_left
                                                      · simp only [Act.put, List.setIfInBounds_toArray, List.set_cons_zero, List.set_cons_succ, i64_w, i32_w]
                                                        rfl
                                                      refine pure_ (i := 8) (N := some 80) (v := ?_) (a' := ?_) #[true, true, true, true, true, false, true, true, true, false, false, false, false, false] rfl rfl (any_of HT_.out (by kernel_rfl)) (fun _ _ _ h => h) (Or.inl ⟨by rfl, ?_⟩) ?_ ?_
                                                      rotate_left
                                                      · intro w'
                                                        go_simp
                                                        with_reducible rfl
                                                      rotate_left
                                                      · simp only [Act.put, List.setIfInBounds_toArray, List.set_cons_zero, List.set_cons_succ, i64_w, i32_w]
                                                        rfl
                                                      refine take_ (i := 5) (N := some 77) (v := ?_) (a' := ?_) #[true, true, true, true, true, true, true, true, true, false, false, false, false, false] rfl rfl (take_ofW HT_.out HW_.out (by kernel_rfl)) (fun _ _ _ h => h) (Or.inl ⟨by rfl, ?_⟩) hHeld ?_ ?_
                                                      rotate_left
                                                      · rintro w' ⟨s0, s1⟩
                                                        go_simp
                                                        with_reducible rfl
                                                      rotate_left
                                                      · simp only [Act.put, List.setIfInBounds_toArray, List.set_cons_zero, List.set_cons_succ, i64_w, i32_w]
                                                        rfl
                                                      refine take_ (i := 9) (N := some 81) (v := ?_) (a' := ?_) #[true, true, true, true, true, true, true, true, true, true, false, false, false, false] rfl rfl (take_ofW HT_.out HW_.out (by kernel_rfl)) (fun _ _ _ h => h) (Or.inl ⟨by rfl, ?_⟩) hHeld ?_ ?_
                                                      rotate_left
                                                      · rintro w' ⟨s0, s1⟩
                                                        go_simp
                                                        with_reducible rfl
                                                      rotate_left
                                                      · simp only [Act.put, List.setIfInBounds_toArray, List.set_cons_zero, List.set_cons_succ, i64_w, i32_w]
                                                        rfl
                                                      refine pure_ (i := 10) (N := some 82) (v := ?_) (a' := ?_) #[true, true, true, true, true, true, true, true, true, true, true, false, false, false] rfl rfl (any_of HT_.out (by kernel_rfl)) (fun _ _ _ h => h) (Or.inl ⟨by rfl, ?_⟩) ?_ ?_
                                                      rotate_left
                                                      · intro w'
                                                        go_simp
                                                        with_reducible rfl
                                                      rotate_left
                                                      · simp only [Act.put, List.setIfInBounds_toArray, List.set_cons_zero, List.set_cons_succ, i64_w, i32_w]
                                                        rfl
                                                      refine pure_ (i := 11) (N := some 83) (v := ?_) (a' := ?_) #[true, true, true, true, true, true, true, true, true, true, true, true, false, false] rfl rfl (any_of HT_.out (by kernel_rfl)) (fun _ _ _ h => h) (Or.inl ⟨by rfl, ?_⟩) ?_ ?_
                                                      rotate_left
                                                      · intro w'
                                                        go_simp
                                                        with_reducible rfl
                                                      rotate_left
                                                      · simp only [Act.put, List.setIfInBounds_toArray, List.set_cons_zero, List.set_cons_succ, i64_w, i32_w]
                                                        rfl
                                                      refine pure_ (i := 12) (N := some 84) (v := ?_) (a' := ?_) #[true, true, true, true, true, true, true, true, true, true, true, true, true, false] rfl rfl (any_of HT_.out (by kernel_rfl)) (fun _ _ _ h => h) (Or.inl ⟨by rfl, ?_⟩) ?_ ?_
                                                      rotate_left
                                                      · intro w'
                                                        go_simp
                                                        with_reducible rfl
                                                      rotate_left
                                                      · simp only [Act.put, List.setIfInBounds_toArray, List.set_cons_zero, List.set_cons_succ, i64_w, i32_w]
                                                        rfl
                                                      refine last_ (i := 13) (N := none) #[true, true, true, true, true, true, true, true, true, true, true, true, true, true] rfl rfl (one_of HT_.out (by kernel_rfl)) (by decide) (fun K hK => ?_)
                                                      refine skip_ (w1 := ?_) (by rfl) rfl ?_ ?_
                                                      rotate_left
                                                      · go_simp
                                                        rfl
                                                      refine hK.out _ _ ?_
                                                      clear hK K
                                                      refine done_ (done_of HT_.out (by kernel_rfl)) ?_
                                                      have n0_ : Aside0 (Kd.R (Kd.int .i64) 3 (w54.setCell ⟨go42, ((rd (rd_L1 l0 (rd x9_3 0)) x68_4) : Int).toNat, none⟩ (.int .i64 ji41)) w.heap.size (fun k_ => some k_ ≠ (.slice Ao20 x4_4.length co20 : Value).ownBlock ∧ some k_ ≠ (u9 : Value).ownBlock) (.slice (some ⟨go42, 0, none⟩) x3_4.length co55) y434) := ⟨by (with_reducible repeat (first | apply Kd.R_alloc | apply Kd.R_drewN | apply Kd.R_drew)); exact HQ56.out⟩
                                                      have n1_ : Aside0 (Kd.R (Kd.int .i64) 3 (w54.setCell ⟨go42, ((rd (rd_L1 l0 (rd x9_3 0)) x68_4) : Int).toNat, none⟩ (.int .i64 ji41)) w.heap.size (fun k_ => some k_ ≠ (.slice (some ⟨go42, 0, none⟩) x3_4.length co55 : Value).ownBlock ∧ some k_ ≠ (u9 : Value).ownBlock) (.slice Ao20 x4_4.length co20) x4_4) := ⟨by (with_reducible repeat (first | apply Kd.R_alloc | apply Kd.R_drewN | apply Kd.R_drew)); exact Kd.R_mono (Kd.R_far (p := ⟨go42, ((rd (rd_L1 l0 (rd x9_3 0)) x68_4) : Int).toNat, none⟩) (Kd.R_mono HO_4.out (fun k_ hk => (⟨hk, fun e_ => hk.1 (by rw [e_]; rfl)⟩ : _ ∧ k_ ≠ go42))) (fun _ hk => hk.2) (.int .i64 ji41)) (fun _ hk => ⟨hk.1.1, hk.1.2⟩)⟩
                                                      have n2_ : Aside0 (Kd.Q (Kd.int .i64) 3 (w54.setCell ⟨go42, ((rd (rd_L1 l0 (rd x9_3 0)) x68_4) : Int).toNat, none⟩ (.int .i64 ji41)) w.heap.size (fun k_ => some k_ ≠ (.slice (some ⟨go42, 0, none⟩) x3_4.length co55 : Value).ownBlock ∧ some k_ ≠ (.slice Ao20 x4_4.length co20 : Value).ownBlock) u9 x9_4) := ⟨by (with_reducible repeat (first | apply Kd.Q_alloc | apply Kd.Q_drewN | apply Kd.Q_drew)); exact Kd.Q_mono (Kd.Q_far (p := ⟨go42, ((rd (rd_L1 l0 (rd x9_3 0)) x68_4) : Int).toNat, none⟩) (Kd.Q_mono HO_9.out (fun k_ hk => (⟨hk, fun e_ => hk.1 (by rw [e_]; rfl)⟩ : _ ∧ k_ ≠ go42))) (fun _ hk => hk.2) (.int .i64 ji41)) (fun _ hk => ⟨hk.1.1, hk.1.2⟩)⟩
                                                      have n3_ : Aside0 (Below w.heap.size w (w54.setCell ⟨go42, ((rd (rd_L1 l0 (rd x9_3 0)) x68_4) : Int).toNat, none⟩ (.int .i64 ji41))) := ⟨by repeat (first | (with_reducible first | exact HB.out | apply below_alloc | apply pw_below_drewN | apply below_drew1 | refine below_set ?_ GB42.out) | exact HB.out)⟩
                                                      (try clear HO_3)
                                                      (try clear HO_4)
                                                      (try clear HO_9)
                                                      (try clear HB)
                                                      generalize (w54.setCell ⟨go42, ((rd (rd_L1 l0 (rd x9_3 0)) x68_4) : Int).toNat, none⟩ (.int .i64 ji41)) = w57 at n0_ n1_ n2_ n3_ ⊢
                                                      have HO_3 := n0_
                                                      have HO_4 := n1_
                                                      have HO_9 := n2_
                                                      have HB := n3_
                                                      clear n0_ n1_ n2_ n3_
                                                      have p435 : 0 ≤ ((rd (rd_L1 l0 (rd x9_3 0)) x68_4) : Int) := of_decide_eq_true (by first | (with_reducible assumption) | assumption)
                                                      have q435 : (rd (rd_L1 l0 (rd x9_3 0)) x68_4) < (x4_4.length : Int) := of_decide_eq_true (by first | (with_reducible assumption) | assumption)
                                                      obtain ⟨ad435, e435, hx435_0⟩ := Kd.at_int (Kd.R_reads' HO_4.out).2.2 (rd (rd_L1 l0 (rd x9_3 0)) x68_4) p435 q435
                                                      cases e435
                                                      replace p435 := eq_true p435
                                                      replace q435 := eq_true q435
                                                      have p44 : 0 ≤ ((rd (rd_L1 l0 (rd x9_3 0)) x68_4) : Int) := of_decide_eq_true (by first | (with_reducible assumption) | assumption)
                                                      have q44 : ((rd (rd_L1 l0 (rd x9_3 0)) x68_4) : Int) < ((x4_4.length : Int) : Int) := of_decide_eq_true (by first | (with_reducible assumption) | assumption)
                                                      obtain ⟨go44, co44, eo44, gb44, gl44, cl44, HG44⟩ := Kd.R_form HO_4.out (by omega)
                                                      (first | cases eo44 | (injection eo44 with ea_ en_ ec_; (first | subst ea_ | (injection ea_ with ea_; subst ea_)); subst ec_; clear en_))
                                                      have GB44 := Aside0.mk gb44
                                                      have GG44 := Aside0.mk HG44
                                                      clear gb44 gl44 HG44
                                                      (first | simp only [add_plain] at hx435_0 | skip)
                                                      obtain ⟨hx44_0, hf44_0⟩ := Kd.R_celln 0 HO_4.out ((rd (rd_L1 l0 (rd x9_3 0)) x68_4) : Int) p44 q44
                                                      replace p44 := eq_true p44
                                                      replace q44 := eq_true q44
                                                      obtain ⟨hy58_, hz58_⟩ := Kd.R_celln 0 HO_4.out ((rd (rd_L1 l0 (rd x9_3 0)) x68_4) : Int) (of_decide_eq_true (by first | (with_reducible assumption) | assumption)) (of_decide_eq_true (by first | (with_reducible assumption) | assumption))
                                                      have HP58 := Kd.R_putg HO_4.out ((rd (rd_L1 l0 (rd x9_3 0)) x68_4) : Int) (wrap64 ((rd x4_4 (rd (rd_L1 l0 (rd x9_3 0)) x68_4)) - 1))
                                                      try go_wp2_with (first | ((with_reducible refine gate_store (t := 3) (p := 90) rfl ?_); refine store_event (t := 3) (p := 90) (v := ?vo_w59) (w1 := (w57.setCell ⟨go44, ((rd (rd_L1 l0 (rd x9_3 0)) x68_4) : Int).toNat, none⟩ (.int .i64 (wrap64 ((rd x4_4 (rd (rd_L1 l0 (rd x9_3 0)) x68_4)) - 1))))) ?hg ?ho ?hn ?hr ?_; (case ho => rfl); (case hg => rfl); (case hn => rfl); (case hr => first | (go_simp; done) | (go_simp; rfl)); intro w59 hw; have hg : w57.grownBy w59 (some go44) := (by rw [hw]; exact HP58.2); have hp_ : Kd.R (Kd.int .i64) 3 w59 w.heap.size (fun k_ => some k_ ≠ (.slice (some ⟨go42, 0, none⟩) x3_4.length co55 : Value).ownBlock ∧ some k_ ≠ (u9 : Value).ownBlock) (.slice (some ⟨go44, 0, none⟩) x4_4.length co20) y436 := (by rw [hw, Ny436.out]; exact HP58.1); clear HP58; have n0_ := Aside0.mk (Kd.R_after (v := (.slice (some ⟨go44, 0, none⟩) x4_4.length co20)) (v1 := (.slice (some ⟨go44, 0, none⟩) x4_4.length co20)) (ok := (fun k_ => some k_ ≠ (u9 : Value).ownBlock)) (by (with_reducible repeat (first | apply Kd.R_alloc | apply Kd.R_drewN | apply Kd.R_drew)); exact Kd.R_mono HO_3.out (fun _ hk => ⟨hk.2, hk.1⟩)) hg (.inl rfl)); have n1_ := Aside0.mk (hp_); have n2_ := Aside0.mk (Kd.Q_after (v := (.slice (some ⟨go44, 0, none⟩) x4_4.length co20)) (v1 := (.slice (some ⟨go44, 0, none⟩) x4_4.length co20)) (ok := (fun k_ => some k_ ≠ (.slice (some ⟨go42, 0, none⟩) x3_4.length co55 : Value).ownBlock)) (by (with_reducible repeat (first | apply Kd.Q_alloc | apply Kd.Q_drewN | apply Kd.Q_drew)); exact HO_9.out) hg (.inl rfl)); have n3_ := Aside0.mk ((by rw [hw]; exact below_set (HB.out) GB44.out : Below w.heap.size w w59)); clear HO_3; clear HO_4; clear HO_9; clear HB; have HO_3 := n0_; have HO_4 := n1_; have HO_9 := n2_; have HB := n3_; clear n0_ n1_ n2_ n3_; clear hg hw hp_; have p437 : 0 ≤ ((rd (rd_L1 l0 (rd x9_3 0)) x68_4) : Int) := of_decide_eq_true (by first | (with_reducible assumption) | assumption); have q437 : (rd (rd_L1 l0 (rd x9_3 0)) x68_4) < (y436.length : Int) := (by have h_ : ((rd (rd_L1 l0 (rd x9_3 0)) x68_4) : Int) < ((x4_4.length : Int) : Int) := of_decide_eq_true (by first | (with_reducible assumption) | assumption); first | (have e_ := (Kd.R_reads' HO_4.out).1; omega) | simpa only [Ny436.out, List.length_set] using h_); have ql437 : (((rd (rd_L1 l0 (rd x9_3 0)) x68_4) : Int) < ((x4_4.length : Int) : Int)) = True := eq_true (of_decide_eq_true (by first | (with_reducible assumption) | assumption)); obtain ⟨ad437, e437, hx437_0⟩ := Kd.at_int (Kd.R_reads' HO_4.out).2.2 (rd (rd_L1 l0 (rd x9_3 0)) x68_4) p437 q437; obtain rfl : (⟨go44, 0, none⟩ : Addr) = ad437 := (by injection e437); (first | simp only [add_plain] at hx437_0 | simp only [add_at] at hx437_0 | simp only [Addr.add, Nat.zero_add] at hx437_0 | skip); replace p437 := eq_true p437; replace q437 := eq_true q437))
                                                      (try simp only [← hl4_4])
                                                      go_roundg k4
                                                      case measure => have := HK1.out; have := HK2.out; have := HK3.out; have := HK4.out; omega
                                                      case rel => exact ⟨(y434), (y436), (x9_4), (wrap64 (x68_4 + 1)), (by first | rfl | (simp; done) | (simp [*]; done)), H', ⟨by have := HK1.out; have := HK2.out; have := HK3.out; have := HK4.out; omega⟩, ⟨by (try simp only [hl4_3]); (try simp only [hl4_4]); (with_reducible repeat (first | apply Kd.R_alloc | apply Kd.R_drewN | apply Kd.R_drew)); exact Kd.R_mono HO_3.out (fun _ hk => ⟨hk.2, hk.1⟩)⟩, ⟨by (try simp only [hl4_3]); (try simp only [hl4_4]); (with_reducible repeat (first | apply Kd.R_alloc | apply Kd.R_drewN | apply Kd.R_drew)); exact HO_4.out⟩, ⟨by (try simp only [hl4_3]); (try simp only [hl4_4]); (with_reducible repeat (first | apply Kd.Q_alloc | apply Kd.Q_drewN | apply Kd.Q_drew)); exact HO_9.out⟩, ⟨by repeat (first | (with_reducible first | exact HB.out | apply below_alloc | apply pw_below_drewN | apply below_drew1) | exact HB.out)⟩⟩
                                                  · rw [if_neg c43] at H
                                                    exact absurd H (by simp)
                                                · rw [if_neg c40] at H
                                                  exact absurd H (by simp)
                                              · rw [if_neg c39] at H
                                                exact absurd H (by simp)
                                            · rw [if_neg c38] at H
                                              exact absurd H (by simp)
                                          · rw [if_neg c37] at H
                                            exact absurd H (by simp)
                                        · rw [if_neg c36] at H
                                          exact absurd H (by simp)
                                      · rw [if_neg c35] at H
                                        exact absurd H (by simp)
                                    · rw [if_neg c34] at H
                                      have c34b0 : decide (x68_4 < ((rd_L1 l0 (rd x9_3 0)).length : Int)) = false := decide_eq_false c34
                                      clear c34
                                      have H' := Aside0.mk H
                                      clear H
                                      go_wp2
                                      (try simp only [← hl4_3, ← hl4_4])
                                      go_roundg k4
                                      case measure => have := HK1.out; have := HK2.out; have := HK3.out; have := HK4.out; omega
                                      case rel => exact ⟨(x3_4), (x4_4), (x9_4), H', ⟨by have := HK1.out; have := HK2.out; have := HK3.out; have := HK4.out; omega⟩, ⟨by (try simp only [hl4_3]); (try simp only [hl4_4]); (with_reducible repeat (first | apply Kd.R_alloc | apply Kd.R_drewN | apply Kd.R_drew)); exact HO_3.out⟩, ⟨by (try simp only [hl4_3]); (try simp only [hl4_4]); (with_reducible repeat (first | apply Kd.R_alloc | apply Kd.R_drewN | apply Kd.R_drew)); exact HO_4.out⟩, ⟨by (try simp only [hl4_3]); (try simp only [hl4_4]); (with_reducible repeat (first | apply Kd.Q_alloc | apply Kd.Q_drewN | apply Kd.Q_drew)); exact HO_9.out⟩, ⟨by repeat (first | (with_reducible first | exact HB.out | apply below_alloc | apply pw_below_drewN | apply below_drew1) | exact HB.out)⟩⟩
                              · rw [if_neg c31] at H
                                exact absurd H (by simp)
                            · rw [if_neg c30] at H
                              exact absurd H (by simp)
                          · rw [if_neg c29] at H
                            exact absurd H (by simp)
                        · rw [if_neg c28] at H
                          exact absurd H (by simp)
                      · rw [if_neg c27] at H
                        have c27b0 : decide (0 < (x9_3.length : Int)) = false := decide_eq_false c27
                        have c27b1 : decide (0 < x9_3.length) = false := decide_eq_false (by omega)
                        clear c27
                        obtain rfl := Option.some.inj H
                        obtain ⟨Ao60, co60, eo60, _⟩ := Kd.Q_slice HO_9.out
                        subst eo60
                        go_wp2
                        go_ret
                        exact ⟨_, by first | rfl | (simp [errW_none, errW_some] <;> rfl) | (simp [*, errW_none, errW_some] <;> rfl) | (exfalso; (try simp_all); (try omega); done), by (with_reducible repeat (first | apply Kd.R_alloc | apply Kd.R_drewN | apply Kd.R_drew)); exact Kd.R_mono HO_3.out (fun _ hk => trivial), by repeat (first | (with_reducible first | exact HB.out | apply below_alloc | apply pw_below_drewN | apply below_drew1) | exact HB.out)⟩
    · rw [if_neg c3] at H
      exact absurd H (by simp)
  · rw [if_neg c2] at H
    exact absurd H (by simp)
def rank_Ranks.l0 : Nat → List Int → List Int → List Int → Int → Int → Option (List Int)
  | 0, _, _, _, _, _ => none
  | k + 1, x5, x6, x19, x20, x21 => if x21 < x20 then (if 0 ≤ x21 then (if x21 < (x19.length : Int) then (if 0 ≤ (rd x19 x21) then (if (rd x19 x21) < (x5.length : Int) then (if x21 < (x6.length : Int) then (rank_Ranks.l0 k x5 (x6.set (x21 : Int).toNat (rd x5 (rd x19 x21))) x19 x20 (wrap64 (x21 + 1))) else (none)) else (none)) else (none)) else (none)) else (none)) else (some x6)
def rank_Ranks.f (k : Nat) (l0 : List (List Int)) : Option (List Int) := (scc_Shrink.f l0).bind fun bt441 => ((rank_of.f k bt441.1).bind fun t447 => (if 0 ≤ (l0.length : Int) then (if ((l0.length : Int) : Int).toNat ≤ 35184372088832 then (rank_Ranks.l0 k t447 (List.replicate ((l0.length : Int) : Int).toNat 0) bt441.2 (bt441.2.length : Int) 0) else (none)) else (none)))
theorem rank_Ranks.mono_l : ∀ k, (∀ y0 y1 y2 y3 y4, LeO (rank_Ranks.l0 k y0 y1 y2 y3 y4) (rank_Ranks.l0 (k + 1) y0 y1 y2 y3 y4))
  | 0 => fun _ _ _ _ _ r h => by simp [rank_Ranks.l0] at h
  | k + 1 => by
    have ih0 := rank_Ranks.mono_l k
    · intro y0 y1 y2 y3 y4
      unfold rank_Ranks.l0
      repeat' first
      | (with_reducible exact ih0 _ _ _ _ _)
      | (with_reducible exact rank_of.mono _ _)
      | (with_reducible exact LeO.refl _)
      | (with_reducible exact LeO.none _)
      | (with_reducible refine LeO.ite ?_ ?_)
      | (with_reducible refine LeO.bind ?_ (fun _ => ?_))
      | exact ih0 _ _ _ _ _
      | exact rank_of.mono _ _
      | exact LeO.none _
      | refine LeO.ite ?_ ?_
      | refine LeO.bind ?_ (fun _ => ?_)
theorem rank_Ranks.mono : ∀ a0 k, LeO (rank_Ranks.f k a0) (rank_Ranks.f (k + 1) a0) := by
  intro a0 k
  have ih0 := rank_Ranks.mono_l k
  unfold rank_Ranks.f
  repeat' first
      | (with_reducible exact ih0 _ _ _ _ _)
      | (with_reducible exact rank_of.mono _ _)
      | (with_reducible exact LeO.refl _)
      | (with_reducible exact LeO.none _)
      | (with_reducible refine LeO.ite ?_ ?_)
      | (with_reducible refine LeO.bind ?_ (fun _ => ?_))
      | exact ih0 _ _ _ _ _
      | exact rank_of.mono _ _
      | exact LeO.none _
      | refine LeO.ite ?_ ?_
      | refine LeO.bind ?_ (fun _ => ?_)
set_option maxHeartbeats 8000000 in
set_option maxRecDepth 100000 in
theorem rank_Ranks.calls (k : Nat) (A0 : Option Addr) (c0 : Nat) (l0 : List (List Int)) (r : List Int) (w : World) (hr0 : Kd.C (Kd.slice 3 (Kd.int .i64)) w A0 l0.length l0) (hc0 : l0.length ≤ c0) (h : rank_Ranks.f k l0 = some r) :
    Calls Try.prog 46 #[.slice A0 l0.length c0] w fun e w' => ∃ v0_ : Value, e = .returned (v0_) ∧ Kd.R (Kd.int .i64) 3 w' w.heap.size (fun _ => True) v0_ r ∧ Below w.heap.size w w' := by
  have HR0 := Aside0.mk hr0
  have HC0 := Aside0.mk hc0
  clear hr0 hc0
  have HB := Aside0.mk (Below.refl w.heap.size w)
  have H : ((scc_Shrink.f l0).bind fun bt441 => ((rank_of.f k bt441.1).bind fun t447 => (if 0 ≤ (l0.length : Int) then (if ((l0.length : Int) : Int).toNat ≤ 35184372088832 then (rank_Ranks.l0 k t447 (List.replicate ((l0.length : Int) : Int).toNat 0) bt441.2 (bt441.2.length : Int) 0) else (none)) else (none)))) = some r := h
  clear h
  replace H := Option.bind_eq_some_iff.mp H
  obtain ⟨⟨t441, t442⟩, A20, H⟩ := H
  replace H : ((rank_of.f k t441).bind fun t447 => (if 0 ≤ (l0.length : Int) then (if ((l0.length : Int) : Int).toNat ≤ 35184372088832 then (rank_Ranks.l0 k t447 (List.replicate ((l0.length : Int) : Int).toNat 0) t442 (t442.length : Int) 0) else (none)) else (none))) = some r := H
  have A2 := Aside0.mk A20
  clear A20
  replace H := Option.bind_eq_some_iff.mp H
  obtain ⟨t447, A30, H⟩ := H
  replace H : (if 0 ≤ (l0.length : Int) then (if ((l0.length : Int) : Int).toNat ≤ 35184372088832 then (rank_Ranks.l0 k t447 (List.replicate ((l0.length : Int) : Int).toNat 0) t442 (t442.length : Int) 0) else (none)) else (none)) = some r := H
  have A3 := Aside0.mk A30
  clear A30
  by_cases c4 : 0 ≤ (l0.length : Int)
  · rw [if_pos c4] at H
    have c4b0 := eq_true c4
    have c4b1 : decide (0 ≤ (l0.length : Int)) = true := decide_eq_true c4
    clear c4
    by_cases c5 : ((l0.length : Int) : Int).toNat ≤ 35184372088832
    · rw [if_pos c5] at H
      have c5b0 := eq_true c5
      have c5b1 : decide (((l0.length : Int) : Int).toNat ≤ 35184372088832) = true := decide_eq_true c5
      clear c5
      obtain ⟨y450, hy450⟩ : ∃ y_ : List Int, y_ = (List.replicate ((l0.length : Int) : Int).toNat 0) := ⟨_, rfl⟩
      replace H : (rank_Ranks.l0 k t447 y450 t442 (t442.length : Int) 0) = some r := by first | (rw [hy450]; with_reducible exact H) | (have H2_ := (Option.bind_some _ _).symm.trans H; rw [hy450]; with_reducible exact H2_) | (have H2_ := (Option.bind_some _ _).symm.trans H; with_reducible exact H2_) | with_reducible exact H | (rw [hy450]; exact H) | exact H
      have Ny450 := Aside0.mk hy450
      clear hy450
      have H' := Aside0.mk H
      clear H
      go_enter Try.func46, Try.ntmps46
      go_wp2_with (first | ((with_reducible refine gate_callee (f := 37) rfl ?_); refine goesL_ (some 11) rfl rfl Try.func37 (by kernel_rfl) rfl #[.slice A0 l0.length c0] rfl (by (try simp only [List.map_toArray, List.map_cons, List.map_nil]); first | done | rfl | (simp only [List.length_drop, List.length_take]; rfl)) ?_; (with_reducible refine (scc_Shrink.calls _ _ l0 t441 t442 _ ?side1 ?side2 A2.out).mono ?_); (case side1 => repeat (first | exact HR0.out | (with_reducible refine Kd.C_alloc ?_ _) | (with_reducible refine Kd.C_drewN ?_ _) | (with_reducible refine Kd.C_drew ?_))); (case side2 => exact HC0.out); rintro e w6 ⟨v443, v445, rfl, ho0, ho1, hb⟩; refine ⟨_, rfl, ?_⟩; have n0_ := Aside0.mk (Kd.S_lower ho0 (below_size (by repeat (first | (with_reducible first | exact HB.out | apply below_alloc | apply pw_below_drewN | apply below_drew1) | exact HB.out)))); have n1_ := Aside0.mk (Kd.R_lower ho1 (below_size (by repeat (first | (with_reducible first | exact HB.out | apply below_alloc | apply pw_below_drewN | apply below_drew1) | exact HB.out)))); have n2_ := Aside0.mk (below_step (by repeat (first | (with_reducible first | exact HB.out | apply below_alloc | apply pw_below_drewN | apply below_drew1) | exact HB.out)) hb); clear HB; have HO444 := n0_; have HO446 := n1_; have HB := n2_; clear n0_ n1_ n2_; (try clear hb); (try clear hb2); (try clear hk); (try clear hi); (try clear ho0); (try clear ho1); obtain ⟨Ao7, co7, eo7⟩ := Kd.S_slice HO444.out; subst eo7) | ((with_reducible refine gate_callee (f := 75) rfl ?_); refine goesL_ (some 15) rfl rfl Try.func75 (by kernel_rfl) rfl #[.slice Ao7 t441.length co7] rfl (by (try simp only [List.map_toArray, List.map_cons, List.map_nil]); first | done | rfl | (simp only [List.length_drop, List.length_take]; rfl)) ?_; (with_reducible refine (rank_of.calls k _ _ t441 t447 _ ?side1 ?side2 A3.out).mono ?_); (case side1 => repeat (first | exact (Kd.S_reads' HO444.out).2.2 | (with_reducible refine Kd.C_alloc ?_ _) | (with_reducible refine Kd.C_drewN ?_ _) | (with_reducible refine Kd.C_drew ?_))); (case side2 => exact (Kd.S_reads' HO444.out).2.1); rintro e w8 ⟨v448, rfl, ho0, hb⟩; refine ⟨_, rfl, ?_⟩; have n0_ := Aside0.mk (Kd.S_elder' (by (with_reducible repeat (first | apply Kd.S_alloc | apply Kd.S_drewN | apply Kd.S_drew)); exact HO444.out) (Kd.R_base ho0) hb); have n1_ := Aside0.mk (Kd.R_elder' (by (with_reducible repeat (first | apply Kd.R_alloc | apply Kd.R_drewN | apply Kd.R_drew)); exact HO446.out) (Kd.R_base ho0) hb); have n2_ := Aside0.mk (Kd.R_lower (Kd.R_new' ho0 (Kd.R_lt (by (with_reducible repeat (first | apply Kd.R_alloc | apply Kd.R_drewN | apply Kd.R_drew)); exact HO446.out))) (below_size (by repeat (first | (with_reducible first | exact HB.out | apply below_alloc | apply pw_below_drewN | apply below_drew1) | exact HB.out)))); have n3_ := Aside0.mk (below_step (by repeat (first | (with_reducible first | exact HB.out | apply below_alloc | apply pw_below_drewN | apply below_drew1) | exact HB.out)) hb); clear HO444; clear HO446; clear HB; have HO444 := n0_; have HO446 := n1_; have HO449 := n2_; have HB := n3_; clear n0_ n1_ n2_ n3_; (try clear hb); (try clear hb2); (try clear hk); (try clear hi); (try clear ho0)) | ((with_reducible refine gate_dst (N := 18) rfl ?_); refine Kd.R_make (Kd.int .i64) _ 3 rfl (N := 18) rfl 32 _ _ rfl (l0.length : Int) rfl rfl Try.underlying32 (.int .i64 0) 8 info3 rfl (by decide) (by omega) 0 (ok := fun _ => True) (okp := fun _ => True) rfl (fun _ hk => hk) trivial (of_decide_eq_true (by first | (with_reducible assumption) | assumption)) (Nat.le_trans (Nat.mul_le_mul_right _ (of_decide_eq_true (by first | (with_reducible assumption) | assumption) : (l0.length : Int).toNat ≤ 35184372088832)) (by omega)) (Below.refl _ _) (Nat.le_refl _) ?_; intro v451 w9 ho10 hb hg_ hnew_; clear hg_ hnew_; (first | rw [← Ny450.out] at ho10 | (simp only [Int.reduceToNat] at ho10; rw [← Ny450.out] at ho10)); have n0_ := Aside0.mk (Kd.S_elder' (by (with_reducible repeat (first | apply Kd.S_alloc | apply Kd.S_drewN | apply Kd.S_drew)); exact HO444.out) (Kd.R_base ho10) hb); have n1_ := Aside0.mk (Kd.R_elder' (by (with_reducible repeat (first | apply Kd.R_alloc | apply Kd.R_drewN | apply Kd.R_drew)); exact HO446.out) (Kd.R_base ho10) hb); have n2_ := Aside0.mk (Kd.R_elder' (by (with_reducible repeat (first | apply Kd.R_alloc | apply Kd.R_drewN | apply Kd.R_drew)); exact HO449.out) (Kd.R_base ho10) hb); have n3_ := Aside0.mk (Kd.R_lower (Kd.R_new' (Kd.R_new' ho10 (Kd.R_lt (by (with_reducible repeat (first | apply Kd.R_alloc | apply Kd.R_drewN | apply Kd.R_drew)); exact HO446.out))) (Kd.R_lt (by (with_reducible repeat (first | apply Kd.R_alloc | apply Kd.R_drewN | apply Kd.R_drew)); exact HO449.out))) (below_size (by repeat (first | (with_reducible first | exact HB.out | apply below_alloc | apply pw_below_drewN | apply below_drew1) | exact HB.out)))); have n4_ := Aside0.mk (below_step (by repeat (first | (with_reducible first | exact HB.out | apply below_alloc | apply pw_below_drewN | apply below_drew1) | exact HB.out)) hb); clear HO444; clear HO446; clear HO449; clear HB; have HO444 := n0_; have HO446 := n1_; have HO449 := n2_; have HO452 := n3_; have HB := n4_; clear n0_ n1_ n2_ n3_ n4_; clear hb ho10; obtain ⟨Ao11, co11, eo11⟩ := Kd.R_slice HO446.out; subst eo11))
      go_loopg [21] k (fun kq v21 w' => ∃ (x6_1 : List Int) (x21_1 : Int), v21 = .int .i64 x21_1 ∧ Aside0 (rank_Ranks.l0 kq t447 x6_1 t442 (t442.length : Int) x21_1 = some r) ∧ Aside0 (kq ≤ k) ∧ Aside0 (Kd.R (Kd.int .i64) 3 w' w.heap.size (fun k_ => some k_ ≠ (v451 : Value).ownBlock ∧ some k_ ≠ ((.slice Ao11 t442.length co11) : Value).ownBlock) v448 t447) ∧ Aside0 (Kd.R (Kd.int .i64) 3 w' w.heap.size (fun k_ => some k_ ≠ (v448 : Value).ownBlock ∧ some k_ ≠ ((.slice Ao11 t442.length co11) : Value).ownBlock) v451 x6_1) ∧ Aside0 (Kd.R (Kd.int .i64) 3 w' w.heap.size (fun k_ => some k_ ≠ (v448 : Value).ownBlock ∧ some k_ ≠ (v451 : Value).ownBlock) (.slice Ao11 t442.length co11) t442) ∧ Aside0 (Below w.heap.size w w'))
      case atStart => exact ⟨(y450), (0), (by first | rfl | (simp; done) | (simp [*]; done)), H', ⟨Nat.le_refl _⟩, ⟨by (with_reducible repeat (first | apply Kd.R_alloc | apply Kd.R_drewN | apply Kd.R_drew)); exact Kd.R_mono HO449.out (fun _ hk => ⟨hk.2, hk.1.2⟩)⟩, ⟨by (with_reducible repeat (first | apply Kd.R_alloc | apply Kd.R_drewN | apply Kd.R_drew)); exact Kd.R_mono HO452.out (fun _ hk => ⟨hk.2, hk.1.2⟩)⟩, ⟨by (with_reducible repeat (first | apply Kd.R_alloc | apply Kd.R_drewN | apply Kd.R_drew)); exact Kd.R_mono HO446.out (fun _ hk => ⟨hk.1.2, hk.2⟩)⟩, ⟨by repeat (first | (with_reducible first | exact HB.out | apply below_alloc | apply pw_below_drewN | apply below_drew1) | exact HB.out)⟩⟩
      case round =>
        clear H'
        try clear p2
        try clear c3
        try clear c4
        try clear c4b0
        try clear c4b1
        try clear c5
        try clear c5b0
        try clear c5b1
        try clear c7
        obtain ⟨x6_1, x21_1, rfl, HA, HK1, HO_5, HO_6, HO_19, HB⟩ := hrel
        cases gk with
        | zero => exact absurd HA.out (by simp [rank_Ranks.l0])
        | succ k1 =>
          have H := HA.out
          clear HA
          simp only [rank_Ranks.l0] at H
          by_cases c12 : x21_1 < (t442.length : Int)
          · rw [if_pos c12] at H
            have c12b0 : decide (x21_1 < (t442.length : Int)) = true := decide_eq_true c12
            clear c12
            by_cases c13 : 0 ≤ x21_1
            · rw [if_pos c13] at H
              have c13b0 : decide (0 ≤ x21_1) = true := decide_eq_true c13
              clear c13
              by_cases c14 : x21_1 < (t442.length : Int)
              · rw [if_pos c14] at H
                have c14b0 : decide (x21_1 < (t442.length : Int)) = true := decide_eq_true c14
                clear c14
                by_cases c15 : 0 ≤ (rd t442 x21_1)
                · rw [if_pos c15] at H
                  have c15b0 : decide (0 ≤ (rd t442 x21_1)) = true := decide_eq_true c15
                  clear c15
                  by_cases c16 : (rd t442 x21_1) < (t447.length : Int)
                  · rw [if_pos c16] at H
                    have c16b0 : decide ((rd t442 x21_1) < (t447.length : Int)) = true := decide_eq_true c16
                    clear c16
                    by_cases c17 : x21_1 < (x6_1.length : Int)
                    · rw [if_pos c17] at H
                      have c17b0 : decide (x21_1 < (x6_1.length : Int)) = true := decide_eq_true c17
                      clear c17
                      obtain ⟨y455, hy455⟩ : ∃ y_ : List Int, y_ = (x6_1.set (x21_1 : Int).toNat (rd t447 (rd t442 x21_1))) := ⟨_, rfl⟩
                      replace H : (rank_Ranks.l0 k1 t447 y455 t442 (t442.length : Int) (wrap64 (x21_1 + 1))) = some r := by first | (rw [hy455]; with_reducible exact H) | (have H2_ := (Option.bind_some _ _).symm.trans H; rw [hy455]; with_reducible exact H2_) | (have H2_ := (Option.bind_some _ _).symm.trans H; with_reducible exact H2_) | with_reducible exact H | (rw [hy455]; exact H) | exact H
                      have Ny455 := Aside0.mk hy455
                      clear hy455
                      have H' := Aside0.mk H
                      clear H
                      have p453 : 0 ≤ (x21_1 : Int) := of_decide_eq_true (by first | (with_reducible assumption) | assumption)
                      have q453 : x21_1 < (t442.length : Int) := of_decide_eq_true (by first | (with_reducible assumption) | assumption)
                      obtain ⟨ad453, e453, hx453_0⟩ := Kd.at_int (Kd.R_reads' HO_19.out).2.2 x21_1 p453 q453
                      cases e453
                      replace p453 := eq_true p453
                      replace q453 := eq_true q453
                      obtain ⟨Ao19, co19, eo19⟩ := Kd.R_slice HO_5.out
                      subst eo19
                      have p454 : 0 ≤ ((rd t442 x21_1) : Int) := of_decide_eq_true (by first | (with_reducible assumption) | assumption)
                      have q454 : (rd t442 x21_1) < (t447.length : Int) := of_decide_eq_true (by first | (with_reducible assumption) | assumption)
                      obtain ⟨ad454, e454, hx454_0⟩ := Kd.at_int (Kd.R_reads' HO_5.out).2.2 (rd t442 x21_1) p454 q454
                      cases e454
                      replace p454 := eq_true p454
                      replace q454 := eq_true q454
                      have p18 : 0 ≤ (x21_1 : Int) := of_decide_eq_true (by first | (with_reducible assumption) | assumption)
                      have q18 : (x21_1 : Int) < ((x6_1.length : Int) : Int) := of_decide_eq_true (by first | (with_reducible assumption) | assumption)
                      obtain ⟨go18, co18, eo18, gb18, gl18, cl18, HG18⟩ := Kd.R_form HO_6.out (by omega)
                      (first | cases eo18 | (injection eo18 with ea_ en_ ec_; (first | subst ea_ | (injection ea_ with ea_; subst ea_)); subst ec_; clear en_))
                      have GB18 := Aside0.mk gb18
                      have GG18 := Aside0.mk HG18
                      clear gb18 gl18 HG18
                      obtain ⟨hx18_0, hf18_0⟩ := Kd.R_celln 0 HO_6.out (x21_1 : Int) p18 q18
                      replace p18 := eq_true p18
                      replace q18 := eq_true q18
                      have HP20 := Kd.R_putg HO_6.out (x21_1 : Int) (rd t447 (rd t442 x21_1))
                      go_wp2_with (first | ((with_reducible refine gate_store (t := 3) (p := 32) rfl ?_); refine store_event (t := 3) (p := 32) (v := ?vo_w21) (w1 := (wr.setCell ⟨go18, (x21_1 : Int).toNat, none⟩ (.int .i64 (rd t447 (rd t442 x21_1))))) ?hg ?ho ?hn ?hr ?_; (case ho => rfl); (case hg => rfl); (case hn => rfl); (case hr => first | (go_simp; done) | (go_simp; rfl)); intro w21 hw; have hg : wr.grownBy w21 (some go18) := (by rw [hw]; exact HP20.2); have hp_ : Kd.R (Kd.int .i64) 3 w21 w.heap.size (fun k_ => some k_ ≠ (.slice (some ad454) t447.length co19 : Value).ownBlock ∧ some k_ ≠ (.slice (some ad453) t442.length co11 : Value).ownBlock) (.slice (some ⟨go18, 0, none⟩) x6_1.length co18) y455 := (by rw [hw, Ny455.out]; exact HP20.1); clear HP20; have n0_ := Aside0.mk (Kd.R_after (v := (.slice (some ⟨go18, 0, none⟩) x6_1.length co18)) (v1 := (.slice (some ⟨go18, 0, none⟩) x6_1.length co18)) (ok := (fun k_ => some k_ ≠ (.slice (some ad453) t442.length co11 : Value).ownBlock)) (by (with_reducible repeat (first | apply Kd.R_alloc | apply Kd.R_drewN | apply Kd.R_drew)); exact Kd.R_mono HO_5.out (fun _ hk => ⟨hk.2, hk.1⟩)) hg (.inl rfl)); have n1_ := Aside0.mk (hp_); have n2_ := Aside0.mk (Kd.R_after (v := (.slice (some ⟨go18, 0, none⟩) x6_1.length co18)) (v1 := (.slice (some ⟨go18, 0, none⟩) x6_1.length co18)) (ok := (fun k_ => some k_ ≠ (.slice (some ad454) t447.length co19 : Value).ownBlock)) (by (with_reducible repeat (first | apply Kd.R_alloc | apply Kd.R_drewN | apply Kd.R_drew)); exact HO_19.out) hg (.inl rfl)); have n3_ := Aside0.mk ((by rw [hw]; exact below_set (HB.out) GB18.out : Below w.heap.size w w21)); clear HO_5; clear HO_6; clear HO_19; clear HB; have HO_5 := n0_; have HO_6 := n1_; have HO_19 := n2_; have HB := n3_; clear n0_ n1_ n2_ n3_; clear hg hw hp_))
                      go_roundg k1
                      case measure => have := HK1.out; omega
                      case rel => exact ⟨(y455), (wrap64 (x21_1 + 1)), (by first | rfl | (simp; done) | (simp [*]; done)), H', ⟨by have := HK1.out; omega⟩, ⟨by (with_reducible repeat (first | apply Kd.R_alloc | apply Kd.R_drewN | apply Kd.R_drew)); exact Kd.R_mono HO_5.out (fun _ hk => ⟨hk.2, hk.1⟩)⟩, ⟨by (with_reducible repeat (first | apply Kd.R_alloc | apply Kd.R_drewN | apply Kd.R_drew)); exact HO_6.out⟩, ⟨by (with_reducible repeat (first | apply Kd.R_alloc | apply Kd.R_drewN | apply Kd.R_drew)); exact HO_19.out⟩, ⟨by repeat (first | (with_reducible first | exact HB.out | apply below_alloc | apply pw_below_drewN | apply below_drew1) | exact HB.out)⟩⟩
                    · rw [if_neg c17] at H
                      exact absurd H (by simp)
                  · rw [if_neg c16] at H
                    exact absurd H (by simp)
                · rw [if_neg c15] at H
                  exact absurd H (by simp)
              · rw [if_neg c14] at H
                exact absurd H (by simp)
            · rw [if_neg c13] at H
              exact absurd H (by simp)
          · rw [if_neg c12] at H
            have c12b0 : decide (x21_1 < (t442.length : Int)) = false := decide_eq_false c12
            clear c12
            obtain rfl := Option.some.inj H
            go_wp2
            go_ret
            exact ⟨_, by first | rfl | (simp [errW_none, errW_some] <;> rfl) | (simp [*, errW_none, errW_some] <;> rfl) | (exfalso; (try simp_all); (try omega); done), by (with_reducible repeat (first | apply Kd.R_alloc | apply Kd.R_drewN | apply Kd.R_drew)); exact Kd.R_mono HO_6.out (fun _ hk => trivial), by repeat (first | (with_reducible first | exact HB.out | apply below_alloc | apply pw_below_drewN | apply below_drew1) | exact HB.out)⟩
    · rw [if_neg c5] at H
      exact absurd H (by simp)
  · rw [if_neg c4] at H
    exact absurd H (by simp)
end Go.Proofs.Ytdknhgbjgdmfkaa.P
namespace Go.Proofs.Ytdknhgbjgdmfkaa.P
open Go.RowKit Go.Lib Go.Proofs.YtdknhgbjgdmfkaaW.PrintWords Go.Proofs.YtdknhgbjgdmfkaaW.PrintMore
theorem wrap_small {x : Int} (h : -1000000000 ≤ x ∧ x ≤ 1000000000) : wrap64 x = x := by
  unfold wrap64
  omega
theorem mx_max (a b : Int) : mx a b = max a b := by
  unfold mx
  split <;> omega
def RankQ (c : List (List Int)) (F : Nat → Option (List Int)) : Prop := ∃ o, o.length = c.length ∧ IsRank c (rd o) ∧ (∀ b, Node c b → 0 ≤ rd o b ∧ rd o b ≤ (c.length : Int)) ∧ Ev F o
section
variable {c : List (List Int)}
theorem RankQ.step {g f : Nat → Option (List Int)} (h : ∀ k, g (k + 1) = f k) (q : RankQ c f) : RankQ c g := by
  obtain ⟨o, h1, h2, h3, h4⟩ := q
  exact ⟨o, h1, h2, h3, Ev.step h h4⟩
theorem row_short (hd : Dag c) (a : Int) : (row c a).length ≤ c.length := few_nodes (row_nodup hd.rows a) (fun _ hx => row_node hd.v hx)
theorem of_l4 (hd : Dag c) (hn : c.length ≤ 900) {D o0 l0 f0 : List Int} {a : Int} (hk : KI c D o0 l0 (a :: f0))
    (hend : ∀ o l f, KR c a (row c a) o0 l0 f0 o l f → RankQ c (fun k => rank_of.l3 k c o l f)) :
    ∀ d j : Nat, j + d = (row c a).length → ∀ o l f, KR c a ((row c a).take j) o0 l0 f0 o l f → RankQ c (fun k => rank_of.l4 k c o l f a (row c a) ((row c a).length : Int) (j : Int))
  | 0, j, hj, o, l, f, h => by
    refine RankQ.step (f := fun k => rank_of.l3 k c o l f) (fun k => by rw [rank_of.l4, if_neg (by omega)]) ?_
    refine hend o l f ?_
    rwa [List.take_of_length_le (by omega)] at h
  | d + 1, j, hj, o, l, f, h => by
    have hjl : j < (row c a).length := by omega
    obtain ⟨y, ey⟩ : ∃ y, y = (row c a)[j] := ⟨_, rfl⟩
    have hy : y ∈ row c a := ey ▸ List.getElem_mem hjl
    have hyN := row_node hd.v hy
    have haN := (hk.fm a).1 List.mem_cons_self
    have hnd := row_nodup hd.rows a
    have htk : (row c a).take (j + 1) = (row c a).take j ++ [y] := by rw [ey, List.take_succ_eq_append_getElem hjl]
    have hyt : ¬ y ∈ (row c a).take j := fun hm => by
      have h1 : ((row c a).take (j + 1)).Nodup := hnd.sublist (List.take_sublist _ _)
      rw [htk, List.nodup_append] at h1
      exact h1.2.2 y hm y (by simp) rfl
    have hat : ¬ a ∈ (row c a).take j := fun hm => hd.none a a haN.1.1 (List.mem_of_mem_take hm) (.refl a)
    have hya : y ≠ a := fun e => hd.none a a haN.1.1 (e ▸ hy) (.refl a)
    have oy : rd o y = rd o0 y := by rw [h.ov y hyN, if_neg hyt]
    have oa : rd o a = rd o0 a := by rw [h.ov a haN.1, if_neg hat]
    have ly : rd l y = rd l0 y := by rw [h.lv y hyN, if_neg hyt]
    have b1 := hk.ob a haN.1
    have b2 := hk.len
    have b3 := hk.lv y hyN
    have b4 := inC_le (c := c) D y
    have b5 := row_short hd a
    have b6 : f.length ≤ 2000 := by
      rw [h.fv, List.length_append]
      have h1 : (a :: f0).length ≤ c.length := few_nodes hk.fn (fun x hx => ((hk.fm x).1 hx).1)
      have h2 := List.length_filter_le (fun b => decide (rd l0 b = 1)) ((row c a).take j)
      rw [List.length_take] at h2
      rw [List.length_cons] at h1
      omega
    have w1 : wrap64 (rd o a + 1) = rd o0 a + 1 := by rw [oa]; exact wrap_small (by omega)
    have w2 : wrap64 (rd l y - 1) = rd l0 y - 1 := by rw [ly]; exact wrap_small (by omega)
    obtain ⟨o', eo⟩ : ∃ o', o' = o.set y.toNat (max (rd o0 y) (rd o0 a + 1)) := ⟨_, rfl⟩
    obtain ⟨l', el⟩ : ∃ l', l' = l.set y.toNat (rd l0 y - 1) := ⟨_, rfl⟩
    have hol := h.ol
    have hll := h.ll
    have hyo : 0 ≤ y ∧ y < (o.length : Int) := by rw [hol]; exact hyN
    have hyl : 0 ≤ y ∧ y < (l.length : Int) := by rw [hll]; exact hyN
    have ly' : rd l' y = rd l0 y - 1 := by rw [el, rd_set _ hyl hyN.1, if_pos rfl]
    have hKR : KR c a ((row c a).take (j + 1)) o0 l0 f0 o' l' (if rd l0 y = 1 then f ++ [y] else f) := by
      refine ⟨by rw [eo, List.length_set]; exact hol, by rw [el, List.length_set]; exact hll, fun x hx => ?_, fun x hx => ?_, ?_⟩
      · rw [eo, rd_set _ hyo hx.1, htk, h.ov x hx]
        by_cases e : x = y
        · subst e
          simp
        · simp [e]
      · rw [el, rd_set _ hyl hx.1, htk, h.lv x hx]
        by_cases e : x = y
        · subst e
          simp
        · simp [e]
      · rw [htk, List.filter_append, ← List.append_assoc, ← h.fv]
        by_cases e : rd l0 y = 1
        · simp [e]
        · simp [e]
    have ih := of_l4 hd hn hk hend d (j + 1) (by omega) o' l' _ hKR
    have hry : rd (row c a) (j : Int) = y := by rw [rd_nat' hjl, ey]
    have hyN2 := hyN.2
    have hyN1 := hyN.1
    have haN1 := haN.1.1
    have haN2 := haN.1.2
    by_cases e : rd l0 y = 1
    · rw [if_pos e] at ih
      refine RankQ.step (fun k => ?_) ih
      rw [rank_of.l4, if_pos (by omega), if_pos (by omega), if_pos (by omega), hry, if_pos hyN1, if_pos (by omega), if_pos haN1, if_pos (by omega), Option.bind_some, if_pos (by omega), Option.bind_some, w1, w2, mx_max, oy, ← eo, ← el, ly', if_pos (by omega), if_pos (by omega), wrap_succ (by omega)]
    · rw [if_neg e] at ih
      refine RankQ.step (fun k => ?_) ih
      rw [rank_of.l4, if_pos (by omega), if_pos (by omega), if_pos (by omega), hry, if_pos hyN1, if_pos (by omega), if_pos haN1, if_pos (by omega), Option.bind_some, if_pos (by omega), Option.bind_some, w1, w2, mx_max, oy, ← eo, ← el, ly', if_neg (by omega), wrap_succ (by omega)]
theorem of_l3 (hd : Dag c) (hn : c.length ≤ 900) : ∀ (m : Nat) (D o l f : List Int), KI c D o l f → D.length + m = c.length → RankQ c (fun k => rank_of.l3 k c o l f) := by
  intro m
  induction m with
  | zero =>
    intro D o l f h hm
    cases f with
    | nil =>
      refine RankQ.step (f := fun _ => some o) (fun k => by rw [rank_of.l3, if_neg (by simp)]) ?_
      obtain ⟨h1, h2⟩ := h.done hd
      exact ⟨o, h.ol, h1, h2, Ev.now _⟩
    | cons a f =>
      exfalso
      obtain ⟨ha, haD, _⟩ := (h.fm a).1 List.mem_cons_self
      have := few_nodes (n := c.length) (List.nodup_cons.2 ⟨haD, h.dn⟩) (fun x hx => (List.mem_cons.1 hx).elim (fun e => e ▸ ha) (h.dN x))
      rw [List.length_cons] at this
      omega
  | succ m ih =>
    intro D o l f h hm
    cases f with
    | nil =>
      refine RankQ.step (f := fun _ => some o) (fun k => by rw [rank_of.l3, if_neg (by simp)]) ?_
      obtain ⟨h1, h2⟩ := h.done hd
      exact ⟨o, h.ol, h1, h2, Ev.now _⟩
    | cons a f =>
      obtain ⟨ha, haD, _⟩ := (h.fm a).1 List.mem_cons_self
      have ha1 := ha.1
      have ha2 := ha.2
      have h4 := of_l4 hd hn h (fun o2 l2 f2 hk => ih (a :: D) o2 l2 f2 (h.step hd hk) (by rw [List.length_cons]; omega)) (row c a).length 0 (by omega) o l f (by
        refine ⟨h.ol, h.ll, fun x _ => by simp, fun x _ => by simp, by simp⟩)
      refine RankQ.step (fun k => ?_) h4
      rw [rank_of.l3, if_pos (by rw [List.length_cons]; omega), if_pos (by rw [List.length_cons]; omega), if_pos (by rw [List.length_cons]; omega), show rd (a :: f) 0 = a from rfl, if_pos ha1, if_pos ha2]
      rfl
def CL (c : List (List Int)) (i : Nat) (p l : List Int) : Prop := l.length = c.length ∧ ∀ b, Node c b → rd l b = ((nodes i).countP (fun a => decide (b ∈ row c a)) : Int) + (if b ∈ p then 1 else 0)
theorem countP_nodes_le (i : Nat) (p : Int → Bool) : (nodes i).countP p ≤ i := by
  have := List.countP_le_length (p := p) (l := nodes i)
  rwa [nodes_len] at this
theorem CL.next {i : Nat} {l : List Int} (h : CL c i (row c (i : Int)) l) : CL c (i + 1) [] l := by
  refine ⟨h.1, fun b hb => ?_⟩
  rw [h.2 b hb, nodes_snoc, List.countP_append]
  by_cases e : b ∈ row c (i : Int) <;> simp [e]
theorem CL.put (hd : Dag c) {i j : Nat} {l : List Int} (hj : j < (row c (i : Int)).length) (h : CL c i ((row c (i : Int)).take j) l) : CL c i ((row c (i : Int)).take (j + 1)) (l.set ((row c (i : Int))[j]).toNat (rd l (row c (i : Int))[j] + 1)) := by
  obtain ⟨y, ey⟩ : ∃ y, y = (row c (i : Int))[j] := ⟨_, rfl⟩
  rw [← ey]
  have hyN := row_node hd.v (ey ▸ List.getElem_mem hj : y ∈ row c (i : Int))
  have htk : (row c (i : Int)).take (j + 1) = (row c (i : Int)).take j ++ [y] := by rw [ey, List.take_succ_eq_append_getElem hj]
  have hyt : ¬ y ∈ (row c (i : Int)).take j := fun hm => by
    have h1 : ((row c (i : Int)).take (j + 1)).Nodup := (row_nodup hd.rows _).sublist (List.take_sublist _ _)
    rw [htk, List.nodup_append] at h1
    exact h1.2.2 y hm y (by simp) rfl
  refine ⟨by rw [List.length_set]; exact h.1, fun b hb => ?_⟩
  rw [rd_set _ (by rw [h.1]; exact hyN) hb.1, htk, h.2 b hb, h.2 y hyN, if_neg hyt]
  by_cases e : b = y
  · subst e
    simp [hyt]
  · simp [e]
theorem of_l1 (hd : Dag c) (hn : c.length ≤ 900) (o : List Int) {i : Nat} (hi : i < c.length) (hend : ∀ l, CL c (i + 1) [] l → RankQ c (fun k => rank_of.l0 k c o l c (c.length : Int) ((i + 1 : Nat) : Int))) :
    ∀ d j : Nat, j + d = (row c (i : Int)).length → ∀ l, CL c i ((row c (i : Int)).take j) l → RankQ c (fun k => rank_of.l1 k c o l c (c.length : Int) (i : Int) (row c (i : Int)) ((row c (i : Int)).length : Int) (j : Int))
  | 0, j, hj, l, h => by
    rw [List.take_of_length_le (by omega)] at h
    refine RankQ.step (fun k => ?_) (hend l h.next)
    rw [rank_of.l1, if_neg (by omega), wrap_succ (by omega)]
  | d + 1, j, hj, l, h => by
    have hjl : j < (row c (i : Int)).length := by omega
    have b5 := row_short hd (i : Int)
    have ih := of_l1 hd hn o hi hend d (j + 1) (by omega) _ (h.put hd hjl)
    have hyN := row_node hd.v (List.getElem_mem hjl)
    have hyN1 := hyN.1
    have hyN2 := hyN.2
    have hll := h.1
    have hv := h.2 _ hyN
    have hc := countP_nodes_le i (fun a => decide ((row c (i : Int))[j] ∈ row c a))
    have hw : wrap64 (rd l (row c (i : Int))[j] + 1) = rd l (row c (i : Int))[j] + 1 := wrap_small (by
      rw [hv]
      split <;> omega)
    refine RankQ.step (fun k => ?_) ih
    rw [rank_of.l1, if_pos (by omega), if_pos (by omega), if_pos (by omega), rd_nat' hjl, if_pos hyN1, if_pos (by omega), hw, wrap_succ (by omega)]
theorem of_l2 (hd : Dag c) (hn : c.length ≤ 900) {o l : List Int} (hl : l.length = c.length) (hend : RankQ c (fun k => rank_of.l3 k c o l ((nodes c.length).filter fun b => decide (rd l b = 0)))) :
    ∀ d i : Nat, i + d = c.length → RankQ c (fun k => rank_of.l2 k c o l ((nodes i).filter fun b => decide (rd l b = 0)) l (l.length : Int) (i : Int))
  | 0, i, hi => by
    obtain rfl : i = c.length := by omega
    refine RankQ.step (fun k => ?_) hend
    rw [rank_of.l2, if_neg (by omega)]
  | d + 1, i, hi => by
    have ih := of_l2 hd hn hl hend d (i + 1) (by omega)
    rw [nodes_snoc, List.filter_append, List.filter_cons, List.filter_nil] at ih
    have hle := List.length_filter_le (fun b => decide (rd l b = 0)) (nodes i)
    rw [nodes_len] at hle
    by_cases e : rd l (i : Int) = 0
    · rw [if_pos (decide_eq_true e)] at ih
      refine RankQ.step (fun k => ?_) ih
      rw [rank_of.l2, if_pos (by omega), if_pos (by omega), if_pos (by omega), if_pos e, if_pos (by omega), wrap_succ (by omega)]
    · rw [if_neg (by simp [e]), List.append_nil] at ih
      refine RankQ.step (fun k => ?_) ih
      rw [rank_of.l2, if_pos (by omega), if_pos (by omega), if_pos (by omega), if_neg e, wrap_succ (by omega)]
theorem of_l0 (hd : Dag c) (hn : c.length ≤ 900) {o : List Int} (hend : ∀ l, CL c c.length [] l → RankQ c (fun k => rank_of.l2 k c o l [] l (l.length : Int) 0)) :
    ∀ d i : Nat, i + d = c.length → ∀ l, CL c i [] l → RankQ c (fun k => rank_of.l0 k c o l c (c.length : Int) (i : Int))
  | 0, i, hi, l, h => by
    obtain rfl : i = c.length := by omega
    refine RankQ.step (fun k => ?_) (hend l h)
    rw [rank_of.l0, if_neg (by omega)]
  | d + 1, i, hi, l, h => by
    have hi' : i < c.length := by omega
    refine RankQ.step (fun k => ?_) (of_l1 hd hn o hi' (fun l2 h2 => of_l0 hd hn hend d (i + 1) (by omega) l2 h2) (row c (i : Int)).length 0 (by omega) l (by rw [List.take_zero]; exact h))
    rw [rank_of.l0, if_pos (by omega), if_pos (by omega), if_pos (by omega)]
    rfl
theorem rank_of_ev (hd : Dag c) (hn : c.length ≤ 900) : RankQ c (fun k => rank_of.f k c) := by
  have h := of_l0 hd hn (o := List.replicate c.length 0) (fun l hl => by
    have hl2 : ∀ b, Node c b → rd l b = (inC c [] b : Int) := fun b hb => by
      rw [hl.2 b hb, if_neg (by simp), Int.add_zero]
      unfold inC
      congr 1
    have := of_l2 hd hn (o := List.replicate c.length 0) hl.1 (of_l3 hd hn c.length [] _ l _ (KI.start hl.1 hl2) (by simp)) c.length 0 (by omega)
    simpa [nodes] using this) c.length 0 (by omega) (List.replicate c.length 0) ⟨by simp, fun b hb => by
      have hz : rd (List.replicate c.length 0) b = 0 := by
        unfold rd
        rw [List.getD_eq_getElem?_getD, List.getElem?_replicate]
        split <;> rfl
      rw [hz]
      simp [nodes]⟩
  obtain ⟨o, h1, h2, h3, h4⟩ := h
  refine ⟨o, h1, h2, h3, Ev.congr (fun k => ?_) h4⟩
  unfold rank_of.f
  rw [if_pos (by omega), if_pos (by omega), Int.toNat_natCast]
  rfl
end
end Go.Proofs.Ytdknhgbjgdmfkaa.P
namespace Go.Proofs.Ytdknhgbjgdmfkaa.P
open Go.RowKit Go.Lib Go.Proofs.YtdknhgbjgdmfkaaW.PrintWords
theorem leads_now {g : List (List Int)} (h : fits g = true) : scc_Leads.f g = some (leadB (clean g)) := by unfold scc_Leads.f; rw [if_pos h]
end Go.Proofs.Ytdknhgbjgdmfkaa.P
namespace Go.Proofs.Ytdknhgbjgdmfkaa.P
open Go.RowKit Go.Lib Go.Proofs.YtdknhgbjgdmfkaaW.PrintWords
theorem shrRow_longer {inn : List Int} {a : Int} {L : Nat} : ∀ (l : List Int) (o : List (List Int)) (b : Nat), l.length ≤ L → NoLonger o b → NoLonger (l.foldl (shrStep inn a) o) (b + l.length) := by
  intro l
  induction l with
  | nil => intro o b _ h; exact h
  | cons x l ih =>
    intro o b hl h
    rw [List.foldl_cons, List.length_cons]
    have := ih (shrStep inn a o x) (b + 1) (by rw [List.length_cons] at hl; omega) h.shr
    rwa [show b + 1 + l.length = b + (l.length + 1) by omega] at this
theorem shrSo_longer {m L : Nat} {inn : List Int} {c : List (List Int)} (hL : ∀ l ∈ c, l.length ≤ L) : ∀ k, k ≤ c.length → NoLonger (shrSo m inn c k) (k * L)
  | 0, _ => fun j => by
    rw [shrSo]
    simp [List.getD_eq_getElem?_getD, List.getElem?_replicate]
    split <;> simp
  | k + 1, hk => by
    have hg : (c.getD k []).length ≤ L := by
      rw [List.getD_eq_getElem?_getD, List.getElem?_eq_getElem (by omega)]
      exact hL _ (List.getElem_mem _)
    intro j
    rw [shrSo]
    have := shrRow_longer (inn := inn) (a := (k : Int)) (c.getD k []) _ _ hg (shrSo_longer (m := m) (inn := inn) hL k (by omega)) j
    rw [Nat.succ_mul]
    omega
theorem shrink_now {g : List (List Int)} (h : few g = true) : scc_Shrink.f g = some (shr (clean g), inB (clean g)) := by
  have hf := few_fits h
  have hl := (few_iff.1 h).2
  have h2 : fits (shrB (clean g)) = true := by
    have hs : (shrB (clean g)).length ≤ 40 := by
      unfold shrB
      rw [shrSo_len]
      have := (parts_small hf).2.2.2.1
      omega
    unfold fits
    rw [Bool.and_eq_true, decide_eq_true_iff, List.all_eq_true]
    refine ⟨by omega, fun l hl' => decide_eq_true ?_⟩
    obtain ⟨j, hj, rfl⟩ := List.getElem_of_mem hl'
    have := shrSo_longer (m := (partsB (clean g)).length) (inn := inB (clean g)) (c := clean g) (L := 40) (fun l hl => by have := clean_row_le l hl; omega) (clean g).length (Nat.le_refl _) j
    rw [clean_len] at this
    have e : ((shrB (clean g)).getD j []) = (shrB (clean g))[j] := by rw [List.getD_eq_getElem?_getD, List.getElem?_eq_getElem hj]; rfl
    rw [← e]
    have h3 : (shrSo (partsB (clean g)).length (inB (clean g)) (clean g) g.length) = shrB (clean g) := by unfold shrB; rw [clean_len]
    rw [h3] at this
    have h4 : g.length * 40 ≤ 1600 := Nat.mul_le_mul_right 40 hl
    omega
  unfold scc_Shrink.f
  rw [if_pos hf, if_pos h2]
  rfl
theorem shr_small {g : List (List Int)} (h : few g = true) : Small (shr (clean g)) ∧ (shr (clean g)).length ≤ g.length := by
  have hf := few_fits h
  have hl := (few_iff.1 h).2
  have := (parts_small hf).2.2.2.1
  refine ⟨small_of shr_Valid shr_rises (by rw [shr_len]; omega), by rw [shr_len]; exact this⟩
theorem inB_len {c : List (List Int)} : (inB c).length = c.length := by unfold inB; rw [inSo_len]
end Go.Proofs.Ytdknhgbjgdmfkaa.P
namespace Go.Proofs.Ytdknhgbjgdmfkaa.P
open Go.RowKit Go.Lib Go.Proofs.YtdknhgbjgdmfkaaW.PrintWords Go.Proofs.YtdknhgbjgdmfkaaW.PrintMore
section
variable {c : List (List Int)}
theorem shr_Dag (hv : Valid c) : Dag (shr c) := ⟨shr_Valid, shr_rises, fun _ _ hx hy => shr_none hv hx hy⟩
structure Rk (c : List (List Int)) (r : List Int) : Prop where
  len : r.length = c.length
  isr : ∃ o : List Int, IsRank (shr c) (rd o) ∧ (∀ b, Node (shr c) b → 0 ≤ rd o b ∧ rd o b ≤ ((shr c).length : Int)) ∧ ∀ a, Node c a → rd r a = rd o (rd (inB c) a)
variable {r : List Int}
theorem Rk.bound (hv : Valid c) (h : Rk c r) {a : Int} (ha : Node c a) : 0 ≤ rd r a ∧ rd r a ≤ (c.length : Int) := by
  obtain ⟨o, h1, h2, h3⟩ := h.isr
  rw [h3 a ha]
  have h4 := h2 _ (node_shr.2 (inB_range hv ha))
  have h5 : (shr c).length ≤ c.length := by
    rw [shr_len]
    unfold partsB
    rw [List.length_map]
    refine Nat.le_trans (List.length_filter_le _ _) ?_
    rw [nodes_len]
    exact Nat.le_refl _
  omega
theorem Rk.same (hv : Valid c) (h : Rk c r) {a b : Int} (ha : Node c a) (hb : Node c b) (h1 : Way c a b) (h2 : Way c b a) : rd r a = rd r b := by
  obtain ⟨o, _, _, h3⟩ := h.isr
  rw [h3 a ha, h3 b hb, (inB_eq hv ha hb).2 ⟨h1, h2⟩]
theorem Rk.rise (hv : Valid c) (h : Rk c r) {a b : Int} (ha : Node c a) (hb : b ∈ row c a) (hn : ¬ Way c b a) : rd r a + 1 ≤ rd r b := by
  obtain ⟨o, h1, _, h3⟩ := h.isr
  have hbN := row_node hv hb
  rw [h3 a ha, h3 b hbN]
  have hne : rd (inB c) a ≠ rd (inB c) b := fun e => hn ((inB_eq hv ha hbN).1 e).2
  have hr := inB_range hv ha
  exact h1.rise _ _ (node_shr.2 hr) ((mem_shr hv hr.1).2 ⟨a, ha, b, hb, rfl, rfl, hne⟩)
theorem Rk.edge (hv : Valid c) (h : Rk c r) {a b : Int} (ha : Node c a) (hb : b ∈ row c a) : rd r a ≤ rd r b := by
  by_cases e : Way c b a
  · exact Int.le_of_eq (h.same hv ha (row_node hv hb) (.edge hb) e)
  · have := h.rise hv ha hb e
    omega
theorem Rk.way (hv : Valid c) (h : Rk c r) {a b : Int} (hw : Way c a b) : Node c a → rd r a ≤ rd r b := by
  induction hw with
  | refl => exact fun _ => Int.le_refl _
  | step hx _ ih => exact fun ha => Int.le_trans (h.edge hv ha hx) (ih (row_node hv hx))
theorem Rk.from_ (hv : Valid c) (h : Rk c r) {b : Int} (hb : Node c b) : rd r b = 0 ∨ ∃ a d, Node c a ∧ d ∈ row c a ∧ Way c b d ∧ Way c d b ∧ ¬ Way c d a ∧ rd r b = rd r a + 1 := by
  obtain ⟨o, h1, _, h3⟩ := h.isr
  rcases h1.from_ _ (node_shr.2 (inB_range hv hb)) with e | ⟨x, hx, hxb, e⟩
  · exact .inl (by rw [h3 b hb, e])
  · obtain ⟨a, ha, d, hd, e1, e2, e3⟩ := (mem_shr hv hx.1).1 hxb
    have hdN := row_node hv hd
    obtain ⟨w1, w2⟩ := (inB_eq hv hdN hb).1 e2
    refine .inr ⟨a, d, ha, hd, w2, w1, fun hw => e3 ?_, by rw [h3 b hb, h3 a ha, e1]; exact e⟩
    rw [← e1, ← e2]
    exact (inB_eq hv ha hdN).2 ⟨.edge hd, hw⟩
theorem Rk.below (hv : Valid c) (h : Rk c r) {k : Nat} : ∀ {m : Nat} {b : Int}, Node c b → rd r b = (m : Int) → k ≤ m → ∃ a, Node c a ∧ rd r a = (k : Int) := by
  intro m
  induction m with
  | zero => intro b hb e hk; exact ⟨b, hb, by rw [e]; omega⟩
  | succ m ih =>
    intro b hb e hk
    by_cases hkm : k = m + 1
    · exact ⟨b, hb, by rw [e, hkm]⟩
    · rcases h.from_ hv hb with e0 | ⟨a, d, ha, _, _, _, _, e1⟩
      · omega
      · exact ih ha (by omega) (by omega)
end
theorem nodes_put {α : Type} (f : Int → α) (z : α) {n i : Nat} (h : i < n) : ((nodes i).map f ++ List.replicate (n - i) z).set i (f (i : Int)) = (nodes (i + 1)).map f ++ List.replicate (n - (i + 1)) z := by
  rw [List.set_append_right _ _ (by rw [List.length_map, nodes_len]; exact Nat.le_refl _), List.length_map, nodes_len, Nat.sub_self, show n - i = (n - (i + 1)) + 1 from by omega, List.replicate_succ, List.set_cons_zero, nodes_snoc, List.map_append, List.append_assoc]
  rfl
theorem ranks_l0 {o inn : List Int} {n : Nat} (hl : inn.length = n) (hn : n ≤ 900) (hi : ∀ a, 0 ≤ a → a < (n : Int) → 0 ≤ rd inn a ∧ rd inn a < (o.length : Int)) :
    ∀ d i : Nat, i + d = n → Ev (fun k => rank_Ranks.l0 k o ((nodes i).map (fun a => rd o (rd inn a)) ++ List.replicate (n - i) 0) inn (inn.length : Int) (i : Int)) ((nodes n).map (fun a => rd o (rd inn a)))
  | 0, i, hd => by
    obtain rfl : i = n := by omega
    refine Ev.step (f := fun _ => some ((nodes i).map (fun a => rd o (rd inn a)))) (fun k => ?_) (Ev.now _)
    rw [rank_Ranks.l0, if_neg (by omega), Nat.sub_self, List.replicate_zero, List.append_nil]
  | d + 1, i, hd => by
    have h1 := hi (i : Int) (by omega) (by omega)
    have hlen : ((nodes i).map (fun a => rd o (rd inn a)) ++ List.replicate (n - i) (0 : Int)).length = n := by
      rw [List.length_append, List.length_map, nodes_len, List.length_replicate]
      omega
    have ih := ranks_l0 hl hn hi d (i + 1) (by omega)
    rw [← nodes_put (fun a => rd o (rd inn a)) (0 : Int) (by omega)] at ih
    refine Ev.step (fun k => ?_) ih
    rw [rank_Ranks.l0, if_pos (by omega), if_pos (by omega), if_pos (by omega), if_pos h1.1, if_pos h1.2, if_pos (by rw [hlen]; omega), wrap_succ (by omega), Int.toNat_natCast]
theorem ranks_ev {g : List (List Int)} (h : few g = true) : ∃ r, Ev (fun k => rank_Ranks.f k g) r ∧ Rk (clean g) r ∧ r.length = g.length := by
  have hv := clean_Valid g
  obtain ⟨hs, hle⟩ := shr_small h
  have hn := hs.2
  have hg := (few_iff.1 h).2
  obtain ⟨o, h1, h2, h3, h4⟩ := rank_of_ev (shr_Dag hv) hn
  have hl : (inB (clean g)).length = g.length := by rw [inB_len, clean_len]
  refine ⟨(nodes g.length).map (fun a => rd o (rd (inB (clean g)) a)), ?_, ⟨by rw [List.length_map, nodes_len, clean_len], o, h2, h3, fun a ha => ?_⟩, by rw [List.length_map, nodes_len]⟩
  · have h5 := ranks_l0 (o := o) hl (by omega) (fun a ha0 ha1 => by
      have := inB_range hv (a := a) ⟨ha0, by rw [clean_len]; exact ha1⟩
      rw [h1, shr_len]
      exact this) g.length 0 (by omega)
    refine Ev.congr (f := fun k => (rank_of.f k (shr (clean g))).bind fun t => rank_Ranks.l0 k t ((nodes 0).map (fun a => rd t (rd (inB (clean g)) a)) ++ List.replicate (g.length - 0) 0) (inB (clean g)) ((inB (clean g)).length : Int) ((0 : Nat) : Int)) (fun k => ?_) (Ev.bind h4 h5)
    unfold rank_Ranks.f
    rw [shrink_now h, Option.bind_some]
    congr 1
    funext t
    rw [if_pos (by omega), if_pos (by omega), Int.toNat_natCast]
    rfl
  · have ha2 : a.toNat < g.length := by
      have := ha.1
      have := ha.2
      rw [clean_len] at this
      omega
    have := nodes_map_get (0 : Int) (fun a => rd o (rd (inB (clean g)) a)) ha2
    unfold rd at this ⊢
    rw [this, Int.toNat_of_nonneg ha.1]
end Go.Proofs.Ytdknhgbjgdmfkaa.P
namespace Go.Proofs.Ytdknhgbjgdmfkaa.P
open Go.RowKit Go.Lib Go.Proofs.YtdknhgbjgdmfkaaW.PrintWords Go.Proofs.YtdknhgbjgdmfkaaW.PrintMore
theorem order_any {g : List (List Int)} (h : Small g) (a : Int) : ∃ o, graph_Order.f g a = some o ∧ (∀ x, x ∈ o ↔ (0 ≤ a ∧ a < (g.length : Int)) ∧ Way (clean g) a x) ∧ o.Nodup ∧ ∀ x ∈ o, 0 ≤ x ∧ x < (g.length : Int) := by
  by_cases ha : 0 ≤ a ∧ a < (g.length : Int)
  · obtain ⟨o, h1, h2, h3, h4, _⟩ := order_now h ha
    exact ⟨a :: o, h1, fun x => by rw [h2]; exact ⟨fun hw => ⟨ha, hw⟩, fun hw => hw.2⟩, h3, h4⟩
  · refine ⟨[], ?_, fun x => ?_, List.nodup_nil, fun x hx => by simp at hx⟩
    · unfold graph_Order.f
      rw [if_pos h.1, told_none (fun hn => ha (clean_node.1 hn))]
      rfl
    · simp only [List.not_mem_nil, false_iff]
      exact fun hw => ha hw.1
theorem places_now {o : List Int} {n : Nat} (hn : n ≤ 900) (ho : o.length ≤ 900) : rank_places.f o (n : Int) = some (placesB o n) := by
  unfold rank_places.f
  rw [if_pos (by omega), Int.toNat_natCast]
end Go.Proofs.Ytdknhgbjgdmfkaa.P
namespace Go.Proofs.Ytdknhgbjgdmfkaa.P
open Go.RowKit Go.Shelf Go.Lib Go.Sort Go.Proofs.YtdknhgbjgdmfkaaW.PrintWords Go.Proofs.YtdknhgbjgdmfkaaW.PrintLast Go.Proofs.YtdknhgbjgdmfkaaW.PrintMore
def lex2 (x y : Int × Int) : Int := if Go.Lib.compareInt x.1 y.1 = 0 then Go.Lib.compareInt x.2 y.2 else Go.Lib.compareInt x.1 y.1
set_option maxHeartbeats 4000000 in
set_option maxRecDepth 100000 in
theorem compare2_c {w : World} {g1 o1 c1 g2 o2 c2 : Nat} {x0 x1 y0 y1 : Int} (h10 : w.cell? ⟨g1, o1, none⟩ = some (.int .i64 x0)) (h11 : w.cell? ⟨g1, o1 + 1, none⟩ = some (.int .i64 x1)) (h20 : w.cell? ⟨g2, o2, none⟩ = some (.int .i64 y0)) (h21 : w.cell? ⟨g2, o2 + 1, none⟩ = some (.int .i64 y1)) :
    Calls Try.prog 74 #[.slice (some ⟨g1, o1, none⟩) 2 c1, .slice (some ⟨g2, o2, none⟩) 2 c2] w fun e w' => e = .returned (.int .i64 (lex2 (x0, x1) (y0, y1))) ∧ ∃ q, w' = w.drewN q := by
  obtain ⟨p0, hp0⟩ : ∃ p, p = Go.Lib.compareInt x0 y0 := ⟨_, rfl⟩
  obtain ⟨p1, hp1⟩ : ∃ p, p = Go.Lib.compareInt x1 y1 := ⟨_, rfl⟩
  have hlex : lex2 (x0, x1) (y0, y1) = if p0 = 0 then p1 else p0 := by unfold lex2; rw [hp0, hp1]
  rw [hlex]
  obtain ⟨r, hr⟩ : ∃ r, r = if p0 = 0 then p1 else p0 := ⟨_, rfl⟩
  rw [← hr]
  have HRR := Aside0.mk hr
  have HC0 := Aside0.mk (fun W => Try.cmp_Compare_int x0 y0 W)
  have HC1 := Aside0.mk (fun W => Try.cmp_Compare_int x1 y1 W)
  rw [← hp0] at HC0
  rw [← hp1] at HC1
  clear hlex hp0 hp1 hr
  go_enter Try.func74, Try.ntmps74
  go_wp2
  go_loopw [5, 6, 7, 8, 11] (fun _ _ _ _ v11 wr => ((v11 = .int .i64 0) ∨ (v11 = .int .i64 1 ∧ p0 = 0) ∨ (v11 = .int .i64 2 ∧ p0 = 0 ∧ p1 = 0)) ∧ ∃ q, wr = w.drewN q) (fun _ _ _ _ v11 _ => 2 - (intOf v11).toNat)
  case atStart => exact ⟨.inl rfl, 0, rfl⟩
  case round =>
    obtain ⟨hv, q, rfl⟩ := hrel
    rcases hv with rfl | ⟨rfl, e0⟩ | ⟨rfl, e0, e1⟩
    · by_cases hz : p0 = 0
      · have b0 : (p0 != 0) = false := bne_eq_false_iff_eq.2 hz
        have b1 : (p0 == 0) = true := beq_iff_eq.2 hz
        have HZ := Aside0.mk hz
        clear hz
        go_wp2_with (go_at_call 93; refine (HC0.out _).mono ?_; rintro e w1 ⟨rfl, rfl⟩)
        go_roundw
        case rel => exact ⟨.inr (.inl ⟨by go_num, HZ.out⟩), q, rfl⟩
        case measure => simp [intOf]
      · have b0 : (p0 != 0) = true := bne_iff_ne.2 hz
        have b1 : (p0 == 0) = false := beq_eq_false_iff_ne.2 hz
        have HZ := Aside0.mk hz
        clear hz
        go_wp2_with (go_at_call 93; refine (HC0.out _).mono ?_; rintro e w1 ⟨rfl, rfl⟩)
        go_ret
        exact ⟨by rw [HRR.out, if_neg HZ.out]; rfl, q, rfl⟩
    · by_cases hz : p1 = 0
      · have b0 : (p1 != 0) = false := bne_eq_false_iff_eq.2 hz
        have b1 : (p1 == 0) = true := beq_iff_eq.2 hz
        have HZ := Aside0.mk (And.intro e0 hz)
        clear hz e0
        go_wp2_with (go_at_call 93; refine (HC1.out _).mono ?_; rintro e w1 ⟨rfl, rfl⟩)
        go_roundw
        case rel => exact ⟨.inr (.inr ⟨by go_num, HZ.out.1, HZ.out.2⟩), q, rfl⟩
        case measure => simp [intOf]
      · have b0 : (p1 != 0) = true := bne_iff_ne.2 hz
        have b1 : (p1 == 0) = false := beq_eq_false_iff_ne.2 hz
        have HZ := Aside0.mk (And.intro e0 hz)
        clear hz e0
        go_wp2_with (go_at_call 93; refine (HC1.out _).mono ?_; rintro e w1 ⟨rfl, rfl⟩)
        go_ret
        exact ⟨by rw [HRR.out, if_pos HZ.out.1]; rfl, q, rfl⟩
    · have HZ := Aside0.mk (And.intro e0 e1)
      clear e0 e1
      go_wp2
      go_ret
      exact ⟨by rw [HRR.out, if_pos HZ.out.1, HZ.out.2]; rfl, q, rfl⟩
set_option maxRecDepth 100000 in
theorem pair_eqd (d : Nat) (W : World) (x0 x1 y0 y1 : Int) : (Op.equalIn (d + 1 + 1) 74 (.agg #[.int .i64 x0, .int .i64 x1]) (.agg #[.int .i64 y0, .int .i64 y1])).run Try.prog W = .ok (x0 == y0 && x1 == y1) W := by
  have hc : Try.prog.cellsOf 3 = 1 := by kernel_rfl
  have hp : ∀ (xs : Array Value) (j : Nat) (v : Value), xs[j]? = some v → (part 3 xs j).run Try.prog W = .ok v W := fun xs j v hj => by
    simp [part, Sem.run_bind, Try.isAgg3, hj]
  have he : ∀ a b : Int, (Op.equalIn (d + 1) 3 (.int .i64 a) (.int .i64 b)).run Try.prog W = .ok (a == b) W := fun a b => run_equalIn_int W d 3 .i64 .i64 a b Try.underlying3
  obtain ⟨ti, hti, _⟩ := Option.map_eq_some_iff.1 info3
  rw [run_equalIn_array W (d + 1) _ _ Try.underlying74 hti]
  show (Op.eqItems (d + 1) 3 (Try.prog.cellsOf 3) _ _ [0, 1]).run _ _ = _
  rw [hc]
  simp only [Op.eqItems, Sem.run_bind]
  rw [hp #[.int .i64 x0, .int .i64 x1] (0 * 1) (.int .i64 x0) rfl]
  simp only [Result.andThen_ok]
  rw [hp #[.int .i64 y0, .int .i64 y1] (0 * 1) (.int .i64 y0) rfl]
  simp only [Result.andThen_ok, he]
  by_cases e : x0 = y0
  · rw [beq_iff_eq.2 e]
    simp only [Bool.not_true, Bool.false_eq_true, if_false, Sem.run_bind]
    rw [hp #[.int .i64 x0, .int .i64 x1] (1 * 1) (.int .i64 x1) rfl]
    simp only [Result.andThen_ok]
    rw [hp #[.int .i64 y0, .int .i64 y1] (1 * 1) (.int .i64 y1) rfl]
    simp only [Result.andThen_ok, he]
    by_cases e2 : x1 = y1
    · rw [beq_iff_eq.2 e2]
      simp
    · rw [beq_eq_false_iff_ne.2 e2]
      simp
  · rw [beq_eq_false_iff_ne.2 e]
    simp
theorem pair_slice (W : World) (g m : Nat) : (Instr.sliceAt 74 (.pointer (some ⟨g, m, none⟩)) none none none).run Try.prog W = .ok (.slice (some ⟨g, m, none⟩) 2 2) W := by
  have ha : Try.prog.arrayLen 74 = 2 := by kernel_rfl
  have he : Try.prog.elem 74 = 3 := by kernel_rfl
  rw [run_sliceAt_array_all W 74 _ (by rw [ha, he]; exact Try.underlying74), ha, he, Try.sizeOf3]
  simp [slicedAt, Addr.add_mid]
theorem pair_eq (W : World) (x0 x1 y0 y1 : Int) : (Op.equalIn 10000 74 (.agg #[.int .i64 x0, .int .i64 x1]) (.agg #[.int .i64 y0, .int .i64 y1])).run Try.prog W = .ok (x0 == y0 && x1 == y1) W := pair_eqd 9998 W x0 x1 y0 y1
set_option maxHeartbeats 4000000 in
set_option maxRecDepth 100000 in
theorem schedfn_c {w : World} {Bk gk n ck i j : Nat} {x0 x1 y0 y1 : Int} (hB : w.cell? ⟨Bk, 0, none⟩ = some (.slice (some ⟨gk, 0, none⟩) n ck)) (hi : i < n) (hj : j < n)
    (h10 : w.cell? ⟨gk, i * 2, none⟩ = some (.int .i64 x0)) (h11 : w.cell? ⟨gk, i * 2 + 1, none⟩ = some (.int .i64 x1)) (h20 : w.cell? ⟨gk, j * 2, none⟩ = some (.int .i64 y0)) (h21 : w.cell? ⟨gk, j * 2 + 1, none⟩ = some (.int .i64 y1)) :
    Calls Try.prog 73 #[.int .i64 i, .int .i64 j, .pointer (some ⟨Bk, 0, none⟩)] w fun e w' => e = .returned (.int .i64 (lex2 (x0, x1) (y0, y1))) ∧ ∃ q, w' = w.drewN q := by
  obtain ⟨r, hr⟩ : ∃ r, r = lex2 (x0, x1) (y0, y1) := ⟨_, rfl⟩
  have HC := Aside0.mk (fun W (k1 : World.cell? W ⟨gk, i * 2, none⟩ = some (.int .i64 x0)) (k2 : W.cell? ⟨gk, i * 2 + 1, none⟩ = some (.int .i64 x1)) (k3 : W.cell? ⟨gk, j * 2, none⟩ = some (.int .i64 y0)) (k4 : W.cell? ⟨gk, j * 2 + 1, none⟩ = some (.int .i64 y1)) c1 c2 => compare2_c (c1 := c1) (c2 := c2) k1 k2 k3 k4)
  rw [← hr] at HC ⊢
  have HRR := Aside0.mk hr
  clear hr
  have ld : ∀ (W : World), W.heap = w.heap → ∀ m : Nat, ∀ z0 z1 : Int, w.cell? ⟨gk, m, none⟩ = some (.int .i64 z0) → w.cell? ⟨gk, m + 1, none⟩ = some (.int .i64 z1) → (Instr.loadAt 74 (.pointer (some ⟨gk, m, none⟩))).run Try.prog W = .ok (.agg #[.int .i64 z0, .int .i64 z1]) W := fun W hW m z0 z1 k1 k2 => by
    refine run_loadAt_mid W gk m 74 [.int .i64 z0, .int .i64 z1] _ (fun j v hj => ?_) Try.underlying74 rfl (by kernel_rfl)
    have hcc : ∀ a : Addr, W.cell? a = w.cell? a := fun a => by simp only [World.cell?, hW]
    rw [hcc]
    match j, hj with
    | 0, hj => rw [← Option.some.inj hj]; exact k1
    | 1, hj => rw [← Option.some.inj hj]; exact k2
    | j + 2, hj => simp at hj
  have HE := fun W => pair_eq W x0 x1 y0 y1
  have HS := pair_slice
  have l1 := ld w rfl (i * 2) x0 x1 h10 h11
  have l2 := ld w rfl (j * 2) y0 y1 h20 h21
  have l3 := ld w.drew rfl (i * 2) x0 x1 h10 h11
  have l4 := ld w.drew rfl (j * 2) y0 y1 h20 h21
  have l5 := fun q => ld (w.drewN q) rfl (i * 2) x0 x1 h10 h11
  have l6 := fun q => ld (w.drewN q) rfl (j * 2) y0 y1 h20 h21
  clear ld
  by_cases hq : x0 = y0 ∧ x1 = y1
  · have b0 : (x0 == y0 && x1 == y1) = true := by rw [hq.1, hq.2]; simp
    have hrz : r = 0 := by rw [HRR.out, hq.1, hq.2]; unfold lex2 Go.Lib.compareInt; simp
    subst hrz
    simp only [b0] at HE
    clear hq HC
    go_enter Try.func73, Try.ntmps73
    go_wp2
    go_quiet ((fail))
    go_wp2
    go_ret
    exact ⟨rfl, _, rfl⟩
  · have b0 : (x0 == y0 && x1 == y1) = false := by
      rw [Bool.and_eq_false_iff, beq_eq_false_iff_ne, beq_eq_false_iff_ne]
      by_cases e : x0 = y0
      · exact .inr (fun e2 => hq ⟨e, e2⟩)
      · exact .inl e
    simp only [b0] at HE
    clear hq
    go_enter Try.func73, Try.ntmps73
    go_wp2
    go_quiet ((fail))
    go_wp2
    go_quiet ((go_at_call 74; refine (HC.out _ (by exact h10) (by exact h11) (by exact h20) (by exact h21) _ _).mono ?_; rintro e w' ⟨rfl, nd, rfl⟩; exact ⟨rfl, _, (World.drewN_drewN _ _ _).trans (congrArg (World.drewN _) (Nat.add_assoc _ _ _))⟩))
    go_wp2
    go_ret
    exact ⟨rfl, _, World.drewN_drewN _ _ _⟩
end Go.Proofs.Ytdknhgbjgdmfkaa.P
namespace Go.Proofs.Ytdknhgbjgdmfkaa.P
open Go.RowKit Go.Shelf Go.Lib Go.Sort Go.Proofs.YtdknhgbjgdmfkaaW.PrintWords Go.Proofs.YtdknhgbjgdmfkaaW.PrintLast Go.Proofs.YtdknhgbjgdmfkaaW.PrintMore
def keyAt (n : Nat) (rk pl : List Int) (a : Int) : Int × Int := (rd rk a, if rd pl a = -1 then (n : Int) + a else rd pl a)
def schedLe (n : Nat) (rk pl : List Int) (a b : Int) : Bool := decide (lex2 (keyAt n rk pl a) (keyAt n rk pl b) ≤ 0)
def schedB (n : Nat) (rk pl : List Int) : List Int := (nodes n).mergeSort (schedLe n rk pl)
def rank_Schedule.f (k : Nat) (l0 : List (List Int)) (a1 : Int) : Option (List Int) := (rank_Ranks.f k l0).bind fun rk => (graph_Order.f l0 a1).bind fun o => (rank_places.f o (l0.length : Int)).bind fun pl =>
  if rk.length = l0.length ∧ ((nodes l0.length).map (keyAt l0.length rk pl)).Nodup then some (schedB l0.length rk pl) else none
theorem rank_Schedule.mono : ∀ a0 a1 k, LeO (rank_Schedule.f k a0 a1) (rank_Schedule.f (k + 1) a0 a1) := fun a0 a1 k => by
  unfold rank_Schedule.f
  exact LeO.bind (rank_Ranks.mono a0 k) (fun _ => LeO.refl _)
theorem lex2_refl (x : Int × Int) : lex2 x x = 0 := by unfold lex2 Go.Lib.compareInt; simp
theorem lex2_neg (x y : Int × Int) : lex2 x y < 0 ↔ x.1 < y.1 ∨ (x.1 = y.1 ∧ x.2 < y.2) := by
  unfold lex2 Go.Lib.compareInt
  by_cases a : x.1 < y.1 <;> by_cases b : y.1 < x.1 <;> by_cases c : x.2 < y.2 <;> by_cases d : y.2 < x.2 <;> simp [a, b, c, d] <;> omega
theorem lex2_pos (x y : Int × Int) : 0 < lex2 x y ↔ y.1 < x.1 ∨ (x.1 = y.1 ∧ y.2 < x.2) := by
  unfold lex2 Go.Lib.compareInt
  by_cases a : x.1 < y.1 <;> by_cases b : y.1 < x.1 <;> by_cases c : x.2 < y.2 <;> by_cases d : y.2 < x.2 <;> simp [a, b, c, d] <;> omega
theorem lex2_le (x y : Int × Int) : lex2 x y ≤ 0 ↔ x.1 < y.1 ∨ (x.1 = y.1 ∧ x.2 ≤ y.2) := by
  have := lex2_pos x y
  constructor
  · intro h
    have : ¬ (y.1 < x.1 ∨ (x.1 = y.1 ∧ y.2 < x.2)) := fun e => by have := (lex2_pos x y).2 e; omega
    omega
  · intro h
    have : ¬ 0 < lex2 x y := fun e => by have := (lex2_pos x y).1 e; omega
    omega
theorem swo_lex {α : Type} (f : α → Int × Int) : SWO (ltOf fun x y => lex2 (f x) (f y)) where
  irrefl x := by unfold ltOf; simp [lex2_refl]
  trans x y z h1 h2 := by
    unfold ltOf at *
    simp only [decide_eq_true_eq, lex2_neg] at *
    omega
  ntrans x y z h1 h2 := by
    unfold ltOf at *
    simp only [decide_eq_false_iff_not, lex2_neg] at *
    omega
theorem nodes_attach (n : Nat) : ((List.range n).attach.map fun i => (i.1 : Int)) = nodes n := by
  unfold nodes
  rw [List.attach_map_val (f := fun i : Nat => (i : Int))]
theorem inj_of_nodup {α β : Type} {f : α → β} : ∀ {l : List α}, (l.map f).Nodup → ∀ a ∈ l, ∀ b ∈ l, f a = f b → a = b
  | [], _, a, ha, _, _, _ => by simp at ha
  | x :: l, h, a, ha, b, hb, e => by
    rw [List.map_cons, List.nodup_cons] at h
    rcases List.mem_cons.1 ha with ea | ha <;> rcases List.mem_cons.1 hb with eb | hb
    · rw [ea, eb]
    · exact absurd (List.mem_map.2 ⟨b, hb, by rw [← e, ea]⟩) h.1
    · exact absurd (List.mem_map.2 ⟨a, ha, by rw [e, eb]⟩) h.1
    · exact inj_of_nodup h.2 a ha b hb e
theorem sched_uniq {n : Nat} {rk pl l : List Int} (hp : l.Perm (nodes n)) (hs : l.Pairwise fun a b => lex2 (keyAt n rk pl a) (keyAt n rk pl b) ≤ 0) (hk : ((nodes n).map (keyAt n rk pl)).Nodup) : l = schedB n rk pl := by
  have hinj : ∀ a ∈ nodes n, ∀ b ∈ nodes n, keyAt n rk pl a = keyAt n rk pl b → a = b := inj_of_nodup hk
  refine List.Perm.eq_of_pairwise (le := fun a b => lex2 (keyAt n rk pl a) (keyAt n rk pl b) ≤ 0) (fun a b ha hb h1 h2 => ?_) hs ?_ (hp.trans (List.mergeSort_perm _ _).symm)
  · have ha' := hp.mem_iff.1 ha
    have hb' : b ∈ nodes n := (List.mergeSort_perm _ _).mem_iff.1 hb
    rw [lex2_le] at h1 h2
    exact hinj a ha' b hb' (Prod.ext (by omega) (by omega))
  · have := List.pairwise_mergeSort (le := schedLe n rk pl) (fun a b c h1 h2 => by
      unfold schedLe at *
      simp only [decide_eq_true_eq, lex2_le] at *
      omega) (fun a b => by
      unfold schedLe
      simp only [Bool.or_eq_true, decide_eq_true_eq, lex2_le]
      omega) (nodes n)
    exact this.imp (fun h => by unfold schedLe at h; exact of_decide_eq_true h)
theorem extract_all {α : Type} (A : Array α) {m : Nat} (h : A.size = m) : A.extract 0 m = A := by
  subst h
  exact Array.extract_size
theorem fr_cell {S : Nat → Prop} {w w' : World} (h : Fr S w w') {b o : Nat} {v : Value} (hc : w.cell? ⟨b, o, none⟩ = some v) (hn : ¬ S b) : w'.cell? ⟨b, o, none⟩ = some v := by
  have := h.block b (World.block_lt_of_cell? w ⟨b, o, none⟩ hc) hn
  rw [← hc]
  simp [World.cell?, this]
section
variable {w : World} {base n cap Bk gk ck go : Nat} {rk pl : List Int}
theorem sched_sort_c (own : dI.R 3 w base (fun k => k = go) (.slice (some ⟨go, 0, none⟩) n cap) (nodes n)) (hB : w.cell? ⟨Bk, 0, none⟩ = some (.slice (some ⟨gk, 0, none⟩) n ck)) (hBg : Bk ≠ go) (hgg : gk ≠ go)
    (hk : ∀ i : Nat, i < n → w.cell? ⟨gk, i * 2, none⟩ = some (.int .i64 (keyAt n rk pl (i : Int)).1) ∧ w.cell? ⟨gk, i * 2 + 1, none⟩ = some (.int .i64 (keyAt n rk pl (i : Int)).2))
    (hnd : ((nodes n).map (keyAt n rk pl)).Nodup) (hn : n ≤ 1000000) :
    Calls Try.prog 72 #[.slice (some ⟨go, 0, none⟩) n cap, .func (.func 73) #[] #[.pointer (some ⟨Bk, 0, none⟩)]] w fun e w' => e = .returned (.tuple #[]) ∧ dI.R 3 w' base (fun k => k = go) (.slice (some ⟨go, 0, none⟩) n cap) (schedB n rk pl) ∧ Fr (fun k => k = go) w w' := by
  have eg : ∀ args w, (callFunc 73 args).run Try.prog w = .ok (.enter 73 args) w := enters_of Try.func73 (by kernel_rfl) rfl
  rcases Nat.eq_zero_or_pos n with h0 | hp
  · subst h0
    have hnil : schedB 0 rk pl = nodes 0 := by
      unfold schedB nodes
      simp
    rw [hnil]
    refine (Try.slices_SortFunc_none_f72 (α := Int) (some ⟨go, 0, none⟩) cap _ w).mono ?_
    rintro e w' ⟨rfl, rfl⟩
    exact ⟨rfl, own, Fr.refl _ _⟩
  · haveI : Inhabited { i // i ∈ List.range n } := ⟨⟨0, List.mem_range.2 hp⟩⟩
    have hown : w.ownsRow base 3 1 (.slice (some ⟨go, 0, none⟩) n cap) n ((List.range n).attach.map (fun i => Value.int .i64 (i.1 : Int))) := by
      have h := R_ints own
      rw [nodes_len, ← nodes_attach, List.map_map] at h
      exact h
    have hvn : (Value.slice (some ⟨go, 0, none⟩) n cap) ≠ .slice none 0 0 := by simp
    obtain ⟨g, cap', e1, hgb, hgl, hcl, _, _, hH⟩ := holds_of_ownsRow (enc := fun i : { i // i ∈ List.range n } => Value.int .i64 (i.1 : Int)) hown hvn
    injection e1 with e1 e2 e3
    injection e1 with e1
    injection e1 with e1
    subst e1
    subst e3
    have hsz : (List.range n).attach.toArray.size = n := by simp
    have hcmp : CmpLays1 Try.prog 73 #[.pointer (some ⟨Bk, 0, none⟩)] (fun i : { i // i ∈ List.range n } => Value.int .i64 (i.1 : Int)) (fun x y => lex2 (keyAt n rk pl (x.1 : Int)) (keyAt n rk pl (y.1 : Int))) go 0 (List.range n).attach.toArray.size w := fun m os dk hdk x y => by
      have hf := fr_sortWorld (fun i : { i // i ∈ List.range n } => Value.int .i64 (i.1 : Int)) w go m dk os
      have hc : ∀ b o v, b ≠ go → w.cell? ⟨b, o, none⟩ = some v → (sortWorld (fun i : { i // i ∈ List.range n } => Value.int .i64 (i.1 : Int)) w go 0 m dk os).cell? ⟨b, o, none⟩ = some v := fun b o v hb hv => fr_cell hf hv hb
      have hx := hk x.1 (List.mem_range.1 x.2)
      have hy := hk y.1 (List.mem_range.1 y.2)
      refine (schedfn_c (hc _ _ _ hBg hB) (List.mem_range.1 x.2) (List.mem_range.1 y.2) (hc _ _ _ hgg hx.1) (hc _ _ _ hgg hx.2) (hc _ _ _ hgg hy.1) (hc _ _ _ hgg hy.2)).mono ?_
      rintro e w' ⟨he, q, hq⟩
      exact ⟨he, q, #[], by rw [hq, grow_empty]⟩
    have hS := Try.slices_SortFunc_f72 (fun i : { i // i ∈ List.range n } => Value.int .i64 (i.1 : Int)) (fun _ => rfl) (fun x y => lex2 (keyAt n rk pl (x.1 : Int)) (keyAt n rk pl (y.1 : Int))) (swo_lex fun x : { i // i ∈ List.range n } => keyAt n rk pl (x.1 : Int)) 73 #[.pointer (some ⟨Bk, 0, none⟩)] go 0 cap (List.range n).attach.toArray w eg hcmp hH hgl (by rw [hsz]; omega)
    rw [hsz] at hS
    refine hS.mono ?_
    rintro e w' ⟨rfl, d', m, os, hperm, hsort, rfl⟩
    have hd : d'.size = n := by rw [hperm.1, hsz]
    have hpl : d'.toList.Perm (List.range n).attach := by
      have := hperm.2.2
      rw [extract_all d' hd, extract_all _ hsz] at this
      simpa using this
    have hf := fr_sortWorld (fun i : { i // i ∈ List.range n } => Value.int .i64 (i.1 : Int)) w go m d' os
    have hl : d'.toList.map (fun i => (i.1 : Int)) = schedB n rk pl := by
      refine sched_uniq ?_ ?_ hnd
      · have := hpl.map (fun i => (i.1 : Int))
        rwa [nodes_attach] at this
      · rw [List.pairwise_map, List.pairwise_iff_getElem]
        intro i j hi hj hij
        have h1 := hsort i j (Nat.zero_le _) hij (by rw [Array.length_toList] at hj; omega)
        rw [getElem!_pos d' i (by simpa using hi), getElem!_pos d' j (by simpa using hj)] at h1
        unfold ltOf at h1
        simp only [decide_eq_false_iff_not] at h1
        simp only [Array.getElem_toList]
        have h2 := lex2_neg (keyAt n rk pl (d'[j].1 : Int)) (keyAt n rk pl (d'[i].1 : Int))
        rw [lex2_le]
        omega
    refine ⟨rfl, ?_, hf⟩
    refine ints_R ?_ (fun k e => by simp [Value.ownBlock] at e; exact e.symm)
    have h1 := own_sortWorld (q := m) (os := os) hown hd
    rw [← hl, List.map_map, List.length_map, Array.length_toList, hd]
    exact h1
end
end Go.Proofs.Ytdknhgbjgdmfkaa.P
namespace Go.Proofs.Ytdknhgbjgdmfkaa.P
open Go.RowKit Go.Shelf Go.Lib Go.Sort Go.Proofs.YtdknhgbjgdmfkaaW.PrintWords Go.Proofs.YtdknhgbjgdmfkaaW.PrintLast Go.Proofs.YtdknhgbjgdmfkaaW.PrintMore
def outSo (n i : Nat) : List Int := nodes i ++ List.replicate (n - i) 0
theorem outSo_zero (n : Nat) : outSo n 0 = List.replicate n 0 := by simp [outSo, nodes]
theorem outSo_all (n : Nat) : outSo n n = nodes n := by simp [outSo]
theorem outSo_set {n i : Nat} (h : i < n) : (outSo n i).set i (i : Int) = outSo n (i + 1) := by
  unfold outSo
  rw [List.set_append_right _ _ (by rw [nodes_len]; exact Nat.le_refl _), nodes_len, Nat.sub_self, show n - i = (n - (i + 1)) + 1 from by omega, List.replicate_succ, List.set_cons_zero, nodes_snoc, List.append_assoc]
  rfl
theorem made_two (m j : Nat) (hj : j < m) : (madeCells #[Value.int .i64 0, Value.int .i64 0] m)[j]? = some (Value.int .i64 0) := by
  have h2 : j % 2 = 0 ∨ j % 2 = 1 := by omega
  rcases h2 with h | h <;> simp [madeCells, hj, h]
set_option maxRecDepth 100000 in
theorem make_pairs (n : Nat) (hn : n ≤ 100000) (W : World) : (Instr.makeSlice 73 (.int .i64 (n : Int)) (.int .i64 (n : Int))).run Try.prog W = .ok (.slice (some ⟨W.heap.size, 0, none⟩) n n) (W.alloc (.cells (madeCells #[.int .i64 0, .int .i64 0] (n * 2)) 74)) := by
  obtain ⟨ti, hti, hi⟩ := Option.map_eq_some_iff.1 (show (Try.prog.info? 74).map (fun i => (i.zero, i.size, i.bytes)) = some (some (.agg #[.int .i64 0, .int .i64 0]), 2, 16) by kernel_rfl)
  have hz : ti.zero = some (.agg #[.int .i64 0, .int .i64 0]) := congrArg Prod.fst hi
  have hs : ti.size = 2 := congrArg (fun p => p.2.1) hi
  have hb : ti.bytes = 16 := congrArg (fun p => p.2.2) hi
  have := run_makeSlice W 73 74 ti (.agg #[.int .i64 0, .int .i64 0]) Try.underlying73 hti hz .i64 .i64 (n : Int) (n : Int) (by omega) (by omega) (by rw [hs]; omega) (by rw [hb]; omega) (by omega)
  rw [hs] at this
  simp only [Int.toNat_natCast] at this
  exact this
set_option maxHeartbeats 8000000 in
set_option maxRecDepth 100000 in
theorem rank_Schedule.calls (k : Nat) (A0 : Option Addr) (c0 : Nat) (l0 : List (List Int)) (a1 : Int) (r : List Int) (w : World) (hr0 : Kd.C (Kd.slice 3 (Kd.int .i64)) w A0 l0.length l0) (hc0 : l0.length ≤ c0) (h : rank_Schedule.f k l0 a1 = some r) :
    Calls Try.prog 45 #[.slice A0 l0.length c0, .int .i64 a1] w fun e w' => ∃ v0_ : Value, e = .returned v0_ ∧ dI.R 3 w' w.heap.size (fun _ => True) v0_ r ∧ Below w.heap.size w w' := by
  obtain ⟨rk, h1, h⟩ := Option.bind_eq_some_iff.1 h
  obtain ⟨o, h2, h⟩ := Option.bind_eq_some_iff.1 h
  obtain ⟨pl, h3, h⟩ := Option.bind_eq_some_iff.1 h
  have hF : rk.length = l0.length ∧ ((nodes l0.length).map (keyAt l0.length rk pl)).Nodup ∧ r = schedB l0.length rk pl := by
    split at h
    · rename_i hc
      exact ⟨hc.1, hc.2, (Option.some.inj h).symm⟩
    · cases h
  have hpf : l0.length ≤ 100000 ∧ o.length ≤ 1000000 ∧ pl.length = l0.length := by
    have h4 := h3
    unfold rank_places.f at h4
    split at h4
    · rename_i hc
      refine ⟨by omega, by omega, ?_⟩
      rw [← Option.some.inj h4]
      unfold placesB
      rw [places_len]
      simp
    · cases h4
  clear h
  have HRK : Aside0 (Calls Try.prog 46 #[.slice A0 l0.length c0] w fun e w' => ∃ v0_ : Value, e = .returned v0_ ∧ dI.R 3 w' w.heap.size (fun _ => True) v0_ rk ∧ Below w.heap.size w w') := ⟨rank_Ranks.calls k A0 c0 l0 rk w hr0 hc0 h1⟩
  have HOR : Aside0 (∀ W, Below w.heap.size w W → Calls Try.prog 24 #[.slice A0 l0.length c0, .int .i64 a1] W fun e w' => ∃ v0_ : Value, e = .returned v0_ ∧ dI.R 3 w' W.heap.size (fun _ => True) v0_ o ∧ Below W.heap.size W w') := ⟨fun W hW => graph_Order.calls A0 c0 l0 a1 o W (Kd.C_below hr0 hW) hc0 h2⟩
  have HPC : Aside0 (∀ A c W, o.length ≤ c → dI.C W A o.length o → Calls Try.prog 71 #[.slice A o.length c, .int .i64 (l0.length : Int)] W fun e w' => ∃ v0_ : Value, e = .returned v0_ ∧ dI.R 3 w' W.heap.size (fun _ => True) v0_ pl ∧ Below W.heap.size W w') := ⟨fun A c W hc hC => rank_places.calls A c o (l0.length : Int) pl W hC hc h3⟩
  clear hr0 hc0 h1 h2 h3
  obtain ⟨n, en⟩ : ∃ n, n = l0.length := ⟨_, rfl⟩
  obtain ⟨M, eM⟩ : ∃ M, M = o.length := ⟨_, rfl⟩
  have HEM := Aside0.mk eM
  rw [← en] at hF hpf HRK HOR HPC ⊢
  rw [← eM] at hpf HPC
  clear en eM
  have hn := hpf.1
  have HF := Aside0.mk hF
  have HPF := Aside0.mk hpf
  clear hF hpf
  have hmk := run_make_row' (P := Try.prog) 32 3 (.int .i64 0) 8 Try.underlying32 info3 rfl .i64 .i64 n (by omega) (by omega)
  have hmk2 := make_pairs n hn
  go_enter Try.func45, Try.ntmps45
  go_upto_region 2 with (go_at_call 46; refine HRK.out.mono ?_; rintro e w1 ⟨v1, rfl, ho1, hb1⟩; obtain ⟨A1, c1, rfl⟩ := Kd.R_slice ho1; rw [HF.out.1] at ho1 ⊢; have HO1 := Aside0.mk ho1; have HB1 := Aside0.mk hb1; clear ho1 hb1)
  go_upto_region 3 with (first | (go_at_call 24; refine (HOR.out _ HB1.out).mono ?_; rintro e w2 ⟨v2, rfl, ho2, hb2⟩; obtain ⟨A2, c2, rfl, hc2, hC2⟩ := Kd.R_reads ho2; rw [← HEM.out] at hc2 hC2 ⊢; have HC2 := Aside0.mk (And.intro hc2 hC2); have HB2 := Aside0.mk hb2; clear ho2 hb2 hc2 hC2) | (go_at_call 71; refine (HPC.out _ _ _ HC2.out.1 HC2.out.2).mono ?_; rintro e w3 ⟨v3, rfl, ho3, hb3⟩; obtain ⟨A3, c3, rfl⟩ := Kd.R_slice ho3; rw [HPF.out.2.2] at ho3 ⊢; have HO3 := Aside0.mk ho3; have HB3 := Aside0.mk hb3; clear ho3 hb3))
  go_upto_region 5 with (fail)
  have hs3 : w.heap.size ≤ w3.heap.size := Nat.le_trans HB1.out.size (Nat.le_trans HB2.out.size HB3.out.size)
  have HB3w := Aside0.mk (pbel_next (pbel_next HB1.out HB2.out) HB3.out)
  obtain ⟨gk, egk⟩ : ∃ gk, gk = w3.heap.size := ⟨_, rfl⟩
  obtain ⟨W5, eW5⟩ : ∃ W5, W5 = ((w3.alloc (.cells (madeCells #[.int .i64 0, .int .i64 0] (n * 2)) 74)).alloc (.cells #[.slice (some ⟨w3.heap.size, 0, none⟩) n n] 73)).alloc (.cells (madeCells #[.int .i64 0] n) 3) := ⟨_, rfl⟩
  have HB5 : Aside0 (Below w.heap.size w W5) := ⟨by rw [eW5]; exact below_alloc (below_alloc (below_alloc HB3w.out _) _) _⟩
  have HSZ : Aside0 (W5.heap.size = gk + 3 ∧ w.heap.size ≤ gk) := ⟨by rw [eW5, egk]; simp, by rw [egk]; exact hs3⟩
  have HR1 : Aside0 (dI.R 3 W5 w.heap.size (fun k => k < gk) (.slice A1 n c1) rk) := ⟨by
    rw [eW5, egk]
    exact Kd.R_alloc (Kd.R_alloc (Kd.R_alloc (Kd.R_mono (Kd.R_bound (Kd.R_below (Kd.R_below HO1.out HB2.out) HB3.out)) (fun k hk => hk.2.2.1)) _) _) _⟩
  have HR3 : Aside0 (dI.R 3 W5 w2.heap.size (fun k => k < gk) (.slice A3 n c3) pl) := ⟨by
    rw [eW5, egk]
    exact Kd.R_alloc (Kd.R_alloc (Kd.R_alloc (Kd.R_mono (Kd.R_bound HO3.out) (fun k hk => hk.2.2.1)) _) _) _⟩
  have h0 : W5.heap[gk]? = some (.cells (madeCells #[.int .i64 0, .int .i64 0] (n * 2)) 74 (0, 0)) := by
    rw [eW5]
    exact heap_old (heap_old (heap_new _ _ _ egk))
  have HBX : Aside0 (W5.cell? ⟨gk + 1, 0, none⟩ = some (.slice (some ⟨gk, 0, none⟩) n n)) := ⟨cell_of_blk (j := 0) (by
    rw [eW5]
    exact heap_old (heap_new _ _ _ (by rw [egk]; simp))) (by rw [egk]; rfl)⟩
  have HTH : Aside0 (W5.there gk 0 (n * 2)) := ⟨fun j hj => by
    rw [Nat.zero_add, cell_of_blk h0 (made_two (n * 2) j hj)]
    exact ⟨rfl, by simp [World.frozen?, h0]⟩⟩
  have HRO : Aside0 (dI.R 3 W5 w.heap.size (fun k => k = gk + 2) (.slice (some ⟨gk + 2, 0, none⟩) n n) (outSo n 0)) := ⟨by
    rw [outSo_zero]
    exact R_made (by rw [eW5]; exact heap_new _ _ _ (by rw [egk]; simp)) (by have := HSZ.out.2; omega) hn⟩
  rw [← eW5, ← egk]
  clear eW5 egk h0 HO1 HO3 HB3 HB2 HB1 HC2 HOR HPC HRK hmk hmk2 hs3 HB3w
  go_wp2
  go_loopw [27] (fun v27 wr => ∃ i : Nat, v27 = .int .i64 i ∧ i ≤ n ∧ Aside0 (dI.R 3 wr w.heap.size (fun k => k = gk + 2) (.slice (some ⟨gk + 2, 0, none⟩) n n) (outSo n i)) ∧ Aside0 (Fr (fun k => k = gk ∨ k = gk + 2) W5 wr) ∧ Aside0 (wr.there gk 0 (n * 2)) ∧ Aside0 (∀ j : Nat, j < i → wr.cell? ⟨gk, j * 2, none⟩ = some (.int .i64 (keyAt n rk pl (j : Int)).1) ∧ wr.cell? ⟨gk, j * 2 + 1, none⟩ = some (.int .i64 (keyAt n rk pl (j : Int)).2))) (fun v27 _ => n - (intOf v27).toNat)
  case atStart => exact ⟨0, rfl, Nat.zero_le _, HRO, ⟨Fr.refl _ _⟩, HTH, ⟨fun j hj => by omega⟩⟩
  case round =>
    clear HRO HTH
    obtain ⟨i, rfl, hi, HR, HFr, HTH, HKS⟩ := hrel
    by_cases hlt : i < n
    · have hRow1 := R_fr HR1.out HFr.out (fun k hk _ e => by omega)
      have hRow3 := R_fr HR3.out HFr.out (fun k hk _ e => by omega)
      obtain ⟨g1, cap1, e1, hg1, hg2, _⟩ := Kd.R_form hRow1 (by rw [HF.out.1]; omega)
      obtain ⟨g3, cap3, e3, hg3, hg4, _⟩ := Kd.R_form hRow3 (by rw [HPF.out.2.2]; omega)
      injection e1 with ea eb ec
      subst ea
      subst ec
      clear eb
      injection e3 with ea eb ec
      subst ea
      subst ec
      clear eb
      obtain ⟨hx, _⟩ := R_int_cell' hRow1 hlt
      obtain ⟨hy, _⟩ := R_int_cell' hRow3 hlt
      obtain ⟨ho, hof⟩ := R_int_cell' HR.out hlt
      have hbx : wr.cell? ⟨gk + 1, 0, none⟩ = some (.slice (some ⟨gk, 0, none⟩) n n) := fr_cell HFr.out HBX.out (by omega)
      obtain ⟨x, ex⟩ : ∃ x, x = rk.getD i 0 := ⟨_, rfl⟩
      obtain ⟨y, ey⟩ : ∃ y, y = pl.getD i 0 := ⟨_, rfl⟩
      obtain ⟨z, ez⟩ : ∃ z, z = if y = -1 then (n : Int) + (i : Int) else y := ⟨_, rfl⟩
      have hkey : Aside0 (keyAt n rk pl (i : Int) = (x, z)) := ⟨by
        unfold keyAt
        unfold Go.Proofs.YtdknhgbjgdmfkaaW.PrintWords.rd
        rw [Int.toNat_natCast, ← ex, ← ey, ez]⟩
      rw [← ex] at hx
      rw [← ey] at hy
      obtain ⟨u0, hc0⟩ : ∃ u, wr.cell? ⟨gk, i * 2, none⟩ = some u := Option.isSome_iff_exists.1 (by have := (HTH.out (i * 2) (by omega)).1; rwa [Nat.zero_add] at this)
      obtain ⟨u1, hc1⟩ : ∃ u, wr.cell? ⟨gk, i * 2 + 1, none⟩ = some u := Option.isSome_iff_exists.1 (by have := (HTH.out (i * 2 + 1) (by omega)).1; rwa [Nat.zero_add] at this)
      have hf0 : wr.frozen? ⟨gk, i * 2, none⟩ = false := by have := (HTH.out (i * 2) (by omega)).2; rwa [Nat.zero_add] at this
      have hf1 : wr.frozen? ⟨gk, i * 2 + 1, none⟩ = false := by have := (HTH.out (i * 2 + 1) (by omega)).2; rwa [Nat.zero_add] at this
      have hgo : gk ≠ gk + 2 := by omega
      have HC2 := Aside0.mk (And.intro hc0 hc1)
      have HFIN : Aside0 (∀ W : World, W = (((wr.setCell ⟨gk + 2, i, none⟩ (.int .i64 (i : Int))).setCell ⟨gk, i * 2, none⟩ (.int .i64 x)).setCell ⟨gk, i * 2 + 1, none⟩ (.int .i64 z)).drew → Aside0 (dI.R 3 W w.heap.size (fun k => k = gk + 2) (.slice (some ⟨gk + 2, 0, none⟩) n n) (outSo n (i + 1))) ∧ Aside0 (Fr (fun k => k = gk ∨ k = gk + 2) W5 W) ∧ Aside0 (W.there gk 0 (n * 2)) ∧ Aside0 (∀ j : Nat, j < i + 1 → W.cell? ⟨gk, j * 2, none⟩ = some (.int .i64 (keyAt n rk pl (j : Int)).1) ∧ W.cell? ⟨gk, j * 2 + 1, none⟩ = some (.int .i64 (keyAt n rk pl (j : Int)).2))) := ⟨fun W hW => by
        have hfr1 : Fr (fun k => k = gk) (wr.setCell ⟨gk + 2, i, none⟩ (.int .i64 (i : Int))) W := by
          rw [hW]
          exact (((Fr.refl (fun k => k = gk) _).setCell (p := ⟨gk, i * 2, none⟩) (.inl rfl) _).setCell (p := ⟨gk, i * 2 + 1, none⟩) (.inl rfl) _).trans (Fr.drewN (fun k => k = gk) _ 1) (fun _ h => .inl h)
        have hput := Kd.R_putn HR.out (i : Int) (i : Int)
        rw [Int.toNat_natCast, outSo_set hlt] at hput
        refine ⟨⟨R_fr hput hfr1 (fun k hk _ e => by omega)⟩, ⟨(HFr.out.setCell (p := ⟨gk + 2, i, none⟩) (.inl (.inr rfl)) _).trans hfr1 (fun _ h => .inl (.inl h))⟩, ⟨?_⟩, ⟨fun j hj => ?_⟩⟩
        · rw [hW, World.there_drew]
          exact World.there_setCells (World.there_setCells (World.there_setCells HTH.out (gk + 2) i [.int .i64 (i : Int)]) gk (i * 2) [.int .i64 x]) gk (i * 2 + 1) [.int .i64 z]
        · have hcd : ∀ (V : World) a, V.drew.cell? a = V.cell? a := fun _ _ => rfl
          rw [hW, hcd, hcd]
          by_cases e : j = i
          · subst e
            rw [hkey.out]
            have n1 : (⟨gk, j * 2 + 1, none⟩ : Addr) ≠ ⟨gk, j * 2, none⟩ := by simp
            have n2 : (⟨gk + 2, j, none⟩ : Addr) ≠ ⟨gk, j * 2, none⟩ := by simp
            have n3 : (⟨gk + 2, j, none⟩ : Addr) ≠ ⟨gk, j * 2 + 1, none⟩ := by simp
            refine ⟨?_, ?_⟩
            · rw [World.cell?_setCell_other _ _ _ _ n1]
              exact World.cell?_setCell_same _ _ _ (by rw [World.cell?_setCell_other _ _ _ _ n2]; exact HC2.out.1)
            · exact World.cell?_setCell_same _ _ _ (by rw [World.cell?_setCell_other _ _ _ _ n1.symm, World.cell?_setCell_other _ _ _ _ n3]; exact HC2.out.2)
          · have h := HKS.out j (by omega)
            have m1 : (⟨gk, i * 2 + 1, none⟩ : Addr) ≠ ⟨gk, j * 2, none⟩ := by simp
            have m2 : (⟨gk, i * 2, none⟩ : Addr) ≠ ⟨gk, j * 2, none⟩ := by simp
            have m3 : (⟨gk + 2, i, none⟩ : Addr) ≠ ⟨gk, j * 2, none⟩ := by simp
            have m4 : (⟨gk, i * 2 + 1, none⟩ : Addr) ≠ ⟨gk, j * 2 + 1, none⟩ := by simp
            have m5 : (⟨gk, i * 2, none⟩ : Addr) ≠ ⟨gk, j * 2 + 1, none⟩ := by simp
            have m6 : (⟨gk + 2, i, none⟩ : Addr) ≠ ⟨gk, j * 2 + 1, none⟩ := by simp
            rw [World.cell?_setCell_other _ _ _ _ m1, World.cell?_setCell_other _ _ _ _ m2, World.cell?_setCell_other _ _ _ _ m3, World.cell?_setCell_other _ _ _ _ m4, World.cell?_setCell_other _ _ _ _ m5, World.cell?_setCell_other _ _ _ _ m6]
            exact h⟩
      clear hRow1 hRow3 HTH HKS ex ey
      by_cases hy1 : y = -1
      · subst hy1
        have b0 : ((-1 : Int) == -1) = true := rfl
        have hw : IntKind.i64.wrap ((n : Int) + (i : Int)) = (n : Int) + (i : Int) := IntWalk.i64_in _ (by omega)
        rw [if_pos rfl] at ez
        subst ez
        go_wp2
        go_region
        go_wp2
        go_roundw
        case rel => exact ⟨i + 1, by go_num, by omega, HFIN.out _ rfl⟩
        case measure => simp [intOf]; omega
      · have b0 : (y == -1) = false := beq_eq_false_iff_ne.2 hy1
        rw [if_neg hy1] at ez
        subst ez
        go_wp2
        go_region
        go_wp2
        go_roundw
        case rel => exact ⟨i + 1, by go_num, by omega, HFIN.out _ rfl⟩
        case measure => simp [intOf]; omega
    · obtain rfl : i = n := by omega
      have hall := HR.out
      rw [outSo_all] at hall
      have HSO := Aside0.mk (sched_sort_c hall (fr_cell HFr.out HBX.out (by omega)) (by omega) (by omega) HKS.out HF.out.2.1 (by omega))
      have HBW : Aside0 (Below w.heap.size w wr) := ⟨below_fr HB5.out HFr.out (fun k e => by have := HSZ.out.2; omega) HB5.out.size⟩
      clear hall HR HTH HKS hlt
      go_upto_region 13 with (go_at_call 72; refine HSO.out.mono ?_; rintro e w6 ⟨rfl, ho6, hf6⟩; have HO6 := Aside0.mk ho6; have HF6 := Aside0.mk hf6; clear ho6 hf6)
      go_wp2
      go_ret
      exact ⟨_, rfl, by rw [HF.out.2.2]; exact Kd.R_mono HO6.out (fun _ _ => trivial), below_fr HBW.out HF6.out (fun k e => by have := HSZ.out.2; omega) HBW.out.size⟩
end Go.Proofs.Ytdknhgbjgdmfkaa.P
namespace Go.Proofs.Ytdknhgbjgdmfkaa.P
open Go.RowKit Go.Lib Go.Sort Go.Shelf Go.Proofs.YtdknhgbjgdmfkaaW.PrintWords Go.Proofs.YtdknhgbjgdmfkaaW.PrintLast Go.Proofs.YtdknhgbjgdmfkaaW.PrintMore
def idxF (p : Int → Bool) (xs : List Int) : Int := match xs.findIdx? p with | some i => (i : Int) | none => -1
theorem idxF_any (p : Int → Bool) (xs : List Int) : decide (0 ≤ idxF p xs) = xs.any p := by
  unfold idxF
  cases h : xs.findIdx? p with
  | none =>
    rw [List.findIdx?_eq_none_iff] at h
    have : xs.any p = false := by rw [List.any_eq_false]; exact fun x hx => by rw [h x hx]; simp
    rw [this]
    rfl
  | some i =>
    rw [List.findIdx?_eq_some_iff_getElem] at h
    obtain ⟨hi, hp, _⟩ := h
    have : xs.any p = true := List.any_eq_true.2 ⟨xs[i], List.getElem_mem hi, hp⟩
    rw [this]
    simp
theorem idxF_hit {p : Int → Bool} {xs : List Int} {k : Nat} (hk : k < xs.length) (hp : p xs[k] = true) (hno : ∀ j (hj : j < xs.length), j < k → p xs[j] = false) : idxF p xs = (k : Int) := by
  unfold idxF
  have : xs.findIdx? p = some k := List.findIdx?_eq_some_iff_getElem.2 ⟨hk, hp, fun j hj => by rw [hno j (by omega) hj]; simp⟩
  rw [this]
theorem idxF_miss {p : Int → Bool} {xs : List Int} (hno : ∀ j (hj : j < xs.length), p xs[j] = false) : idxF p xs = -1 := by
  unfold idxF
  have : xs.findIdx? p = none := List.findIdx?_eq_none_iff.2 (fun x hx => by
    obtain ⟨j, hj, e⟩ := List.getElem_of_mem hx
    rw [← e]
    exact hno j hj)
  rw [this]
set_option maxHeartbeats 4000000 in
theorem index_b (g : Nat) (lb : Array Value) (p : Int → Bool) (eg : ∀ args w, (callFunc g args).run Try.prog w = .ok (.enter g args) w) (A : Option Addr) (c : Nat) (xs : List Int) (w : World) (hC : dI.C w A xs.length xs) (hb : xs.length ≤ 1000000)
    (hp : ∀ W x, Below w.heap.size w W → x ∈ xs → Calls Try.prog g (#[.int .i64 x] ++ lb) W fun e w' => e = .returned (.bool (p x)) ∧ Below W.heap.size W w') :
    Calls Try.prog 77 #[.slice A xs.length c, .func (.func g) #[] lb] w fun e w' => e = .returned (.int .i64 (idxF p xs)) ∧ Below w.heap.size w w' := by
  have HP := Aside0.mk hp
  have HC := Aside0.mk hC
  obtain ⟨n, hn⟩ : ∃ n, n = xs.length := ⟨_, rfl⟩
  rw [← hn] at hb ⊢
  have HN := Aside0.mk hn
  clear hp hC hn
  go_enter Try.func77, Try.ntmps77
  go_wp2
  go_loopw [5, 8] (fun _ v8 wr => ∃ k : Nat, v8 = .int .i64 k ∧ k ≤ n ∧ Aside0 (∀ j (hj : j < xs.length), j < k → p xs[j] = false) ∧ Aside0 (Below w.heap.size w wr)) (fun _ v8 _ => n - (intOf v8).toNat)
  case atStart => exact ⟨0, rfl, Nat.zero_le _, ⟨fun j _ hj => absurd hj (Nat.not_lt_zero _)⟩, ⟨Below.refl _ _⟩⟩
  case round =>
    obtain ⟨k, rfl, hk, HNO, HB⟩ := hrel
    by_cases hlt : k < n
    · have hkx : k < xs.length := by have := HN.out; omega
      obtain ⟨b, off, e1, _, hcc⟩ := C_ints (Kd.C_below HC.out HB.out) (by omega)
      subst e1
      have hcell := hcc k hkx
      obtain ⟨y, ey⟩ : ∃ y, y = xs[k] := ⟨_, rfl⟩
      rw [List.getD_eq_getElem?_getD, List.getElem?_eq_getElem hkx, Option.getD_some, ← ey] at hcell
      have HY := Aside0.mk ey
      have hcall := HP.out wr y HB.out (by rw [ey]; exact List.getElem_mem hkx)
      obtain ⟨q, hq⟩ : ∃ q, q = p y := ⟨_, rfl⟩
      rw [← hq] at hcall
      have HQ := Aside0.mk hq
      clear hcc ey hq
      cases q with
      | true =>
        go_wp2_with (go_at_fn g; refine hcall.mono ?_; rintro e w2 ⟨rfl, hb2⟩; have HB2 := Aside0.mk hb2; clear hb2)
        go_ret
        refine ⟨?_, below_step HB.out HB2.out⟩
        rw [idxF_hit (p := p) (xs := xs) (k := k) (by have := HN.out; omega) (by rw [← HY.out]; exact HQ.out.symm) HNO.out]
        rfl
      | false =>
        go_wp2_with (go_at_fn g; refine hcall.mono ?_; rintro e w2 ⟨rfl, hb2⟩; have HB2 := Aside0.mk hb2; clear hb2)
        go_roundw
        case rel =>
          refine ⟨k + 1, by go_num, by omega, ⟨fun j hj hjk => ?_⟩, ⟨below_step HB.out HB2.out⟩⟩
          rcases Nat.lt_or_ge j k with h1 | h1
          · exact HNO.out j hj h1
          · obtain rfl : j = k := by omega
            rw [← HY.out]
            exact HQ.out.symm
        case measure => simp [intOf]; omega
    · obtain rfl : k = n := by omega
      clear hlt
      go_wp2
      go_ret
      refine ⟨?_, HB.out⟩
      rw [idxF_miss (p := p) (xs := xs) (fun j hj => HNO.out j hj (by have := HN.out; omega))]
      rfl
set_option maxHeartbeats 1000000 in
theorem contains_b (g : Nat) (lb : Array Value) (p : Int → Bool) (eg : ∀ args w, (callFunc g args).run Try.prog w = .ok (.enter g args) w) (A : Option Addr) (c : Nat) (xs : List Int) (w : World) (hC : dI.C w A xs.length xs) (hb : xs.length ≤ 1000000)
    (hp : ∀ W x, Below w.heap.size w W → x ∈ xs → Calls Try.prog g (#[.int .i64 x] ++ lb) W fun e w' => e = .returned (.bool (p x)) ∧ Below W.heap.size W w') :
    Calls Try.prog 65 #[.slice A xs.length c, .func (.func g) #[] lb] w fun e w' => e = .returned (.bool (xs.any p)) ∧ Below w.heap.size w w' := by
  have HI := Aside0.mk (index_b g lb p eg A c xs w hC hb hp)
  obtain ⟨r, hr⟩ : ∃ r, r = idxF p xs := ⟨_, rfl⟩
  rw [← hr] at HI
  rw [← idxF_any p xs, ← hr]
  clear hp hC hr
  go_enter Try.func65, Try.ntmps65
  go_wp2_with (go_at_call 77; refine HI.out.mono ?_; rintro e w2 ⟨rfl, hb2⟩; have HB2 := Aside0.mk hb2; clear hb2)
  go_ret
  exact ⟨rfl, HB2.out⟩
set_option maxHeartbeats 4000000 in
theorem pathfn_gives (x b : Int) (Bg Bb : Nat) (A0 : Option Addr) (c0 : Nat) (l0 : List (List Int)) (r : List Bool) (W : World) (hcg : W.cell? ⟨Bg, 0, none⟩ = some (.slice A0 l0.length c0)) (hcb : W.cell? ⟨Bb, 0, none⟩ = some (.int .i64 b)) (hlg : Bg < W.heap.size) (hlb : Bb < W.heap.size)
    (hC : dG.C W A0 l0.length l0) (hc0 : l0.length ≤ c0) (hr : graph_Reach.f l0 x = some r) (hb0 : 0 ≤ b) (hb1 : b < (r.length : Int)) :
    Calls Try.prog 66 (#[.int .i64 x] ++ #[.pointer (some ⟨Bg, 0, none⟩), .pointer (some ⟨Bb, 0, none⟩)]) W fun e w' => e = .returned (.bool (rdOf false r b)) ∧ Below W.heap.size W w' := by
  show Calls Try.prog 66 #[.int .i64 x, .pointer (some ⟨Bg, 0, none⟩), .pointer (some ⟨Bb, 0, none⟩)] W _
  have HRE := Aside0.mk (fun W' (hW : Below W.heap.size W W') => graph_Reach.calls A0 c0 l0 x r W' (Kd.C_below hC hW) hc0 hr)
  have HLG := Aside0.mk (And.intro hlg hlb)
  clear hC hr hc0 hlg hlb
  obtain ⟨q, hq⟩ : ∃ q, q = rdOf false r b := ⟨_, rfl⟩
  rw [← hq]
  have HQ := Aside0.mk hq
  clear hq
  go_enter Try.func66, Try.ntmps66
  go_wp2
  go_region_with
    (first | (go_at_call 21; refine (HRE.out _ (by repeat (first | exact Below.refl _ _ | apply pw_below_drewN | apply below_drew1 | apply below_drew))).mono ?_; rintro e w1 ⟨v, rfl, ho, hbw⟩; (have g1 := cell_later hbw hcg HLG.out.1); (have g2 := cell_later hbw hcb HLG.out.2); obtain ⟨gv, cv, rfl, _⟩ := Kd.R_form ho (by omega); obtain ⟨hcv, hfv⟩ := Kd.R_celln false ho b hb0 hb1; rw [← HQ.out] at hcv; have HBW := Aside0.mk ((by repeat (first | exact Below.refl _ _ | apply pw_below_drewN | apply below_drew1 | apply below_drew) : Below W.heap.size W _).trans hbw); clear ho hbw))
  all_goals
    go_wp2
    go_ret
    exact ⟨rfl, by repeat (first | exact HBW.out | apply pw_below_drewN | apply below_drew1 | apply below_drew)⟩
set_option maxHeartbeats 4000000 in
set_option maxRecDepth 100000 in
theorem graph_Path.calls (A0 : Option Addr) (c0 : Nat) (l0 : List (List Int)) (a1 : Int) (a2 : Int) (r : Bool) (w : World) (hr0 : Kd.C (Kd.slice 3 (Kd.int .i64)) w A0 l0.length l0) (hc0 : l0.length ≤ c0) (h : graph_Path.f l0 a1 a2 = some r) :
    Calls Try.prog 30 #[.slice A0 l0.length c0, .int .i64 a1, .int .i64 a2] w fun e w' => e = .returned (.bool r) ∧ Below w.heap.size w w' := by
  have HR0 := Aside0.mk hr0
  have HC0 := Aside0.mk hc0
  obtain ⟨hfit, hpath⟩ : fits l0 = true ∧ (if isN l0.length a1 = true ∧ isN l0.length a2 = true then (if ((clean l0).getD a1.toNat []).all (fun c => decide ((graph_Reach.f l0 c).isSome = true ∧ ((graph_Reach.f l0 c).getD []).length = l0.length)) = true then some (((clean l0).getD a1.toNat []).any fun c => reachB l0 c a2) else none) else some false) = some r := by
    unfold graph_Path.f at h
    split at h
    · exact ⟨by assumption, h⟩
    · cases h
  have HF := Aside0.mk hfit
  clear hr0 hc0 h hfit
  have HIS : ∀ W, Calls Try.prog 53 #[.slice A0 l0.length c0, .int .i64 a1] W fun e w' => e = .returned (.bool (isN l0.length a1)) ∧ W = w' := fun W => is_c a1 A0 l0.length c0 W
  have HIT : ∀ W, Calls Try.prog 53 #[.slice A0 l0.length c0, .int .i64 a2] W fun e w' => e = .returned (.bool (isN l0.length a2)) ∧ W = w' := fun W => is_c a2 A0 l0.length c0 W
  have hBw : Below w.heap.size w ((w.alloc (.cells #[.slice A0 l0.length c0] 22)).alloc (.cells #[.int .i64 a2] 3)) := below_alloc (below_alloc (Below.refl _ _) _) _
  have HBW := Aside0.mk hBw
  have CL := Aside0.mk (graph_Clean.calls A0 c0 l0 (clean l0) _ (Kd.C_below HR0.out hBw) HC0.out (by unfold graph_Clean.f; rw [if_pos HF.out]))
  clear hBw
  rcases Bool.eq_false_or_eq_true (isN l0.length a1) with hna | hna
  · rcases Bool.eq_false_or_eq_true (isN l0.length a2) with hnb | hnb
    · rw [if_pos ⟨hna, hnb⟩] at hpath
      rw [hna] at HIS
      rw [hnb] at HIT
      obtain ⟨ha0, ha1⟩ := isN_iff.1 hna
      obtain ⟨hb0, hb1⟩ := isN_iff.1 hnb
      obtain ⟨row_, erow⟩ : ∃ row_, row_ = (clean l0).getD a1.toNat [] := ⟨_, rfl⟩
      rw [← erow] at hpath
      split at hpath
      · rename_i hall
        have HER := Aside0.mk erow
        have hr := Option.some.inj hpath
        rw [← hr]
        have HALL : Aside0 (∀ c ∈ row_, ∃ r', graph_Reach.f l0 c = some r' ∧ r'.length = l0.length) := by
          refine ⟨fun c hc => ?_⟩
          have := List.all_eq_true.1 hall c hc
          simp only [decide_eq_true_eq] at this
          obtain ⟨r', hr'⟩ := Option.isSome_iff_exists.1 this.1
          exact ⟨r', hr', by have := this.2; rw [hr'] at this; exact this⟩
        have hmem : row_ ∈ clean l0 := by
          rw [erow, List.getD_eq_getElem?_getD, List.getElem?_eq_getElem (by rw [clean_len]; omega)]
          exact List.getElem_mem _
        have HRW := Aside0.mk (clean_small HF.out _ hmem)
        obtain ⟨q, hq⟩ : ∃ q, q = row_.any fun c => reachB l0 c a2 := ⟨_, rfl⟩
        rw [← hq]
        have HQ := Aside0.mk hq
        clear hna hnb hmem hall hr erow hpath hq
        go_enter Try.func30, Try.ntmps30
        go_wp2_with (first | (go_at_call 16; refine CL.out.mono ?_; rintro e w2 ⟨v2, rfl, ho2, hb2⟩; obtain ⟨A2, c2, e2, _⟩ := Kd.S_reads ho2; rw [clean_len] at e2; subst e2; (obtain ⟨g2, A3, c3, e3, hl3, hst⟩ := row_stays ho2 (S := fun _ => False) (fun _ hk => hk.elim) (k := a1.toNat) (by omega)); subst e3; rw [← HER.out] at hl3 hst; (obtain ⟨hx3, hC3⟩ := hst w2 (Fr.refl _ _)); have HC3 := Aside0.mk hC3; have HB2 := Aside0.mk hb2; clear ho2 hb2 hst hC3 hl3) | (go_at_call 53; (with_reducible refine (HIS _).mono ?_); rintro e w' ⟨rfl, rfl⟩) | (go_at_call 53; (with_reducible refine (HIT _).mono ?_); rintro e w' ⟨rfl, rfl⟩))
        have HPR : Aside0 (∀ W x, Below w2.heap.size w2 W → x ∈ row_ → Calls Try.prog 66 (#[.int .i64 x] ++ #[.pointer (some ⟨w.heap.size, 0, none⟩), .pointer (some ⟨w.heap.size + 1, 0, none⟩)]) W fun e w' => e = .returned (.bool (reachB l0 x a2)) ∧ Below W.heap.size W w') := by
          refine ⟨fun W x hW hx => ?_⟩
          obtain ⟨r', hr', hl'⟩ := HALL.out x hx
          have hs1 : ((w.alloc (.cells #[.slice A0 l0.length c0] 22)).alloc (.cells #[.int .i64 a2] 3)).heap.size = w.heap.size + 2 := by rw [size_alloc1, size_alloc1]
          have hB2 : Below (w.heap.size + 2) ((w.alloc (.cells #[.slice A0 l0.length c0] 22)).alloc (.cells #[.int .i64 a2] 3)) w2 := by rw [← hs1]; exact HB2.out
          have hsz := hB2.size
          rw [hs1] at hsz
          have k1 := cell_later hW (cell_later hB2 (g := w.heap.size) (o := 0) (v := .slice A0 l0.length c0) (by simp) (by omega)) (by omega)
          have k2 := cell_later hW (cell_later hB2 (g := w.heap.size + 1) (o := 0) (v := .int .i64 a2) (by rw [show w.heap.size + 1 = (w.alloc (.cells #[.slice A0 l0.length c0] 22)).heap.size from (size_alloc1 _ _).symm]; simp) (by omega)) (by omega)
          have hBW : Below w.heap.size w W := below_step (below_step HBW.out HB2.out) hW
          have := pathfn_gives x a2 w.heap.size (w.heap.size + 1) A0 c0 l0 r' W k1 k2 (by have := hW.size; omega) (by have := hW.size; omega) (Kd.C_below HR0.out hBW) HC0.out hr' hb0 (by rw [hl']; exact hb1)
          have er : reachB l0 x a2 = rdOf false r' a2 := by unfold reachB rdOf; rw [hr']; rfl
          rw [er]
          exact this
        go_wp2_with (go_at_call 65; refine (contains_b 66 _ (fun c => reachB l0 c a2) (enters_of Try.func66 (by kernel_rfl) rfl) _ _ row_ w2 HC3.out (by have := HRW.out; omega) HPR.out).mono ?_; rintro e w3 ⟨rfl, hb3⟩; rw [← HQ.out]; have HB3 := Aside0.mk hb3; clear hb3)
        go_ret
        exact ⟨rfl, below_step (below_step HBW.out HB2.out) HB3.out⟩
      · cases hpath
    · rw [if_neg (by rw [hnb]; simp)] at hpath
      have HRS := Aside0.mk (Option.some.inj hpath)
      rw [hna] at HIS
      rw [hnb] at HIT
      clear hna hnb hpath
      go_enter Try.func30, Try.ntmps30
      go_wp2_with (first | (go_at_call 53; (with_reducible refine (HIS _).mono ?_); rintro e w' ⟨rfl, rfl⟩) | (go_at_call 53; (with_reducible refine (HIT _).mono ?_); rintro e w' ⟨rfl, rfl⟩))
      go_ret
      exact ⟨by rw [← HRS.out]; rfl, HBW.out⟩
  · rw [if_neg (by rw [hna]; simp)] at hpath
    have HRS := Aside0.mk (Option.some.inj hpath)
    rw [hna] at HIS
    clear hna hpath HIT
    go_enter Try.func30, Try.ntmps30
    go_wp2_with (go_at_call 53; (with_reducible refine (HIS _).mono ?_); rintro e w' ⟨rfl, rfl⟩)
    go_ret
    exact ⟨by rw [← HRS.out]; rfl, HBW.out⟩
end Go.Proofs.Ytdknhgbjgdmfkaa.P
namespace Go.Proofs.Ytdknhgbjgdmfkaa.P
open Go.RowKit Go.Lib Go.Sort Go.Shelf Go.Proofs.YtdknhgbjgdmfkaaW.PrintWords Go.Proofs.YtdknhgbjgdmfkaaW.PrintLast Go.Proofs.YtdknhgbjgdmfkaaW.PrintMore
def lessIn (l1 : List Int) (k : Nat) (b : Int) : Bool := decide (l1.getD b.toNat 0 < l1.getD k 0)
def soundB (c : List (List Int)) (l1 : List Int) : Bool := (List.range c.length).all fun k => !((c.getD k []).any (lessIn l1 k))
def rank_Sound.f (l0 : List (List Int)) (l1 : List Int) : Option Bool := if l1.length = l0.length then (if fits l0 = true then some (soundB (clean l0) l1) else none) else some false
theorem soundB_no {c : List (List Int)} {l1 : List Int} {k : Nat} (hk : k < c.length) (h : (c.getD k []).any (lessIn l1 k) = true) : soundB c l1 = false := by
  unfold soundB
  rw [List.all_eq_false]
  exact ⟨k, List.mem_range.2 hk, by rw [h]; simp⟩
theorem soundB_yes {c : List (List Int)} {l1 : List Int} (h : ∀ k, k < c.length → (c.getD k []).any (lessIn l1 k) = false) : soundB c l1 = true := by
  unfold soundB
  rw [List.all_eq_true]
  intro k hk
  rw [h k (List.mem_range.1 hk)]
  rfl
set_option maxHeartbeats 4000000 in
theorem soundfn_gives (x k : Nat) (Br Ba : Nat) (A1 : Option Addr) (c1 : Nat) (l1 : List Int) (W : World) (hcr : W.cell? ⟨Br, 0, none⟩ = some (.slice A1 l1.length c1)) (hca : W.cell? ⟨Ba, 0, none⟩ = some (.int .i64 k))
    (hC : dI.C W A1 l1.length l1) (hx : x < l1.length) (hk : k < l1.length) :
    Calls Try.prog 76 (#[.int .i64 x] ++ #[.pointer (some ⟨Br, 0, none⟩), .pointer (some ⟨Ba, 0, none⟩)]) W fun e w' => e = .returned (.bool (lessIn l1 k (x : Int))) ∧ Below W.heap.size W w' := by
  show Calls Try.prog 76 #[.int .i64 x, .pointer (some ⟨Br, 0, none⟩), .pointer (some ⟨Ba, 0, none⟩)] W _
  obtain ⟨b, off, e1, _, hcc⟩ := C_ints hC (by omega)
  subst e1
  have hx1 := hcc x hx
  have hk1 := hcc k hk
  have er : lessIn l1 k (x : Int) = decide (l1.getD x 0 < l1.getD k 0) := by unfold lessIn; rw [Int.toNat_natCast]
  rw [er]
  obtain ⟨px, ex⟩ : ∃ p, p = l1.getD x 0 := ⟨_, rfl⟩
  obtain ⟨pk, ek⟩ : ∃ p, p = l1.getD k 0 := ⟨_, rfl⟩
  obtain ⟨n, en⟩ : ∃ n, n = l1.length := ⟨_, rfl⟩
  rw [← ex, ← ek]
  rw [← ex] at hx1
  rw [← ek] at hk1
  rw [← en] at hcr hx hk
  clear hC hcc er ex ek en
  go_enter Try.func76, Try.ntmps76
  go_wp2
  repeat (go_quiet (fail); try go_wp2)
  go_ret
  exact ⟨rfl, by repeat (first | exact Below.refl _ _ | apply pw_below_drewN | apply below_drew1 | apply below_drew)⟩
set_option maxHeartbeats 4000000 in
set_option maxRecDepth 100000 in
theorem rank_Sound.calls (A0 : Option Addr) (c0 : Nat) (l0 : List (List Int)) (A1 : Option Addr) (c1 : Nat) (l1 : List Int) (r : Bool) (w : World) (hr0 : Kd.C (Kd.slice 3 (Kd.int .i64)) w A0 l0.length l0) (hc0 : l0.length ≤ c0)
    (hr1 : dI.C w A1 l1.length l1) (_hc1 : l1.length ≤ c1) (h : rank_Sound.f l0 l1 = some r) :
    Calls Try.prog 49 #[.slice A0 l0.length c0, .slice A1 l1.length c1] w fun e w' => e = .returned (.bool r) ∧ Below w.heap.size w w' := by
  have HR0 := Aside0.mk hr0
  have HR1 := Aside0.mk hr1
  have HC0 := Aside0.mk hc0
  have hBw : Below w.heap.size w (w.alloc (.cells #[.slice A1 l1.length c1] 32)) := below_alloc (Below.refl _ _) _
  have HBW := Aside0.mk hBw
  clear hBw hr0 hr1 hc0
  unfold rank_Sound.f at h
  by_cases hl : l1.length = l0.length
  · rw [if_pos hl] at h
    by_cases hf : fits l0 = true
    · rw [if_pos hf] at h
      have HF := Aside0.mk hf
      obtain rfl := Option.some.inj h
      have CL := Aside0.mk (graph_Clean.calls A0 c0 l0 (clean l0) _ (Kd.C_below HR0.out HBW.out) HC0.out (by unfold graph_Clean.f; rw [if_pos hf]))
      have HCN : Aside0 ((clean l0).length = l0.length) := ⟨clean_len l0⟩
      have HL1 : Aside0 (l1.length = l0.length) := ⟨hl⟩
      have b0 : (((l1.length : Nat) : Int) == ((l0.length : Nat) : Int)) = true := by rw [hl]; exact beq_self_eq_true _
      have b1 : (((l1.length : Nat) : Int) != ((l0.length : Nat) : Int)) = false := by rw [hl]; exact bne_self_eq_false _
      have hn : l0.length ≤ 100000 := by
        unfold fits at hf
        simp at hf
        exact hf.1
      clear h hf hl
      go_enter Try.func49, Try.ntmps49
      go_wp2_with (go_at_call 16; refine CL.out.mono ?_; rintro e w2 ⟨v2, rfl, ho2, hb2⟩; obtain ⟨A2, c2, e2, _⟩ := Kd.S_reads ho2; rw [clean_len] at e2; subst e2; have HO2 := Aside0.mk ho2; have HB2 := Aside0.mk hb2; clear ho2 hb2)
      have hs1 : (w.alloc (.cells #[.slice A1 l1.length c1] 32)).heap.size = w.heap.size + 1 := size_alloc1 _ _
      have HB3 : Aside0 (Below (w.heap.size + 1) (w.alloc (.cells #[.slice A1 l1.length c1] 32)) w2) := ⟨by rw [← hs1]; exact HB2.out⟩
      have HSZ : Aside0 (w.heap.size + 1 ≤ w2.heap.size) := ⟨by have := HB2.out.size; rwa [hs1] at this⟩
      have HCR : Aside0 (w2.cell? ⟨w.heap.size, 0, none⟩ = some (.slice A1 l1.length c1)) := ⟨cell_later HB3.out (by simp) (by omega)⟩
      have HBT : Aside0 (Below w.heap.size w w2) := ⟨below_step HBW.out HB2.out⟩
      clear hs1
      go_loopw [5, 6, 15] (fun _ _ v15 wr => ∃ k : Nat, v15 = .int .i64 k ∧ k ≤ l0.length ∧ Aside0 (∀ j, j < k → ((clean l0).getD j []).any (lessIn l1 j) = false) ∧ Aside0 (Below w2.heap.size w2 wr)) (fun _ _ v15 _ => l0.length - (intOf v15).toNat)
      case atStart => exact ⟨0, rfl, Nat.zero_le _, ⟨fun j hj => absurd hj (Nat.not_lt_zero _)⟩, ⟨Below.refl _ _⟩⟩
      case round =>
        obtain ⟨k, rfl, hk, HNO, HB⟩ := hrel
        by_cases hlt : k < l0.length
        · obtain ⟨g2, A3, c3, e3, hl3, hst⟩ := row_stays HO2.out (S := fun _ => False) (fun _ hk => hk.elim) (k := k) (by have := HCN.out; omega)
          subst e3
          obtain ⟨hx3, hC3⟩ := hst wr (Fr.below HB.out (fun i hi => .inr hi))
          obtain ⟨row_, erow⟩ : ∃ row_, row_ = (clean l0).getD k [] := ⟨_, rfl⟩
          rw [← erow] at hl3 hx3 hC3
          have HER := Aside0.mk erow
          have hmem : row_ ∈ clean l0 := by
            rw [erow, List.getD_eq_getElem?_getD, List.getElem?_eq_getElem (by have := HCN.out; omega)]
            exact List.getElem_mem _
          have HRW := Aside0.mk (clean_small HF.out _ hmem)
          have HVA : Aside0 (∀ x ∈ row_, 0 ≤ x ∧ x < (l1.length : Int)) := ⟨fun x hx => by
            have h1 := clean_Valid l0 _ hmem x hx
            have h2 := HCN.out
            have h3 := HL1.out
            omega⟩
          have HPR : Aside0 (∀ W x, Below (wr.alloc (.cells #[.int .i64 (k : Int)] 3)).heap.size (wr.alloc (.cells #[.int .i64 (k : Int)] 3)) W → x ∈ row_ → Calls Try.prog 76 (#[.int .i64 x] ++ #[.pointer (some ⟨w.heap.size, 0, none⟩), .pointer (some ⟨wr.heap.size, 0, none⟩)]) W fun e w' => e = .returned (.bool (lessIn l1 k x)) ∧ Below W.heap.size W w') := by
            refine ⟨fun W x hW hx => ?_⟩
            obtain ⟨hx0, hx1⟩ := HVA.out x hx
            obtain ⟨i, rfl⟩ : ∃ i : Nat, x = (i : Int) := ⟨x.toNat, by omega⟩
            have hz := size_alloc1 wr (.cells #[.int .i64 (k : Int)] 3)
            rw [hz] at hW
            have q1 := HSZ.out
            have q2 := HB.out.size
            have k1 := cell_later hW (cell_later (below_alloc (Below.refl wr.heap.size wr) _) (cell_later HB.out HCR.out (by omega)) (by omega)) (by omega)
            have k2 := cell_later (g := wr.heap.size) (o := 0) (v := .int .i64 (k : Int)) hW (by simp) (by omega)
            have hBW : Below w.heap.size w W := below_step (below_step HBT.out HB.out) ((below_alloc (Below.refl wr.heap.size wr) _).trans (hW.mono (by omega)))
            exact soundfn_gives i k w.heap.size wr.heap.size A1 c1 l1 W k1 k2 (Kd.C_below HR1.out hBW) (by omega) (by have := HL1.out; omega)
          obtain ⟨q, hq⟩ : ∃ q, q = row_.any (lessIn l1 k) := ⟨_, rfl⟩
          have HQ := Aside0.mk hq
          have HC3 : Aside0 (dI.C (wr.alloc (.cells #[.int .i64 (k : Int)] 3)) A3 row_.length row_) := ⟨Kd.C_below hC3 (below_alloc (Below.refl wr.heap.size wr) _)⟩
          have HBA : Aside0 (Below w2.heap.size w2 (wr.alloc (.cells #[.int .i64 (k : Int)] 3))) := ⟨below_alloc HB.out _⟩
          clear hst hC3 hl3 erow hmem hq
          cases q with
          | true =>
            go_wp2_with (go_at_call 65; refine (contains_b 76 _ (lessIn l1 k) (enters_of Try.func76 (by kernel_rfl) rfl) _ _ row_ _ HC3.out (by have := HRW.out; omega) HPR.out).mono ?_; rintro e w3 ⟨rfl, hb3⟩; rw [← HQ.out]; have HB4 := Aside0.mk hb3; clear hb3)
            go_ret
            refine ⟨?_, below_step HBT.out (below_step HBA.out HB4.out)⟩
            rw [soundB_no (k := k) (by have := HCN.out; omega) (by rw [← HER.out]; exact HQ.out.symm)]
            rfl
          | false =>
            go_wp2_with (go_at_call 65; refine (contains_b 76 _ (lessIn l1 k) (enters_of Try.func76 (by kernel_rfl) rfl) _ _ row_ _ HC3.out (by have := HRW.out; omega) HPR.out).mono ?_; rintro e w3 ⟨rfl, hb3⟩; rw [← HQ.out]; have HB4 := Aside0.mk hb3; clear hb3)
            go_roundw
            case rel =>
              refine ⟨k + 1, by go_num, by omega, ⟨fun j hj => ?_⟩, ⟨below_step HBA.out HB4.out⟩⟩
              rcases Nat.lt_or_ge j k with h1 | h1
              · exact HNO.out j h1
              · obtain rfl : j = k := by omega
                rw [← HER.out]
                exact HQ.out.symm
            case measure => simp only [intOf]; omega
        · obtain rfl : k = l0.length := by omega
          clear hlt
          go_wp2
          go_ret
          exact ⟨by rw [soundB_yes (fun j hj => HNO.out j (by have := HCN.out; omega))]; rfl, below_step HBT.out HB.out⟩
    · rw [if_neg hf] at h
      cases h
  · rw [if_neg hl] at h
    obtain rfl := Option.some.inj h
    have b0 : (((l1.length : Nat) : Int) == ((l0.length : Nat) : Int)) = false := beq_eq_false_iff_ne.2 (by omega)
    have b1 : (((l1.length : Nat) : Int) != ((l0.length : Nat) : Int)) = true := bne_iff_ne.2 (by omega)
    clear h hl
    go_enter Try.func49, Try.ntmps49
    go_wp2
    go_ret
    exact ⟨rfl, HBW.out⟩
end Go.Proofs.Ytdknhgbjgdmfkaa.P
