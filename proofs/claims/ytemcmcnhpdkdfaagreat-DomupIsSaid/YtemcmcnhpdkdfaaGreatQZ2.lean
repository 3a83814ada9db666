/- What the claim uses of: Pbywashref14 Gedges Gsame -/
import Derived.Test.YtemcmcnhpdkdfaaGreatQZ1
namespace Go.Proofs.YtemcmcnhpdkdfaaGreat.P
open Go.RowKit Go.Proofs.YtemcmcnhpdkdfaaGreatW.PrintWords Go.Proofs.YtemcmcnhpdkdfaaGreatW.PrintLast Go.Proofs.YtemcmcnhpdkdfaaGreatW.PrintMore
attribute [local go_sem] max2_int min2_int max_two min_two max_three min_three max_four min_four
set_option linter.unusedVariables false
set_option linter.unusedSimpArgs false
mutual
def bywashref14_doms.l0 : Nat → List (List Int) → List Bool → List (List Bool) → Int → Option ((List (List Bool)))
 | 0, _, _, _, _ => none
 | k + 1, x0, x3, x4, x5 => if x5 < (x0.length : Int) then ((bywashref10_Clean.f k x0).bind fun t176 => (if 0 ≤ x5 then (if x5 < (t176.length : Int) then ((bywashref10_Reach.f k (t176.set (x5 : Int).toNat ([] : List Int)) 0).bind fun t180 => (if 0 ≤ (x0.length : Int) then (if ((x0.length : Int) : Int).toNat ≤ 281474976710656 then (bywashref14_doms.l1 k x0 x3 x4 x5 t180 (List.replicate ((x0.length : Int) : Int).toNat false) 0) else (none)) else (none))) else (none)) else (none))) else (some x4)
def bywashref14_doms.l1 : Nat → List (List Int) → List Bool → List (List Bool) → Int → List Bool → List Bool → Int → Option ((List (List Bool)))
 | 0, _, _, _, _, _, _, _ => none
 | k + 1, x0, x3, x4, x5, x7, x8, x9 => if x9 < (x0.length : Int) then (if 0 ≤ x9 then (if x9 < (x3.length : Int) then (if rdOf false x3 x9 = true then (if x5 = x9 then (if x9 < (x8.length : Int) then (bywashref14_doms.l1 k x0 x3 x4 x5 x7 (x8.set (x9 : Int).toNat true) (wrap64 (x9 + 1))) else (none)) else (if x5 = 0 then (if x9 < (x8.length : Int) then (bywashref14_doms.l1 k x0 x3 x4 x5 x7 (x8.set (x9 : Int).toNat true) (wrap64 (x9 + 1))) else (none)) else (if x9 < (x7.length : Int) then (if x9 < (x8.length : Int) then (bywashref14_doms.l1 k x0 x3 x4 x5 x7 (x8.set (x9 : Int).toNat (!(rdOf false x7 x9))) (wrap64 (x9 + 1))) else (none)) else (none)))) else (if x9 < (x8.length : Int) then (bywashref14_doms.l1 k x0 x3 x4 x5 x7 (x8.set (x9 : Int).toNat false) (wrap64 (x9 + 1))) else (none))) else (none)) else (none)) else (if x4.length < 5864062014805 then (bywashref14_doms.l0 k x0 x3 (x4 ++ [x8]) (wrap64 (x5 + 1))) else (none))
end
def bywashref14_doms.f (k : Nat) (l0 : List (List Int)) : Option ((List (List Bool))) := (bywashref10_Reach.f k l0 0).bind fun t173 => (bywashref14_doms.l0 k l0 t173 ([] : List (List Bool)) 0)
set_option maxHeartbeats 8000000 in
set_option maxRecDepth 100000 in
theorem bywashref14_doms.calls (k : Nat) (A0 : Option Addr) (c0 : Nat) (l0 : List (List Int)) (r : List (List Bool)) (w : World) (hr0 : Kd.C (Kd.slice 3 (Kd.int .i64)) w A0 l0.length l0) (hc0 : l0.length ≤ c0) (h : bywashref14_doms.f k l0 = some r) :
  Calls Tryz.prog 66 #[.slice A0 l0.length c0] w fun e w' => ∃ v0_ : Value, e = .returned (v0_) ∧ Kd.S (Kd.slice 4 Kd.bool) 56 w' w.heap.size (fun _ => True) v0_ r ∧ Below w.heap.size w w' := by
 have HR0 := Aside0.mk hr0
 have HC0 := Aside0.mk hc0
 clear hr0 hc0
 have HB := Aside0.mk (Below.refl w.heap.size w)
 have H : ((bywashref10_Reach.f k l0 0).bind fun t173 => (bywashref14_doms.l0 k l0 t173 ([] : List (List Bool)) 0)) = some r := h
 clear h
 replace H := Option.bind_eq_some_iff.mp H
 obtain ⟨t173, A20, H⟩ := H
 replace H : (bywashref14_doms.l0 k l0 t173 ([] : List (List Bool)) 0) = some r := H
 have A2 := Aside0.mk A20
 clear A20
 have H' := Aside0.mk H
 clear H
 go_enter Tryz.func66, Tryz.ntmps66
 go_wp2_with (first | ((with_reducible refine gate_callee (f := 65) rfl ?_); refine goesL_ (some 11) rfl rfl Tryz.func65 (by kernel_rfl) rfl #[.slice A0 l0.length c0, .int .i64 0] rfl (by (try simp only [List.map_toArray, List.map_cons, List.map_nil]); first | done | rfl | (simp only [List.length_drop, List.length_take]; rfl)) ?_; (with_reducible refine (bywashref10_Reach.calls k _ _ l0 0 t173 _ ?side1 ?side2 A2.out).mono ?_); (case side1 => repeat (first | exact HR0.out | (with_reducible refine Kd.C_alloc ?_ _) | (with_reducible refine Kd.C_drewN ?_ _) | (with_reducible refine Kd.C_drew ?_))); (case side2 => exact HC0.out); rintro e w3 ⟨v174, rfl, ho0, hb⟩; refine ⟨_, rfl, ?_⟩; have n0_ := Aside0.mk (Kd.R_lower ho0 (below_size (by repeat (first | (with_reducible first | exact HB.out | apply below_alloc | apply pw_below_drewN | apply below_drew1) | exact HB.out)))); have n1_ := Aside0.mk (below_step (by repeat (first | (with_reducible first | exact HB.out | apply below_alloc | apply pw_below_drewN | apply below_drew1) | exact HB.out)) hb); clear HB; have HO175 := n0_; have HB := n1_; clear n0_ n1_; (try clear hb); (try clear hb2); (try clear hk); (try clear hi); (try clear ho0)))
 go_loopg [4, 5] k (fun kq v4 v5 w' => ∃ (x3_1 : List Bool) (x4_1 : List (List Bool)) (x5_1 : Int), v5 = .int .i64 x5_1 ∧ Aside0 (bywashref14_doms.l0 kq l0 x3_1 x4_1 x5_1 = some r) ∧ Aside0 (kq ≤ k) ∧ Aside0 (Kd.R Kd.bool 4 w' w.heap.size (fun _ => True) v174 x3_1) ∧ Aside0 (Kd.S (Kd.slice 4 Kd.bool) 56 w' w.heap.size (fun k_ => some k_ ≠ (v174 : Value).ownBlock) v4 x4_1) ∧ Aside0 (Below w.heap.size w w'))
 case atStart => exact ⟨(t173), (([] : List (List Bool))), (0), (by first | rfl | (simp; done) | (simp [*]; done)), H', ⟨Nat.le_refl _⟩, ⟨by (with_reducible repeat (first | apply Kd.R_alloc | apply Kd.R_drewN | apply Kd.R_drew)); exact HO175.out⟩, ⟨by first | exact Kd.S_nil _ _ _ _ _ | exact Kd.N_nil _ _ _ _ _ | exact Kd.V_nil _ _ _ _ _ | exact Kd.Q_nil _ _ _ _ _ | exact Kd.R_nil _ _ _ _ _⟩, ⟨by repeat (first | (with_reducible first | exact HB.out | apply below_alloc | apply pw_below_drewN | apply below_drew1) | exact HB.out)⟩⟩
 case round =>
  clear H'
  try clear p2
  obtain ⟨x3_1, x4_1, x5_1, rfl, HA, HK1, HO_3, HO_4, HB⟩ := hrel
  cases gk with
  | zero => exact absurd HA.out (by simp [bywashref14_doms.l0])
  | succ k1 =>
   have H := HA.out
   clear HA
   simp only [bywashref14_doms.l0] at H
   by_cases c4 : x5_1 < (l0.length : Int)
   ·rw [if_pos c4] at H
    have c4b0 : decide (x5_1 < (l0.length : Int)) = true := decide_eq_true c4
    clear c4
    replace H := Option.bind_eq_some_iff.mp H
    obtain ⟨t176, A50, H⟩ := H
    replace H : (if 0 ≤ x5_1 then (if x5_1 < (t176.length : Int) then ((bywashref10_Reach.f k1 (t176.set (x5_1 : Int).toNat ([] : List Int)) 0).bind fun t180 => (if 0 ≤ (l0.length : Int) then (if ((l0.length : Int) : Int).toNat ≤ 281474976710656 then (bywashref14_doms.l1 k1 l0 x3_1 x4_1 x5_1 t180 (List.replicate ((l0.length : Int) : Int).toNat false) 0) else (none)) else (none))) else (none)) else (none)) = some r := H
    have A5 := Aside0.mk A50
    clear A50
    by_cases c6 : 0 ≤ x5_1
    ·rw [if_pos c6] at H
     have c6b0 : decide (0 ≤ x5_1) = true := decide_eq_true c6
     clear c6
     by_cases c7 : x5_1 < (t176.length : Int)
     ·rw [if_pos c7] at H
      have c7b0 : decide (x5_1 < (t176.length : Int)) = true := decide_eq_true c7
      clear c7
      obtain ⟨y179, hy179⟩ : ∃ y_ : List (List Int), y_ = (t176.set (x5_1 : Int).toNat ([] : List Int)) := ⟨_, rfl⟩
      replace H : ((bywashref10_Reach.f k1 y179 0).bind fun t180 => (if 0 ≤ (l0.length : Int) then (if ((l0.length : Int) : Int).toNat ≤ 281474976710656 then (bywashref14_doms.l1 k1 l0 x3_1 x4_1 x5_1 t180 (List.replicate ((l0.length : Int) : Int).toNat false) 0) else (none)) else (none))) = some r := by first | (rw [hy179]; with_reducible exact H) | (have H2_ := (Option.bind_some _ _).symm.trans H; rw [hy179]; with_reducible exact H2_) | (have H2_ := (Option.bind_some _ _).symm.trans H; with_reducible exact H2_) | with_reducible exact H | (rw [hy179]; exact H) | exact H
      have Ny179 := Aside0.mk hy179
      clear hy179
      replace H := Option.bind_eq_some_iff.mp H
      obtain ⟨t180, A90, H⟩ := H
      replace H : (if 0 ≤ (l0.length : Int) then (if ((l0.length : Int) : Int).toNat ≤ 281474976710656 then (bywashref14_doms.l1 k1 l0 x3_1 x4_1 x5_1 t180 (List.replicate ((l0.length : Int) : Int).toNat false) 0) else (none)) else (none)) = some r := H
      have A9 := Aside0.mk A90
      clear A90
      by_cases c10 : 0 ≤ (l0.length : Int)
      ·rw [if_pos c10] at H
       have c10b0 := eq_true c10
       have c10b1 : decide (0 ≤ (l0.length : Int)) = true := decide_eq_true c10
       clear c10
       by_cases c11 : ((l0.length : Int) : Int).toNat ≤ 281474976710656
       ·rw [if_pos c11] at H
        have c11b0 := eq_true c11
        have c11b1 : decide (((l0.length : Int) : Int).toNat ≤ 281474976710656) = true := decide_eq_true c11
        clear c11
        obtain ⟨y183, hy183⟩ : ∃ y_ : List Bool, y_ = (List.replicate ((l0.length : Int) : Int).toNat false) := ⟨_, rfl⟩
        replace H : (bywashref14_doms.l1 k1 l0 x3_1 x4_1 x5_1 t180 y183 0) = some r := by first | (rw [hy183]; with_reducible exact H) | (have H2_ := (Option.bind_some _ _).symm.trans H; rw [hy183]; with_reducible exact H2_) | (have H2_ := (Option.bind_some _ _).symm.trans H; with_reducible exact H2_) | with_reducible exact H | (rw [hy183]; exact H) | exact H
        have Ny183 := Aside0.mk hy183
        clear hy183
        have H' := Aside0.mk H
        clear H
        go_wp2_with (first | ((with_reducible refine gate_callee (f := 40) rfl ?_); refine goesL_ (some 19) rfl rfl Tryz.func40 (by kernel_rfl) rfl #[.slice A0 l0.length c0] rfl (by (try simp only [List.map_toArray, List.map_cons, List.map_nil]); first | done | rfl | (simp only [List.length_drop, List.length_take]; rfl)) ?_; (with_reducible refine (bywashref10_Clean.calls k1 _ _ l0 t176 _ ?side1 ?side2 A5.out).mono ?_); (case side1 => repeat (first | exact (Kd.C_below HR0.out HB.out) | (with_reducible refine Kd.C_alloc ?_ _) | (with_reducible refine Kd.C_drewN ?_ _) | (with_reducible refine Kd.C_drew ?_))); (case side2 => exact HC0.out); rintro e w12 ⟨v177, rfl, ho0, hb⟩; refine ⟨_, rfl, ?_⟩; have n0_ := Aside0.mk (Kd.R_below (by (with_reducible repeat (first | apply Kd.R_alloc | apply Kd.R_drewN | apply Kd.R_drew)); exact HO_3.out) hb); have n1_ := Aside0.mk (Kd.S_below (by (with_reducible repeat (first | apply Kd.S_alloc | apply Kd.S_drewN | apply Kd.S_drew)); exact HO_4.out) hb); have n2_ := Aside0.mk (Kd.S_lower ho0 (below_size (by repeat (first | (with_reducible first | exact HB.out | apply below_alloc | apply pw_below_drewN | apply below_drew1) | exact HB.out)))); have n3_ := Aside0.mk (below_step (by repeat (first | (with_reducible first | exact HB.out | apply below_alloc | apply pw_below_drewN | apply below_drew1) | exact HB.out)) hb); clear HO_3; clear HO_4; clear HB; have HO_3 := n0_; have HO_4 := n1_; have HO178 := n2_; have HB := n3_; clear n0_ n1_ n2_ n3_; (try clear hb); (try clear hb2); (try clear hk); (try clear hi); (try clear ho0); have p8 : 0 ≤ (x5_1 : Int) := of_decide_eq_true (by first | (with_reducible assumption) | assumption); have q8 : (x5_1 : Int) < ((t176.length : Int) : Int) := of_decide_eq_true (by first | (with_reducible assumption) | assumption); obtain ⟨go8, co8, eo8, gb8, gl8, cl8, HG8⟩ := Kd.S_form HO178.out (by omega); (first | cases eo8 | (injection eo8 with ea_ en_ ec_; (first | subst ea_ | (injection ea_ with ea_; subst ea_)); subst ec_; clear en_)); have GB8 := Aside0.mk gb8; have GG8 := Aside0.mk HG8; clear gb8 gl8 HG8; obtain ⟨_, ce8, hcl8, hM8, hcc8, hfr8, _, _⟩ := Kd.S_elem HO178.out [] (x5_1 : Int) p8 q8; obtain ⟨ve8_0, rfl, ge8_0⟩ := hM8; have hx8_0 := hcc8 0 _ rfl; have hf8_0 := hfr8 0; (try simp only [show ((Kd.slice 3 (Kd.int .i64))).sz = 1 from rfl, Nat.mul_one, Nat.add_zero] at hx8_0); (try simp only [show ((Kd.slice 3 (Kd.int .i64))).sz = 1 from rfl, Nat.mul_one, Nat.add_zero] at hf8_0); clear hcl8 hcc8 hfr8; (try clear hM8); replace p8 := eq_true p8; replace q8 := eq_true q8; have HX13 := Aside0.mk (show Kd.S (Kd.slice 3 (Kd.int .i64)) 23 w12 w.heap.size (fun k_ => ((fun _ => True)) k_ ∧ ¬ ((fun _ => False)) k_) (.slice (some ⟨go8, 0, none⟩) t176.length co8) t176 from (by (with_reducible repeat (first | apply Kd.S_alloc | apply Kd.S_drewN | apply Kd.S_drew)); exact Kd.S_mono HO178.out (fun k_ hk => ⟨trivial, fun e_ => e_⟩))); obtain ⟨oki13, ce13, hcl13, hM13, hcc13, hfr13, hoki13, hH13⟩ := Kd.S_elem HX13.out [] (x5_1 : Int) (of_decide_eq_true (by first | (with_reducible assumption) | assumption)) (by have h_ : (x5_1 : Int) < ((t176.length : Int) : Int) := of_decide_eq_true (by first | (with_reducible assumption) | assumption); first | exact h_ | (have e_ := (Kd.S_reads' HO178.out).1; omega) | simpa using h_); obtain ⟨ve13_0, rfl, ge13_0⟩ := hM13; have HP13 := Kd.S_seg hH13 (of_decide_eq_true (by first | (with_reducible assumption) | assumption)) (by have h_ : (x5_1 : Int) < ((t176.length : Int) : Int) := of_decide_eq_true (by first | (with_reducible assumption) | assumption); first | exact h_ | (have e_ := (Kd.S_reads' HO178.out).1; omega) | simpa using h_) (seg := [.slice none 0 0]) (j := 0) (show 1 ≤ 1 from by decide) (x' := ([] : List Int)) (Kd.M_row (Kd.R_nil _ _ _ _ _)) (fun _ hk => hk) (fun k_ hk_ => hk_.elim); have hx13_0 := hcc13 0 _ rfl; (try simp only [show ((Kd.slice 3 (Kd.int .i64))).sz = 1 from rfl, Nat.mul_one, Nat.add_zero] at hx13_0); have hf13_0 := hfr13 0; (try simp only [show ((Kd.slice 3 (Kd.int .i64))).sz = 1 from rfl, Nat.mul_one, Nat.add_zero] at hf13_0); clear hcl13 hcc13 hfr13 hoki13 hH13; (try clear hM13); (try simp only [show ((Kd.slice 3 (Kd.int .i64))).sz = 1 from rfl, Nat.mul_one, Nat.add_zero] at HP13)) | ((with_reducible refine gate_store (t := 23) (p := 22) rfl ?_); refine store_event (t := 23) (p := 22) (v := ?vo_w14) (w1 := (w12.setCell ⟨go8, (x5_1 : Int).toNat, none⟩ (.slice none 0 0))) ?hg ?ho ?hn ?hr ?_; (case ho => rfl); (case hg => rfl); (case hn => rfl); (case hr => first | (go_simp; done) | (go_simp; rfl)); intro w14 hw; have hg : w12.grownBy w14 (some go8) := (by rw [hw]; exact HP13.2); have hp_ : Kd.S (Kd.slice 3 (Kd.int .i64)) 23 w14 w.heap.size (fun _ => True) (.slice (some ⟨go8, 0, none⟩) t176.length co8) y179 := (by rw [hw, Ny179.out]; exact HP13.1); clear HP13; have n0_ := Aside0.mk (Kd.R_over' (v := (.slice (some ⟨go8, 0, none⟩) t176.length co8)) (by (with_reducible repeat (first | apply Kd.R_alloc | apply Kd.R_drewN | apply Kd.R_drew)); exact HO_3.out) (Kd.S_typed HO178.out) (by decide) hg); have n1_ := Aside0.mk (Kd.S_over' (v := (.slice (some ⟨go8, 0, none⟩) t176.length co8)) (by (with_reducible repeat (first | apply Kd.S_alloc | apply Kd.S_drewN | apply Kd.S_drew)); exact HO_4.out) (Kd.S_typed HO178.out) (by decide) hg); have n2_ := Aside0.mk (hp_); have n3_ := Aside0.mk ((by rw [hw]; exact below_set (HB.out) GB8.out : Below w.heap.size w w14)); clear HO_3; clear HO_4; clear HO178; clear HB; have HO_3 := n0_; have HO_4 := n1_; have HO178 := n2_; have HB := n3_; clear n0_ n1_ n2_ n3_; clear hg hw hp_) | ((with_reducible refine gate_callee (f := 65) rfl ?_); refine goesL_ (some 24) rfl rfl Tryz.func65 (by kernel_rfl) rfl #[.slice (some ⟨go8, 0, none⟩) y179.length co8, .int .i64 0] rfl (by (try simp only [List.map_toArray, List.map_cons, List.map_nil]); first | done | (rw [show y179.length = t176.length from (Kd.S_reads' HO178.out).1.symm] <;> rfl) | rfl | (simp only [List.length_drop, List.length_take]; rfl)) ?_; (with_reducible refine (bywashref10_Reach.calls k1 _ _ y179 0 t180 _ ?side1 ?side2 A9.out).mono ?_); (case side1 => repeat (first | exact (Kd.S_reads' HO178.out).2.2 | (with_reducible refine Kd.C_alloc ?_ _) | (with_reducible refine Kd.C_drewN ?_ _) | (with_reducible refine Kd.C_drew ?_))); (case side2 => rw [show y179.length = t176.length from (Kd.S_reads' HO178.out).1.symm]; exact (Kd.S_reads' HO178.out).2.1); rintro e w15 ⟨v181, rfl, ho0, hb⟩; refine ⟨_, rfl, ?_⟩; have n0_ := Aside0.mk (Kd.R_elder' (by (with_reducible repeat (first | apply Kd.R_alloc | apply Kd.R_drewN | apply Kd.R_drew)); exact HO_3.out) (Kd.R_base ho0) hb); have n1_ := Aside0.mk (Kd.S_elder' (by (with_reducible repeat (first | apply Kd.S_alloc | apply Kd.S_drewN | apply Kd.S_drew)); exact HO_4.out) (Kd.R_base ho0) hb); have n2_ := Aside0.mk (Kd.S_below (by (with_reducible repeat (first | apply Kd.S_alloc | apply Kd.S_drewN | apply Kd.S_drew)); exact HO178.out) hb); have n3_ := Aside0.mk (Kd.R_lower (Kd.R_new' ho0 (Kd.R_lt (by (with_reducible repeat (first | apply Kd.R_alloc | apply Kd.R_drewN | apply Kd.R_drew)); exact HO_3.out))) (below_size (by repeat (first | (with_reducible first | exact HB.out | apply below_alloc | apply pw_below_drewN | apply below_drew1) | exact HB.out)))); have n4_ := Aside0.mk (below_step (by repeat (first | (with_reducible first | exact HB.out | apply below_alloc | apply pw_below_drewN | apply below_drew1) | exact HB.out)) hb); clear HO_3; clear HO_4; clear HO178; clear HB; have HO_3 := n0_; have HO_4 := n1_; have HO178 := n2_; have HO182 := n3_; have HB := n4_; clear n0_ n1_ n2_ n3_ n4_; (try clear hb); (try clear hb2); (try clear hk); (try clear hi); (try clear ho0)) | ((with_reducible refine gate_dst (N := 27) rfl ?_); refine Kd.R_make Kd.bool _ 4 rfl (N := 27) rfl 56 _ _ rfl (l0.length : Int) rfl rfl Tryz.underlying56 (.bool false) 1 info4 rfl (by decide) (by omega) false (ok := fun _ => True) (okp := fun _ => True) rfl (fun _ hk => hk) trivial (of_decide_eq_true (by first | (with_reducible assumption) | assumption)) (Nat.le_trans (Nat.mul_le_mul_right _ (of_decide_eq_true (by first | (with_reducible assumption) | assumption) : (l0.length : Int).toNat ≤ 281474976710656)) (by omega)) (Below.refl _ _) (Nat.le_refl _) ?_; intro v184 w16 ho17 hb hg_ hnew_; clear hg_ hnew_; (first | rw [← Ny183.out] at ho17 | (simp only [Int.reduceToNat] at ho17; rw [← Ny183.out] at ho17)); have n0_ := Aside0.mk (Kd.R_elder' (by (with_reducible repeat (first | apply Kd.R_alloc | apply Kd.R_drewN | apply Kd.R_drew)); exact HO_3.out) (Kd.R_base ho17) hb); have n1_ := Aside0.mk (Kd.S_elder' (by (with_reducible repeat (first | apply Kd.S_alloc | apply Kd.S_drewN | apply Kd.S_drew)); exact HO_4.out) (Kd.R_base ho17) hb); have n2_ := Aside0.mk (Kd.S_below (by (with_reducible repeat (first | apply Kd.S_alloc | apply Kd.S_drewN | apply Kd.S_drew)); exact HO178.out) hb); have n3_ := Aside0.mk (Kd.R_elder' (by (with_reducible repeat (first | apply Kd.R_alloc | apply Kd.R_drewN | apply Kd.R_drew)); exact HO182.out) (Kd.R_base ho17) hb); have n4_ := Aside0.mk (Kd.R_lower (Kd.R_new' (Kd.R_new' ho17 (Kd.R_lt (by (with_reducible repeat (first | apply Kd.R_alloc | apply Kd.R_drewN | apply Kd.R_drew)); exact HO_3.out))) (Kd.R_lt (by (with_reducible repeat (first | apply Kd.R_alloc | apply Kd.R_drewN | apply Kd.R_drew)); exact HO182.out))) (below_size (by repeat (first | (with_reducible first | exact HB.out | apply below_alloc | apply pw_below_drewN | apply below_drew1) | exact HB.out)))); have n5_ := Aside0.mk (below_step (by repeat (first | (with_reducible first | exact HB.out | apply below_alloc | apply pw_below_drewN | apply below_drew1) | exact HB.out)) hb); clear HO_3; clear HO_4; clear HO178; clear HO182; clear HB; have HO_3 := n0_; have HO_4 := n1_; have HO178 := n2_; have HO182 := n3_; have HO185 := n4_; have HB := n5_; clear n0_ n1_ n2_ n3_ n4_ n5_; clear hb ho17))
        go_loopg [9] k1 (fun kq v9 w' => ∃ (x8_2 : List Bool) (x9_2 : Int), v9 = .int .i64 x9_2 ∧ Aside0 (bywashref14_doms.l1 kq l0 x3_1 x4_1 x5_1 t180 x8_2 x9_2 = some r) ∧ Aside0 (kq ≤ k1) ∧ Aside0 (Kd.R Kd.bool 4 w' w.heap.size (fun k_ => some k_ ≠ (v181 : Value).ownBlock ∧ some k_ ≠ (v184 : Value).ownBlock) v174 x3_1) ∧ Aside0 (Kd.S (Kd.slice 4 Kd.bool) 56 w' w.heap.size (fun k_ => some k_ ≠ (v174 : Value).ownBlock ∧ some k_ ≠ (v181 : Value).ownBlock ∧ some k_ ≠ (v184 : Value).ownBlock) u4 x4_1) ∧ Aside0 (Kd.R Kd.bool 4 w' w.heap.size (fun k_ => some k_ ≠ (v174 : Value).ownBlock ∧ some k_ ≠ (v184 : Value).ownBlock) v181 t180) ∧ Aside0 (Kd.R Kd.bool 4 w' w.heap.size (fun k_ => some k_ ≠ (v174 : Value).ownBlock ∧ some k_ ≠ (v181 : Value).ownBlock) v184 x8_2) ∧ Aside0 (Below w.heap.size w w'))
        case atStart => exact ⟨(y183), (0), (by first | rfl | (simp; done) | (simp [*]; done)), H', ⟨Nat.le_refl _⟩, ⟨by (with_reducible repeat (first | apply Kd.R_alloc | apply Kd.R_drewN | apply Kd.R_drew)); exact Kd.R_mono HO_3.out (fun _ hk => ⟨hk.1.2, hk.2⟩)⟩, ⟨by (with_reducible repeat (first | apply Kd.S_alloc | apply Kd.S_drewN | apply Kd.S_drew)); exact Kd.S_mono HO_4.out (fun _ hk => ⟨hk.1.1, ⟨hk.1.2, hk.2⟩⟩)⟩, ⟨by (with_reducible repeat (first | apply Kd.R_alloc | apply Kd.R_drewN | apply Kd.R_drew)); exact Kd.R_mono HO182.out (fun _ hk => ⟨hk.1.2, hk.2⟩)⟩, ⟨by (with_reducible repeat (first | apply Kd.R_alloc | apply Kd.R_drewN | apply Kd.R_drew)); exact Kd.R_mono HO185.out (fun _ hk => ⟨hk.1.2, hk.2⟩)⟩, ⟨by repeat (first | (with_reducible first | exact HB.out | apply below_alloc | apply pw_below_drewN | apply below_drew1) | exact HB.out)⟩⟩
        case round =>
         clear H'
         try clear c1
         try clear hx1
         try clear hf1
         try clear p2
         try clear c4
         try clear c4b0
         try clear c6
         try clear c6b0
         try clear c7
         try clear c7b0
         try clear c8
         try clear p8
         try clear q8
         try clear hx8
         try clear hf8
         try clear c10
         try clear c10b0
         try clear c10b1
         try clear c11
         try clear c11b0
         try clear c11b1
         try clear c13
         try clear hx13
         try clear hf13
         try clear hx13_0
         try clear hx8_0
         try clear p2
         try clear p8
         try clear q8
         obtain ⟨x8_2, x9_2, rfl, HA, HK2, HO_3, HO_4, HO_7, HO_8, HB⟩ := hrel
         cases gk with
         | zero => exact absurd HA.out (by simp [bywashref14_doms.l1])
         | succ k2 =>
          have H := HA.out
          clear HA
          simp only [bywashref14_doms.l1] at H
          by_cases c18 : x9_2 < (l0.length : Int)
          ·rw [if_pos c18] at H
           have c18b0 : decide (x9_2 < (l0.length : Int)) = true := decide_eq_true c18
           clear c18
           by_cases c19 : 0 ≤ x9_2
           ·rw [if_pos c19] at H
            have c19b0 : decide (0 ≤ x9_2) = true := decide_eq_true c19
            clear c19
            by_cases c20 : x9_2 < (x3_1.length : Int)
            ·rw [if_pos c20] at H
             have c20b0 : decide (x9_2 < (x3_1.length : Int)) = true := decide_eq_true c20
             clear c20
             obtain ⟨bq21, hbq21⟩ : ∃ b_ : Bool, b_ = (rdOf false x3_1 x9_2) := ⟨_, rfl⟩
             replace H : (if bq21 = true then (if x5_1 = x9_2 then (if x9_2 < (x8_2.length : Int) then (bywashref14_doms.l1 k2 l0 x3_1 x4_1 x5_1 t180 (x8_2.set (x9_2 : Int).toNat true) (wrap64 (x9_2 + 1))) else (none)) else (if x5_1 = 0 then (if x9_2 < (x8_2.length : Int) then (bywashref14_doms.l1 k2 l0 x3_1 x4_1 x5_1 t180 (x8_2.set (x9_2 : Int).toNat true) (wrap64 (x9_2 + 1))) else (none)) else (if x9_2 < (t180.length : Int) then (if x9_2 < (x8_2.length : Int) then (bywashref14_doms.l1 k2 l0 x3_1 x4_1 x5_1 t180 (x8_2.set (x9_2 : Int).toNat (!(rdOf false t180 x9_2))) (wrap64 (x9_2 + 1))) else (none)) else (none)))) else (if x9_2 < (x8_2.length : Int) then (bywashref14_doms.l1 k2 l0 x3_1 x4_1 x5_1 t180 (x8_2.set (x9_2 : Int).toNat false) (wrap64 (x9_2 + 1))) else (none))) = some r := by rw [← hbq21] at H; exact H
             have Nbq21 := Aside0.mk hbq21
             clear hbq21
             by_cases c22 : bq21 = true
             ·subst c22
              have H1 : (if x5_1 = x9_2 then (if x9_2 < (x8_2.length : Int) then (bywashref14_doms.l1 k2 l0 x3_1 x4_1 x5_1 t180 (x8_2.set (x9_2 : Int).toNat true) (wrap64 (x9_2 + 1))) else (none)) else (if x5_1 = 0 then (if x9_2 < (x8_2.length : Int) then (bywashref14_doms.l1 k2 l0 x3_1 x4_1 x5_1 t180 (x8_2.set (x9_2 : Int).toNat true) (wrap64 (x9_2 + 1))) else (none)) else (if x9_2 < (t180.length : Int) then (if x9_2 < (x8_2.length : Int) then (bywashref14_doms.l1 k2 l0 x3_1 x4_1 x5_1 t180 (x8_2.set (x9_2 : Int).toNat (!(rdOf false t180 x9_2))) (wrap64 (x9_2 + 1))) else (none)) else (none)))) = some r := by rw [if_pos rfl] at H; exact H
              clear H
              have H := H1
              clear H1
              by_cases c23 : x5_1 = x9_2
              ·rw [if_pos c23] at H
               have c23b0 : (x5_1 == x9_2) = true := beq_iff_eq.mpr c23
               have c23b1 : (x5_1 != x9_2) = false := bne_eq_false_iff_eq.mpr c23
               clear c23
               by_cases c24 : x9_2 < (x8_2.length : Int)
               ·rw [if_pos c24] at H
                have c24b0 : decide (x9_2 < (x8_2.length : Int)) = true := decide_eq_true c24
                clear c24
                obtain ⟨y187, hy187⟩ : ∃ y_ : List Bool, y_ = (x8_2.set (x9_2 : Int).toNat true) := ⟨_, rfl⟩
                replace H : (bywashref14_doms.l1 k2 l0 x3_1 x4_1 x5_1 t180 y187 (wrap64 (x9_2 + 1))) = some r := by first | (rw [hy187]; with_reducible exact H) | (have H2_ := (Option.bind_some _ _).symm.trans H; rw [hy187]; with_reducible exact H2_) | (have H2_ := (Option.bind_some _ _).symm.trans H; with_reducible exact H2_) | with_reducible exact H | (rw [hy187]; exact H) | exact H
                have Ny187 := Aside0.mk hy187
                clear hy187
                have H' := Aside0.mk H
                clear H
                obtain ⟨Ao26, co26, eo26⟩ := Kd.R_slice HO_3.out
                subst eo26
                have p186 : 0 ≤ (x9_2 : Int) := of_decide_eq_true (by first | (with_reducible assumption) | assumption)
                have q186 : x9_2 < (x3_1.length : Int) := of_decide_eq_true (by first | (with_reducible assumption) | assumption)
                (try (obtain ⟨Ar_, cr_, er_⟩ := Kd.R_slice HO_3.out; subst er_))
                obtain ⟨ad186, e186, hx186_0⟩ := Kd.at_bool (Kd.R_reads' HO_3.out).2.2 x9_2 p186 q186
                (try rw [← Nbq21.out] at hx186_0)
                cases e186
                replace p186 := eq_true p186
                replace q186 := eq_true q186
                have p25 : 0 ≤ (x9_2 : Int) := of_decide_eq_true (by first | (with_reducible assumption) | assumption)
                have q25 : (x9_2 : Int) < ((x8_2.length : Int) : Int) := of_decide_eq_true (by first | (with_reducible assumption) | assumption)
                obtain ⟨go25, co25, eo25, gb25, gl25, cl25, HG25⟩ := Kd.R_form HO_8.out (by omega)
                (first | cases eo25 | (injection eo25 with ea_ en_ ec_; (first | subst ea_ | (injection ea_ with ea_; subst ea_)); subst ec_; clear en_))
                have GB25 := Aside0.mk gb25
                have GG25 := Aside0.mk HG25
                clear gb25 gl25 HG25
                obtain ⟨hx25_0, hf25_0⟩ := Kd.R_celln false HO_8.out (x9_2 : Int) p25 q25
                replace p25 := eq_true p25
                replace q25 := eq_true q25
                have HP27 := Kd.R_putg HO_8.out (x9_2 : Int) true
                go_wp2_with (first | ((with_reducible refine gate_store (t := 4) (p := 56) rfl ?_); refine store_event (t := 4) (p := 56) (v := ?vo_w28) (w1 := (wr.setCell ⟨go25, (x9_2 : Int).toNat, none⟩ (.bool true))) ?hg ?ho ?hn ?hr ?_; (case ho => rfl); (case hg => rfl); (case hn => rfl); (case hr => first | (go_simp; done) | (go_simp; rfl)); intro w28 hw; have hg : wr.grownBy w28 (some go25) := (by rw [hw]; exact HP27.2); have hp_ : Kd.R Kd.bool 4 w28 w.heap.size (fun k_ => some k_ ≠ (.slice (some ad186) x3_1.length co26 : Value).ownBlock ∧ some k_ ≠ (v181 : Value).ownBlock) (.slice (some ⟨go25, 0, none⟩) x8_2.length co25) y187 := (by rw [hw, Ny187.out]; exact HP27.1); clear HP27; have n0_ := Aside0.mk (Kd.R_after (v := (.slice (some ⟨go25, 0, none⟩) x8_2.length co25)) (v1 := (.slice (some ⟨go25, 0, none⟩) x8_2.length co25)) (ok := (fun k_ => some k_ ≠ (v181 : Value).ownBlock)) (by (with_reducible repeat (first | apply Kd.R_alloc | apply Kd.R_drewN | apply Kd.R_drew)); exact HO_3.out) hg (.inl rfl)); have n1_ := Aside0.mk (Kd.S_after (v := (.slice (some ⟨go25, 0, none⟩) x8_2.length co25)) (v1 := (.slice (some ⟨go25, 0, none⟩) x8_2.length co25)) (ok := (fun k_ => some k_ ≠ (.slice (some ad186) x3_1.length co26 : Value).ownBlock ∧ some k_ ≠ (v181 : Value).ownBlock)) (by (with_reducible repeat (first | apply Kd.S_alloc | apply Kd.S_drewN | apply Kd.S_drew)); exact Kd.S_mono HO_4.out (fun _ hk => ⟨⟨hk.1, hk.2.1⟩, hk.2.2⟩)) hg (.inl rfl)); have n2_ := Aside0.mk (Kd.R_after (v := (.slice (some ⟨go25, 0, none⟩) x8_2.length co25)) (v1 := (.slice (some ⟨go25, 0, none⟩) x8_2.length co25)) (ok := (fun k_ => some k_ ≠ (.slice (some ad186) x3_1.length co26 : Value).ownBlock)) (by (with_reducible repeat (first | apply Kd.R_alloc | apply Kd.R_drewN | apply Kd.R_drew)); exact HO_7.out) hg (.inl rfl)); have n3_ := Aside0.mk (hp_); have n4_ := Aside0.mk ((by rw [hw]; exact below_set (HB.out) GB25.out : Below w.heap.size w w28)); clear HO_3; clear HO_4; clear HO_7; clear HO_8; clear HB; have HO_3 := n0_; have HO_4 := n1_; have HO_7 := n2_; have HO_8 := n3_; have HB := n4_; clear n0_ n1_ n2_ n3_ n4_; clear hg hw hp_))
                go_roundg k2
                case measure => have := HK1.out; have := HK2.out; omega
                case rel => exact ⟨(y187), (wrap64 (x9_2 + 1)), (by first | rfl | (simp; done) | (simp [*]; done)), H', ⟨by have := HK1.out; have := HK2.out; omega⟩, ⟨by (with_reducible repeat (first | apply Kd.R_alloc | apply Kd.R_drewN | apply Kd.R_drew)); exact HO_3.out⟩, ⟨by (with_reducible repeat (first | apply Kd.S_alloc | apply Kd.S_drewN | apply Kd.S_drew)); exact Kd.S_mono HO_4.out (fun _ hk => ⟨hk.1.1, ⟨hk.1.2, hk.2⟩⟩)⟩, ⟨by (with_reducible repeat (first | apply Kd.R_alloc | apply Kd.R_drewN | apply Kd.R_drew)); exact HO_7.out⟩, ⟨by (with_reducible repeat (first | apply Kd.R_alloc | apply Kd.R_drewN | apply Kd.R_drew)); exact HO_8.out⟩, ⟨by repeat (first | (with_reducible first | exact HB.out | apply below_alloc | apply pw_below_drewN | apply below_drew1) | exact HB.out)⟩⟩
               ·rw [if_neg c24] at H
                exact absurd H (by simp)
              ·rw [if_neg c23] at H
               have c23b0 : (x5_1 == x9_2) = false := beq_eq_false_iff_ne.mpr c23
               have c23b1 : (x5_1 != x9_2) = true := bne_iff_ne.mpr c23
               by_cases c29 : x5_1 = 0
               ·rw [if_pos c29] at H
                have c29b0 : (x5_1 == 0) = true := beq_iff_eq.mpr c29
                have c29b1 : (x5_1 != 0) = false := bne_eq_false_iff_eq.mpr c29
                clear c29
                by_cases c30 : x9_2 < (x8_2.length : Int)
                ·rw [if_pos c30] at H
                 have c30b0 : decide (x9_2 < (x8_2.length : Int)) = true := decide_eq_true c30
                 clear c30
                 obtain ⟨y188, hy188⟩ : ∃ y_ : List Bool, y_ = (x8_2.set (x9_2 : Int).toNat true) := ⟨_, rfl⟩
                 replace H : (bywashref14_doms.l1 k2 l0 x3_1 x4_1 x5_1 t180 y188 (wrap64 (x9_2 + 1))) = some r := by first | (rw [hy188]; with_reducible exact H) | (have H2_ := (Option.bind_some _ _).symm.trans H; rw [hy188]; with_reducible exact H2_) | (have H2_ := (Option.bind_some _ _).symm.trans H; with_reducible exact H2_) | with_reducible exact H | (rw [hy188]; exact H) | exact H
                 have Ny188 := Aside0.mk hy188
                 clear hy188
                 have H' := Aside0.mk H
                 clear H
                 obtain ⟨Ao32, co32, eo32⟩ := Kd.R_slice HO_3.out
                 subst eo32
                 have p186 : 0 ≤ (x9_2 : Int) := of_decide_eq_true (by first | (with_reducible assumption) | assumption)
                 have q186 : x9_2 < (x3_1.length : Int) := of_decide_eq_true (by first | (with_reducible assumption) | assumption)
                 (try (obtain ⟨Ar_, cr_, er_⟩ := Kd.R_slice HO_3.out; subst er_))
                 obtain ⟨ad186, e186, hx186_0⟩ := Kd.at_bool (Kd.R_reads' HO_3.out).2.2 x9_2 p186 q186
                 (try rw [← Nbq21.out] at hx186_0)
                 cases e186
                 replace p186 := eq_true p186
                 replace q186 := eq_true q186
                 have p31 : 0 ≤ (x9_2 : Int) := of_decide_eq_true (by first | (with_reducible assumption) | assumption)
                 have q31 : (x9_2 : Int) < ((x8_2.length : Int) : Int) := of_decide_eq_true (by first | (with_reducible assumption) | assumption)
                 obtain ⟨go31, co31, eo31, gb31, gl31, cl31, HG31⟩ := Kd.R_form HO_8.out (by omega)
                 (first | cases eo31 | (injection eo31 with ea_ en_ ec_; (first | subst ea_ | (injection ea_ with ea_; subst ea_)); subst ec_; clear en_))
                 have GB31 := Aside0.mk gb31
                 have GG31 := Aside0.mk HG31
                 clear gb31 gl31 HG31
                 obtain ⟨hx31_0, hf31_0⟩ := Kd.R_celln false HO_8.out (x9_2 : Int) p31 q31
                 replace p31 := eq_true p31
                 replace q31 := eq_true q31
                 have HP33 := Kd.R_putg HO_8.out (x9_2 : Int) true
                 go_wp2_with (first | ((with_reducible refine gate_store (t := 4) (p := 56) rfl ?_); refine store_event (t := 4) (p := 56) (v := ?vo_w34) (w1 := (wr.setCell ⟨go31, (x9_2 : Int).toNat, none⟩ (.bool true))) ?hg ?ho ?hn ?hr ?_; (case ho => rfl); (case hg => rfl); (case hn => rfl); (case hr => first | (go_simp; done) | (go_simp; rfl)); intro w34 hw; have hg : wr.grownBy w34 (some go31) := (by rw [hw]; exact HP33.2); have hp_ : Kd.R Kd.bool 4 w34 w.heap.size (fun k_ => some k_ ≠ (.slice (some ad186) x3_1.length co32 : Value).ownBlock ∧ some k_ ≠ (v181 : Value).ownBlock) (.slice (some ⟨go31, 0, none⟩) x8_2.length co31) y188 := (by rw [hw, Ny188.out]; exact HP33.1); clear HP33; have n0_ := Aside0.mk (Kd.R_after (v := (.slice (some ⟨go31, 0, none⟩) x8_2.length co31)) (v1 := (.slice (some ⟨go31, 0, none⟩) x8_2.length co31)) (ok := (fun k_ => some k_ ≠ (v181 : Value).ownBlock)) (by (with_reducible repeat (first | apply Kd.R_alloc | apply Kd.R_drewN | apply Kd.R_drew)); exact HO_3.out) hg (.inl rfl)); have n1_ := Aside0.mk (Kd.S_after (v := (.slice (some ⟨go31, 0, none⟩) x8_2.length co31)) (v1 := (.slice (some ⟨go31, 0, none⟩) x8_2.length co31)) (ok := (fun k_ => some k_ ≠ (.slice (some ad186) x3_1.length co32 : Value).ownBlock ∧ some k_ ≠ (v181 : Value).ownBlock)) (by (with_reducible repeat (first | apply Kd.S_alloc | apply Kd.S_drewN | apply Kd.S_drew)); exact Kd.S_mono HO_4.out (fun _ hk => ⟨⟨hk.1, hk.2.1⟩, hk.2.2⟩)) hg (.inl rfl)); have n2_ := Aside0.mk (Kd.R_after (v := (.slice (some ⟨go31, 0, none⟩) x8_2.length co31)) (v1 := (.slice (some ⟨go31, 0, none⟩) x8_2.length co31)) (ok := (fun k_ => some k_ ≠ (.slice (some ad186) x3_1.length co32 : Value).ownBlock)) (by (with_reducible repeat (first | apply Kd.R_alloc | apply Kd.R_drewN | apply Kd.R_drew)); exact HO_7.out) hg (.inl rfl)); have n3_ := Aside0.mk (hp_); have n4_ := Aside0.mk ((by rw [hw]; exact below_set (HB.out) GB31.out : Below w.heap.size w w34)); clear HO_3; clear HO_4; clear HO_7; clear HO_8; clear HB; have HO_3 := n0_; have HO_4 := n1_; have HO_7 := n2_; have HO_8 := n3_; have HB := n4_; clear n0_ n1_ n2_ n3_ n4_; clear hg hw hp_))
                 go_roundg k2
                 case measure => have := HK1.out; have := HK2.out; omega
                 case rel => exact ⟨(y188), (wrap64 (x9_2 + 1)), (by first | rfl | (simp; done) | (simp [*]; done)), H', ⟨by have := HK1.out; have := HK2.out; omega⟩, ⟨by (with_reducible repeat (first | apply Kd.R_alloc | apply Kd.R_drewN | apply Kd.R_drew)); exact HO_3.out⟩, ⟨by (with_reducible repeat (first | apply Kd.S_alloc | apply Kd.S_drewN | apply Kd.S_drew)); exact Kd.S_mono HO_4.out (fun _ hk => ⟨hk.1.1, ⟨hk.1.2, hk.2⟩⟩)⟩, ⟨by (with_reducible repeat (first | apply Kd.R_alloc | apply Kd.R_drewN | apply Kd.R_drew)); exact HO_7.out⟩, ⟨by (with_reducible repeat (first | apply Kd.R_alloc | apply Kd.R_drewN | apply Kd.R_drew)); exact HO_8.out⟩, ⟨by repeat (first | (with_reducible first | exact HB.out | apply below_alloc | apply pw_below_drewN | apply below_drew1) | exact HB.out)⟩⟩
                ·rw [if_neg c30] at H
                 exact absurd H (by simp)
               ·rw [if_neg c29] at H
                have c29b0 : (x5_1 == 0) = false := beq_eq_false_iff_ne.mpr c29
                have c29b1 : (x5_1 != 0) = true := bne_iff_ne.mpr c29
                by_cases c35 : x9_2 < (t180.length : Int)
                ·rw [if_pos c35] at H
                 have c35b0 : decide (x9_2 < (t180.length : Int)) = true := decide_eq_true c35
                 clear c35
                 by_cases c36 : x9_2 < (x8_2.length : Int)
                 ·rw [if_pos c36] at H
                  have c36b0 : decide (x9_2 < (x8_2.length : Int)) = true := decide_eq_true c36
                  clear c36
                  obtain ⟨y190, hy190⟩ : ∃ y_ : List Bool, y_ = (x8_2.set (x9_2 : Int).toNat (!(rdOf false t180 x9_2))) := ⟨_, rfl⟩
                  replace H : (bywashref14_doms.l1 k2 l0 x3_1 x4_1 x5_1 t180 y190 (wrap64 (x9_2 + 1))) = some r := by first | (rw [hy190]; with_reducible exact H) | (have H2_ := (Option.bind_some _ _).symm.trans H; rw [hy190]; with_reducible exact H2_) | (have H2_ := (Option.bind_some _ _).symm.trans H; with_reducible exact H2_) | with_reducible exact H | (rw [hy190]; exact H) | exact H
                  have Ny190 := Aside0.mk hy190
                  clear hy190
                  have H' := Aside0.mk H
                  clear H
                  obtain ⟨Ao38, co38, eo38⟩ := Kd.R_slice HO_3.out
                  subst eo38
                  have p186 : 0 ≤ (x9_2 : Int) := of_decide_eq_true (by first | (with_reducible assumption) | assumption)
                  have q186 : x9_2 < (x3_1.length : Int) := of_decide_eq_true (by first | (with_reducible assumption) | assumption)
                  (try (obtain ⟨Ar_, cr_, er_⟩ := Kd.R_slice HO_3.out; subst er_))
                  obtain ⟨ad186, e186, hx186_0⟩ := Kd.at_bool (Kd.R_reads' HO_3.out).2.2 x9_2 p186 q186
                  (try rw [← Nbq21.out] at hx186_0)
                  cases e186
                  replace p186 := eq_true p186
                  replace q186 := eq_true q186
                  obtain ⟨Ao39, co39, eo39⟩ := Kd.R_slice HO_7.out
                  subst eo39
                  have p189 : 0 ≤ (x9_2 : Int) := of_decide_eq_true (by first | (with_reducible assumption) | assumption)
                  have q189 : x9_2 < (t180.length : Int) := of_decide_eq_true (by first | (with_reducible assumption) | assumption)
                  (try (obtain ⟨Ar_, cr_, er_⟩ := Kd.R_slice HO_7.out; subst er_))
                  obtain ⟨ad189, e189, hx189_0⟩ := Kd.at_bool (Kd.R_reads' HO_7.out).2.2 x9_2 p189 q189
                  (try rw [← Nbq21.out] at hx189_0)
                  cases e189
                  replace p189 := eq_true p189
                  replace q189 := eq_true q189
                  have p37 : 0 ≤ (x9_2 : Int) := of_decide_eq_true (by first | (with_reducible assumption) | assumption)
                  have q37 : (x9_2 : Int) < ((x8_2.length : Int) : Int) := of_decide_eq_true (by first | (with_reducible assumption) | assumption)
                  obtain ⟨go37, co37, eo37, gb37, gl37, cl37, HG37⟩ := Kd.R_form HO_8.out (by omega)
                  (first | cases eo37 | (injection eo37 with ea_ en_ ec_; (first | subst ea_ | (injection ea_ with ea_; subst ea_)); subst ec_; clear en_))
                  have GB37 := Aside0.mk gb37
                  have GG37 := Aside0.mk HG37
                  clear gb37 gl37 HG37
                  obtain ⟨hx37_0, hf37_0⟩ := Kd.R_celln false HO_8.out (x9_2 : Int) p37 q37
                  replace p37 := eq_true p37
                  replace q37 := eq_true q37
                  have HP40 := Kd.R_putg HO_8.out (x9_2 : Int) (!(rdOf false t180 x9_2))
                  go_wp2_with (first | ((with_reducible refine gate_store (t := 4) (p := 56) rfl ?_); refine store_event (t := 4) (p := 56) (v := ?vo_w41) (w1 := (wr.setCell ⟨go37, (x9_2 : Int).toNat, none⟩ (.bool (!(rdOf false t180 x9_2))))) ?hg ?ho ?hn ?hr ?_; (case ho => rfl); (case hg => rfl); (case hn => rfl); (case hr => first | (go_simp; done) | (go_simp; rfl)); intro w41 hw; have hg : wr.grownBy w41 (some go37) := (by rw [hw]; exact HP40.2); have hp_ : Kd.R Kd.bool 4 w41 w.heap.size (fun k_ => some k_ ≠ (.slice (some ad186) x3_1.length co38 : Value).ownBlock ∧ some k_ ≠ (.slice (some ad189) t180.length co39 : Value).ownBlock) (.slice (some ⟨go37, 0, none⟩) x8_2.length co37) y190 := (by rw [hw, Ny190.out]; exact HP40.1); clear HP40; have n0_ := Aside0.mk (Kd.R_after (v := (.slice (some ⟨go37, 0, none⟩) x8_2.length co37)) (v1 := (.slice (some ⟨go37, 0, none⟩) x8_2.length co37)) (ok := (fun k_ => some k_ ≠ (.slice (some ad189) t180.length co39 : Value).ownBlock)) (by (with_reducible repeat (first | apply Kd.R_alloc | apply Kd.R_drewN | apply Kd.R_drew)); exact HO_3.out) hg (.inl rfl)); have n1_ := Aside0.mk (Kd.S_after (v := (.slice (some ⟨go37, 0, none⟩) x8_2.length co37)) (v1 := (.slice (some ⟨go37, 0, none⟩) x8_2.length co37)) (ok := (fun k_ => some k_ ≠ (.slice (some ad186) x3_1.length co38 : Value).ownBlock ∧ some k_ ≠ (.slice (some ad189) t180.length co39 : Value).ownBlock)) (by (with_reducible repeat (first | apply Kd.S_alloc | apply Kd.S_drewN | apply Kd.S_drew)); exact Kd.S_mono HO_4.out (fun _ hk => ⟨⟨hk.1, hk.2.1⟩, hk.2.2⟩)) hg (.inl rfl)); have n2_ := Aside0.mk (Kd.R_after (v := (.slice (some ⟨go37, 0, none⟩) x8_2.length co37)) (v1 := (.slice (some ⟨go37, 0, none⟩) x8_2.length co37)) (ok := (fun k_ => some k_ ≠ (.slice (some ad186) x3_1.length co38 : Value).ownBlock)) (by (with_reducible repeat (first | apply Kd.R_alloc | apply Kd.R_drewN | apply Kd.R_drew)); exact HO_7.out) hg (.inl rfl)); have n3_ := Aside0.mk (hp_); have n4_ := Aside0.mk ((by rw [hw]; exact below_set (HB.out) GB37.out : Below w.heap.size w w41)); clear HO_3; clear HO_4; clear HO_7; clear HO_8; clear HB; have HO_3 := n0_; have HO_4 := n1_; have HO_7 := n2_; have HO_8 := n3_; have HB := n4_; clear n0_ n1_ n2_ n3_ n4_; clear hg hw hp_))
                  go_roundg k2
                  case measure => have := HK1.out; have := HK2.out; omega
                  case rel => exact ⟨(y190), (wrap64 (x9_2 + 1)), (by first | rfl | (simp; done) | (simp [*]; done)), H', ⟨by have := HK1.out; have := HK2.out; omega⟩, ⟨by (with_reducible repeat (first | apply Kd.R_alloc | apply Kd.R_drewN | apply Kd.R_drew)); exact HO_3.out⟩, ⟨by (with_reducible repeat (first | apply Kd.S_alloc | apply Kd.S_drewN | apply Kd.S_drew)); exact Kd.S_mono HO_4.out (fun _ hk => ⟨hk.1.1, ⟨hk.1.2, hk.2⟩⟩)⟩, ⟨by (with_reducible repeat (first | apply Kd.R_alloc | apply Kd.R_drewN | apply Kd.R_drew)); exact HO_7.out⟩, ⟨by (with_reducible repeat (first | apply Kd.R_alloc | apply Kd.R_drewN | apply Kd.R_drew)); exact HO_8.out⟩, ⟨by repeat (first | (with_reducible first | exact HB.out | apply below_alloc | apply pw_below_drewN | apply below_drew1) | exact HB.out)⟩⟩
                 ·rw [if_neg c36] at H
                  exact absurd H (by simp)
                ·rw [if_neg c35] at H
                 exact absurd H (by simp)
             ·replace c22 := Bool.eq_false_iff.mpr c22
              subst c22
              have H1 : (if x9_2 < (x8_2.length : Int) then (bywashref14_doms.l1 k2 l0 x3_1 x4_1 x5_1 t180 (x8_2.set (x9_2 : Int).toNat false) (wrap64 (x9_2 + 1))) else (none)) = some r := by rw [if_neg (show ¬ (false = true) by decide)] at H; exact H
              clear H
              have H := H1
              clear H1
              by_cases c42 : x9_2 < (x8_2.length : Int)
              ·rw [if_pos c42] at H
               have c42b0 : decide (x9_2 < (x8_2.length : Int)) = true := decide_eq_true c42
               clear c42
               obtain ⟨y191, hy191⟩ : ∃ y_ : List Bool, y_ = (x8_2.set (x9_2 : Int).toNat false) := ⟨_, rfl⟩
               replace H : (bywashref14_doms.l1 k2 l0 x3_1 x4_1 x5_1 t180 y191 (wrap64 (x9_2 + 1))) = some r := by first | (rw [hy191]; with_reducible exact H) | (have H2_ := (Option.bind_some _ _).symm.trans H; rw [hy191]; with_reducible exact H2_) | (have H2_ := (Option.bind_some _ _).symm.trans H; with_reducible exact H2_) | with_reducible exact H | (rw [hy191]; exact H) | exact H
               have Ny191 := Aside0.mk hy191
               clear hy191
               have H' := Aside0.mk H
               clear H
               obtain ⟨Ao44, co44, eo44⟩ := Kd.R_slice HO_3.out
               subst eo44
               have p186 : 0 ≤ (x9_2 : Int) := of_decide_eq_true (by first | (with_reducible assumption) | assumption)
               have q186 : x9_2 < (x3_1.length : Int) := of_decide_eq_true (by first | (with_reducible assumption) | assumption)
               (try (obtain ⟨Ar_, cr_, er_⟩ := Kd.R_slice HO_3.out; subst er_))
               obtain ⟨ad186, e186, hx186_0⟩ := Kd.at_bool (Kd.R_reads' HO_3.out).2.2 x9_2 p186 q186
               (try rw [← Nbq21.out] at hx186_0)
               cases e186
               replace p186 := eq_true p186
               replace q186 := eq_true q186
               have p43 : 0 ≤ (x9_2 : Int) := of_decide_eq_true (by first | (with_reducible assumption) | assumption)
               have q43 : (x9_2 : Int) < ((x8_2.length : Int) : Int) := of_decide_eq_true (by first | (with_reducible assumption) | assumption)
               obtain ⟨go43, co43, eo43, gb43, gl43, cl43, HG43⟩ := Kd.R_form HO_8.out (by omega)
               (first | cases eo43 | (injection eo43 with ea_ en_ ec_; (first | subst ea_ | (injection ea_ with ea_; subst ea_)); subst ec_; clear en_))
               have GB43 := Aside0.mk gb43
               have GG43 := Aside0.mk HG43
               clear gb43 gl43 HG43
               obtain ⟨hx43_0, hf43_0⟩ := Kd.R_celln false HO_8.out (x9_2 : Int) p43 q43
               replace p43 := eq_true p43
               replace q43 := eq_true q43
               have HP45 := Kd.R_putg HO_8.out (x9_2 : Int) false
               go_wp2_with (first | ((with_reducible refine gate_store (t := 4) (p := 56) rfl ?_); refine store_event (t := 4) (p := 56) (v := ?vo_w46) (w1 := (wr.setCell ⟨go43, (x9_2 : Int).toNat, none⟩ (.bool false))) ?hg ?ho ?hn ?hr ?_; (case ho => rfl); (case hg => rfl); (case hn => rfl); (case hr => first | (go_simp; done) | (go_simp; rfl)); intro w46 hw; have hg : wr.grownBy w46 (some go43) := (by rw [hw]; exact HP45.2); have hp_ : Kd.R Kd.bool 4 w46 w.heap.size (fun k_ => some k_ ≠ (.slice (some ad186) x3_1.length co44 : Value).ownBlock ∧ some k_ ≠ (v181 : Value).ownBlock) (.slice (some ⟨go43, 0, none⟩) x8_2.length co43) y191 := (by rw [hw, Ny191.out]; exact HP45.1); clear HP45; have n0_ := Aside0.mk (Kd.R_after (v := (.slice (some ⟨go43, 0, none⟩) x8_2.length co43)) (v1 := (.slice (some ⟨go43, 0, none⟩) x8_2.length co43)) (ok := (fun k_ => some k_ ≠ (v181 : Value).ownBlock)) (by (with_reducible repeat (first | apply Kd.R_alloc | apply Kd.R_drewN | apply Kd.R_drew)); exact HO_3.out) hg (.inl rfl)); have n1_ := Aside0.mk (Kd.S_after (v := (.slice (some ⟨go43, 0, none⟩) x8_2.length co43)) (v1 := (.slice (some ⟨go43, 0, none⟩) x8_2.length co43)) (ok := (fun k_ => some k_ ≠ (.slice (some ad186) x3_1.length co44 : Value).ownBlock ∧ some k_ ≠ (v181 : Value).ownBlock)) (by (with_reducible repeat (first | apply Kd.S_alloc | apply Kd.S_drewN | apply Kd.S_drew)); exact Kd.S_mono HO_4.out (fun _ hk => ⟨⟨hk.1, hk.2.1⟩, hk.2.2⟩)) hg (.inl rfl)); have n2_ := Aside0.mk (Kd.R_after (v := (.slice (some ⟨go43, 0, none⟩) x8_2.length co43)) (v1 := (.slice (some ⟨go43, 0, none⟩) x8_2.length co43)) (ok := (fun k_ => some k_ ≠ (.slice (some ad186) x3_1.length co44 : Value).ownBlock)) (by (with_reducible repeat (first | apply Kd.R_alloc | apply Kd.R_drewN | apply Kd.R_drew)); exact HO_7.out) hg (.inl rfl)); have n3_ := Aside0.mk (hp_); have n4_ := Aside0.mk ((by rw [hw]; exact below_set (HB.out) GB43.out : Below w.heap.size w w46)); clear HO_3; clear HO_4; clear HO_7; clear HO_8; clear HB; have HO_3 := n0_; have HO_4 := n1_; have HO_7 := n2_; have HO_8 := n3_; have HB := n4_; clear n0_ n1_ n2_ n3_ n4_; clear hg hw hp_))
               go_roundg k2
               case measure => have := HK1.out; have := HK2.out; omega
               case rel => exact ⟨(y191), (wrap64 (x9_2 + 1)), (by first | rfl | (simp; done) | (simp [*]; done)), H', ⟨by have := HK1.out; have := HK2.out; omega⟩, ⟨by (with_reducible repeat (first | apply Kd.R_alloc | apply Kd.R_drewN | apply Kd.R_drew)); exact HO_3.out⟩, ⟨by (with_reducible repeat (first | apply Kd.S_alloc | apply Kd.S_drewN | apply Kd.S_drew)); exact Kd.S_mono HO_4.out (fun _ hk => ⟨hk.1.1, ⟨hk.1.2, hk.2⟩⟩)⟩, ⟨by (with_reducible repeat (first | apply Kd.R_alloc | apply Kd.R_drewN | apply Kd.R_drew)); exact HO_7.out⟩, ⟨by (with_reducible repeat (first | apply Kd.R_alloc | apply Kd.R_drewN | apply Kd.R_drew)); exact HO_8.out⟩, ⟨by repeat (first | (with_reducible first | exact HB.out | apply below_alloc | apply pw_below_drewN | apply below_drew1) | exact HB.out)⟩⟩
              ·rw [if_neg c42] at H
               exact absurd H (by simp)
            ·rw [if_neg c20] at H
             exact absurd H (by simp)
           ·rw [if_neg c19] at H
            exact absurd H (by simp)
          ·rw [if_neg c18] at H
           have c18b0 : decide (x9_2 < (l0.length : Int)) = false := decide_eq_false c18
           clear c18
           by_cases c47 : x4_1.length < 5864062014805
           ·rw [if_pos c47] at H
            have LMc47 := Aside0.mk c47
            clear c47
            obtain ⟨y192, hy192⟩ : ∃ y_ : List (List Bool), y_ = (x4_1 ++ [x8_2]) := ⟨_, rfl⟩
            replace H : (bywashref14_doms.l0 k2 l0 x3_1 y192 (wrap64 (x5_1 + 1))) = some r := by first | (rw [hy192]; with_reducible exact H) | (have H2_ := (Option.bind_some _ _).symm.trans H; rw [hy192]; with_reducible exact H2_) | (have H2_ := (Option.bind_some _ _).symm.trans H; with_reducible exact H2_) | with_reducible exact H | (rw [hy192]; exact H) | exact H
            have Ny192 := Aside0.mk hy192
            clear hy192
            have H' := Aside0.mk H
            clear H
            obtain ⟨Ao49, co49, eo49⟩ := Kd.R_slice HO_8.out
            subst eo49
            go_wp2_with (first | ((with_reducible refine gate_builtin (b := .append) (xs := #[.tmp 57, .tmp 59]) rfl ?_); at_builtin; refine Kd.S_append (Kd.slice 4 Kd.bool) (w0 := w) w.heap.size rfl (.tmp 57) (.tmp 59) 78 56 (.slice none 0 0) 24 rfl Tryz.underlying78 info56 rfl (by decide) (by omega) u4 x4_1 x8_2 [.slice Ao49 x8_2.length co49] (fun k_ => some k_ ≠ (v174 : Value).ownBlock ∧ some k_ ≠ (v181 : Value).ownBlock) (fun k_ => some k_ = (.slice Ao49 x8_2.length co49 : Value).ownBlock) rfl rfl ?aP (fun k_ hk_ => ((Kd.R_mono (ok' := fun k_ => ((fun k_ => some k_ ≠ (v174 : Value).ownBlock ∧ some k_ ≠ (v181 : Value).ownBlock)) k_ ∧ some k_ ≠ (u4 : Value).ownBlock) (Kd.R_apart' (HO_8.out) (Kd.S_typed HO_4.out) (by decide)) (fun k_ hk => ⟨⟨hk.1.1, hk.1.2⟩, hk.2⟩))).1 k_ hk_.symm) ?aF ?aO ?aB ?aS ?aL ?_; (case aP => exact Kd.M_row (Kd.R_mono (Kd.R_tight rfl (Kd.R_mono (ok' := fun k_ => ((fun k_ => some k_ ≠ (v174 : Value).ownBlock ∧ some k_ ≠ (v181 : Value).ownBlock)) k_ ∧ some k_ ≠ (u4 : Value).ownBlock) (Kd.R_apart' (HO_8.out) (Kd.S_typed HO_4.out) (by decide)) (fun k_ hk => ⟨⟨hk.1.1, hk.1.2⟩, hk.2⟩))) (fun _ h_ => h_))); (case aB => exact (by repeat (first | (with_reducible first | exact HB.out | apply below_alloc | apply pw_below_drewN | apply below_drew1) | exact HB.out))); (case aF => exact (fun k_ hk => ⟨Kd.fresh' (Kd.R_lt (by (with_reducible repeat (first | apply Kd.R_alloc | apply Kd.R_drewN | apply Kd.R_drew)); exact HO_3.out)) k_ hk, Kd.fresh' (Kd.R_lt (by (with_reducible repeat (first | apply Kd.R_alloc | apply Kd.R_drewN | apply Kd.R_drew)); exact HO_7.out)) k_ hk⟩)); (case aO => exact (by (with_reducible repeat (first | apply Kd.S_alloc | apply Kd.S_drewN | apply Kd.S_drew)); exact Kd.S_mono HO_4.out (fun k_ hk => ⟨⟨hk.1, hk.2.1⟩, fun e_ => hk.2.2 e_⟩))); (case aS => exact (below_size (by repeat (first | (with_reducible first | exact HB.out | apply below_alloc | apply pw_below_drewN | apply below_drew1) | exact HB.out)))); (case aL => have := LMc47.out; omega); intro v193 w48 ho hb hg hat; rw [← Ny192.out] at ho; have n0_ := Aside0.mk (Kd.R_over' (by (with_reducible repeat (first | apply Kd.R_alloc | apply Kd.R_drewN | apply Kd.R_drew)); exact HO_3.out) (Kd.S_typed (by (with_reducible repeat (first | apply Kd.S_alloc | apply Kd.S_drewN | apply Kd.S_drew)); exact HO_4.out)) (by decide) hg); have n1_ := Aside0.mk (Kd.R_over' (by (with_reducible repeat (first | apply Kd.R_alloc | apply Kd.R_drewN | apply Kd.R_drew)); exact HO_7.out) (Kd.S_typed (by (with_reducible repeat (first | apply Kd.S_alloc | apply Kd.S_drewN | apply Kd.S_drew)); exact HO_4.out)) (by decide) hg); have n2_ := Aside0.mk (hb); have n3_ := Aside0.mk (ho); clear HO_3; clear HO_7; clear HB; clear HO_4; clear HO_8; have HO_3 := n0_; have HO_7 := n1_; have HB := n2_; have HO194 := n3_; clear n0_ n1_ n2_ n3_; clear ho hb hg hat))
            go_roundg k2
            case measure => have := HK1.out; have := HK2.out; omega
            case rel => exact ⟨(x3_1), (y192), (wrap64 (x5_1 + 1)), (by first | rfl | (simp; done) | (simp [*]; done)), H', ⟨by have := HK1.out; have := HK2.out; omega⟩, ⟨by (with_reducible repeat (first | apply Kd.R_alloc | apply Kd.R_drewN | apply Kd.R_drew)); exact Kd.R_mono HO_3.out (fun _ hk => trivial)⟩, ⟨by (with_reducible repeat (first | apply Kd.S_alloc | apply Kd.S_drewN | apply Kd.S_drew)); exact Kd.S_mono HO194.out (fun _ hk => hk.1)⟩, ⟨by repeat (first | (with_reducible first | exact HB.out | apply below_alloc | apply pw_below_drewN | apply below_drew1) | exact HB.out)⟩⟩
           ·rw [if_neg c47] at H
            exact absurd H (by simp)
       ·rw [if_neg c11] at H
        exact absurd H (by simp)
      ·rw [if_neg c10] at H
       exact absurd H (by simp)
     ·rw [if_neg c7] at H
      exact absurd H (by simp)
    ·rw [if_neg c6] at H
     exact absurd H (by simp)
   ·rw [if_neg c4] at H
    have c4b0 : decide (x5_1 < (l0.length : Int)) = false := decide_eq_false c4
    clear c4
    obtain rfl := Option.some.inj H
    go_wp2
    go_ret
    exact ⟨_, by first | rfl | (simp [errW_none, errW_some] <;> rfl) | (simp [*, errW_none, errW_some] <;> rfl) | (exfalso; (try simp_all); (try omega); done), by (with_reducible repeat (first | apply Kd.S_alloc | apply Kd.S_drewN | apply Kd.S_drew)); exact Kd.S_mono HO_4.out (fun _ hk => trivial), by repeat (first | (with_reducible first | exact HB.out | apply below_alloc | apply pw_below_drewN | apply below_drew1) | exact HB.out)⟩
mutual
def bywashref14_closest.l0 : Nat → List (List Bool) → List Int → Int → Option (Int)
 | 0, _, _, _ => none
 | k + 1, x0, x1, x5 => if x5 < (x1.length : Int) then (bywashref14_closest.l1 k x0 x1 x5 true 0) else (some (-1))
def bywashref14_closest.l1 : Nat → List (List Bool) → List Int → Int → Bool → Int → Option (Int)
 | 0, _, _, _, _, _ => none
 | k + 1, x0, x1, x5, x6, x7 => if x7 < (x1.length : Int) then (if x6 = true then (if 0 ≤ x7 then (if 0 ≤ (rd x1 x7) then (if (rd x1 x7) < (x0.length : Int) then (if 0 ≤ x5 then (if x5 < (x1.length : Int) then (if 0 ≤ (rd x1 x5) then (if (rd x1 x5) < ((rd_L3 x0 (rd x1 x7)).length : Int) then (bywashref14_closest.l1 k x0 x1 x5 (rdOf false (rd_L3 x0 (rd x1 x7)) (rd x1 x5)) (wrap64 (x7 + 1))) else (none)) else (none)) else (none)) else (none)) else (none)) else (none)) else (none)) else (bywashref14_closest.l1 k x0 x1 x5 false (wrap64 (x7 + 1)))) else (if x6 = true then (if 0 ≤ x5 then (if x5 < (x1.length : Int) then (some (rd x1 x5)) else (none)) else (none)) else (bywashref14_closest.l0 k x0 x1 (wrap64 (x5 + 1))))
end
def bywashref14_closest.f (k : Nat) (l0 : List (List Bool)) (l1 : List Int) : Option (Int) := bywashref14_closest.l0 k l0 l1 0
set_option maxHeartbeats 8000000 in
set_option maxRecDepth 100000 in
theorem bywashref14_closest.calls (k : Nat) (A0 : Option Addr) (c0 : Nat) (l0 : List (List Bool)) (A1 : Option Addr) (c1 : Nat) (l1 : List Int) (r : Int) (w : World) (hr0 : Kd.C (Kd.slice 4 Kd.bool) w A0 l0.length l0) (hc0 : l0.length ≤ c0) (hr1 : Kd.C (Kd.int .i64) w A1 l1.length l1) (hc1 : l1.length ≤ c1) (h : bywashref14_closest.f k l0 l1 = some r) :
  Calls Tryz.prog 67 #[.slice A0 l0.length c0, .slice A1 l1.length c1] w fun e w' => e = .returned (.int .i64 r) ∧ Drawn0 w w' := by
 have HR0 := Aside0.mk hr0
 have HC0 := Aside0.mk hc0
 clear hr0 hc0
 have HR1 := Aside0.mk hr1
 have HC1 := Aside0.mk hc1
 clear hr1 hc1
 have H : (bywashref14_closest.l0 k l0 l1 0) = some r := h
 clear h
 have H' := Aside0.mk H
 clear H
 go_enter Tryz.func67, Tryz.ntmps67
 go_wp2
 repeat (go_quiet (fail); try go_wp2)
 go_loopg [5] k (fun kq v5 w' => ∃ (x5_1 : Int), v5 = .int .i64 x5_1 ∧ Aside0 (bywashref14_closest.l0 kq l0 l1 x5_1 = some r) ∧ Aside0 (kq ≤ k) ∧ Drawn0 w w')
 case atStart => exact ⟨(0), (by first | rfl | (simp; done) | (simp [*]; done)), H', ⟨Nat.le_refl _⟩, by repeat (first | exact Drawn0.refl _ | apply Drawn0.step)⟩
 case round =>
  clear H'
  try clear c1
  try clear p2
  obtain ⟨x5_1, rfl, HA, HK1, ⟨m1, rfl⟩⟩ := hrel
  cases gk with
  | zero => exact absurd HA.out (by simp [bywashref14_closest.l0])
  | succ k1 =>
   have H := HA.out
   clear HA
   simp only [bywashref14_closest.l0] at H
   by_cases c3 : x5_1 < (l1.length : Int)
   ·rw [if_pos c3] at H
    have c3b0 : decide (x5_1 < (l1.length : Int)) = true := decide_eq_true c3
    clear c3
    have H' := Aside0.mk H
    clear H
    go_wp2
    repeat (go_quiet (fail); try go_wp2)
    go_loopg [6, 7] k1 (fun kq v6 v7 w' => ∃ (x6_2 : Bool) (x7_2 : Int), v6 = .bool x6_2 ∧ v7 = .int .i64 x7_2 ∧ Aside0 (bywashref14_closest.l1 kq l0 l1 x5_1 x6_2 x7_2 = some r) ∧ Aside0 (kq ≤ k1) ∧ Drawn0 w w')
    case atStart => exact ⟨(true), (0), (by first | rfl | (simp; done) | (simp [*]; done)), (by first | rfl | (simp; done) | (simp [*]; done)), H', ⟨Nat.le_refl _⟩, by repeat (first | exact Drawn0.refl _ | apply Drawn0.step)⟩
    case round =>
     clear H'
     try clear c1
     try clear p2
     try clear c3
     try clear c3b0
     try clear p2
     obtain ⟨x6_2, x7_2, rfl, rfl, HA, HK2, ⟨m2, rfl⟩⟩ := hrel
     cases gk with
     | zero => exact absurd HA.out (by simp [bywashref14_closest.l1])
     | succ k2 =>
      have H := HA.out
      clear HA
      simp only [bywashref14_closest.l1] at H
      by_cases c4 : x7_2 < (l1.length : Int)
      ·rw [if_pos c4] at H
       have c4b0 : decide (x7_2 < (l1.length : Int)) = true := decide_eq_true c4
       clear c4
       by_cases c5 : x6_2 = true
       ·subst c5
        have H1 : (if 0 ≤ x7_2 then (if 0 ≤ (rd l1 x7_2) then (if (rd l1 x7_2) < (l0.length : Int) then (if 0 ≤ x5_1 then (if x5_1 < (l1.length : Int) then (if 0 ≤ (rd l1 x5_1) then (if (rd l1 x5_1) < ((rd_L3 l0 (rd l1 x7_2)).length : Int) then (bywashref14_closest.l1 k2 l0 l1 x5_1 (rdOf false (rd_L3 l0 (rd l1 x7_2)) (rd l1 x5_1)) (wrap64 (x7_2 + 1))) else (none)) else (none)) else (none)) else (none)) else (none)) else (none)) else (none)) = some r := by rw [if_pos rfl] at H; exact H
        clear H
        have H := H1
        clear H1
        by_cases c6 : 0 ≤ x7_2
        ·rw [if_pos c6] at H
         have c6b0 : decide (0 ≤ x7_2) = true := decide_eq_true c6
         clear c6
         by_cases c7 : 0 ≤ (rd l1 x7_2)
         ·rw [if_pos c7] at H
          have c7b0 : decide (0 ≤ (rd l1 x7_2)) = true := decide_eq_true c7
          clear c7
          by_cases c8 : (rd l1 x7_2) < (l0.length : Int)
          ·rw [if_pos c8] at H
           have c8b0 : decide ((rd l1 x7_2) < (l0.length : Int)) = true := decide_eq_true c8
           clear c8
           by_cases c9 : 0 ≤ x5_1
           ·rw [if_pos c9] at H
            have c9b0 : decide (0 ≤ x5_1) = true := decide_eq_true c9
            clear c9
            by_cases c10 : x5_1 < (l1.length : Int)
            ·rw [if_pos c10] at H
             have c10b0 : decide (x5_1 < (l1.length : Int)) = true := decide_eq_true c10
             clear c10
             by_cases c11 : 0 ≤ (rd l1 x5_1)
             ·rw [if_pos c11] at H
              have c11b0 : decide (0 ≤ (rd l1 x5_1)) = true := decide_eq_true c11
              clear c11
              by_cases c12 : (rd l1 x5_1) < ((rd_L3 l0 (rd l1 x7_2)).length : Int)
              ·rw [if_pos c12] at H
               have c12b0 : decide ((rd l1 x5_1) < ((rd_L3 l0 (rd l1 x7_2)).length : Int)) = true := decide_eq_true c12
               clear c12
               have H' := Aside0.mk H
               clear H
               have p195 : 0 ≤ (x7_2 : Int) := of_decide_eq_true (by first | (with_reducible assumption) | assumption)
               have q195 : x7_2 < (l1.length : Int) := of_decide_eq_true (by first | (with_reducible assumption) | assumption)
               obtain ⟨ad195, e195, hx195_0⟩ := Kd.at_int HR1.out x7_2 p195 q195
               cases e195
               replace p195 := eq_true p195
               replace q195 := eq_true q195
               have p196 : 0 ≤ ((rd l1 x7_2) : Int) := of_decide_eq_true (by first | (with_reducible assumption) | assumption)
               have q196 : (rd l1 x7_2) < (l0.length : Int) := of_decide_eq_true (by first | (with_reducible assumption) | assumption)
               obtain ⟨ad196, A196_0, c196_0, e196, hx196_0, hl196_0, hi196_0⟩ := at_L3 HR0.out (rd l1 x7_2) p196 q196
               cases e196
               have HR196_0 := Aside0.mk hi196_0
               have HC196_0 := Aside0.mk hl196_0
               clear hi196_0 hl196_0
               replace p196 := eq_true p196
               replace q196 := eq_true q196
               have p197 : 0 ≤ (x5_1 : Int) := of_decide_eq_true (by first | (with_reducible assumption) | assumption)
               have q197 : x5_1 < (l1.length : Int) := of_decide_eq_true (by first | (with_reducible assumption) | assumption)
               obtain ⟨ad197, e197, hx197_0⟩ := Kd.at_int HR1.out x5_1 p197 q197
               obtain rfl : ad195 = ad197 := (by injection e197)
               replace p197 := eq_true p197
               replace q197 := eq_true q197
               have p198 : 0 ≤ ((rd l1 x5_1) : Int) := of_decide_eq_true (by first | (with_reducible assumption) | assumption)
               have q198 : (rd l1 x5_1) < ((rd_L3 l0 (rd l1 x7_2)).length : Int) := of_decide_eq_true (by first | (with_reducible assumption) | assumption)
               obtain ⟨ad198, e198, hx198_0⟩ := Kd.at_bool HR196_0.out (rd l1 x5_1) p198 q198
               cases e198
               replace p198 := eq_true p198
               replace q198 := eq_true q198
               go_wp2
               repeat (go_quiet (fail); try go_wp2)
               go_roundg k2
               case measure => have := HK1.out; have := HK2.out; omega
               case rel => exact ⟨(rdOf false (rd_L3 l0 (rd l1 x7_2)) (rd l1 x5_1)), (wrap64 (x7_2 + 1)), (by first | rfl | (simp; done) | (simp [*]; done)), (by first | rfl | (simp; done) | (simp [*]; done)), H', ⟨by have := HK1.out; have := HK2.out; omega⟩, by repeat (first | exact Drawn0.refl _ | apply Drawn0.step)⟩
              ·rw [if_neg c12] at H
               exact absurd H (by simp)
             ·rw [if_neg c11] at H
              exact absurd H (by simp)
            ·rw [if_neg c10] at H
             exact absurd H (by simp)
           ·rw [if_neg c9] at H
            exact absurd H (by simp)
          ·rw [if_neg c8] at H
           exact absurd H (by simp)
         ·rw [if_neg c7] at H
          exact absurd H (by simp)
        ·rw [if_neg c6] at H
         exact absurd H (by simp)
       ·replace c5 := Bool.eq_false_iff.mpr c5
        subst c5
        have H1 : (bywashref14_closest.l1 k2 l0 l1 x5_1 false (wrap64 (x7_2 + 1))) = some r := by rw [if_neg (show ¬ (false = true) by decide)] at H; exact H
        clear H
        have H := H1
        clear H1
        have H' := Aside0.mk H
        clear H
        go_wp2
        repeat (go_quiet (fail); try go_wp2)
        go_roundg k2
        case measure => have := HK1.out; have := HK2.out; omega
        case rel => exact ⟨(false), (wrap64 (x7_2 + 1)), (by first | rfl | (simp; done) | (simp [*]; done)), (by first | rfl | (simp; done) | (simp [*]; done)), H', ⟨by have := HK1.out; have := HK2.out; omega⟩, by repeat (first | exact Drawn0.refl _ | apply Drawn0.step)⟩
      ·rw [if_neg c4] at H
       have c4b0 : decide (x7_2 < (l1.length : Int)) = false := decide_eq_false c4
       clear c4
       by_cases c13 : x6_2 = true
       ·subst c13
        have H1 : (if 0 ≤ x5_1 then (if x5_1 < (l1.length : Int) then (some (rd l1 x5_1)) else (none)) else (none)) = some r := by rw [if_pos rfl] at H; exact H
        clear H
        have H := H1
        clear H1
        by_cases c14 : 0 ≤ x5_1
        ·rw [if_pos c14] at H
         have c14b0 : decide (0 ≤ x5_1) = true := decide_eq_true c14
         clear c14
         by_cases c15 : x5_1 < (l1.length : Int)
         ·rw [if_pos c15] at H
          have c15b0 : decide (x5_1 < (l1.length : Int)) = true := decide_eq_true c15
          clear c15
          obtain rfl := Option.some.inj H
          have p199 : 0 ≤ (x5_1 : Int) := of_decide_eq_true (by first | (with_reducible assumption) | assumption)
          have q199 : x5_1 < (l1.length : Int) := of_decide_eq_true (by first | (with_reducible assumption) | assumption)
          obtain ⟨ad199, e199, hx199_0⟩ := Kd.at_int HR1.out x5_1 p199 q199
          cases e199
          replace p199 := eq_true p199
          replace q199 := eq_true q199
          go_wp2
          repeat (go_quiet (fail); try go_wp2)
          go_ret
          exact ⟨by first | rfl | (simp; done) | (simp [*]; done), by repeat (first | exact Drawn0.refl _ | apply Drawn0.step)⟩
         ·rw [if_neg c15] at H
          exact absurd H (by simp)
        ·rw [if_neg c14] at H
         exact absurd H (by simp)
       ·replace c13 := Bool.eq_false_iff.mpr c13
        subst c13
        have H1 : (bywashref14_closest.l0 k2 l0 l1 (wrap64 (x5_1 + 1))) = some r := by rw [if_neg (show ¬ (false = true) by decide)] at H; exact H
        clear H
        have H := H1
        clear H1
        have H' := Aside0.mk H
        clear H
        go_wp2
        repeat (go_quiet (fail); try go_wp2)
        go_roundg k2
        case measure => have := HK1.out; have := HK2.out; omega
        case rel => exact ⟨(wrap64 (x5_1 + 1)), (by first | rfl | (simp; done) | (simp [*]; done)), H', ⟨by have := HK1.out; have := HK2.out; omega⟩, by repeat (first | exact Drawn0.refl _ | apply Drawn0.step)⟩
   ·rw [if_neg c3] at H
    have c3b0 : decide (x5_1 < (l1.length : Int)) = false := decide_eq_false c3
    clear c3
    obtain rfl := Option.some.inj H
    go_wp2
    repeat (go_quiet (fail); try go_wp2)
    go_ret
    exact ⟨by first | rfl | (simp; done) | (simp [*]; done), by repeat (first | exact Drawn0.refl _ | apply Drawn0.step)⟩
mutual
def bywashref14_Idoms.l0 : Nat → List (List Int) → List Bool → List (List Bool) → List Int → Int → Option (List Int)
 | 0, _, _, _, _, _ => none
 | k + 1, x0, x3, x4, x5, x6 => if x6 < (x0.length : Int) then (if x6 = 0 then (if x5.length < 17592186044416 then (bywashref14_Idoms.l0 k x0 x3 x4 (x5 ++ [(-1)]) (wrap64 (x6 + 1))) else (none)) else (if 0 ≤ x6 then (if x6 < (x3.length : Int) then (if rdOf false x3 x6 = true then (bywashref14_Idoms.l1 k x0 x3 x4 x5 x6 ([] : List Int) 0) else (if x5.length < 17592186044416 then (bywashref14_Idoms.l0 k x0 x3 x4 (x5 ++ [(-2)]) (wrap64 (x6 + 1))) else (none))) else (none)) else (none))) else (some x5)
def bywashref14_Idoms.l1 : Nat → List (List Int) → List Bool → List (List Bool) → List Int → Int → List Int → Int → Option (List Int)
 | 0, _, _, _, _, _, _, _ => none
 | k + 1, x0, x3, x4, x5, x6, x7, x8 => if x8 < (x0.length : Int) then (if x8 = x6 then (bywashref14_Idoms.l1 k x0 x3 x4 x5 x6 x7 (wrap64 (x8 + 1))) else (if 0 ≤ x8 then (if x8 < (x4.length : Int) then (if 0 ≤ x6 then (if x6 < ((rd_L3 x4 x8).length : Int) then (if rdOf false (rd_L3 x4 x8) x6 = true then (if x7.length < 17592186044416 then (bywashref14_Idoms.l1 k x0 x3 x4 x5 x6 (x7 ++ [x8]) (wrap64 (x8 + 1))) else (none)) else (bywashref14_Idoms.l1 k x0 x3 x4 x5 x6 x7 (wrap64 (x8 + 1)))) else (none)) else (none)) else (none)) else (none))) else ((bywashref14_closest.f k x4 x7).bind fun t218 => (if x5.length < 17592186044416 then (bywashref14_Idoms.l0 k x0 x3 x4 (x5 ++ [t218]) (wrap64 (x6 + 1))) else (none)))
end
def bywashref14_Idoms.f (k : Nat) (l0 : List (List Int)) : Option (List Int) := (bywashref10_Reach.f k l0 0).bind fun t200 => ((bywashref14_doms.f k l0).bind fun t203 => (bywashref14_Idoms.l0 k l0 t200 t203 ([] : List Int) 0))
set_option maxHeartbeats 8000000 in
set_option maxRecDepth 100000 in
theorem bywashref14_Idoms.calls (k : Nat) (A0 : Option Addr) (c0 : Nat) (l0 : List (List Int)) (r : List Int) (w : World) (hr0 : Kd.C (Kd.slice 3 (Kd.int .i64)) w A0 l0.length l0) (hc0 : l0.length ≤ c0) (h : bywashref14_Idoms.f k l0 = some r) :
  Calls Tryz.prog 42 #[.slice A0 l0.length c0] w fun e w' => ∃ v0_ : Value, e = .returned (v0_) ∧ Kd.R (Kd.int .i64) 3 w' w.heap.size (fun _ => True) v0_ r ∧ Below w.heap.size w w' := by
 have HR0 := Aside0.mk hr0
 have HC0 := Aside0.mk hc0
 clear hr0 hc0
 have HB := Aside0.mk (Below.refl w.heap.size w)
 have H : ((bywashref10_Reach.f k l0 0).bind fun t200 => ((bywashref14_doms.f k l0).bind fun t203 => (bywashref14_Idoms.l0 k l0 t200 t203 ([] : List Int) 0))) = some r := h
 clear h
 replace H := Option.bind_eq_some_iff.mp H
 obtain ⟨t200, A20, H⟩ := H
 replace H : ((bywashref14_doms.f k l0).bind fun t203 => (bywashref14_Idoms.l0 k l0 t200 t203 ([] : List Int) 0)) = some r := H
 have A2 := Aside0.mk A20
 clear A20
 replace H := Option.bind_eq_some_iff.mp H
 obtain ⟨t203, A30, H⟩ := H
 replace H : (bywashref14_Idoms.l0 k l0 t200 t203 ([] : List Int) 0) = some r := H
 have A3 := Aside0.mk A30
 clear A30
 have H' := Aside0.mk H
 clear H
 go_enter Tryz.func42, Tryz.ntmps42
 go_wp2_with (first | ((with_reducible refine gate_callee (f := 65) rfl ?_); refine goesL_ (some 10) rfl rfl Tryz.func65 (by kernel_rfl) rfl #[.slice A0 l0.length c0, .int .i64 0] rfl (by (try simp only [List.map_toArray, List.map_cons, List.map_nil]); first | done | rfl | (simp only [List.length_drop, List.length_take]; rfl)) ?_; (with_reducible refine (bywashref10_Reach.calls k _ _ l0 0 t200 _ ?side1 ?side2 A2.out).mono ?_); (case side1 => repeat (first | exact HR0.out | (with_reducible refine Kd.C_alloc ?_ _) | (with_reducible refine Kd.C_drewN ?_ _) | (with_reducible refine Kd.C_drew ?_))); (case side2 => exact HC0.out); rintro e w4 ⟨v201, rfl, ho0, hb⟩; refine ⟨_, rfl, ?_⟩; have n0_ := Aside0.mk (Kd.R_lower ho0 (below_size (by repeat (first | (with_reducible first | exact HB.out | apply below_alloc | apply pw_below_drewN | apply below_drew1) | exact HB.out)))); have n1_ := Aside0.mk (below_step (by repeat (first | (with_reducible first | exact HB.out | apply below_alloc | apply pw_below_drewN | apply below_drew1) | exact HB.out)) hb); clear HB; have HO202 := n0_; have HB := n1_; clear n0_ n1_; (try clear hb); (try clear hb2); (try clear hk); (try clear hi); (try clear ho0)) | ((with_reducible refine gate_callee (f := 66) rfl ?_); refine goesL_ (some 12) rfl rfl Tryz.func66 (by kernel_rfl) rfl #[.slice A0 l0.length c0] rfl (by (try simp only [List.map_toArray, List.map_cons, List.map_nil]); first | done | rfl | (simp only [List.length_drop, List.length_take]; rfl)) ?_; (with_reducible refine (bywashref14_doms.calls k _ _ l0 t203 _ ?side1 ?side2 A3.out).mono ?_); (case side1 => repeat (first | exact (Kd.C_below HR0.out HB.out) | (with_reducible refine Kd.C_alloc ?_ _) | (with_reducible refine Kd.C_drewN ?_ _) | (with_reducible refine Kd.C_drew ?_))); (case side2 => exact HC0.out); rintro e w5 ⟨v204, rfl, ho0, hb⟩; refine ⟨_, rfl, ?_⟩; have n0_ := Aside0.mk (Kd.R_below (by (with_reducible repeat (first | apply Kd.R_alloc | apply Kd.R_drewN | apply Kd.R_drew)); exact HO202.out) hb); have n1_ := Aside0.mk (Kd.S_lower (Kd.S_new' ho0 (Kd.R_lt (by (with_reducible repeat (first | apply Kd.R_alloc | apply Kd.R_drewN | apply Kd.R_drew)); exact HO202.out))) (below_size (by repeat (first | (with_reducible first | exact HB.out | apply below_alloc | apply pw_below_drewN | apply below_drew1) | exact HB.out)))); have n2_ := Aside0.mk (below_step (by repeat (first | (with_reducible first | exact HB.out | apply below_alloc | apply pw_below_drewN | apply below_drew1) | exact HB.out)) hb); clear HO202; clear HB; have HO202 := n0_; have HO205 := n1_; have HB := n2_; clear n0_ n1_ n2_; (try clear hb); (try clear hb2); (try clear hk); (try clear hi); (try clear ho0)))
 go_loopg [5, 6] k (fun kq v5 v6 w' => ∃ (x5_1 : List Int) (x6_1 : Int), v6 = .int .i64 x6_1 ∧ Aside0 (bywashref14_Idoms.l0 kq l0 t200 t203 x5_1 x6_1 = some r) ∧ Aside0 (kq ≤ k) ∧ Aside0 (Kd.R Kd.bool 4 w' w.heap.size (fun _ => True) v201 t200) ∧ Aside0 (Kd.S (Kd.slice 4 Kd.bool) 56 w' w.heap.size (fun k_ => some k_ ≠ (v201 : Value).ownBlock) v204 t203) ∧ Aside0 (Kd.R (Kd.int .i64) 3 w' w.heap.size (fun _ => True) v5 x5_1) ∧ Aside0 (Below w.heap.size w w'))
 case atStart => exact ⟨(([] : List Int)), (0), (by first | rfl | (simp; done) | (simp [*]; done)), H', ⟨Nat.le_refl _⟩, ⟨by (with_reducible repeat (first | apply Kd.R_alloc | apply Kd.R_drewN | apply Kd.R_drew)); exact HO202.out⟩, ⟨by (with_reducible repeat (first | apply Kd.S_alloc | apply Kd.S_drewN | apply Kd.S_drew)); exact Kd.S_mono HO205.out (fun _ hk => hk.2)⟩, ⟨by first | exact Kd.R_nil _ _ _ _ _ | exact Kd.N_nil _ _ _ _ _ | exact Kd.V_nil _ _ _ _ _ | exact Kd.Q_nil _ _ _ _ _ | exact Kd.S_nil _ _ _ _ _⟩, ⟨by repeat (first | (with_reducible first | exact HB.out | apply below_alloc | apply pw_below_drewN | apply below_drew1) | exact HB.out)⟩⟩
 case round =>
  clear H'
  try clear p2
  try clear c4
  obtain ⟨x5_1, x6_1, rfl, HA, HK1, HO_3, HO_4, HO_5, HB⟩ := hrel
  cases gk with
  | zero => exact absurd HA.out (by simp [bywashref14_Idoms.l0])
  | succ k1 =>
   have H := HA.out
   clear HA
   simp only [bywashref14_Idoms.l0] at H
   by_cases c6 : x6_1 < (l0.length : Int)
   ·rw [if_pos c6] at H
    have c6b0 : decide (x6_1 < (l0.length : Int)) = true := decide_eq_true c6
    clear c6
    by_cases c7 : x6_1 = 0
    ·rw [if_pos c7] at H
     have c7b0 : (x6_1 == 0) = true := beq_iff_eq.mpr c7
     have c7b1 : (x6_1 != 0) = false := bne_eq_false_iff_eq.mpr c7
     clear c7
     by_cases c8 : x5_1.length < 17592186044416
     ·rw [if_pos c8] at H
      have LMc8 := Aside0.mk c8
      clear c8
      obtain ⟨y206, hy206⟩ : ∃ y_ : List Int, y_ = (x5_1 ++ [(-1)]) := ⟨_, rfl⟩
      replace H : (bywashref14_Idoms.l0 k1 l0 t200 t203 y206 (wrap64 (x6_1 + 1))) = some r := by first | (rw [hy206]; with_reducible exact H) | (have H2_ := (Option.bind_some _ _).symm.trans H; rw [hy206]; with_reducible exact H2_) | (have H2_ := (Option.bind_some _ _).symm.trans H; with_reducible exact H2_) | with_reducible exact H | (rw [hy206]; exact H) | exact H
      have Ny206 := Aside0.mk hy206
      clear hy206
      have H' := Aside0.mk H
      clear H
      go_wp2_with (first | ((with_reducible refine gate_builtin (b := .append) (xs := #[.tmp 21, .tmp 22]) rfl ?_); at_builtin; refine Kd.R_append (Kd.int .i64) (w0 := w) w.heap.size rfl (.tmp 21) (.tmp 22) 23 3 (.int .i64 0) 8 rfl Tryz.underlying23 info3 rfl (by decide) (by omega) u5 x5_1 (-1) [.int .i64 (-1)] (fun _ => True) (fun _ => False) rfl rfl ?aP (fun _ hk => hk.elim) ?aF ?aO ?aB ?aS ?aL ?_; (case aP => exact rfl); (case aB => exact (by repeat (first | (with_reducible first | exact HB.out | apply below_alloc | apply pw_below_drewN | apply below_drew1) | exact HB.out))); (case aF => exact (fun _ _ => trivial)); (case aO => exact (by (with_reducible repeat (first | apply Kd.R_alloc | apply Kd.R_drewN | apply Kd.R_drew)); exact HO_5.out)); (case aS => exact (below_size (by repeat (first | (with_reducible first | exact HB.out | apply below_alloc | apply pw_below_drewN | apply below_drew1) | exact HB.out)))); (case aL => have := LMc8.out; omega); intro v207 w9 ho hb hg hat; rw [← Ny206.out] at ho; have n0_ := Aside0.mk (Kd.R_over' (by (with_reducible repeat (first | apply Kd.R_alloc | apply Kd.R_drewN | apply Kd.R_drew)); exact HO_3.out) (Kd.R_typed (by (with_reducible repeat (first | apply Kd.R_alloc | apply Kd.R_drewN | apply Kd.R_drew)); exact HO_5.out)) (by decide) hg); have n1_ := Aside0.mk (Kd.S_over' (by (with_reducible repeat (first | apply Kd.S_alloc | apply Kd.S_drewN | apply Kd.S_drew)); exact HO_4.out) (Kd.R_typed (by (with_reducible repeat (first | apply Kd.R_alloc | apply Kd.R_drewN | apply Kd.R_drew)); exact HO_5.out)) (by decide) hg); have n2_ := Aside0.mk (hb); have n3_ := Aside0.mk (ho); clear HO_3; clear HO_4; clear HB; clear HO_5; have HO_3 := n0_; have HO_4 := n1_; have HB := n2_; have HO208 := n3_; clear n0_ n1_ n2_ n3_; clear ho hb hg hat))
      go_roundg k1
      case measure => have := HK1.out; omega
      case rel => exact ⟨(y206), (wrap64 (x6_1 + 1)), (by first | rfl | (simp; done) | (simp [*]; done)), H', ⟨by have := HK1.out; omega⟩, ⟨by (with_reducible repeat (first | apply Kd.R_alloc | apply Kd.R_drewN | apply Kd.R_drew)); exact HO_3.out⟩, ⟨by (with_reducible repeat (first | apply Kd.S_alloc | apply Kd.S_drewN | apply Kd.S_drew)); exact HO_4.out⟩, ⟨by (with_reducible repeat (first | apply Kd.R_alloc | apply Kd.R_drewN | apply Kd.R_drew)); exact HO208.out⟩, ⟨by repeat (first | (with_reducible first | exact HB.out | apply below_alloc | apply pw_below_drewN | apply below_drew1) | exact HB.out)⟩⟩
     ·rw [if_neg c8] at H
      exact absurd H (by simp)
    ·rw [if_neg c7] at H
     have c7b0 : (x6_1 == 0) = false := beq_eq_false_iff_ne.mpr c7
     have c7b1 : (x6_1 != 0) = true := bne_iff_ne.mpr c7
     by_cases c10 : 0 ≤ x6_1
     ·rw [if_pos c10] at H
      have c10b0 : decide (0 ≤ x6_1) = true := decide_eq_true c10
      clear c10
      by_cases c11 : x6_1 < (t200.length : Int)
      ·rw [if_pos c11] at H
       have c11b0 : decide (x6_1 < (t200.length : Int)) = true := decide_eq_true c11
       clear c11
       obtain ⟨bq12, hbq12⟩ : ∃ b_ : Bool, b_ = (rdOf false t200 x6_1) := ⟨_, rfl⟩
       replace H : (if bq12 = true then (bywashref14_Idoms.l1 k1 l0 t200 t203 x5_1 x6_1 ([] : List Int) 0) else (if x5_1.length < 17592186044416 then (bywashref14_Idoms.l0 k1 l0 t200 t203 (x5_1 ++ [(-2)]) (wrap64 (x6_1 + 1))) else (none))) = some r := by rw [← hbq12] at H; exact H
       have Nbq12 := Aside0.mk hbq12
       clear hbq12
       by_cases c13 : bq12 = true
       ·subst c13
        have H1 : (bywashref14_Idoms.l1 k1 l0 t200 t203 x5_1 x6_1 ([] : List Int) 0) = some r := by rw [if_pos rfl] at H; exact H
        clear H
        have H := H1
        clear H1
        have H' := Aside0.mk H
        clear H
        obtain ⟨Ao14, co14, eo14⟩ := Kd.R_slice HO_3.out
        subst eo14
        have p209 : 0 ≤ (x6_1 : Int) := of_decide_eq_true (by first | (with_reducible assumption) | assumption)
        have q209 : x6_1 < (t200.length : Int) := of_decide_eq_true (by first | (with_reducible assumption) | assumption)
        (try (obtain ⟨Ar_, cr_, er_⟩ := Kd.R_slice HO_3.out; subst er_))
        obtain ⟨ad209, e209, hx209_0⟩ := Kd.at_bool (Kd.R_reads' HO_3.out).2.2 x6_1 p209 q209
        (try rw [← Nbq12.out] at hx209_0)
        cases e209
        replace p209 := eq_true p209
        replace q209 := eq_true q209
        go_wp2
        go_loopg [7, 8] k1 (fun kq v7 v8 w' => ∃ (x7_2 : List Int) (x8_2 : Int), v8 = .int .i64 x8_2 ∧ Aside0 (bywashref14_Idoms.l1 kq l0 t200 t203 x5_1 x6_1 x7_2 x8_2 = some r) ∧ Aside0 (kq ≤ k1) ∧ Aside0 (Kd.R Kd.bool 4 w' w.heap.size (fun _ => True) (.slice (some ad209) t200.length co14) t200) ∧ Aside0 (Kd.S (Kd.slice 4 Kd.bool) 56 w' w.heap.size (fun k_ => some k_ ≠ ((.slice (some ad209) t200.length co14) : Value).ownBlock) v204 t203) ∧ Aside0 (Kd.R (Kd.int .i64) 3 w' w.heap.size (fun k_ => some k_ ≠ (v7 : Value).ownBlock) u5 x5_1) ∧ Aside0 (Kd.R (Kd.int .i64) 3 w' w.heap.size (fun k_ => some k_ ≠ (u5 : Value).ownBlock) v7 x7_2) ∧ Aside0 (Below w.heap.size w w'))
        case atStart => exact ⟨(([] : List Int)), (0), (by first | rfl | (simp; done) | (simp [*]; done)), H', ⟨Nat.le_refl _⟩, ⟨by (with_reducible repeat (first | apply Kd.R_alloc | apply Kd.R_drewN | apply Kd.R_drew)); exact HO_3.out⟩, ⟨by (with_reducible repeat (first | apply Kd.S_alloc | apply Kd.S_drewN | apply Kd.S_drew)); exact HO_4.out⟩, ⟨by (with_reducible repeat (first | apply Kd.R_alloc | apply Kd.R_drewN | apply Kd.R_drew)); exact Kd.R_mono HO_5.out (fun _ hk => (by simp [Value.ownBlock]))⟩, ⟨by first | exact Kd.R_nil _ _ _ _ _ | exact Kd.N_nil _ _ _ _ _ | exact Kd.V_nil _ _ _ _ _ | exact Kd.Q_nil _ _ _ _ _ | exact Kd.S_nil _ _ _ _ _⟩, ⟨by repeat (first | (with_reducible first | exact HB.out | apply below_alloc | apply pw_below_drewN | apply below_drew1) | exact HB.out)⟩⟩
        case round =>
         clear H'
         try clear c1
         try clear q1
         try clear p2
         try clear q2
         try clear hx2
         try clear c4
         try clear c6
         try clear c6b0
         try clear p6
         try clear c7
         try clear c7b0
         try clear c7b1
         try clear c8
         try clear c10
         try clear c10b0
         try clear c11
         try clear c11b0
         try clear q12
         try clear c13
         try clear hx209_0
         try clear p2
         try clear p209
         try clear q209
         obtain ⟨x7_2, x8_2, rfl, HA, HK2, HO_3, HO_4, HO_5, HO_7, HB⟩ := hrel
         cases gk with
         | zero => exact absurd HA.out (by simp [bywashref14_Idoms.l1])
         | succ k2 =>
          have H := HA.out
          clear HA
          simp only [bywashref14_Idoms.l1] at H
          by_cases c15 : x8_2 < (l0.length : Int)
          ·rw [if_pos c15] at H
           have c15b0 : decide (x8_2 < (l0.length : Int)) = true := decide_eq_true c15
           clear c15
           by_cases c16 : x8_2 = x6_1
           ·rw [if_pos c16] at H
            have c16b0 : (x8_2 == x6_1) = true := beq_iff_eq.mpr c16
            have c16b1 : (x8_2 != x6_1) = false := bne_eq_false_iff_eq.mpr c16
            clear c16
            have H' := Aside0.mk H
            clear H
            go_wp2
            go_roundg k2
            case measure => have := HK1.out; have := HK2.out; omega
            case rel => exact ⟨(x7_2), (wrap64 (x8_2 + 1)), (by first | rfl | (simp; done) | (simp [*]; done)), H', ⟨by have := HK1.out; have := HK2.out; omega⟩, ⟨by (with_reducible repeat (first | apply Kd.R_alloc | apply Kd.R_drewN | apply Kd.R_drew)); exact HO_3.out⟩, ⟨by (with_reducible repeat (first | apply Kd.S_alloc | apply Kd.S_drewN | apply Kd.S_drew)); exact HO_4.out⟩, ⟨by (with_reducible repeat (first | apply Kd.R_alloc | apply Kd.R_drewN | apply Kd.R_drew)); exact HO_5.out⟩, ⟨by (with_reducible repeat (first | apply Kd.R_alloc | apply Kd.R_drewN | apply Kd.R_drew)); exact HO_7.out⟩, ⟨by repeat (first | (with_reducible first | exact HB.out | apply below_alloc | apply pw_below_drewN | apply below_drew1) | exact HB.out)⟩⟩
           ·rw [if_neg c16] at H
            have c16b0 : (x8_2 == x6_1) = false := beq_eq_false_iff_ne.mpr c16
            have c16b1 : (x8_2 != x6_1) = true := bne_iff_ne.mpr c16
            by_cases c17 : 0 ≤ x8_2
            ·rw [if_pos c17] at H
             have c17b0 : decide (0 ≤ x8_2) = true := decide_eq_true c17
             clear c17
             by_cases c18 : x8_2 < (t203.length : Int)
             ·rw [if_pos c18] at H
              have c18b0 : decide (x8_2 < (t203.length : Int)) = true := decide_eq_true c18
              clear c18
              by_cases c19 : 0 ≤ x6_1
              ·rw [if_pos c19] at H
               have c19b0 : decide (0 ≤ x6_1) = true := decide_eq_true c19
               clear c19
               by_cases c20 : x6_1 < ((rd_L3 t203 x8_2).length : Int)
               ·rw [if_pos c20] at H
                have c20b0 : decide (x6_1 < ((rd_L3 t203 x8_2).length : Int)) = true := decide_eq_true c20
                clear c20
                obtain ⟨bq21, hbq21⟩ : ∃ b_ : Bool, b_ = (rdOf false (rd_L3 t203 x8_2) x6_1) := ⟨_, rfl⟩
                replace H : (if bq21 = true then (if x7_2.length < 17592186044416 then (bywashref14_Idoms.l1 k2 l0 t200 t203 x5_1 x6_1 (x7_2 ++ [x8_2]) (wrap64 (x8_2 + 1))) else (none)) else (bywashref14_Idoms.l1 k2 l0 t200 t203 x5_1 x6_1 x7_2 (wrap64 (x8_2 + 1)))) = some r := by rw [← hbq21] at H; exact H
                have Nbq21 := Aside0.mk hbq21
                clear hbq21
                by_cases c22 : bq21 = true
                ·subst c22
                 have H1 : (if x7_2.length < 17592186044416 then (bywashref14_Idoms.l1 k2 l0 t200 t203 x5_1 x6_1 (x7_2 ++ [x8_2]) (wrap64 (x8_2 + 1))) else (none)) = some r := by rw [if_pos rfl] at H; exact H
                 clear H
                 have H := H1
                 clear H1
                 by_cases c23 : x7_2.length < 17592186044416
                 ·rw [if_pos c23] at H
                  have LMc23 := Aside0.mk c23
                  clear c23
                  obtain ⟨y215, hy215⟩ : ∃ y_ : List Int, y_ = (x7_2 ++ [x8_2]) := ⟨_, rfl⟩
                  replace H : (bywashref14_Idoms.l1 k2 l0 t200 t203 x5_1 x6_1 y215 (wrap64 (x8_2 + 1))) = some r := by first | (rw [hy215]; with_reducible exact H) | (have H2_ := (Option.bind_some _ _).symm.trans H; rw [hy215]; with_reducible exact H2_) | (have H2_ := (Option.bind_some _ _).symm.trans H; with_reducible exact H2_) | with_reducible exact H | (rw [hy215]; exact H) | exact H
                  have Ny215 := Aside0.mk hy215
                  clear hy215
                  have H' := Aside0.mk H
                  clear H
                  obtain ⟨Ao24, co24, eo24⟩ := Kd.S_slice HO_4.out
                  subst eo24
                  have p213 : 0 ≤ (x8_2 : Int) := of_decide_eq_true (by first | (with_reducible assumption) | assumption)
                  have q213 : x8_2 < (t203.length : Int) := of_decide_eq_true (by first | (with_reducible assumption) | assumption)
                  obtain ⟨ad213, A213_0, c213_0, e213, hx213_0, hl213_0, hi213_0⟩ := at_L3 (Kd.S_reads' HO_4.out).2.2 x8_2 p213 q213
                  cases e213
                  obtain ⟨ce213, hce213, hMe213, hcc213⟩ := Kd.S_get HO_4.out [] x8_2 p213 (by first | exact q213 | exact of_decide_eq_true (by first | (with_reducible assumption) | assumption) | (have e_ := (Kd.S_reads' HO_4.out).1; omega))
                  obtain ⟨ve213_0, rfl, ge213_0⟩ := hMe213
                  have hv213_0 := hcc213 0 _ rfl
                  rw [Nat.add_zero, show ((Kd.slice 4 Kd.bool)).sz = 1 from rfl, Nat.mul_one] at hv213_0
                  replace hv213_0 := Option.some.inj (hv213_0.symm.trans hx213_0)
                  rw [hv213_0] at ge213_0
                  have HL213_0 := Aside0.mk (show Kd.R Kd.bool 4 _ _ _ _ (rd_L3 t203 x8_2) from ge213_0)
                  clear hv213_0 ge213_0
                  clear hcc213 hce213
                  have HR213_0 := Aside0.mk hi213_0
                  have HC213_0 := Aside0.mk hl213_0
                  clear hi213_0 hl213_0
                  replace p213 := eq_true p213
                  replace q213 := eq_true q213
                  have p214 : 0 ≤ (x6_1 : Int) := of_decide_eq_true (by first | (with_reducible assumption) | assumption)
                  have q214 : x6_1 < ((rd_L3 t203 x8_2).length : Int) := of_decide_eq_true (by first | (with_reducible assumption) | assumption)
                  obtain ⟨ad214, e214, hx214_0⟩ := Kd.at_bool (by repeat (first | (with_reducible exact HR213_0.out) | (with_reducible refine Kd.C_alloc ?_ _) | (with_reducible refine Kd.C_drewN ?_ _) | (with_reducible refine Kd.C_drew ?_) | exact HR213_0.out)) x6_1 p214 q214
                  (try rw [← Nbq12.out] at hx214_0)
                  (try rw [← Nbq21.out] at hx214_0)
                  cases e214
                  replace p214 := eq_true p214
                  replace q214 := eq_true q214
                  go_wp2_with (first | ((with_reducible refine gate_builtin (b := .append) (xs := #[.tmp 50, .tmp 52]) rfl ?_); at_builtin; refine Kd.R_append (Kd.int .i64) (w0 := w) w.heap.size rfl (.tmp 50) (.tmp 52) 23 3 (.int .i64 0) 8 rfl Tryz.underlying23 info3 rfl (by decide) (by omega) u7 x7_2 x8_2 [.int .i64 x8_2] (fun k_ => some k_ ≠ (u5 : Value).ownBlock) (fun _ => False) rfl rfl ?aP (fun _ hk => hk.elim) ?aF ?aO ?aB ?aS ?aL ?_; (case aP => exact rfl); (case aB => exact (by repeat (first | (with_reducible first | exact HB.out | apply below_alloc | apply pw_below_drewN | apply below_drew1) | exact HB.out))); (case aF => exact (fun k_ hk => Kd.fresh' (Kd.R_lt (by (with_reducible repeat (first | apply Kd.R_alloc | apply Kd.R_drewN | apply Kd.R_drew)); exact HO_5.out)) k_ hk)); (case aO => exact (by (with_reducible repeat (first | apply Kd.R_alloc | apply Kd.R_drewN | apply Kd.R_drew)); exact HO_7.out)); (case aS => exact (below_size (by repeat (first | (with_reducible first | exact HB.out | apply below_alloc | apply pw_below_drewN | apply below_drew1) | exact HB.out)))); (case aL => have := LMc23.out; omega); intro v216 w25 ho hb hg hat; rw [← Ny215.out] at ho; have n0_ := Aside0.mk (Kd.R_over' (by (with_reducible repeat (first | apply Kd.R_alloc | apply Kd.R_drewN | apply Kd.R_drew)); exact HO_3.out) (Kd.R_typed (by (with_reducible repeat (first | apply Kd.R_alloc | apply Kd.R_drewN | apply Kd.R_drew)); exact HO_7.out)) (by decide) hg); have n1_ := Aside0.mk (Kd.S_over' (by (with_reducible repeat (first | apply Kd.S_alloc | apply Kd.S_drewN | apply Kd.S_drew)); exact HO_4.out) (Kd.R_typed (by (with_reducible repeat (first | apply Kd.R_alloc | apply Kd.R_drewN | apply Kd.R_drew)); exact HO_7.out)) (by decide) hg); have n2_ := Aside0.mk (Kd.R_after (ok := (fun _ => True)) (by (with_reducible repeat (first | apply Kd.R_alloc | apply Kd.R_drewN | apply Kd.R_drew)); exact Kd.R_mono HO_5.out (fun _ hk => ⟨trivial, hk⟩)) hg hat); have n3_ := Aside0.mk (Kd.R_over' (by (with_reducible repeat (first | apply Kd.R_alloc | apply Kd.R_drewN | apply Kd.R_drew)); exact HL213_0.out) (Kd.R_typed (by (with_reducible repeat (first | apply Kd.R_alloc | apply Kd.R_drewN | apply Kd.R_drew)); exact HO_7.out)) (by decide) hg); have n4_ := Aside0.mk (hb); have n5_ := Aside0.mk (ho); clear HO_3; clear HO_4; clear HO_5; clear HL213_0; clear HB; clear HO_7; have HO_3 := n0_; have HO_4 := n1_; have HO_5 := n2_; have HL213_0 := n3_; have HB := n4_; have HO217 := n5_; clear n0_ n1_ n2_ n3_ n4_ n5_; clear ho hb hg hat))
                  go_roundg k2
                  case measure => have := HK1.out; have := HK2.out; omega
                  case rel => exact ⟨(y215), (wrap64 (x8_2 + 1)), (by first | rfl | (simp; done) | (simp [*]; done)), H', ⟨by have := HK1.out; have := HK2.out; omega⟩, ⟨by (with_reducible repeat (first | apply Kd.R_alloc | apply Kd.R_drewN | apply Kd.R_drew)); exact HO_3.out⟩, ⟨by (with_reducible repeat (first | apply Kd.S_alloc | apply Kd.S_drewN | apply Kd.S_drew)); exact HO_4.out⟩, ⟨by (with_reducible repeat (first | apply Kd.R_alloc | apply Kd.R_drewN | apply Kd.R_drew)); exact Kd.R_mono HO_5.out (fun _ hk => hk.2)⟩, ⟨by (with_reducible repeat (first | apply Kd.R_alloc | apply Kd.R_drewN | apply Kd.R_drew)); exact HO217.out⟩, ⟨by repeat (first | (with_reducible first | exact HB.out | apply below_alloc | apply pw_below_drewN | apply below_drew1) | exact HB.out)⟩⟩
                 ·rw [if_neg c23] at H
                  exact absurd H (by simp)
                ·replace c22 := Bool.eq_false_iff.mpr c22
                 subst c22
                 have H1 : (bywashref14_Idoms.l1 k2 l0 t200 t203 x5_1 x6_1 x7_2 (wrap64 (x8_2 + 1))) = some r := by rw [if_neg (show ¬ (false = true) by decide)] at H; exact H
                 clear H
                 have H := H1
                 clear H1
                 have H' := Aside0.mk H
                 clear H
                 obtain ⟨Ao26, co26, eo26⟩ := Kd.S_slice HO_4.out
                 subst eo26
                 have p213 : 0 ≤ (x8_2 : Int) := of_decide_eq_true (by first | (with_reducible assumption) | assumption)
                 have q213 : x8_2 < (t203.length : Int) := of_decide_eq_true (by first | (with_reducible assumption) | assumption)
                 obtain ⟨ad213, A213_0, c213_0, e213, hx213_0, hl213_0, hi213_0⟩ := at_L3 (Kd.S_reads' HO_4.out).2.2 x8_2 p213 q213
                 cases e213
                 obtain ⟨ce213, hce213, hMe213, hcc213⟩ := Kd.S_get HO_4.out [] x8_2 p213 (by first | exact q213 | exact of_decide_eq_true (by first | (with_reducible assumption) | assumption) | (have e_ := (Kd.S_reads' HO_4.out).1; omega))
                 obtain ⟨ve213_0, rfl, ge213_0⟩ := hMe213
                 have hv213_0 := hcc213 0 _ rfl
                 rw [Nat.add_zero, show ((Kd.slice 4 Kd.bool)).sz = 1 from rfl, Nat.mul_one] at hv213_0
                 replace hv213_0 := Option.some.inj (hv213_0.symm.trans hx213_0)
                 rw [hv213_0] at ge213_0
                 have HL213_0 := Aside0.mk (show Kd.R Kd.bool 4 _ _ _ _ (rd_L3 t203 x8_2) from ge213_0)
                 clear hv213_0 ge213_0
                 clear hcc213 hce213
                 have HR213_0 := Aside0.mk hi213_0
                 have HC213_0 := Aside0.mk hl213_0
                 clear hi213_0 hl213_0
                 replace p213 := eq_true p213
                 replace q213 := eq_true q213
                 have p214 : 0 ≤ (x6_1 : Int) := of_decide_eq_true (by first | (with_reducible assumption) | assumption)
                 have q214 : x6_1 < ((rd_L3 t203 x8_2).length : Int) := of_decide_eq_true (by first | (with_reducible assumption) | assumption)
                 obtain ⟨ad214, e214, hx214_0⟩ := Kd.at_bool (by repeat (first | (with_reducible exact HR213_0.out) | (with_reducible refine Kd.C_alloc ?_ _) | (with_reducible refine Kd.C_drewN ?_ _) | (with_reducible refine Kd.C_drew ?_) | exact HR213_0.out)) x6_1 p214 q214
                 (try rw [← Nbq12.out] at hx214_0)
                 (try rw [← Nbq21.out] at hx214_0)
                 cases e214
                 replace p214 := eq_true p214
                 replace q214 := eq_true q214
                 go_wp2
                 go_roundg k2
                 case measure => have := HK1.out; have := HK2.out; omega
                 case rel => exact ⟨(x7_2), (wrap64 (x8_2 + 1)), (by first | rfl | (simp; done) | (simp [*]; done)), H', ⟨by have := HK1.out; have := HK2.out; omega⟩, ⟨by (with_reducible repeat (first | apply Kd.R_alloc | apply Kd.R_drewN | apply Kd.R_drew)); exact HO_3.out⟩, ⟨by (with_reducible repeat (first | apply Kd.S_alloc | apply Kd.S_drewN | apply Kd.S_drew)); exact HO_4.out⟩, ⟨by (with_reducible repeat (first | apply Kd.R_alloc | apply Kd.R_drewN | apply Kd.R_drew)); exact HO_5.out⟩, ⟨by (with_reducible repeat (first | apply Kd.R_alloc | apply Kd.R_drewN | apply Kd.R_drew)); exact HO_7.out⟩, ⟨by repeat (first | (with_reducible first | exact HB.out | apply below_alloc | apply pw_below_drewN | apply below_drew1) | exact HB.out)⟩⟩
               ·rw [if_neg c20] at H
                exact absurd H (by simp)
              ·rw [if_neg c19] at H
               exact absurd H (by simp)
             ·rw [if_neg c18] at H
              exact absurd H (by simp)
            ·rw [if_neg c17] at H
             exact absurd H (by simp)
          ·rw [if_neg c15] at H
           have c15b0 : decide (x8_2 < (l0.length : Int)) = false := decide_eq_false c15
           clear c15
           replace H := Option.bind_eq_some_iff.mp H
           obtain ⟨t218, A270, H⟩ := H
           replace H : (if x5_1.length < 17592186044416 then (bywashref14_Idoms.l0 k2 l0 t200 t203 (x5_1 ++ [t218]) (wrap64 (x6_1 + 1))) else (none)) = some r := H
           have A27 := Aside0.mk A270
           clear A270
           by_cases c28 : x5_1.length < 17592186044416
           ·rw [if_pos c28] at H
            have LMc28 := Aside0.mk c28
            clear c28
            obtain ⟨y219, hy219⟩ : ∃ y_ : List Int, y_ = (x5_1 ++ [t218]) := ⟨_, rfl⟩
            replace H : (bywashref14_Idoms.l0 k2 l0 t200 t203 y219 (wrap64 (x6_1 + 1))) = some r := by first | (rw [hy219]; with_reducible exact H) | (have H2_ := (Option.bind_some _ _).symm.trans H; rw [hy219]; with_reducible exact H2_) | (have H2_ := (Option.bind_some _ _).symm.trans H; with_reducible exact H2_) | with_reducible exact H | (rw [hy219]; exact H) | exact H
            have Ny219 := Aside0.mk hy219
            clear hy219
            have H' := Aside0.mk H
            clear H
            obtain ⟨Ao29, co29, eo29⟩ := Kd.S_slice HO_4.out
            subst eo29
            obtain ⟨Ao30, co30, eo30⟩ := Kd.R_slice HO_7.out
            subst eo30
            go_wp2_with (first | ((with_reducible refine gate_callee (f := 67) rfl ?_); refine goesL_ (some 57) rfl rfl Tryz.func67 (by kernel_rfl) rfl #[.slice Ao29 t203.length co29, .slice Ao30 x7_2.length co30] rfl (by (try simp only [List.map_toArray, List.map_cons, List.map_nil]); first | done | rfl | (simp only [List.length_drop, List.length_take]; rfl)) ?_; (with_reducible refine (bywashref14_closest.calls k2 _ _ t203 _ _ x7_2 t218 _ ?side1 ?side2 ?side3 ?side4 A27.out).mono ?_); (case side1 => repeat (first | exact (Kd.S_reads' HO_4.out).2.2 | (with_reducible refine Kd.C_alloc ?_ _) | (with_reducible refine Kd.C_drewN ?_ _) | (with_reducible refine Kd.C_drew ?_))); (case side2 => exact (Kd.S_reads' HO_4.out).2.1); (case side3 => repeat (first | exact (Kd.R_reads' HO_7.out).2.2 | (with_reducible refine Kd.C_alloc ?_ _) | (with_reducible refine Kd.C_drewN ?_ _) | (with_reducible refine Kd.C_drew ?_))); (case side4 => exact (Kd.R_reads' HO_7.out).2.1); rintro e w' ⟨rfl, ⟨nd, rfl⟩⟩; refine ⟨_, rfl, ?_⟩) | ((with_reducible refine gate_builtin (b := .append) (xs := #[.tmp 54, .tmp 58]) rfl ?_); at_builtin; refine Kd.R_append (Kd.int .i64) (w0 := w) w.heap.size rfl (.tmp 54) (.tmp 58) 23 3 (.int .i64 0) 8 rfl Tryz.underlying23 info3 rfl (by decide) (by omega) u5 x5_1 t218 [.int .i64 t218] (fun k_ => some k_ ≠ (.slice Ao30 x7_2.length co30 : Value).ownBlock) (fun _ => False) rfl rfl ?aP (fun _ hk => hk.elim) ?aF ?aO ?aB ?aS ?aL ?_; (case aP => exact rfl); (case aB => exact (by repeat (first | (with_reducible first | exact HB.out | apply below_alloc | apply pw_below_drewN | apply below_drew1) | exact HB.out))); (case aF => exact (fun k_ hk => Kd.fresh' (Kd.R_lt (by (with_reducible repeat (first | apply Kd.R_alloc | apply Kd.R_drewN | apply Kd.R_drew)); exact HO_7.out)) k_ hk)); (case aO => exact (by (with_reducible repeat (first | apply Kd.R_alloc | apply Kd.R_drewN | apply Kd.R_drew)); exact HO_5.out)); (case aS => exact (below_size (by repeat (first | (with_reducible first | exact HB.out | apply below_alloc | apply pw_below_drewN | apply below_drew1) | exact HB.out)))); (case aL => have := LMc28.out; omega); intro v220 w31 ho hb hg hat; rw [← Ny219.out] at ho; have n0_ := Aside0.mk (Kd.R_over' (by (with_reducible repeat (first | apply Kd.R_alloc | apply Kd.R_drewN | apply Kd.R_drew)); exact HO_3.out) (Kd.R_typed (by (with_reducible repeat (first | apply Kd.R_alloc | apply Kd.R_drewN | apply Kd.R_drew)); exact HO_5.out)) (by decide) hg); have n1_ := Aside0.mk (Kd.S_over' (by (with_reducible repeat (first | apply Kd.S_alloc | apply Kd.S_drewN | apply Kd.S_drew)); exact HO_4.out) (Kd.R_typed (by (with_reducible repeat (first | apply Kd.R_alloc | apply Kd.R_drewN | apply Kd.R_drew)); exact HO_5.out)) (by decide) hg); have n2_ := Aside0.mk (Kd.R_after (ok := (fun _ => True)) (by (with_reducible repeat (first | apply Kd.R_alloc | apply Kd.R_drewN | apply Kd.R_drew)); exact Kd.R_mono HO_7.out (fun _ hk => ⟨trivial, hk⟩)) hg hat); have n3_ := Aside0.mk (hb); have n4_ := Aside0.mk (ho); clear HO_3; clear HO_4; clear HO_7; clear HB; clear HO_5; have HO_3 := n0_; have HO_4 := n1_; have HO_7 := n2_; have HB := n3_; have HO221 := n4_; clear n0_ n1_ n2_ n3_ n4_; clear ho hb hg hat))
            go_roundg k2
            case measure => have := HK1.out; have := HK2.out; omega
            case rel => exact ⟨(y219), (wrap64 (x6_1 + 1)), (by first | rfl | (simp; done) | (simp [*]; done)), H', ⟨by have := HK1.out; have := HK2.out; omega⟩, ⟨by (with_reducible repeat (first | apply Kd.R_alloc | apply Kd.R_drewN | apply Kd.R_drew)); exact HO_3.out⟩, ⟨by (with_reducible repeat (first | apply Kd.S_alloc | apply Kd.S_drewN | apply Kd.S_drew)); exact HO_4.out⟩, ⟨by (with_reducible repeat (first | apply Kd.R_alloc | apply Kd.R_drewN | apply Kd.R_drew)); exact Kd.R_mono HO221.out (fun _ hk => trivial)⟩, ⟨by repeat (first | (with_reducible first | exact HB.out | apply below_alloc | apply pw_below_drewN | apply below_drew1) | exact HB.out)⟩⟩
           ·rw [if_neg c28] at H
            exact absurd H (by simp)
       ·replace c13 := Bool.eq_false_iff.mpr c13
        subst c13
        have H1 : (if x5_1.length < 17592186044416 then (bywashref14_Idoms.l0 k1 l0 t200 t203 (x5_1 ++ [(-2)]) (wrap64 (x6_1 + 1))) else (none)) = some r := by rw [if_neg (show ¬ (false = true) by decide)] at H; exact H
        clear H
        have H := H1
        clear H1
        by_cases c32 : x5_1.length < 17592186044416
        ·rw [if_pos c32] at H
         have LMc32 := Aside0.mk c32
         clear c32
         obtain ⟨y210, hy210⟩ : ∃ y_ : List Int, y_ = (x5_1 ++ [(-2)]) := ⟨_, rfl⟩
         replace H : (bywashref14_Idoms.l0 k1 l0 t200 t203 y210 (wrap64 (x6_1 + 1))) = some r := by first | (rw [hy210]; with_reducible exact H) | (have H2_ := (Option.bind_some _ _).symm.trans H; rw [hy210]; with_reducible exact H2_) | (have H2_ := (Option.bind_some _ _).symm.trans H; with_reducible exact H2_) | with_reducible exact H | (rw [hy210]; exact H) | exact H
         have Ny210 := Aside0.mk hy210
         clear hy210
         have H' := Aside0.mk H
         clear H
         obtain ⟨Ao33, co33, eo33⟩ := Kd.R_slice HO_3.out
         subst eo33
         have p209 : 0 ≤ (x6_1 : Int) := of_decide_eq_true (by first | (with_reducible assumption) | assumption)
         have q209 : x6_1 < (t200.length : Int) := of_decide_eq_true (by first | (with_reducible assumption) | assumption)
         (try (obtain ⟨Ar_, cr_, er_⟩ := Kd.R_slice HO_3.out; subst er_))
         obtain ⟨ad209, e209, hx209_0⟩ := Kd.at_bool (Kd.R_reads' HO_3.out).2.2 x6_1 p209 q209
         (try rw [← Nbq12.out] at hx209_0)
         cases e209
         replace p209 := eq_true p209
         replace q209 := eq_true q209
         go_wp2_with (first | ((with_reducible refine gate_builtin (b := .append) (xs := #[.tmp 29, .tmp 30]) rfl ?_); at_builtin; refine Kd.R_append (Kd.int .i64) (w0 := w) w.heap.size rfl (.tmp 29) (.tmp 30) 23 3 (.int .i64 0) 8 rfl Tryz.underlying23 info3 rfl (by decide) (by omega) u5 x5_1 (-2) [.int .i64 (-2)] (fun _ => True) (fun _ => False) rfl rfl ?aP (fun _ hk => hk.elim) ?aF ?aO ?aB ?aS ?aL ?_; (case aP => exact rfl); (case aB => exact (by repeat (first | (with_reducible first | exact HB.out | apply below_alloc | apply pw_below_drewN | apply below_drew1) | exact HB.out))); (case aF => exact (fun _ _ => trivial)); (case aO => exact (by (with_reducible repeat (first | apply Kd.R_alloc | apply Kd.R_drewN | apply Kd.R_drew)); exact HO_5.out)); (case aS => exact (below_size (by repeat (first | (with_reducible first | exact HB.out | apply below_alloc | apply pw_below_drewN | apply below_drew1) | exact HB.out)))); (case aL => have := LMc32.out; omega); intro v211 w34 ho hb hg hat; rw [← Ny210.out] at ho; have n0_ := Aside0.mk (Kd.R_over' (by (with_reducible repeat (first | apply Kd.R_alloc | apply Kd.R_drewN | apply Kd.R_drew)); exact HO_3.out) (Kd.R_typed (by (with_reducible repeat (first | apply Kd.R_alloc | apply Kd.R_drewN | apply Kd.R_drew)); exact HO_5.out)) (by decide) hg); have n1_ := Aside0.mk (Kd.S_over' (by (with_reducible repeat (first | apply Kd.S_alloc | apply Kd.S_drewN | apply Kd.S_drew)); exact HO_4.out) (Kd.R_typed (by (with_reducible repeat (first | apply Kd.R_alloc | apply Kd.R_drewN | apply Kd.R_drew)); exact HO_5.out)) (by decide) hg); have n2_ := Aside0.mk (hb); have n3_ := Aside0.mk (ho); clear HO_3; clear HO_4; clear HB; clear HO_5; have HO_3 := n0_; have HO_4 := n1_; have HB := n2_; have HO212 := n3_; clear n0_ n1_ n2_ n3_; clear ho hb hg hat))
         go_roundg k1
         case measure => have := HK1.out; omega
         case rel => exact ⟨(y210), (wrap64 (x6_1 + 1)), (by first | rfl | (simp; done) | (simp [*]; done)), H', ⟨by have := HK1.out; omega⟩, ⟨by (with_reducible repeat (first | apply Kd.R_alloc | apply Kd.R_drewN | apply Kd.R_drew)); exact HO_3.out⟩, ⟨by (with_reducible repeat (first | apply Kd.S_alloc | apply Kd.S_drewN | apply Kd.S_drew)); exact HO_4.out⟩, ⟨by (with_reducible repeat (first | apply Kd.R_alloc | apply Kd.R_drewN | apply Kd.R_drew)); exact HO212.out⟩, ⟨by repeat (first | (with_reducible first | exact HB.out | apply below_alloc | apply pw_below_drewN | apply below_drew1) | exact HB.out)⟩⟩
        ·rw [if_neg c32] at H
         exact absurd H (by simp)
      ·rw [if_neg c11] at H
       exact absurd H (by simp)
     ·rw [if_neg c10] at H
      exact absurd H (by simp)
   ·rw [if_neg c6] at H
    have c6b0 : decide (x6_1 < (l0.length : Int)) = false := decide_eq_false c6
    clear c6
    obtain rfl := Option.some.inj H
    go_wp2
    go_ret
    exact ⟨_, by first | rfl | (simp [errW_none, errW_some] <;> rfl) | (simp [*, errW_none, errW_some] <;> rfl) | (exfalso; (try simp_all); (try omega); done), by (with_reducible repeat (first | apply Kd.R_alloc | apply Kd.R_drewN | apply Kd.R_drew)); exact HO_5.out, by repeat (first | (with_reducible first | exact HB.out | apply below_alloc | apply pw_below_drewN | apply below_drew1) | exact HB.out)⟩
def bywashref14_up.l0 : Nat → List Int → Int → List Int → Option (List Int)
 | 0, _, _, _ => none
 | k + 1, x0, x1, x5 => if x1 ≥ 0 then (if x1 < (x0.length : Int) then (if (x5.length : Int) ≤ (x0.length : Int) then (if x5.length < 17592186044416 then (if 0 ≤ x1 then (bywashref14_up.l0 k x0 (rd x0 x1) (x5 ++ [x1])) else (none)) else (none)) else (some x5)) else (some x5)) else (some x5)
def bywashref14_up.f (k : Nat) (l0 : List Int) (a1 : Int) : Option (List Int) := bywashref14_up.l0 k l0 a1 ([] : List Int)
set_option maxHeartbeats 8000000 in
set_option maxRecDepth 100000 in
theorem bywashref14_up.calls (k : Nat) (A0 : Option Addr) (c0 : Nat) (l0 : List Int) (a1 : Int) (r : List Int) (w : World) (hr0 : Kd.C (Kd.int .i64) w A0 l0.length l0) (hc0 : l0.length ≤ c0) (h : bywashref14_up.f k l0 a1 = some r) :
  Calls Tryz.prog 86 #[.slice A0 l0.length c0, .int .i64 a1] w fun e w' => ∃ v0_ : Value, e = .returned (v0_) ∧ Kd.R (Kd.int .i64) 3 w' w.heap.size (fun _ => True) v0_ r ∧ Below w.heap.size w w' := by
 have HR0 := Aside0.mk hr0
 have HC0 := Aside0.mk hc0
 clear hr0 hc0
 have HB := Aside0.mk (Below.refl w.heap.size w)
 have H : (bywashref14_up.l0 k l0 a1 ([] : List Int)) = some r := h
 clear h
 have H' := Aside0.mk H
 clear H
 go_enter Tryz.func86, Tryz.ntmps86
 go_wp2
 go_loopg [1, 5] k (fun kq v1 v5 w' => ∃ (x1_1 : Int) (x5_1 : List Int), v1 = .int .i64 x1_1 ∧ Aside0 (bywashref14_up.l0 kq l0 x1_1 x5_1 = some r) ∧ Aside0 (kq ≤ k) ∧ Aside0 (Kd.R (Kd.int .i64) 3 w' w.heap.size (fun _ => True) v5 x5_1) ∧ Aside0 (Below w.heap.size w w'))
 case atStart => exact ⟨(a1), (([] : List Int)), (by first | rfl | (simp; done) | (simp [*]; done)), H', ⟨Nat.le_refl _⟩, ⟨by first | exact Kd.R_nil _ _ _ _ _ | exact Kd.N_nil _ _ _ _ _ | exact Kd.V_nil _ _ _ _ _ | exact Kd.Q_nil _ _ _ _ _ | exact Kd.S_nil _ _ _ _ _⟩, ⟨by repeat (first | (with_reducible first | exact HB.out | apply below_alloc | apply pw_below_drewN | apply below_drew1) | exact HB.out)⟩⟩
 case round =>
  clear H'
  try clear p2
  obtain ⟨x1_1, x5_1, rfl, HA, HK1, HO_5, HB⟩ := hrel
  cases gk with
  | zero => exact absurd HA.out (by simp [bywashref14_up.l0])
  | succ k1 =>
   have H := HA.out
   clear HA
   simp only [bywashref14_up.l0] at H
   by_cases c3 : x1_1 ≥ 0
   ·rw [if_pos c3] at H
    have c3b0 : decide (0 ≤ x1_1) = true := decide_eq_true c3
    clear c3
    by_cases c4 : x1_1 < (l0.length : Int)
    ·rw [if_pos c4] at H
     have c4b0 : decide (x1_1 < (l0.length : Int)) = true := decide_eq_true c4
     clear c4
     by_cases c5 : (x5_1.length : Int) ≤ (l0.length : Int)
     ·rw [if_pos c5] at H
      have c5b0 : decide ((x5_1.length : Int) ≤ (l0.length : Int)) = true := decide_eq_true c5
      have c5b1 : decide (x5_1.length ≤ l0.length) = true := decide_eq_true (Int.ofNat_le.mp c5)
      clear c5
      by_cases c6 : x5_1.length < 17592186044416
      ·rw [if_pos c6] at H
       have LMc6 := Aside0.mk c6
       clear c6
       obtain ⟨y341, hy341⟩ : ∃ y_ : List Int, y_ = (x5_1 ++ [x1_1]) := ⟨_, rfl⟩
       replace H : (if 0 ≤ x1_1 then (bywashref14_up.l0 k1 l0 (rd l0 x1_1) y341) else (none)) = some r := by first | (rw [hy341]; with_reducible exact H) | (have H2_ := (Option.bind_some _ _).symm.trans H; rw [hy341]; with_reducible exact H2_) | (have H2_ := (Option.bind_some _ _).symm.trans H; with_reducible exact H2_) | with_reducible exact H | (rw [hy341]; exact H) | exact H
       have Ny341 := Aside0.mk hy341
       clear hy341
       by_cases c7 : 0 ≤ x1_1
       ·rw [if_pos c7] at H
        have c7b0 : decide (0 ≤ x1_1) = true := decide_eq_true c7
        clear c7
        have H' := Aside0.mk H
        clear H
        obtain ⟨Ao8, co8, eo8⟩ := Kd.R_slice HO_5.out
        subst eo8
        go_wp2_with (first | ((with_reducible refine gate_builtin (b := .append) (xs := #[.tmp 21, .tmp 23]) rfl ?_); (try (refine gate_guard (by rfl) ?_; dsimp only)); at_builtin; refine Kd.R_append (Kd.int .i64) (w0 := w) w.heap.size rfl (.tmp 21) (.tmp 23) 23 3 (.int .i64 0) 8 rfl Tryz.underlying23 info3 rfl (by decide) (by omega) (.slice Ao8 x5_1.length co8) x5_1 x1_1 [.int .i64 x1_1] (fun _ => True) (fun _ => False) rfl rfl ?aP (fun _ hk => hk.elim) ?aF ?aO ?aB ?aS ?aL ?_; (case aP => exact rfl); (case aB => exact (by repeat (first | (with_reducible first | exact HB.out | apply below_alloc | apply pw_below_drewN | apply below_drew1) | exact HB.out))); (case aF => exact (fun _ _ => trivial)); (case aO => exact (by (with_reducible repeat (first | apply Kd.R_alloc | apply Kd.R_drewN | apply Kd.R_drew)); exact HO_5.out)); (case aS => exact (below_size (by repeat (first | (with_reducible first | exact HB.out | apply below_alloc | apply pw_below_drewN | apply below_drew1) | exact HB.out)))); (case aL => have := LMc6.out; omega); intro v342 w9 ho hb hg hat; rw [← Ny341.out] at ho; have n0_ := Aside0.mk (hb); have n1_ := Aside0.mk (ho); clear HB; clear HO_5; have HB := n0_; have HO343 := n1_; clear n0_ n1_; clear ho hb hg hat; have p344 : 0 ≤ (x1_1 : Int) := of_decide_eq_true (by first | (with_reducible assumption) | assumption); have q344 : x1_1 < (l0.length : Int) := of_decide_eq_true (by first | (with_reducible assumption) | assumption); obtain ⟨ad344, e344, hx344_0⟩ := Kd.at_int HR0.out x1_1 p344 q344; cases e344; replace hx344_0 := (HB.out.cell (World.block_lt_of_cell? w _ hx344_0)).trans hx344_0; replace p344 := eq_true p344; replace q344 := eq_true q344))
        go_roundg k1
        case measure => have := HK1.out; omega
        case rel => exact ⟨(rd l0 x1_1), (y341), (by first | rfl | (simp; done) | (simp [*]; done)), H', ⟨by have := HK1.out; omega⟩, ⟨by (with_reducible repeat (first | apply Kd.R_alloc | apply Kd.R_drewN | apply Kd.R_drew)); exact HO343.out⟩, ⟨by repeat (first | (with_reducible first | exact HB.out | apply below_alloc | apply pw_below_drewN | apply below_drew1) | exact HB.out)⟩⟩
       ·rw [if_neg c7] at H
        exact absurd H (by simp)
      ·rw [if_neg c6] at H
       exact absurd H (by simp)
     ·rw [if_neg c5] at H
      have c5b0 : decide ((x5_1.length : Int) ≤ (l0.length : Int)) = false := decide_eq_false c5
      have c5b1 : decide (x5_1.length ≤ l0.length) = false := decide_eq_false (fun h => c5 (Int.ofNat_le.mpr h))
      clear c5
      obtain rfl := Option.some.inj H
      obtain ⟨Ao10, co10, eo10⟩ := Kd.R_slice HO_5.out
      subst eo10
      go_wp2
      go_ret
      exact ⟨_, by first | rfl | (simp [errW_none, errW_some] <;> rfl) | (simp [*, errW_none, errW_some] <;> rfl) | (exfalso; (try simp_all); (try omega); done), by (with_reducible repeat (first | apply Kd.R_alloc | apply Kd.R_drewN | apply Kd.R_drew)); exact HO_5.out, by repeat (first | (with_reducible first | exact HB.out | apply below_alloc | apply pw_below_drewN | apply below_drew1) | exact HB.out)⟩
    ·rw [if_neg c4] at H
     have c4b0 : decide (x1_1 < (l0.length : Int)) = false := decide_eq_false c4
     clear c4
     obtain rfl := Option.some.inj H
     go_wp2
     go_ret
     exact ⟨_, by first | rfl | (simp [errW_none, errW_some] <;> rfl) | (simp [*, errW_none, errW_some] <;> rfl) | (exfalso; (try simp_all); (try omega); done), by (with_reducible repeat (first | apply Kd.R_alloc | apply Kd.R_drewN | apply Kd.R_drew)); exact HO_5.out, by repeat (first | (with_reducible first | exact HB.out | apply below_alloc | apply pw_below_drewN | apply below_drew1) | exact HB.out)⟩
   ·rw [if_neg c3] at H
    have c3b0 : decide (0 ≤ x1_1) = false := decide_eq_false c3
    clear c3
    obtain rfl := Option.some.inj H
    go_wp2
    go_ret
    exact ⟨_, by first | rfl | (simp [errW_none, errW_some] <;> rfl) | (simp [*, errW_none, errW_some] <;> rfl) | (exfalso; (try simp_all); (try omega); done), by (with_reducible repeat (first | apply Kd.R_alloc | apply Kd.R_drewN | apply Kd.R_drew)); exact HO_5.out, by repeat (first | (with_reducible first | exact HB.out | apply below_alloc | apply pw_below_drewN | apply below_drew1) | exact HB.out)⟩
mutual
def bywashref14_Sane.l0 : Nat → List Int → Int → Option (Bool)
 | 0, _, _ => none
 | k + 1, x0, x3 => if x3 < (x0.length : Int) then (if 0 ≤ x3 then (if ((x3 == 0) != ((rd x0 x3) == (-1))) = true then (bywashref14_Sane.j1 k x0 x3 (rd x0 x3) true) else (if (rd x0 x3) < (-2) then (bywashref14_Sane.j1 k x0 x3 (rd x0 x3) true) else (if (rd x0 x3) ≥ (x0.length : Int) then (bywashref14_Sane.j1 k x0 x3 (rd x0 x3) true) else (if (rd x0 x3) ≥ 0 then (if 0 ≤ (rd x0 x3) then (if (rd x0 x3) < (x0.length : Int) then (bywashref14_Sane.j1 k x0 x3 (rd x0 x3) ((rd x0 (rd x0 x3)) == (-2))) else (none)) else (none)) else (bywashref14_Sane.j1 k x0 x3 (rd x0 x3) false))))) else (none)) else (some true)
def bywashref14_Sane.j1 : Nat → List Int → Int → Int → Bool → Option (Bool)
 | 0, _, _, _, _ => none
 | k + 1, x0, x3, x4, x41 => if x41 = true then (some false) else ((bywashref14_up.f k x0 x3).bind fun t347 => (if x4 = (-2) then (bywashref14_Sane.l0 k x0 (wrap64 (x3 + 1))) else (if 0 ≤ (wrap64 ((t347.length : Int) - 1)) then (if (wrap64 ((t347.length : Int) - 1)) < (t347.length : Int) then (if (rd t347 (wrap64 ((t347.length : Int) - 1))) = 0 then (bywashref14_Sane.l0 k x0 (wrap64 (x3 + 1))) else (some false)) else (none)) else (none))))
end
def bywashref14_Sane.f (k : Nat) (l0 : List Int) : Option (Bool) := bywashref14_Sane.l0 k l0 0
set_option maxHeartbeats 8000000 in
set_option maxRecDepth 100000 in
theorem bywashref14_Sane.calls (k : Nat) (A0 : Option Addr) (c0 : Nat) (l0 : List Int) (r : Bool) (w : World) (hr0 : Kd.C (Kd.int .i64) w A0 l0.length l0) (hc0 : l0.length ≤ c0) (h : bywashref14_Sane.f k l0 = some r) :
  Calls Tryz.prog 85 #[.slice A0 l0.length c0] w fun e w' => e = .returned (.bool r) ∧ Below w.heap.size w w' := by
 have HR0 := Aside0.mk hr0
 have HC0 := Aside0.mk hc0
 clear hr0 hc0
 have HB := Aside0.mk (Below.refl w.heap.size w)
 have H : (bywashref14_Sane.l0 k l0 0) = some r := h
 clear h
 have H' := Aside0.mk H
 clear H
 go_enter Tryz.func85, Tryz.ntmps85
 go_wp2
 go_loopg [3] k (fun kq v3 w' => ∃ (x3_1 : Int), v3 = .int .i64 x3_1 ∧ Aside0 (bywashref14_Sane.l0 kq l0 x3_1 = some r) ∧ Aside0 (kq ≤ k) ∧ Aside0 (Below w.heap.size w w'))
 case atStart => exact ⟨(0), (by first | rfl | (simp; done) | (simp [*]; done)), H', ⟨Nat.le_refl _⟩, ⟨by repeat (first | (with_reducible first | exact HB.out | apply below_alloc | apply pw_below_drewN | apply below_drew1) | exact HB.out)⟩⟩
 case round =>
  clear H'
  obtain ⟨x3_1, rfl, HA, HK1, HB⟩ := hrel
  cases gk with
  | zero => exact absurd HA.out (by simp [bywashref14_Sane.l0])
  | succ k1 =>
   have H := HA.out
   clear HA
   simp only [bywashref14_Sane.l0] at H
   by_cases c2 : x3_1 < (l0.length : Int)
   ·rw [if_pos c2] at H
    have c2b0 : decide (x3_1 < (l0.length : Int)) = true := decide_eq_true c2
    clear c2
    by_cases c3 : 0 ≤ x3_1
    ·rw [if_pos c3] at H
     have c3b0 : decide (0 ≤ x3_1) = true := decide_eq_true c3
     clear c3
     have HC4 := Aside0.mk H
     clear H
     have p345 : 0 ≤ (x3_1 : Int) := of_decide_eq_true (by first | (with_reducible assumption) | assumption)
     have q345 : x3_1 < (l0.length : Int) := of_decide_eq_true (by first | (with_reducible assumption) | assumption)
     obtain ⟨ad345, e345, hx345_0⟩ := Kd.at_int HR0.out x3_1 p345 q345
     cases e345
     replace hx345_0 := (HB.out.cell (World.block_lt_of_cell? w _ hx345_0)).trans hx345_0
     replace p345 := eq_true p345
     replace q345 := eq_true q345
     go_upto_region 5 with (fail)
     go_cut [41] (fun v41 wc => ∃ (kq : Nat) (x41_3 : Bool), v41 = .bool x41_3 ∧ Aside0 (bywashref14_Sane.j1 kq l0 x3_1 (rd l0 x3_1) x41_3 = some r) ∧ Aside0 (kq ≤ k1) ∧ Aside0 (Below w.heap.size w wc))
     case first =>
      have H := HC4.out
      clear HC4
      by_cases c5 : ((x3_1 == 0) != ((rd l0 x3_1) == (-1))) = true
      ·rw [if_pos c5] at H
       have c5b0 : ((x3_1 == 0) != ((rd l0 x3_1) == (-1))) = true := c5
       (try (have c5b1 : decide ((x3_1 == 0) = ((rd l0 x3_1) == (-1))) = false := by simpa using c5))
       (try (have c5b2 : ((x3_1 == 0) == ((rd l0 x3_1) == (-1))) = false := by simpa using c5))
       (try (have c5b3 : ¬ ((x3_1 == 0) = ((rd l0 x3_1) == (-1))) := by simpa using c5))
       clear c5
       (first | rw [c5b0] | (simp only [i64_w, i32_w]; rw [c5b0]) | skip)
       have H' := Aside0.mk H
       clear H
       go_wp2
       go_meet
       case rel => exact ⟨_, (true), (by first | rfl | (simp; done) | (simp [*]; done)), H', ⟨by have := HK1.out; first | omega | exact Nat.le_refl _⟩, ⟨by repeat (first | (with_reducible first | exact HB.out | apply below_alloc | apply pw_below_drewN | apply below_drew1) | exact HB.out)⟩⟩
      ·rw [if_neg c5] at H
       have c5b0 : ((x3_1 == 0) != ((rd l0 x3_1) == (-1))) = false := by simpa using c5
       (try (have c5b1 : decide ((x3_1 == 0) = ((rd l0 x3_1) == (-1))) = true := by simpa using c5))
       (try (have c5b2 : ((x3_1 == 0) == ((rd l0 x3_1) == (-1))) = true := by simpa using c5))
       clear c5
       (first | rw [c5b0] | (simp only [i64_w, i32_w]; rw [c5b0]) | skip)
       by_cases c6 : (rd l0 x3_1) < (-2)
       ·rw [if_pos c6] at H
        have c6b0 : decide ((rd l0 x3_1) < (-2)) = true := decide_eq_true c6
        clear c6
        have H' := Aside0.mk H
        clear H
        go_wp2
        go_meet
        case rel => exact ⟨_, (true), (by first | rfl | (simp; done) | (simp [*]; done)), H', ⟨by have := HK1.out; first | omega | exact Nat.le_refl _⟩, ⟨by repeat (first | (with_reducible first | exact HB.out | apply below_alloc | apply pw_below_drewN | apply below_drew1) | exact HB.out)⟩⟩
       ·rw [if_neg c6] at H
        have c6b0 : decide ((rd l0 x3_1) < (-2)) = false := decide_eq_false c6
        clear c6
        by_cases c7 : (rd l0 x3_1) ≥ (l0.length : Int)
        ·rw [if_pos c7] at H
         have c7b0 : decide ((l0.length : Int) ≤ (rd l0 x3_1)) = true := decide_eq_true c7
         clear c7
         have H' := Aside0.mk H
         clear H
         go_wp2
         go_meet
         case rel => exact ⟨_, (true), (by first | rfl | (simp; done) | (simp [*]; done)), H', ⟨by have := HK1.out; first | omega | exact Nat.le_refl _⟩, ⟨by repeat (first | (with_reducible first | exact HB.out | apply below_alloc | apply pw_below_drewN | apply below_drew1) | exact HB.out)⟩⟩
        ·rw [if_neg c7] at H
         have c7b0 : decide ((l0.length : Int) ≤ (rd l0 x3_1)) = false := decide_eq_false c7
         clear c7
         by_cases c8 : (rd l0 x3_1) ≥ 0
         ·rw [if_pos c8] at H
          have c8b0 : decide (0 ≤ (rd l0 x3_1)) = true := decide_eq_true c8
          clear c8
          by_cases c9 : 0 ≤ (rd l0 x3_1)
          ·rw [if_pos c9] at H
           have c9b0 : decide (0 ≤ (rd l0 x3_1)) = true := decide_eq_true c9
           clear c9
           by_cases c10 : (rd l0 x3_1) < (l0.length : Int)
           ·rw [if_pos c10] at H
            have c10b0 : decide ((rd l0 x3_1) < (l0.length : Int)) = true := decide_eq_true c10
            clear c10
            have H' := Aside0.mk H
            clear H
            have p346 : 0 ≤ ((rd l0 x3_1) : Int) := of_decide_eq_true (by first | (with_reducible assumption) | assumption)
            have q346 : (rd l0 x3_1) < (l0.length : Int) := of_decide_eq_true (by first | (with_reducible assumption) | assumption)
            obtain ⟨ad346, e346, hx346_0⟩ := Kd.at_int HR0.out (rd l0 x3_1) p346 q346
            obtain rfl : ad345 = ad346 := (by injection e346)
            replace hx346_0 := (HB.out.cell (World.block_lt_of_cell? w _ hx346_0)).trans hx346_0
            replace p346 := eq_true p346
            replace q346 := eq_true q346
            go_wp2
            go_meet
            case rel => exact ⟨_, (((rd l0 (rd l0 x3_1)) == (-2))), (by first | rfl | (simp; done) | (simp [*]; done)), H', ⟨by have := HK1.out; first | omega | exact Nat.le_refl _⟩, ⟨by repeat (first | (with_reducible first | exact HB.out | apply below_alloc | apply pw_below_drewN | apply below_drew1) | exact HB.out)⟩⟩
           ·rw [if_neg c10] at H
            exact absurd H (by simp)
          ·rw [if_neg c9] at H
           exact absurd H (by simp)
         ·rw [if_neg c8] at H
          have c8b0 : decide (0 ≤ (rd l0 x3_1)) = false := decide_eq_false c8
          clear c8
          have H' := Aside0.mk H
          clear H
          go_wp2
          go_meet
          case rel => exact ⟨_, (false), (by first | rfl | (simp; done) | (simp [*]; done)), H', ⟨by have := HK1.out; first | omega | exact Nat.le_refl _⟩, ⟨by repeat (first | (with_reducible first | exact HB.out | apply below_alloc | apply pw_below_drewN | apply below_drew1) | exact HB.out)⟩⟩
     case rest =>
      clear HC4
      try clear c1
      try clear c2
      try clear c2b0
      try clear p2
      try clear c3
      try clear c3b0
      try clear p3
      try clear q3
      try clear hx3
      try clear c5
      try clear c5b0
      try clear c5b1
      try clear c5b2
      try clear c6
      try clear c6b0
      try clear c7
      try clear c7b0
      try clear c8
      try clear c8b0
      try clear c9
      try clear c9b0
      try clear c10
      try clear c10b0
      try clear hx345_0
      try clear hx346_0
      try clear p345
      try clear p346
      try clear q345
      try clear q346
      obtain ⟨kq, x41_3, rfl, HA, HJ3, HB⟩ := hcut
      cases kq with
      | zero => exact absurd HA.out (by simp [bywashref14_Sane.j1])
      | succ kj3 =>
       have H := HA.out
       clear HA
       simp only [bywashref14_Sane.j1] at H
       by_cases c11 : x41_3 = true
       ·subst c11
        have H1 : (some false) = some r := by rw [if_pos rfl] at H; exact H
        clear H
        have H := H1
        clear H1
        obtain rfl := Option.some.inj H
        go_wp2
        go_ret
        exact ⟨by first | rfl | (simp [errW_none, errW_some] <;> rfl) | (simp [*, errW_none, errW_some] <;> rfl) | (exfalso; (try simp_all); (try omega); done), by repeat (first | (with_reducible first | exact HB.out | apply below_alloc | apply pw_below_drewN | apply below_drew1) | exact HB.out)⟩
       ·replace c11 := Bool.eq_false_iff.mpr c11
        subst c11
        have H1 : ((bywashref14_up.f kj3 l0 x3_1).bind fun t347 => (if (rd l0 x3_1) = (-2) then (bywashref14_Sane.l0 kj3 l0 (wrap64 (x3_1 + 1))) else (if 0 ≤ (wrap64 ((t347.length : Int) - 1)) then (if (wrap64 ((t347.length : Int) - 1)) < (t347.length : Int) then (if (rd t347 (wrap64 ((t347.length : Int) - 1))) = 0 then (bywashref14_Sane.l0 kj3 l0 (wrap64 (x3_1 + 1))) else (some false)) else (none)) else (none)))) = some r := by rw [if_neg (show ¬ (false = true) by decide)] at H; exact H
        clear H
        have H := H1
        clear H1
        replace H := Option.bind_eq_some_iff.mp H
        obtain ⟨t347, A120, H⟩ := H
        replace H : (if (rd l0 x3_1) = (-2) then (bywashref14_Sane.l0 kj3 l0 (wrap64 (x3_1 + 1))) else (if 0 ≤ (wrap64 ((t347.length : Int) - 1)) then (if (wrap64 ((t347.length : Int) - 1)) < (t347.length : Int) then (if (rd t347 (wrap64 ((t347.length : Int) - 1))) = 0 then (bywashref14_Sane.l0 kj3 l0 (wrap64 (x3_1 + 1))) else (some false)) else (none)) else (none))) = some r := H
        have A12 := Aside0.mk A120
        clear A120
        by_cases c13 : (rd l0 x3_1) = (-2)
        ·rw [if_pos c13] at H
         have c13b0 : ((rd l0 x3_1) == (-2)) = true := beq_iff_eq.mpr c13
         have c13b1 : ((rd l0 x3_1) != (-2)) = false := bne_eq_false_iff_eq.mpr c13
         clear c13
         have H' := Aside0.mk H
         clear H
         go_wp2_with (first | ((with_reducible refine gate_callee (f := 86) rfl ?_); refine goesL_ (some 44) rfl rfl Tryz.func86 (by kernel_rfl) rfl #[.slice (some ad345) l0.length c0, .int .i64 x3_1] rfl (by (try simp only [List.map_toArray, List.map_cons, List.map_nil]); first | done | rfl | (simp only [List.length_drop, List.length_take]; rfl)) ?_; (with_reducible refine (bywashref14_up.calls kj3 _ _ l0 x3_1 t347 _ ?side1 ?side2 A12.out).mono ?_); (case side1 => repeat (first | exact (Kd.C_below HR0.out HB.out) | (with_reducible refine Kd.C_alloc ?_ _) | (with_reducible refine Kd.C_drewN ?_ _) | (with_reducible refine Kd.C_drew ?_))); (case side2 => exact HC0.out); rintro e w14 ⟨v348, rfl, ho0, hb⟩; refine ⟨_, rfl, ?_⟩; have n0_ := Aside0.mk (Kd.R_lower ho0 (below_size (by repeat (first | (with_reducible first | exact HB.out | apply below_alloc | apply pw_below_drewN | apply below_drew1) | exact HB.out)))); have n1_ := Aside0.mk (below_step (by repeat (first | (with_reducible first | exact HB.out | apply below_alloc | apply pw_below_drewN | apply below_drew1) | exact HB.out)) hb); clear HB; have HO349 := n0_; have HB := n1_; clear n0_ n1_; (try clear hb); (try clear hb2); (try clear hk); (try clear hi); (try clear ho0)))
         go_roundg kj3
         case measure => have := HK1.out; have := HJ3.out; omega
         case rel => exact ⟨(wrap64 (x3_1 + 1)), (by first | rfl | (simp; done) | (simp [*]; done)), H', ⟨by have := HK1.out; have := HJ3.out; omega⟩, ⟨by repeat (first | (with_reducible first | exact HB.out | apply below_alloc | apply pw_below_drewN | apply below_drew1) | exact HB.out)⟩⟩
        ·rw [if_neg c13] at H
         have c13b0 : ((rd l0 x3_1) == (-2)) = false := beq_eq_false_iff_ne.mpr c13
         have c13b1 : ((rd l0 x3_1) != (-2)) = true := bne_iff_ne.mpr c13
         obtain ⟨ji15, hji15⟩ : ∃ j_ : Int, (wrap64 ((t347.length : Int) - 1)) = j_ := ⟨_, rfl⟩
         replace H : (if 0 ≤ (ji15) then (if (ji15) < (t347.length : Int) then (if (rd t347 (ji15)) = 0 then (bywashref14_Sane.l0 kj3 l0 (wrap64 (x3_1 + 1))) else (some false)) else (none)) else (none)) = some r := by first | (rw [hji15] at H; exact H) | (simp only [hji15] at H ⊢; exact H)
         (try rw [hji15] at A12)
         have hji15w : (IntKind.i64.wrap ((t347.length : Int) - 1)) = ji15 := (i64_w _).trans hji15
         by_cases c16 : 0 ≤ (ji15)
         ·rw [if_pos c16] at H
          have c16b0 : decide (0 ≤ (ji15)) = true := decide_eq_true c16
          clear c16
          by_cases c17 : (ji15) < (t347.length : Int)
          ·rw [if_pos c17] at H
           have c17b0 : decide ((ji15) < (t347.length : Int)) = true := decide_eq_true c17
           clear c17
           by_cases c18 : (rd t347 (ji15)) = 0
           ·rw [if_pos c18] at H
            have c18b0 : ((rd t347 (ji15)) == 0) = true := beq_iff_eq.mpr c18
            have c18b1 : ((rd t347 (ji15)) != 0) = false := bne_eq_false_iff_eq.mpr c18
            clear c18
            have H' := Aside0.mk H
            clear H
            go_wp2_with (first | ((with_reducible refine gate_callee (f := 86) rfl ?_); refine goesL_ (some 44) rfl rfl Tryz.func86 (by kernel_rfl) rfl #[.slice (some ad345) l0.length c0, .int .i64 x3_1] rfl (by (try simp only [List.map_toArray, List.map_cons, List.map_nil]); first | done | rfl | (simp only [List.length_drop, List.length_take]; rfl)) ?_; (with_reducible refine (bywashref14_up.calls kj3 _ _ l0 x3_1 t347 _ ?side1 ?side2 A12.out).mono ?_); (case side1 => repeat (first | exact (Kd.C_below HR0.out HB.out) | (with_reducible refine Kd.C_alloc ?_ _) | (with_reducible refine Kd.C_drewN ?_ _) | (with_reducible refine Kd.C_drew ?_))); (case side2 => exact HC0.out); rintro e w19 ⟨v348, rfl, ho0, hb⟩; refine ⟨_, rfl, ?_⟩; have n0_ := Aside0.mk (Kd.R_lower ho0 (below_size (by repeat (first | (with_reducible first | exact HB.out | apply below_alloc | apply pw_below_drewN | apply below_drew1) | exact HB.out)))); have n1_ := Aside0.mk (below_step (by repeat (first | (with_reducible first | exact HB.out | apply below_alloc | apply pw_below_drewN | apply below_drew1) | exact HB.out)) hb); clear HB; have HO349 := n0_; have HB := n1_; clear n0_ n1_; (try clear hb); (try clear hb2); (try clear hk); (try clear hi); (try clear ho0); obtain ⟨Ao20, co20, eo20⟩ := Kd.R_slice HO349.out; subst eo20; have p350 : 0 ≤ ((ji15) : Int) := of_decide_eq_true (by first | (with_reducible assumption) | assumption); have q350 : (ji15) < (t347.length : Int) := of_decide_eq_true (by first | (with_reducible assumption) | assumption); obtain ⟨ad350, e350, hx350_0⟩ := Kd.at_int (Kd.R_reads' HO349.out).2.2 (ji15) p350 q350; cases e350; replace p350 := eq_true p350; replace q350 := eq_true q350))
            go_roundg kj3
            case measure => have := HK1.out; have := HJ3.out; omega
            case rel => exact ⟨(wrap64 (x3_1 + 1)), (by first | rfl | (simp; done) | (simp [*]; done)), H', ⟨by have := HK1.out; have := HJ3.out; omega⟩, ⟨by repeat (first | (with_reducible first | exact HB.out | apply below_alloc | apply pw_below_drewN | apply below_drew1) | exact HB.out)⟩⟩
           ·rw [if_neg c18] at H
            have c18b0 : ((rd t347 (ji15)) == 0) = false := beq_eq_false_iff_ne.mpr c18
            have c18b1 : ((rd t347 (ji15)) != 0) = true := bne_iff_ne.mpr c18
            obtain rfl := Option.some.inj H
            go_wp2_with (first | ((with_reducible refine gate_callee (f := 86) rfl ?_); refine goesL_ (some 44) rfl rfl Tryz.func86 (by kernel_rfl) rfl #[.slice (some ad345) l0.length c0, .int .i64 x3_1] rfl (by (try simp only [List.map_toArray, List.map_cons, List.map_nil]); first | done | rfl | (simp only [List.length_drop, List.length_take]; rfl)) ?_; (with_reducible refine (bywashref14_up.calls kj3 _ _ l0 x3_1 t347 _ ?side1 ?side2 A12.out).mono ?_); (case side1 => repeat (first | exact (Kd.C_below HR0.out HB.out) | (with_reducible refine Kd.C_alloc ?_ _) | (with_reducible refine Kd.C_drewN ?_ _) | (with_reducible refine Kd.C_drew ?_))); (case side2 => exact HC0.out); rintro e w21 ⟨v348, rfl, ho0, hb⟩; refine ⟨_, rfl, ?_⟩; have n0_ := Aside0.mk (Kd.R_lower ho0 (below_size (by repeat (first | (with_reducible first | exact HB.out | apply below_alloc | apply pw_below_drewN | apply below_drew1) | exact HB.out)))); have n1_ := Aside0.mk (below_step (by repeat (first | (with_reducible first | exact HB.out | apply below_alloc | apply pw_below_drewN | apply below_drew1) | exact HB.out)) hb); clear HB; have HO349 := n0_; have HB := n1_; clear n0_ n1_; (try clear hb); (try clear hb2); (try clear hk); (try clear hi); (try clear ho0); obtain ⟨Ao22, co22, eo22⟩ := Kd.R_slice HO349.out; subst eo22; have p350 : 0 ≤ ((ji15) : Int) := of_decide_eq_true (by first | (with_reducible assumption) | assumption); have q350 : (ji15) < (t347.length : Int) := of_decide_eq_true (by first | (with_reducible assumption) | assumption); obtain ⟨ad350, e350, hx350_0⟩ := Kd.at_int (Kd.R_reads' HO349.out).2.2 (ji15) p350 q350; cases e350; replace p350 := eq_true p350; replace q350 := eq_true q350))
            go_ret
            exact ⟨by first | rfl | (simp [errW_none, errW_some] <;> rfl) | (simp only [← hji15]; first | rfl | (simp [errW_none, errW_some] <;> rfl)) | (simp [*, errW_none, errW_some] <;> rfl) | (exfalso; (try simp_all); (try omega); done), by repeat (first | (with_reducible first | exact HB.out | apply below_alloc | apply pw_below_drewN | apply below_drew1) | exact HB.out)⟩
          ·rw [if_neg c17] at H
           exact absurd H (by simp)
         ·rw [if_neg c16] at H
          exact absurd H (by simp)
    ·rw [if_neg c3] at H
     exact absurd H (by simp)
   ·rw [if_neg c2] at H
    have c2b0 : decide (x3_1 < (l0.length : Int)) = false := decide_eq_false c2
    clear c2
    obtain rfl := Option.some.inj H
    go_wp2
    go_ret
    exact ⟨by first | rfl | (simp [errW_none, errW_some] <;> rfl) | (simp [*, errW_none, errW_some] <;> rfl) | (exfalso; (try simp_all); (try omega); done), by repeat (first | (with_reducible first | exact HB.out | apply below_alloc | apply pw_below_drewN | apply below_drew1) | exact HB.out)⟩
def bywashref14_Chain.f (k : Nat) (l0 : List Int) (a1 : Int) : Option (List Int) := (bywashref14_Sane.f k l0).bind fun t351 => (if t351 = true then (if a1 < 0 then (some ([] : List Int)) else (if a1 ≥ (l0.length : Int) then (some ([] : List Int)) else (if 0 ≤ a1 then (if a1 < (l0.length : Int) then (if (rd l0 a1) = (-2) then (some ([] : List Int)) else ((bywashref14_up.f k l0 a1).bind fun t353 => (some t353))) else (none)) else (none)))) else (some ([] : List Int)))
set_option maxHeartbeats 8000000 in
set_option maxRecDepth 100000 in
theorem bywashref14_Chain.calls (k : Nat) (A0 : Option Addr) (c0 : Nat) (l0 : List Int) (a1 : Int) (r : List Int) (w : World) (hr0 : Kd.C (Kd.int .i64) w A0 l0.length l0) (hc0 : l0.length ≤ c0) (h : bywashref14_Chain.f k l0 a1 = some r) :
  Calls Tryz.prog 64 #[.slice A0 l0.length c0, .int .i64 a1] w fun e w' => ∃ v0_ : Value, e = .returned (v0_) ∧ Kd.R (Kd.int .i64) 3 w' w.heap.size (fun _ => True) v0_ r ∧ Below w.heap.size w w' := by
 have HR0 := Aside0.mk hr0
 have HC0 := Aside0.mk hc0
 clear hr0 hc0
 have HB := Aside0.mk (Below.refl w.heap.size w)
 have H : ((bywashref14_Sane.f k l0).bind fun t351 => (if t351 = true then (if a1 < 0 then (some ([] : List Int)) else (if a1 ≥ (l0.length : Int) then (some ([] : List Int)) else (if 0 ≤ a1 then (if a1 < (l0.length : Int) then (if (rd l0 a1) = (-2) then (some ([] : List Int)) else ((bywashref14_up.f k l0 a1).bind fun t353 => (some t353))) else (none)) else (none)))) else (some ([] : List Int)))) = some r := h
 clear h
 replace H := Option.bind_eq_some_iff.mp H
 obtain ⟨t351, A30, H⟩ := H
 replace H : (if t351 = true then (if a1 < 0 then (some ([] : List Int)) else (if a1 ≥ (l0.length : Int) then (some ([] : List Int)) else (if 0 ≤ a1 then (if a1 < (l0.length : Int) then (if (rd l0 a1) = (-2) then (some ([] : List Int)) else ((bywashref14_up.f k l0 a1).bind fun t353 => (some t353))) else (none)) else (none)))) else (some ([] : List Int))) = some r := H
 have A3 := Aside0.mk A30
 clear A30
 by_cases c4 : t351 = true
 ·subst c4
  have H1 : (if a1 < 0 then (some ([] : List Int)) else (if a1 ≥ (l0.length : Int) then (some ([] : List Int)) else (if 0 ≤ a1 then (if a1 < (l0.length : Int) then (if (rd l0 a1) = (-2) then (some ([] : List Int)) else ((bywashref14_up.f k l0 a1).bind fun t353 => (some t353))) else (none)) else (none)))) = some r := by rw [if_pos rfl] at H; exact H
  clear H
  have H := H1
  clear H1
  by_cases c5 : a1 < 0
  ·rw [if_pos c5] at H
   have c5b0 : decide (a1 < 0) = true := decide_eq_true c5
   clear c5
   obtain rfl := Option.some.inj H
   go_enter Tryz.func64, Tryz.ntmps64
   go_wp2_with (first | ((with_reducible refine gate_callee (f := 85) rfl ?_); refine goesL_ (some 6) rfl rfl Tryz.func85 (by kernel_rfl) rfl #[.slice A0 l0.length c0] rfl (by (try simp only [List.map_toArray, List.map_cons, List.map_nil]); first | done | rfl | (simp only [List.length_drop, List.length_take]; rfl)) ?_; (with_reducible refine (bywashref14_Sane.calls k _ _ l0 true _ ?side1 ?side2 A3.out).mono ?_); (case side1 => repeat (first | exact HR0.out | (with_reducible refine Kd.C_alloc ?_ _) | (with_reducible refine Kd.C_drewN ?_ _) | (with_reducible refine Kd.C_drew ?_))); (case side2 => exact HC0.out); rintro e w6 ⟨rfl, hb⟩; refine ⟨_, rfl, ?_⟩; have n0_ := Aside0.mk (below_step (by repeat (first | (with_reducible first | exact HB.out | apply below_alloc | apply pw_below_drewN | apply below_drew1) | exact HB.out)) hb); clear HB; have HB := n0_; clear n0_; (try clear hb); (try clear hb2); (try clear hk); (try clear hi)))
   go_ret
   exact ⟨_, by first | rfl | (simp [errW_none, errW_some] <;> rfl) | (simp [*, errW_none, errW_some] <;> rfl) | (exfalso; (try simp_all); (try omega); done), by first | exact Kd.R_nil _ _ _ _ _ | exact Kd.N_nil _ _ _ _ _ | exact Kd.V_nil _ _ _ _ _ | exact Kd.Q_nil _ _ _ _ _ | exact Kd.S_nil _ _ _ _ _, by repeat (first | (with_reducible first | exact HB.out | apply below_alloc | apply pw_below_drewN | apply below_drew1) | exact HB.out)⟩
  ·rw [if_neg c5] at H
   have c5b0 : decide (a1 < 0) = false := decide_eq_false c5
   clear c5
   by_cases c7 : a1 ≥ (l0.length : Int)
   ·rw [if_pos c7] at H
    have c7b0 : decide ((l0.length : Int) ≤ a1) = true := decide_eq_true c7
    clear c7
    obtain rfl := Option.some.inj H
    go_enter Tryz.func64, Tryz.ntmps64
    go_wp2_with (first | ((with_reducible refine gate_callee (f := 85) rfl ?_); refine goesL_ (some 6) rfl rfl Tryz.func85 (by kernel_rfl) rfl #[.slice A0 l0.length c0] rfl (by (try simp only [List.map_toArray, List.map_cons, List.map_nil]); first | done | rfl | (simp only [List.length_drop, List.length_take]; rfl)) ?_; (with_reducible refine (bywashref14_Sane.calls k _ _ l0 true _ ?side1 ?side2 A3.out).mono ?_); (case side1 => repeat (first | exact HR0.out | (with_reducible refine Kd.C_alloc ?_ _) | (with_reducible refine Kd.C_drewN ?_ _) | (with_reducible refine Kd.C_drew ?_))); (case side2 => exact HC0.out); rintro e w8 ⟨rfl, hb⟩; refine ⟨_, rfl, ?_⟩; have n0_ := Aside0.mk (below_step (by repeat (first | (with_reducible first | exact HB.out | apply below_alloc | apply pw_below_drewN | apply below_drew1) | exact HB.out)) hb); clear HB; have HB := n0_; clear n0_; (try clear hb); (try clear hb2); (try clear hk); (try clear hi)))
    go_ret
    exact ⟨_, by first | rfl | (simp [errW_none, errW_some] <;> rfl) | (simp [*, errW_none, errW_some] <;> rfl) | (exfalso; (try simp_all); (try omega); done), by first | exact Kd.R_nil _ _ _ _ _ | exact Kd.N_nil _ _ _ _ _ | exact Kd.V_nil _ _ _ _ _ | exact Kd.Q_nil _ _ _ _ _ | exact Kd.S_nil _ _ _ _ _, by repeat (first | (with_reducible first | exact HB.out | apply below_alloc | apply pw_below_drewN | apply below_drew1) | exact HB.out)⟩
   ·rw [if_neg c7] at H
    have c7b0 : decide ((l0.length : Int) ≤ a1) = false := decide_eq_false c7
    clear c7
    by_cases c9 : 0 ≤ a1
    ·rw [if_pos c9] at H
     have c9b0 : decide (0 ≤ a1) = true := decide_eq_true c9
     clear c9
     by_cases c10 : a1 < (l0.length : Int)
     ·rw [if_pos c10] at H
      have c10b0 : decide (a1 < (l0.length : Int)) = true := decide_eq_true c10
      clear c10
      by_cases c11 : (rd l0 a1) = (-2)
      ·rw [if_pos c11] at H
       have c11b0 : ((rd l0 a1) == (-2)) = true := beq_iff_eq.mpr c11
       have c11b1 : ((rd l0 a1) != (-2)) = false := bne_eq_false_iff_eq.mpr c11
       clear c11
       obtain rfl := Option.some.inj H
       go_enter Tryz.func64, Tryz.ntmps64
       go_wp2_with (first | ((with_reducible refine gate_callee (f := 85) rfl ?_); refine goesL_ (some 6) rfl rfl Tryz.func85 (by kernel_rfl) rfl #[.slice A0 l0.length c0] rfl (by (try simp only [List.map_toArray, List.map_cons, List.map_nil]); first | done | rfl | (simp only [List.length_drop, List.length_take]; rfl)) ?_; (with_reducible refine (bywashref14_Sane.calls k _ _ l0 true _ ?side1 ?side2 A3.out).mono ?_); (case side1 => repeat (first | exact HR0.out | (with_reducible refine Kd.C_alloc ?_ _) | (with_reducible refine Kd.C_drewN ?_ _) | (with_reducible refine Kd.C_drew ?_))); (case side2 => exact HC0.out); rintro e w12 ⟨rfl, hb⟩; refine ⟨_, rfl, ?_⟩; have n0_ := Aside0.mk (below_step (by repeat (first | (with_reducible first | exact HB.out | apply below_alloc | apply pw_below_drewN | apply below_drew1) | exact HB.out)) hb); clear HB; have HB := n0_; clear n0_; (try clear hb); (try clear hb2); (try clear hk); (try clear hi); have p352 : 0 ≤ (a1 : Int) := of_decide_eq_true (by first | (with_reducible assumption) | assumption); have q352 : a1 < (l0.length : Int) := of_decide_eq_true (by first | (with_reducible assumption) | assumption); obtain ⟨ad352, e352, hx352_0⟩ := Kd.at_int HR0.out a1 p352 q352; cases e352; replace hx352_0 := (HB.out.cell (World.block_lt_of_cell? w _ hx352_0)).trans hx352_0; replace p352 := eq_true p352; replace q352 := eq_true q352))
       go_ret
       exact ⟨_, by first | rfl | (simp [errW_none, errW_some] <;> rfl) | (simp [*, errW_none, errW_some] <;> rfl) | (exfalso; (try simp_all); (try omega); done), by first | exact Kd.R_nil _ _ _ _ _ | exact Kd.N_nil _ _ _ _ _ | exact Kd.V_nil _ _ _ _ _ | exact Kd.Q_nil _ _ _ _ _ | exact Kd.S_nil _ _ _ _ _, by repeat (first | (with_reducible first | exact HB.out | apply below_alloc | apply pw_below_drewN | apply below_drew1) | exact HB.out)⟩
      ·rw [if_neg c11] at H
       have c11b0 : ((rd l0 a1) == (-2)) = false := beq_eq_false_iff_ne.mpr c11
       have c11b1 : ((rd l0 a1) != (-2)) = true := bne_iff_ne.mpr c11
       replace H := Option.bind_eq_some_iff.mp H
       obtain ⟨t353, A130, H⟩ := H
       replace H : (some t353) = some r := H
       have A13 := Aside0.mk A130
       clear A130
       obtain rfl := Option.some.inj H
       go_enter Tryz.func64, Tryz.ntmps64
       go_wp2_with (first | ((with_reducible refine gate_callee (f := 85) rfl ?_); refine goesL_ (some 6) rfl rfl Tryz.func85 (by kernel_rfl) rfl #[.slice A0 l0.length c0] rfl (by (try simp only [List.map_toArray, List.map_cons, List.map_nil]); first | done | rfl | (simp only [List.length_drop, List.length_take]; rfl)) ?_; (with_reducible refine (bywashref14_Sane.calls k _ _ l0 true _ ?side1 ?side2 A3.out).mono ?_); (case side1 => repeat (first | exact HR0.out | (with_reducible refine Kd.C_alloc ?_ _) | (with_reducible refine Kd.C_drewN ?_ _) | (with_reducible refine Kd.C_drew ?_))); (case side2 => exact HC0.out); rintro e w14 ⟨rfl, hb⟩; refine ⟨_, rfl, ?_⟩; have n0_ := Aside0.mk (below_step (by repeat (first | (with_reducible first | exact HB.out | apply below_alloc | apply pw_below_drewN | apply below_drew1) | exact HB.out)) hb); clear HB; have HB := n0_; clear n0_; (try clear hb); (try clear hb2); (try clear hk); (try clear hi); have p352 : 0 ≤ (a1 : Int) := of_decide_eq_true (by first | (with_reducible assumption) | assumption); have q352 : a1 < (l0.length : Int) := of_decide_eq_true (by first | (with_reducible assumption) | assumption); obtain ⟨ad352, e352, hx352_0⟩ := Kd.at_int HR0.out a1 p352 q352; cases e352; replace hx352_0 := (HB.out.cell (World.block_lt_of_cell? w _ hx352_0)).trans hx352_0; replace p352 := eq_true p352; replace q352 := eq_true q352) | ((with_reducible refine gate_callee (f := 86) rfl ?_); refine goesL_ (some 27) rfl rfl Tryz.func86 (by kernel_rfl) rfl #[.slice (some ad352) l0.length c0, .int .i64 a1] rfl (by (try simp only [List.map_toArray, List.map_cons, List.map_nil]); first | done | rfl | (simp only [List.length_drop, List.length_take]; rfl)) ?_; (with_reducible refine (bywashref14_up.calls k _ _ l0 a1 t353 _ ?side1 ?side2 A13.out).mono ?_); (case side1 => repeat (first | exact (Kd.C_below HR0.out HB.out) | (with_reducible refine Kd.C_alloc ?_ _) | (with_reducible refine Kd.C_drewN ?_ _) | (with_reducible refine Kd.C_drew ?_))); (case side2 => exact HC0.out); rintro e w15 ⟨v354, rfl, ho0, hb⟩; refine ⟨_, rfl, ?_⟩; have n0_ := Aside0.mk (Kd.R_lower ho0 (below_size (by repeat (first | (with_reducible first | exact HB.out | apply below_alloc | apply pw_below_drewN | apply below_drew1) | exact HB.out)))); have n1_ := Aside0.mk (below_step (by repeat (first | (with_reducible first | exact HB.out | apply below_alloc | apply pw_below_drewN | apply below_drew1) | exact HB.out)) hb); clear HB; have HO355 := n0_; have HB := n1_; clear n0_ n1_; (try clear hb); (try clear hb2); (try clear hk); (try clear hi); (try clear ho0)))
       go_ret
       exact ⟨_, by first | rfl | (simp [errW_none, errW_some] <;> rfl) | (simp [*, errW_none, errW_some] <;> rfl) | (exfalso; (try simp_all); (try omega); done), by (with_reducible repeat (first | apply Kd.R_alloc | apply Kd.R_drewN | apply Kd.R_drew)); exact HO355.out, by repeat (first | (with_reducible first | exact HB.out | apply below_alloc | apply pw_below_drewN | apply below_drew1) | exact HB.out)⟩
     ·rw [if_neg c10] at H
      exact absurd H (by simp)
    ·rw [if_neg c9] at H
     exact absurd H (by simp)
 ·replace c4 := Bool.eq_false_iff.mpr c4
  subst c4
  have H1 : (some ([] : List Int)) = some r := by rw [if_neg (show ¬ (false = true) by decide)] at H; exact H
  clear H
  have H := H1
  clear H1
  obtain rfl := Option.some.inj H
  go_enter Tryz.func64, Tryz.ntmps64
  go_wp2_with (first | ((with_reducible refine gate_callee (f := 85) rfl ?_); refine goesL_ (some 6) rfl rfl Tryz.func85 (by kernel_rfl) rfl #[.slice A0 l0.length c0] rfl (by (try simp only [List.map_toArray, List.map_cons, List.map_nil]); first | done | rfl | (simp only [List.length_drop, List.length_take]; rfl)) ?_; (with_reducible refine (bywashref14_Sane.calls k _ _ l0 false _ ?side1 ?side2 A3.out).mono ?_); (case side1 => repeat (first | exact HR0.out | (with_reducible refine Kd.C_alloc ?_ _) | (with_reducible refine Kd.C_drewN ?_ _) | (with_reducible refine Kd.C_drew ?_))); (case side2 => exact HC0.out); rintro e w16 ⟨rfl, hb⟩; refine ⟨_, rfl, ?_⟩; have n0_ := Aside0.mk (below_step (by repeat (first | (with_reducible first | exact HB.out | apply below_alloc | apply pw_below_drewN | apply below_drew1) | exact HB.out)) hb); clear HB; have HB := n0_; clear n0_; (try clear hb); (try clear hb2); (try clear hk); (try clear hi)))
  go_ret
  exact ⟨_, by first | rfl | (simp [errW_none, errW_some] <;> rfl) | (simp [*, errW_none, errW_some] <;> rfl) | (exfalso; (try simp_all); (try omega); done), by first | exact Kd.R_nil _ _ _ _ _ | exact Kd.N_nil _ _ _ _ _ | exact Kd.V_nil _ _ _ _ _ | exact Kd.Q_nil _ _ _ _ _ | exact Kd.S_nil _ _ _ _ _, by repeat (first | (with_reducible first | exact HB.out | apply below_alloc | apply pw_below_drewN | apply below_drew1) | exact HB.out)⟩
def bywashref14_Common.l0 : Nat → List Int → List Int → Int → Option (Int)
 | 0, _, _, _ => none
 | k + 1, x7, x8, x9 => if x9 < (x7.length : Int) then (if 0 ≤ x9 then ((bywashref10_Has.f k x8 (rd x7 x9)).bind fun t363 => (if t363 = true then (some (rd x7 x9)) else (bywashref14_Common.l0 k x7 x8 (wrap64 (x9 + 1))))) else (none)) else (some (-1))
def bywashref14_Common.f (k : Nat) (l0 : List Int) (a1 : Int) (a2 : Int) : Option (Int) := (bywashref14_Chain.f k l0 a1).bind fun t356 => ((bywashref14_Chain.f k l0 a2).bind fun t359 => (bywashref14_Common.l0 k t356 t359 0))
set_option maxHeartbeats 8000000 in
set_option maxRecDepth 100000 in
theorem bywashref14_Common.calls (k : Nat) (A0 : Option Addr) (c0 : Nat) (l0 : List Int) (a1 : Int) (a2 : Int) (r : Int) (w : World) (hr0 : Kd.C (Kd.int .i64) w A0 l0.length l0) (hc0 : l0.length ≤ c0) (h : bywashref14_Common.f k l0 a1 a2 = some r) :
  Calls Tryz.prog 41 #[.slice A0 l0.length c0, .int .i64 a1, .int .i64 a2] w fun e w' => e = .returned (.int .i64 r) ∧ Below w.heap.size w w' := by
 have HR0 := Aside0.mk hr0
 have HC0 := Aside0.mk hc0
 clear hr0 hc0
 have HB := Aside0.mk (Below.refl w.heap.size w)
 have H : ((bywashref14_Chain.f k l0 a1).bind fun t356 => ((bywashref14_Chain.f k l0 a2).bind fun t359 => (bywashref14_Common.l0 k t356 t359 0))) = some r := h
 clear h
 replace H := Option.bind_eq_some_iff.mp H
 obtain ⟨t356, A40, H⟩ := H
 replace H : ((bywashref14_Chain.f k l0 a2).bind fun t359 => (bywashref14_Common.l0 k t356 t359 0)) = some r := H
 have A4 := Aside0.mk A40
 clear A40
 replace H := Option.bind_eq_some_iff.mp H
 obtain ⟨t359, A50, H⟩ := H
 replace H : (bywashref14_Common.l0 k t356 t359 0) = some r := H
 have A5 := Aside0.mk A50
 clear A50
 have H' := Aside0.mk H
 clear H
 go_enter Tryz.func41, Tryz.ntmps41
 go_wp2_with (first | ((with_reducible refine gate_callee (f := 64) rfl ?_); refine goesL_ (some 12) rfl rfl Tryz.func64 (by kernel_rfl) rfl #[.slice A0 l0.length c0, .int .i64 a1] rfl (by (try simp only [List.map_toArray, List.map_cons, List.map_nil]); first | done | rfl | (simp only [List.length_drop, List.length_take]; rfl)) ?_; (with_reducible refine (bywashref14_Chain.calls k _ _ l0 a1 t356 _ ?side1 ?side2 A4.out).mono ?_); (case side1 => repeat (first | exact HR0.out | (with_reducible refine Kd.C_alloc ?_ _) | (with_reducible refine Kd.C_drewN ?_ _) | (with_reducible refine Kd.C_drew ?_))); (case side2 => exact HC0.out); rintro e w6 ⟨v357, rfl, ho0, hb⟩; refine ⟨_, rfl, ?_⟩; have n0_ := Aside0.mk (Kd.R_lower ho0 (below_size (by repeat (first | (with_reducible first | exact HB.out | apply below_alloc | apply pw_below_drewN | apply below_drew1) | exact HB.out)))); have n1_ := Aside0.mk (below_step (by repeat (first | (with_reducible first | exact HB.out | apply below_alloc | apply pw_below_drewN | apply below_drew1) | exact HB.out)) hb); clear HB; have HO358 := n0_; have HB := n1_; clear n0_ n1_; (try clear hb); (try clear hb2); (try clear hk); (try clear hi); (try clear ho0)) | ((with_reducible refine gate_callee (f := 64) rfl ?_); refine goesL_ (some 15) rfl rfl Tryz.func64 (by kernel_rfl) rfl #[.slice A0 l0.length c0, .int .i64 a2] rfl (by (try simp only [List.map_toArray, List.map_cons, List.map_nil]); first | done | rfl | (simp only [List.length_drop, List.length_take]; rfl)) ?_; (with_reducible refine (bywashref14_Chain.calls k _ _ l0 a2 t359 _ ?side1 ?side2 A5.out).mono ?_); (case side1 => repeat (first | exact (Kd.C_below HR0.out HB.out) | (with_reducible refine Kd.C_alloc ?_ _) | (with_reducible refine Kd.C_drewN ?_ _) | (with_reducible refine Kd.C_drew ?_))); (case side2 => exact HC0.out); rintro e w7 ⟨v360, rfl, ho0, hb⟩; refine ⟨_, rfl, ?_⟩; have n0_ := Aside0.mk (Kd.R_elder' (by (with_reducible repeat (first | apply Kd.R_alloc | apply Kd.R_drewN | apply Kd.R_drew)); exact HO358.out) (Kd.R_base ho0) hb); have n1_ := Aside0.mk (Kd.R_lower (Kd.R_new' ho0 (Kd.R_lt (by (with_reducible repeat (first | apply Kd.R_alloc | apply Kd.R_drewN | apply Kd.R_drew)); exact HO358.out))) (below_size (by repeat (first | (with_reducible first | exact HB.out | apply below_alloc | apply pw_below_drewN | apply below_drew1) | exact HB.out)))); have n2_ := Aside0.mk (below_step (by repeat (first | (with_reducible first | exact HB.out | apply below_alloc | apply pw_below_drewN | apply below_drew1) | exact HB.out)) hb); clear HO358; clear HB; have HO358 := n0_; have HO361 := n1_; have HB := n2_; clear n0_ n1_ n2_; (try clear hb); (try clear hb2); (try clear hk); (try clear hi); (try clear ho0)))
 go_loopg [9] k (fun kq v9 w' => ∃ (x9_1 : Int), v9 = .int .i64 x9_1 ∧ Aside0 (bywashref14_Common.l0 kq t356 t359 x9_1 = some r) ∧ Aside0 (kq ≤ k) ∧ Aside0 (Kd.R (Kd.int .i64) 3 w' w.heap.size (fun k_ => some k_ ≠ (v360 : Value).ownBlock) v357 t356) ∧ Aside0 (Kd.R (Kd.int .i64) 3 w' w.heap.size (fun k_ => some k_ ≠ (v357 : Value).ownBlock) v360 t359) ∧ Aside0 (Below w.heap.size w w'))
 case atStart => exact ⟨(0), (by first | rfl | (simp; done) | (simp [*]; done)), H', ⟨Nat.le_refl _⟩, ⟨by (with_reducible repeat (first | apply Kd.R_alloc | apply Kd.R_drewN | apply Kd.R_drew)); exact Kd.R_mono HO358.out (fun _ hk => hk.2)⟩, ⟨by (with_reducible repeat (first | apply Kd.R_alloc | apply Kd.R_drewN | apply Kd.R_drew)); exact Kd.R_mono HO361.out (fun _ hk => hk.2)⟩, ⟨by repeat (first | (with_reducible first | exact HB.out | apply below_alloc | apply pw_below_drewN | apply below_drew1) | exact HB.out)⟩⟩
 case round =>
  clear H'
  try clear p2
  try clear c4
  try clear c6
  obtain ⟨x9_1, rfl, HA, HK1, HO_7, HO_8, HB⟩ := hrel
  cases gk with
  | zero => exact absurd HA.out (by simp [bywashref14_Common.l0])
  | succ k1 =>
   have H := HA.out
   clear HA
   simp only [bywashref14_Common.l0] at H
   by_cases c8 : x9_1 < (t356.length : Int)
   ·rw [if_pos c8] at H
    have c8b0 : decide (x9_1 < (t356.length : Int)) = true := decide_eq_true c8
    clear c8
    by_cases c9 : 0 ≤ x9_1
    ·rw [if_pos c9] at H
     have c9b0 : decide (0 ≤ x9_1) = true := decide_eq_true c9
     clear c9
     replace H := Option.bind_eq_some_iff.mp H
     obtain ⟨t363, A100, H⟩ := H
     replace H : (if t363 = true then (some (rd t356 x9_1)) else (bywashref14_Common.l0 k1 t356 t359 (wrap64 (x9_1 + 1)))) = some r := H
     have A10 := Aside0.mk A100
     clear A100
     by_cases c11 : t363 = true
     ·subst c11
      have H1 : (some (rd t356 x9_1)) = some r := by rw [if_pos rfl] at H; exact H
      clear H
      have H := H1
      clear H1
      obtain rfl := Option.some.inj H
      obtain ⟨Ao12, co12, eo12⟩ := Kd.R_slice HO_7.out
      subst eo12
      have p362 : 0 ≤ (x9_1 : Int) := of_decide_eq_true (by first | (with_reducible assumption) | assumption)
      have q362 : x9_1 < (t356.length : Int) := of_decide_eq_true (by first | (with_reducible assumption) | assumption)
      (try (obtain ⟨Ar_, cr_, er_⟩ := Kd.R_slice HO_7.out; subst er_))
      obtain ⟨ad362, e362, hx362_0⟩ := Kd.at_int (Kd.R_reads' HO_7.out).2.2 x9_1 p362 q362
      cases e362
      replace p362 := eq_true p362
      replace q362 := eq_true q362
      obtain ⟨Ao13, co13, eo13⟩ := Kd.R_slice HO_8.out
      subst eo13
      go_wp2_with (first | ((with_reducible refine gate_callee (f := 63) rfl ?_); refine goesL_ (some 27) rfl rfl Tryz.func63 (by kernel_rfl) rfl #[.slice Ao13 t359.length co13, .int .i64 (rd t356 x9_1)] rfl (by (try simp only [List.map_toArray, List.map_cons, List.map_nil]); first | done | rfl | (simp only [List.length_drop, List.length_take]; rfl)) ?_; (with_reducible refine (bywashref10_Has.calls k1 _ _ t359 (rd t356 x9_1) true _ ?side1 ?side2 A10.out).mono ?_); (case side1 => repeat (first | exact (Kd.R_reads' HO_8.out).2.2 | (with_reducible refine Kd.C_alloc ?_ _) | (with_reducible refine Kd.C_drewN ?_ _) | (with_reducible refine Kd.C_drew ?_))); (case side2 => exact (Kd.R_reads' HO_8.out).2.1); rintro e w' ⟨rfl, ⟨nd, rfl⟩⟩; refine ⟨_, rfl, ?_⟩; have p364 : 0 ≤ (x9_1 : Int) := of_decide_eq_true (by first | (with_reducible assumption) | assumption); have q364 : x9_1 < (t356.length : Int) := of_decide_eq_true (by first | (with_reducible assumption) | assumption); obtain ⟨ad364, e364, hx364_0⟩ := Kd.at_int (Kd.R_reads' HO_7.out).2.2 x9_1 p364 q364; obtain rfl : ad362 = ad364 := (by injection e364); replace p364 := eq_true p364; replace q364 := eq_true q364))
      go_ret
      exact ⟨by first | rfl | (simp [errW_none, errW_some] <;> rfl) | (simp [*, errW_none, errW_some] <;> rfl) | (exfalso; (try simp_all); (try omega); done), by repeat (first | (with_reducible first | exact HB.out | apply below_alloc | apply pw_below_drewN | apply below_drew1) | exact HB.out)⟩
     ·replace c11 := Bool.eq_false_iff.mpr c11
      subst c11
      have H1 : (bywashref14_Common.l0 k1 t356 t359 (wrap64 (x9_1 + 1))) = some r := by rw [if_neg (show ¬ (false = true) by decide)] at H; exact H
      clear H
      have H := H1
      clear H1
      have H' := Aside0.mk H
      clear H
      obtain ⟨Ao14, co14, eo14⟩ := Kd.R_slice HO_7.out
      subst eo14
      have p362 : 0 ≤ (x9_1 : Int) := of_decide_eq_true (by first | (with_reducible assumption) | assumption)
      have q362 : x9_1 < (t356.length : Int) := of_decide_eq_true (by first | (with_reducible assumption) | assumption)
      (try (obtain ⟨Ar_, cr_, er_⟩ := Kd.R_slice HO_7.out; subst er_))
      obtain ⟨ad362, e362, hx362_0⟩ := Kd.at_int (Kd.R_reads' HO_7.out).2.2 x9_1 p362 q362
      cases e362
      replace p362 := eq_true p362
      replace q362 := eq_true q362
      obtain ⟨Ao15, co15, eo15⟩ := Kd.R_slice HO_8.out
      subst eo15
      go_wp2_with (first | ((with_reducible refine gate_callee (f := 63) rfl ?_); refine goesL_ (some 27) rfl rfl Tryz.func63 (by kernel_rfl) rfl #[.slice Ao15 t359.length co15, .int .i64 (rd t356 x9_1)] rfl (by (try simp only [List.map_toArray, List.map_cons, List.map_nil]); first | done | rfl | (simp only [List.length_drop, List.length_take]; rfl)) ?_; (with_reducible refine (bywashref10_Has.calls k1 _ _ t359 (rd t356 x9_1) false _ ?side1 ?side2 A10.out).mono ?_); (case side1 => repeat (first | exact (Kd.R_reads' HO_8.out).2.2 | (with_reducible refine Kd.C_alloc ?_ _) | (with_reducible refine Kd.C_drewN ?_ _) | (with_reducible refine Kd.C_drew ?_))); (case side2 => exact (Kd.R_reads' HO_8.out).2.1); rintro e w' ⟨rfl, ⟨nd, rfl⟩⟩; refine ⟨_, rfl, ?_⟩))
      go_roundg k1
      case measure => have := HK1.out; omega
      case rel => exact ⟨(wrap64 (x9_1 + 1)), (by first | rfl | (simp; done) | (simp [*]; done)), H', ⟨by have := HK1.out; omega⟩, ⟨by (with_reducible repeat (first | apply Kd.R_alloc | apply Kd.R_drewN | apply Kd.R_drew)); exact HO_7.out⟩, ⟨by (with_reducible repeat (first | apply Kd.R_alloc | apply Kd.R_drewN | apply Kd.R_drew)); exact HO_8.out⟩, ⟨by repeat (first | (with_reducible first | exact HB.out | apply below_alloc | apply pw_below_drewN | apply below_drew1) | exact HB.out)⟩⟩
    ·rw [if_neg c9] at H
     exact absurd H (by simp)
   ·rw [if_neg c8] at H
    have c8b0 : decide (x9_1 < (t356.length : Int)) = false := decide_eq_false c8
    clear c8
    obtain rfl := Option.some.inj H
    obtain ⟨Ao16, co16, eo16⟩ := Kd.R_slice HO_7.out
    subst eo16
    go_wp2
    go_ret
    exact ⟨by first | rfl | (simp [errW_none, errW_some] <;> rfl) | (simp [*, errW_none, errW_some] <;> rfl) | (exfalso; (try simp_all); (try omega); done), by repeat (first | (with_reducible first | exact HB.out | apply below_alloc | apply pw_below_drewN | apply below_drew1) | exact HB.out)⟩
end Go.Proofs.YtemcmcnhpdkdfaaGreat.P
namespace Go.Proofs.YtemcmcnhpdkdfaaGreat.P
open Go.RowKit Go.Lib Go.Proofs.YtemcmcnhpdkdfaaGreatW.PrintWords
theorem insAt_lt {x b : Int} (l : List Int) (h : x < b) : insAt (x :: l) b = x :: insAt l b := by
 unfold insAt
 rw [List.countP_cons_of_pos (by simpa using h), List.take_succ_cons, List.drop_succ_cons, List.cons_append]
theorem insAt_ge {b : Int} (l : List Int) (h : ∀ y ∈ l, b ≤ y) : insAt l b = b :: l := by
 unfold insAt
 have h0 : l.countP (fun x => decide (x < b)) = 0 := List.countP_eq_zero.2 (fun y hy => by have := h y hy; simp; omega)
 rw [h0]
 rfl
theorem mem_insAt (b : Int) : ∀ (l : List Int) (x : Int), x ∈ insAt l b ↔ x ∈ l ∨ x = b := by
 intro l x
 unfold insAt
 constructor
 ·intro h
  rcases List.mem_append.1 h with h | h
  ·exact .inl (List.mem_of_mem_take h)
  ·rcases List.mem_cons.1 h with h | h
   ·exact .inr h
   ·exact .inl (List.mem_of_mem_drop h)
 ·rintro (h | h)
  ·rw [← List.take_append_drop (l.countP (fun x => decide (x < b))) l] at h
   rcases List.mem_append.1 h with h | h
   ·exact List.mem_append_left _ h
   ·exact List.mem_append_right _ (List.mem_cons_of_mem _ h)
  ·subst h
   exact List.mem_append_right _ List.mem_cons_self
theorem insAt_rises (b : Int) : ∀ (l : List Int), l.Pairwise (· < ·) → ¬ b ∈ l → (insAt l b).Pairwise (· < ·)
 | [], _, _ => by simp [insAt]
 | x :: l, h, hb => by
  rw [List.pairwise_cons] at h
  have hne : b ≠ x := fun e => hb (by rw [e]; exact List.mem_cons_self)
  have hnl : ¬ b ∈ l := fun e => hb (List.mem_cons_of_mem _ e)
  rcases Int.lt_or_lt_of_ne hne with hlt | hlt
  ·rw [insAt_ge (x :: l) (fun y hy => by
    rcases List.mem_cons.1 hy with e | e
    ·omega
    ·have := h.1 y e; omega)]
   refine List.pairwise_cons.2 ⟨fun y hy => ?_, List.pairwise_cons.2 h⟩
   rcases List.mem_cons.1 hy with e | e
   ·omega
   ·have := h.1 y e; omega
  ·rw [insAt_lt l hlt]
   refine List.pairwise_cons.2 ⟨fun y hy => ?_, insAt_rises b l h.2 hnl⟩
   rcases (mem_insAt b l y).1 hy with e | e
   ·exact h.1 y e
   ·omega
theorem row_set {c : List (List Int)} {a x : Int} {l : List Int} (ha : Node c a) (hx : 0 ≤ x) : row (c.set a.toNat l) x = if x = a then l else row c x := by
 unfold row
 rw [List.getD_eq_getElem?_getD, List.getElem?_set]
 have := ha.1
 have := ha.2
 by_cases h : x = a
 ·subst h
  rw [if_pos rfl, if_pos (by omega), if_pos rfl]
  rfl
 ·rw [if_neg (by omega), if_neg h, List.getD_eq_getElem?_getD]
theorem row_at {c : List (List Int)} {a : Int} (ha : Node c a) : row c a ∈ c := by
 unfold row
 have := ha.1
 have := ha.2
 rw [List.getD_eq_getElem?_getD, List.getElem?_eq_getElem (by omega), Option.getD_some]
 exact List.getElem_mem _
section
variable {c : List (List Int)} {a b x y : Int}
theorem withE_len : (withE c a b).length = c.length := by unfold withE; split <;> simp
theorem withoutE_len : (withoutE c a b).length = c.length := by unfold withoutE; split <;> simp
theorem mem_withE (ha : Node c a) (hb : Node c b) (hx : 0 ≤ x) : y ∈ row (withE c a b) x ↔ y ∈ row c x ∨ (x = a ∧ y = b) := by
 unfold withE
 split
 ·rw [row_set ha hx]
  by_cases h : x = a
  ·subst h
   rw [if_pos rfl, mem_insAt]
   exact or_congr Iff.rfl ⟨fun h => ⟨rfl, h⟩, fun h => h.2⟩
  ·rw [if_neg h]
   exact ⟨.inl, fun e => e.elim id (fun e => absurd e.1 h)⟩
 ·rename_i h
  refine ⟨.inl, fun e => e.elim id (fun e => ?_)⟩
  obtain ⟨rfl, rfl⟩ := e
  by_cases hm : y ∈ c.getD x.toNat []
  ·exact hm
  ·exact absurd ⟨isN_iff.2 ha, isN_iff.2 hb, hm⟩ h
theorem mem_withoutE (ha : Node c a) (hx : 0 ≤ x) : y ∈ row (withoutE c a b) x ↔ y ∈ row c x ∧ ¬ (x = a ∧ y = b) := by
 unfold withoutE
 rw [if_pos (isN_iff.2 ha), row_set ha hx]
 by_cases h : x = a
 ·subst h
  rw [if_pos rfl, List.mem_filter]
  simp [row]
 ·rw [if_neg h]
  exact ⟨fun e => ⟨e, fun e' => h e'.1⟩, fun e => e.1⟩
theorem set_all {P : List Int → Prop} (hc : ∀ l ∈ c, P l) {k : Nat} {l : List Int} (hl : P l) : ∀ l' ∈ c.set k l, P l' := by
 intro l' h
 rcases List.mem_or_eq_of_mem_set h with h | h
 ·exact hc _ h
 ·rw [h]; exact hl
theorem withE_rises (hr : ∀ l ∈ c, l.Pairwise (· < ·)) : ∀ l ∈ withE c a b, l.Pairwise (· < ·) := by
 unfold withE
 split
 ·rename_i h
  exact set_all hr (insAt_rises b _ (hr _ (row_at (isN_iff.1 h.1))) h.2.2)
 ·exact hr
theorem withE_Valid (hv : Valid c) : Valid (withE c a b) := by
 intro l hl
 rw [withE_len]
 revert l
 unfold withE
 split
 ·rename_i h
  refine set_all hv (fun y hy => ?_)
  rcases (mem_insAt b _ y).1 hy with e | e
  ·exact hv _ (row_at (isN_iff.1 h.1)) _ e
  ·rw [e]; exact isN_iff.1 h.2.1
 ·exact hv
theorem withoutE_rises (hr : ∀ l ∈ c, l.Pairwise (· < ·)) : ∀ l ∈ withoutE c a b, l.Pairwise (· < ·) := by
 unfold withoutE
 split
 ·rename_i h
  exact set_all hr ((hr _ (row_at (isN_iff.1 h))).filter _)
 ·exact hr
theorem withoutE_Valid (hv : Valid c) : Valid (withoutE c a b) := by
 intro l hl
 rw [withoutE_len]
 revert l
 unfold withoutE
 split
 ·rename_i h
  refine set_all hv (fun y hy => ?_)
  exact hv _ (row_at (isN_iff.1 h)) _ (List.mem_filter.1 hy).1
 ·exact hv
end
theorem small_of {g : List (List Int)} (hv : Valid g) (hr : ∀ l ∈ g, l.Pairwise (· < ·)) (hn : g.length ≤ 900) : Small g := by
 refine ⟨?_, hn⟩
 unfold fits
 rw [Bool.and_eq_true, decide_eq_true_iff, List.all_eq_true]
 refine ⟨by omega, fun l hl => decide_eq_true ?_⟩
 have := few_nodes ((hr l hl).imp (fun h => by omega)) (hv l hl)
 omega
end Go.Proofs.YtemcmcnhpdkdfaaGreat.P
namespace Go.Proofs.YtemcmcnhpdkdfaaGreat.P
open Go.RowKit Go.Lib Go.Proofs.YtemcmcnhpdkdfaaGreatW.PrintWords
theorem same_l0 (a b : List (List Int)) (hl : a.length = b.length) (hb : a.length ≤ 9223372036854775807) (hr : ∀ r ∈ a, r.length ≤ 9223372036854775807) : ∀ d i : Nat, i + d = a.length → Ev (fun k => bywashref10_Same.l0 k a b (i : Int)) (decide (a.drop i = b.drop i))
 | 0, i, h => by
  refine Ev.step (f := fun _ => some true) (fun k => by rw [bywashref10_Same.l0, if_neg (by omega)]) ?_
  rw [List.drop_eq_nil_of_le (by omega), List.drop_eq_nil_of_le (by omega), decide_eq_true rfl]
  exact Ev.now _
 | d + 1, i, h => by
  have hi : i < a.length := by omega
  have hj : i < b.length := by omega
  rw [List.drop_eq_getElem_cons hi, List.drop_eq_getElem_cons hj]
  refine Ev.step (f := fun k => (bywashref01_Ints.f k a[i] b[i]).bind fun t => if t = true then bywashref10_Same.l0 k a b ((i + 1 : Nat) : Int) else some false) (fun k => by rw [bywashref10_Same.l0, if_pos (by omega), if_pos (by omega), if_pos (by omega), rdL1_nat hi, rdL1_nat hj, wrap_succ (by omega)]) ?_
  refine Ev.bind (ints_ev _ _ (hr _ (List.getElem_mem hi))) ?_
  by_cases hs : a[i] = b[i]
  ·simp only [decide_eq_true hs, if_true]
   rw [show decide (a[i] :: a.drop (i + 1) = b[i] :: b.drop (i + 1)) = decide (a.drop (i + 1) = b.drop (i + 1)) from by rw [hs]; exact decide_eq_decide.2 ⟨fun e => (List.cons.inj e).2, fun e => by rw [e]⟩]
   exact same_l0 a b hl hb hr d (i + 1) (by omega)
  ·simp only [decide_eq_false hs, Bool.false_eq_true, if_false]
   rw [show decide (a[i] :: a.drop (i + 1) = b[i] :: b.drop (i + 1)) = false from decide_eq_false (fun e => hs (by injection e))]
   exact Ev.now _
theorem same_ev (a b : List (List Int)) (hb : a.length ≤ 9223372036854775807) (hr : ∀ r ∈ a, r.length ≤ 9223372036854775807) : Ev (fun k => bywashref10_Same.f k a b) (decide (a = b)) := by
 by_cases h : a.length = b.length
 ·refine Ev.congr (f := fun k => bywashref10_Same.l0 k a b ((0 : Nat) : Int)) (fun k => by unfold bywashref10_Same.f; rw [if_pos (by omega)]; rfl) ?_
  have := same_l0 a b h hb hr a.length 0 (by omega)
  rwa [List.drop_zero, List.drop_zero] at this
 ·refine Ev.congr (f := fun _ => some false) (fun k => by unfold bywashref10_Same.f; rw [if_neg (by omega)]) ?_
  rw [decide_eq_false (fun e => h (by rw [e]))]
  exact Ev.now _
end Go.Proofs.YtemcmcnhpdkdfaaGreat.P
