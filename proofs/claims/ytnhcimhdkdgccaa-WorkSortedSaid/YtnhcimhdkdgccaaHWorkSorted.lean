/- WorkSorted's walk: true. -/
import Derived.Test.YtnhcimhdkdgccaaGawake16
import Derived.Test.YtnhcimhdkdgccaaHtwo
import Derived.Deep.QuietTactic
import Derived.BigQuiet
namespace Go.Proofs.Ytnhcimhdkdgccaa.P
open Go.RowKit Go.Shelf Go.Lib Go.Sort Go.Maps Go.Proofs.YtnhcimhdkdgccaaW.PrintWords Go.Proofs.YtnhcimhdkdgccaaW.PrintLast Go.Proofs.YtnhcimhdkdgccaaW.PrintMore

theorem putg_iff {ord : List Int} {g : Int → Bool} {p : Int → Prop} (h : ∀ x, g x = true ↔ x ∈ ord ∧ p x) (y : Int) : ∀ x, putg ord g y x = true ↔ x ∈ ord ∧ (p x ∨ x = y) := by
  intro x
  unfold putg
  by_cases e : putr ord g y = true ∧ x = y
  · rw [if_pos e]
    have := (putr_true e.1).1
    simp [e.2, this]
  · rw [if_neg e, h x]
    constructor
    · rintro ⟨h1, h2⟩
      exact ⟨h1, .inl h2⟩
    · rintro ⟨h1, h2 | h2⟩
      · exact ⟨h1, h2⟩
      · subst h2
        cases e2 : putr ord g x with
        | true => exact absurd ⟨e2, rfl⟩ e
        | false =>
          rcases putr_false e2 with e3 | e3
          · exact (h x).1 e3
          · exact absurd h1 (plc_none.1 e3)
theorem take_mem {l : List Int} {i : Nat} (hi : i < l.length) (x : Int) : x ∈ l.take (i + 1) ↔ x ∈ l.take i ∨ x = l.getD i 0 := by
  rw [List.take_add_one, List.getElem?_eq_getElem hi, List.mem_append, List.getD_eq_getElem?_getD, List.getElem?_eq_getElem hi]
  simp
theorem putr_again (ord : List Int) (g : Int → Bool) (x : Int) : putr ord (putg ord g x) x = false := by
  unfold putr putg
  cases h : putr ord g x with
  | true => simp
  | false =>
    unfold putr at h
    simpa using h

set_option maxHeartbeats 8000000 in
set_option maxRecDepth 100000 in
theorem WorkSorted_c (A0 : Option Addr) (c0 : Nat) (l0 : List Int) (A1 : Option Addr) (c1 : Nat) (l1 : List Int) (w : World) (hC0 : dI.C w A0 l0.length l0) (hc0 : l0.length ≤ c0) (hC1 : dI.C w A1 l1.length l1) (hc1 : l1.length ≤ c1)
    (_ : l0.length ≤ 9223372036854775807) (hw0 : ∀ y ∈ l0, (Lit.int .i64 y).wf = true) (_ : l1.length ≤ 9223372036854775807) (hw1 : ∀ y ∈ l1, (Lit.int .i64 y).wf = true) :
    Calls Try.prog 11 #[.slice A0 l0.length c0, .slice A1 l1.length c1] w fun e w' => e = .returned (.bool true) ∧ Below w.heap.size w w' := by
  have HC0 := Aside0.mk hC0
  have HC1 := Aside0.mk hC1
  have HW0 := Aside0.mk hw0
  have HW1 := Aside0.mk hw1
  obtain ⟨n0, en0⟩ : ∃ n, n = l0.length := ⟨_, rfl⟩
  obtain ⟨n1, en1⟩ : ∃ n, n = l1.length := ⟨_, rfl⟩
  have HN0 := Aside0.mk en0
  have HN1 := Aside0.mk en1
  rw [← en0, ← en1]
  rename_i hb0 hb1
  rw [← en0] at hb0 hc0
  rw [← en1] at hb1 hc1
  clear hC0 hC1 hw0 hw1 en0 en1
  have hbig : (1000000 : Nat) < maxLen := by decide
  by_cases h60 : n0 ≤ 60
  · by_cases h80 : n1 ≤ 80
    · have d0 : decide ((60 : Int) < (n0 : Int)) = false := by simp; omega
      have d1 : decide ((80 : Int) < (n1 : Int)) = false := by simp; omega
      go_enter Try.func11, Try.ntmps11
      go_upto_region 4 with (go_at_call 14; refine (awake16_c _).mono ?_; rintro e w1 ⟨rfl, hb1⟩; have HB1 := Aside0.mk hb1; clear hb1)
      have HNW := Aside0.mk (WK.new (w0 := w) (w := w1) (A := A0) (c := c0) (ord := l0) (Kd.C_below HC0.out HB1.out) HB1.out (by have := HN0.out; omega) HW0.out)
      rw [← HN0.out] at HNW
      go_wp2_with (go_at_call 15; refine HNW.out.mono ?_; rintro e w2 ⟨b, T, rfl, h2, _, _⟩; have H2 := Aside0.mk h2; clear h2)
      clear HNW
      go_loopw [7] (fun v wr => ∃ (k n : Nat) (T : Nat → Prop) (g : Int → Bool), k ≤ n1 ∧ v = .int .i64 k ∧ Aside0 (WK w wr T b l0 g n k) ∧ n ≤ k ∧ Aside0 (∀ x, g x = true ↔ x ∈ l0 ∧ x ∈ l1.take k)) (fun v _ => n1 - (intOf v).toNat)
      case atStart => exact ⟨0, 0, T, fun _ => false, Nat.zero_le _, rfl, H2, Nat.le_refl _, ⟨fun x => by simp⟩⟩
      case round =>
        obtain ⟨k, n, T, g, hk, rfl, HK, hn, HG⟩ := hrel
        by_cases hlt : k < n1
        · obtain ⟨bb, off, e, _, hc⟩ := C_ints HC1.out (by have := HN1.out; omega)
          subst e
          have hy := hc k (by have := HN1.out; omega)
          have hyb : bb < w.heap.size := World.block_lt_of_cell? _ ⟨bb, off + k, none⟩ hy
          have hx0 := (HK.out.bel.cell (p := ⟨bb, off + k, none⟩) hyb).trans hy
          have hxw : (Lit.int .i64 (l1.getD k 0)).wf = true := by
            have hkl : k < l1.length := by have := HN1.out; omega
            rw [List.getD_eq_getElem?_getD, List.getElem?_eq_getElem hkl]
            exact HW1.out _ (List.getElem_mem hkl)
          obtain ⟨x, ex⟩ : ∃ x, x = l1.getD k 0 := ⟨_, rfl⟩
          rw [← ex] at hx0 hxw hy
          have HX := Aside0.mk ex
          have HXW := Aside0.mk hxw
          have HY := Aside0.mk hy
          obtain ⟨gx, egx⟩ : ∃ gx, gx = g x := ⟨_, rfl⟩
          obtain ⟨mx, emx⟩ : ∃ mx, mx = decide (x ∈ l0) := ⟨_, rfl⟩
          obtain ⟨r, er⟩ : ∃ r, r = putr l0 g x := ⟨_, rfl⟩
          have hr : r = (mx && !gx) := by rw [er, emx, egx]; rfl
          have hh := HK.out.has hxw
          rw [← egx] at hh
          have HHA := Aside0.mk hh
          have hp := HK.out.put hxw (by omega) (by omega)
          rw [← er] at hp
          have HP := Aside0.mk hp
          have HMX := Aside0.mk emx
          have HR := Aside0.mk er
          clear hc ex hxw hy hh hp egx emx er
          cases gx
          all_goals
           cases mx
           all_goals
            simp at hr
            subst hr
            go_upto_region 9 with (go_at_call 19; refine HHA.out.mono ?_; rintro e wz ⟨rfl, rfl⟩)
            go_wp2_with (first | (go_at_call 16; with_reducible refine HP.out.mono ?_; rintro e w4 ⟨rfl, ⟨T4, h4, _⟩, _⟩; have H4 := Aside0.mk h4; clear h4; have hx4 := (H4.out.bel.cell (p := ⟨bb, off + k, none⟩) hyb).trans HY.out; have hh10 := Has_c A0 c0 l0 x w4 (Kd.C_below HC0.out H4.out.bel) (by rw [← HN0.out]; exact hc0) (by rw [← HN0.out]; omega); rw [← HMX.out, ← HN0.out] at hh10; have HH10 := Aside0.mk hh10; clear hh10; have HPa := Aside0.mk (H4.out.put_no HXW.out (putr_again l0 g x))) | (go_at_call 36; refine HH10.out.mono ?_; rintro e w5 ⟨rfl, hb5⟩; have H5 := Aside0.mk (H4.out.later hb5); clear hb5; have hx5 := (H5.out.bel.cell (p := ⟨bb, off + k, none⟩) hyb).trans HY.out; have HPb := Aside0.mk (H5.out.put_no HXW.out (putr_again l0 g x))) | (go_at_call 16; with_reducible refine HPb.out.mono ?_; rintro e wz ⟨rfl, rfl⟩) | (go_at_call 16; with_reducible refine HPa.out.mono ?_; rintro e wz ⟨rfl, rfl⟩))
            go_roundw
            case rel =>
              first
                | exact ⟨k + 1, _, _, _, by omega, by go_num, H5, by split <;> omega, ⟨fun z => by rw [putg_iff HG.out x z, take_mem (by have := HN1.out; omega) z, HX.out]⟩⟩
                | exact ⟨k + 1, _, _, _, by omega, by go_num, H4, by split <;> omega, ⟨fun z => by rw [putg_iff HG.out x z, take_mem (by have := HN1.out; omega) z, HX.out]⟩⟩
            case measure => simp [intOf]; omega
        · obtain rfl : k = n1 := by omega
          obtain ⟨wL, rfl⟩ : ∃ x, x = wr := ⟨_, rfl⟩
          have HTL := Aside0.mk HK.out.lt
          have HBL := Aside0.mk HK.out.bel
          go_wp2
          go_loopw [9, 10] (fun u v w' => ∃ q : Nat, q ≤ n0 ∧ v = .int .i64 q ∧ Aside0 (dI.R 3 w' w.heap.size (fun j => wL.heap.size ≤ j) u (lstK l0 (fun x => decide (x ∈ l1)) q)) ∧ Aside0 (Below wL.heap.size wL w')) (fun _ v _ => n0 - (intOf v).toNat)
          case atStart => exact ⟨0, Nat.zero_le _, rfl, ⟨Kd.R_nil _ _ _ _ _⟩, ⟨Below.refl _ _⟩⟩
          case round =>
            obtain ⟨q, hq, rfl, HR, HBq⟩ := hrel
            have HBw : Aside0 (Below w.heap.size w wr) := ⟨HBL.out.trans (HBq.out.mono HBL.out.size)⟩
            by_cases hlt2 : q < n0
            · obtain ⟨bb, off, e, _, hc⟩ := C_ints HC0.out (by have := HN0.out; omega)
              subst e
              have hy := hc q (by have := HN0.out; omega)
              have hx0 := (HBw.out.cell (p := ⟨bb, off + q, none⟩) (World.block_lt_of_cell? _ ⟨bb, off + q, none⟩ hy)).trans hy
              obtain ⟨x, ex⟩ : ∃ x, x = l0.getD q 0 := ⟨_, rfl⟩
              rw [← ex] at hx0
              have HX := Aside0.mk ex
              have hq1 := Has_q A1 c1 l1 x wr (Kd.C_below HC1.out HBw.out) (by rw [← HN1.out]; exact hc1) (by rw [← HN1.out]; omega)
              have hql : (l0.take q).length = q := by rw [List.length_take, ← HN0.out]; omega
              have hq2 := Has_q (some ⟨bb, off, none⟩) c0 (l0.take q) x wr (Kd.C_below (C_take HC0.out (by rw [← HN0.out]; omega)) HBw.out) (by rw [hql]; omega) (by rw [hql]; omega)
              rw [hql] at hq2
              obtain ⟨m1, em1⟩ : ∃ m1, m1 = decide (x ∈ l1) := ⟨_, rfl⟩
              obtain ⟨m2, em2⟩ : ∃ m2, m2 = decide (x ∈ l0.take q) := ⟨_, rfl⟩
              rw [← HN1.out, ← em1] at hq1
              rw [← em2] at hq2
              have HQ1 := Aside0.mk hq1
              have HQ2 := Aside0.mk hq2
              have HM1 := Aside0.mk em1
              have HM2 := Aside0.mk em2
              clear hc hy ex hq1 hq2 em1 em2
              go_wp2
              cases m1
              · go_quiet ((first | (go_at_call 36; with_reducible exact HQ1.out _) | (go_at_call 36; with_reducible exact HQ2.out _)))
                go_wp2
                go_roundw
                case rel => exact ⟨q + 1, by omega, by go_num, ⟨by rw [lstK_step (by have := HN0.out; omega) HX.out HM1.out HM2.out]; simpa using Kd.R_drewN HR.out _⟩, ⟨pw_below_drewN HBq.out _⟩⟩
                case measure => simp [intOf]; omega
              · go_quiet ((first | (go_at_call 36; with_reducible exact HQ1.out _) | (go_at_call 36; with_reducible exact HQ2.out _)))
                have HRq : Aside0 (dI.R 3 (wr.drewN nq) w.heap.size (fun j => wL.heap.size ≤ j) u9 (lstK l0 (fun x => decide (x ∈ l1)) q)) := ⟨Kd.R_drewN HR.out _⟩
                have HBqn : Aside0 (Below wL.heap.size wL (wr.drewN nq)) := ⟨pw_below_drewN HBq.out _⟩
                have HBwn : Aside0 (Below w.heap.size w (wr.drewN nq)) := ⟨pw_below_drewN HBw.out _⟩
                have HL4 : Aside0 ((lstK l0 (fun x => decide (x ∈ l1)) q).length ≤ 60) := ⟨by have := lstK_len l0 (fun x => decide (x ∈ l1)) q; omega⟩
                cases m2
                · go_wp2_with (at_builtin; refine Kd.R_append (Kd.int .i64) (w0 := w) w.heap.size rfl (.tmp 88) (.tmp 93) 22 3 (.int .i64 0) 8 rfl Try.underlying22 info3 rfl (by decide) (by omega) u9 (lstK l0 (fun x => decide (x ∈ l1)) q) x [.int .i64 x] (fun j => wL.heap.size ≤ j) (fun _ => False) rfl rfl ?aP (fun _ hk => hk.elim) ?aF ?aO ?aB ?aS ?aL ?_; (case aP => exact rfl); (case aB => exact HBwn.out); (case aF => exact (fun k hk => Nat.le_trans HBqn.out.size hk)); (case aO => exact HRq.out); (case aS => exact HBwn.out.size); (case aL => have := HL4.out; omega); intro v8 w8 ho8 _ hg8 _; have HO8 := Aside0.mk ho8; have HB8 := Aside0.mk (HBqn.out.grown hg8 HBqn.out.size (fun j e => HRq.out.1 j e)); clear ho8 hg8)
                  go_roundw
                  case rel => exact ⟨q + 1, by omega, by go_num, ⟨by rw [lstK_step (by have := HN0.out; omega) HX.out HM1.out HM2.out]; exact HO8.out⟩, HB8⟩
                  case measure => simp [intOf]; omega
                · go_wp2
                  go_roundw
                  case rel => exact ⟨q + 1, by omega, by go_num, ⟨by rw [lstK_step (by have := HN0.out; omega) HX.out HM1.out HM2.out]; simpa using Kd.R_drewN HR.out _⟩, ⟨pw_below_drewN HBq.out _⟩⟩
                  case measure => simp [intOf]; omega
            · obtain rfl : q = n0 := by omega
              obtain ⟨wN, rfl⟩ : ∃ x, x = wr := ⟨_, rfl⟩
              have HKN := Aside0.mk (HK.out.later HBq.out)
              have HLI := Aside0.mk (HKN.out.list (by omega))
              go_upto_region 18 with (go_at_call 30; refine HLI.out.mono ?_; rintro e w6 ⟨v6, rfl, ho6, hb6⟩; have HO6 := Aside0.mk ho6; have HB6 := Aside0.mk hb6; clear ho6 hb6)
              obtain ⟨L, eL⟩ : ∃ L, L = lst l0 g := ⟨_, rfl⟩
              have HLL : Aside0 (L.length ≤ 60) := ⟨by rw [eL]; have := lstK_len l0 g l0.length; have := HN0.out; unfold lst; omega⟩
              have HEL := Aside0.mk eL
              clear eL
              have HKM := Aside0.mk (HKN.out.later HB6.out)
              go_wp2
              go_loopw [12, 13] (fun u v w' => ∃ (k2 n2 : Nat) (g2 : Int → Bool), k2 ≤ 61 ∧ v = .int .i64 k2 ∧ Aside0 (WK w w' T b l0 g2 n2 (k + k2)) ∧ n2 ≤ k ∧ Aside0 (lst l0 g2 = L.drop k2) ∧ Aside0 (dI.R 3 w' w.heap.size (fun j => w6.heap.size ≤ j) u (L.take k2)) ∧ Aside0 (Kept w6 w' T)) (fun _ v _ => 61 - (intOf v).toNat)
              case atStart => exact ⟨0, n, g, Nat.zero_le _, rfl, HKM, hn, ⟨by rw [HEL.out, List.drop_zero]⟩, ⟨Kd.R_nil _ _ _ _ _⟩, ⟨Kept.refl _ _⟩⟩
              case round =>
                obtain ⟨k2, n2, g2, hk2, rfl, HW, hn2, HL2, HR3, HKp⟩ := hrel
                by_cases hlt3 : k2 < 61
                · cases n2 with
                  | zero =>
                    have hlen := HW.out.length
                    rw [HL2.out, List.length_drop] at hlen
                    have HNIL : Aside0 (lst l0 g2 = L.drop (k2 + 1) ∧ L.take (k2 + 1) = L.take k2) := ⟨by
                      rw [HL2.out, List.drop_eq_nil_of_le (by omega), List.drop_eq_nil_of_le (by omega), List.take_of_length_le (by omega), List.take_of_length_le (by omega)]
                      exact ⟨rfl, rfl⟩⟩
                    clear hlen
                    have HTN := Aside0.mk (HW.out.take_no rfl).2
                    go_wp2_with (go_at_call 18; refine HTN.out.mono ?_; rintro e wz ⟨rfl, rfl⟩)
                    go_roundw
                    case rel => exact ⟨k2 + 1, 0, g2, by omega, by go_num, ⟨HW.out.same rfl (by omega)⟩, by omega, ⟨HNIL.out.1⟩, ⟨by rw [HNIL.out.2]; exact HR3.out⟩, HKp⟩
                    case measure => simp [intOf]; omega
                  | succ n2 =>
                    obtain ⟨i, hfi, htk⟩ := HW.out.take_yes (by omega) (by omega)
                    have HTK := Aside0.mk htk
                    have HDR : Aside0 (lst l0 (takeg l0 g2) = L.drop (k2 + 1) ∧ L.take (k2 + 1) = L.take k2 ++ [i]) := ⟨by
                      rw [find_lst, HL2.out, List.head?_drop] at hfi
                      rw [lst_takeg, HL2.out, List.tail_drop, List.take_add_one, hfi]
                      exact ⟨rfl, rfl⟩⟩
                    clear hfi htk
                    go_upto_region 24 with (go_at_call 18; refine HTK.out.mono ?_; rintro e w7 ⟨rfl, h7, hk7⟩; have H7 := Aside0.mk h7; have HK7 := Aside0.mk hk7; clear h7 hk7)
                    have HNT : Aside0 (∀ j, w6.heap.size ≤ j → ¬ T j) := ⟨fun j hj ht => by
                      have h1 := (HTL.out j ht).2
                      have h2 := HBq.out.size
                      have h3 := HB6.out.size
                      omega⟩
                    have HR7 : Aside0 (dI.R 3 w7 w.heap.size (fun j => w6.heap.size ≤ j) u12 (L.take k2)) := ⟨Kd.R_kept HR3.out HK7.out HNT.out⟩
                    have HB7 : Aside0 (Below w.heap.size w w7) := ⟨H7.out.bel⟩
                    have HT6 : Aside0 ((L.take k2).length ≤ 60 ∧ w6.heap.size ≤ w7.heap.size) := ⟨by have := HLL.out; rw [List.length_take]; omega, Nat.le_trans HKp.out.1 HK7.out.1⟩
                    go_wp2_with (at_builtin; refine Kd.R_append (Kd.int .i64) (w0 := w) w.heap.size rfl (.tmp 107) (.tmp 109) 22 3 (.int .i64 0) 8 rfl Try.underlying22 info3 rfl (by decide) (by omega) u12 (L.take k2) i [.int .i64 i] (fun j => w6.heap.size ≤ j) (fun _ => False) rfl rfl ?aP (fun _ hk => hk.elim) ?aF ?aO ?aB ?aS ?aL ?_; (case aP => exact rfl); (case aB => exact HB7.out); (case aF => exact (fun k hk => Nat.le_trans HT6.out.2 hk)); (case aO => exact HR7.out); (case aS => exact HB7.out.size); (case aL => have := HT6.out.1; omega); intro v8 w8 ho8 hb8 hg8 _; have HO8 := Aside0.mk ho8; have HK8 : Aside0 (Kept w7 w8 (fun k => some k = u12.ownBlock)) := ⟨Kept.of_grown hg8 (Kept.refl _ _) (fun k e => .inl e.symm)⟩; have HB8 := Aside0.mk hb8; clear ho8 hb8 hg8)
                    go_roundw
                    case rel => exact ⟨k2 + 1, n2, _, by omega, by go_num, ⟨(H7.out.move HK8.out (fun k ht e => HNT.out k (HR7.out.1 k e.symm) ht) HB8.out).same rfl (by omega)⟩, by omega, ⟨HDR.out.1⟩, ⟨by rw [HDR.out.2]; exact HO8.out⟩, ⟨(HKp.out.then_ HK7.out (fun k hk => .inl hk)).then_ HK8.out (fun k e => .inr (HR7.out.1 k e.symm))⟩⟩
                    case measure => simp [intOf]; omega
                · obtain rfl : k2 = 61 := by omega
                  have hz : n2 = 0 := by
                    have := HW.out.length
                    rw [HL2.out, List.length_drop] at this
                    have := HLL.out
                    omega
                  subst hz
                  have HNT : Aside0 (∀ j, wL.heap.size ≤ j → ¬ T j) := ⟨fun j hj ht => by
                    have h1 := (HTL.out j ht).2
                    omega⟩
                  have HGOT : Aside0 (dI.R 3 wr w.heap.size (fun j => w6.heap.size ≤ j) u12 L) := ⟨by have h := HR3.out; rwa [List.take_of_length_le (by have := HLL.out; omega)] at h⟩
                  have HALL : Aside0 (dI.R 3 wr wN.heap.size (fun j => wL.heap.size ≤ j) v6 L) := ⟨by
                    have h1 := Kd.R_mono (Kd.R_bound HO6.out) (ok' := fun j => wL.heap.size ≤ j) (fun j hj => Nat.le_trans HBq.out.size hj.2.1)
                    have h2 := Kd.R_kept h1 HKp.out HNT.out
                    rw [← HEL.out] at h2
                    exact h2⟩
                  have HWANT : Aside0 (dI.R 3 wr w.heap.size (fun j => wL.heap.size ≤ j) u9 L) := ⟨by
                    have h1 := Kd.R_kept (Kd.R_below HR.out HB6.out) HKp.out HNT.out
                    rw [HN0.out] at h1
                    have h2 : lstK l0 (fun x => decide (x ∈ l1)) l0.length = L := by
                      rw [HEL.out]
                      refine lst_congr (fun x hx => ?_)
                      rw [Bool.eq_iff_iff, HG.out x, HN1.out, List.take_length]
                      simp [hx]
                    rwa [h2] at h1⟩
                  obtain ⟨Ag, cg, eg⟩ := Kd.R_slice HGOT.out
                  obtain ⟨Aa, ca, ea⟩ := Kd.R_slice HALL.out
                  obtain ⟨Aw, cw, ew⟩ := Kd.R_slice HWANT.out
                  subst eg
                  subst ea
                  subst ew
                  obtain ⟨_, hcg, hCg⟩ := Kd.R_reads' HGOT.out
                  obtain ⟨_, hca, hCa⟩ := Kd.R_reads' HALL.out
                  obtain ⟨_, hcw, hCw⟩ := Kd.R_reads' HWANT.out
                  have hi1 := Ints_c Ag cg L Aw cw L wr hCg hcg hCw hcw (by have := HLL.out; omega)
                  rw [decide_eq_true rfl] at hi1
                  have HI1 := Aside0.mk hi1
                  have HI2 : Aside0 (∀ W, Below wr.heap.size wr W → Calls Try.prog 28 #[.slice Aa L.length ca, .slice Aw L.length cw] W fun e w' => e = .returned (.bool true) ∧ Below W.heap.size W w') := ⟨fun W hW => by
                    have h := Ints_c Aa ca L Aw cw L W (Kd.C_below hCa hW) hca (Kd.C_below hCw hW) hcw (by have := HLL.out; omega)
                    rw [decide_eq_true rfl] at h
                    exact h⟩
                  obtain ⟨nL, enL⟩ : ∃ nL, nL = L.length := ⟨_, rfl⟩
                  rw [← enL] at HI1 HI2 ⊢
                  clear hi1 hcg hCg hca hCa hcw hCw enL
                  go_wp2_with (first | (go_at_call 28; with_reducible refine HI1.out.mono ?_; rintro e w11 ⟨rfl, hb11⟩; have HB11 := Aside0.mk hb11; clear hb11; have HI2' := Aside0.mk (HI2.out w11 HB11.out); have HW11 := Aside0.mk (HW.out.later HB11.out)) | (go_at_call 28; with_reducible refine HI2'.out.mono ?_; rintro e w12 ⟨rfl, hb12⟩; have HW12 := Aside0.mk (HW11.out.later hb12); clear hb12; have HLE := Aside0.mk HW12.out.len) | (go_at_call 17; refine HLE.out.mono ?_; rintro e wz ⟨rfl, rfl⟩))
                  go_ret
                  exact ⟨rfl, HW12.out.bel⟩
    · have d0 : decide ((60 : Int) < (n0 : Int)) = false := by simp; omega
      have d1 : decide ((80 : Int) < (n1 : Int)) = true := by simp; omega
      go_enter Try.func11, Try.ntmps11
      go_wp2_with (go_at_call 14; refine (awake16_c _).mono ?_; rintro e w1 ⟨rfl, hb1⟩; have HB1 := Aside0.mk hb1; clear hb1)
      go_ret
      exact ⟨rfl, HB1.out⟩
  · have d0 : decide ((60 : Int) < (n0 : Int)) = true := by simp; omega
    go_enter Try.func11, Try.ntmps11
    go_wp2_with (go_at_call 14; refine (awake16_c _).mono ?_; rintro e w1 ⟨rfl, hb1⟩; have HB1 := Aside0.mk hb1; clear hb1)
    go_ret
    exact ⟨rfl, HB1.out⟩

end Go.Proofs.Ytnhcimhdkdgccaa.P
