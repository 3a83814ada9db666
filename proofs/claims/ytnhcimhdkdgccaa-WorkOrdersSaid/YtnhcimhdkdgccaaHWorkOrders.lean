/- WorkOrders's walk: true. -/
import Derived.Test.YtnhcimhdkdgccaaGawake16
import Derived.Test.YtnhcimhdkdgccaaHtwo
namespace Go.Proofs.Ytnhcimhdkdgccaa.P
open Go.RowKit Go.Shelf Go.Lib Go.Sort Go.Maps Go.Proofs.YtnhcimhdkdgccaaW.PrintWords Go.Proofs.YtnhcimhdkdgccaaW.PrintLast Go.Proofs.YtnhcimhdkdgccaaW.PrintMore

theorem putg_iff {ord : List Int} {g : Int → Bool} {p : Int → Prop} (h : ∀ x, g x = true ↔ x ∈ ord ∧ p x) (y : Int) : ∀ x, putg ord g y x = true ↔ x ∈ ord ∧ (p x ∨ x = y) := by
  intro x
  unfold putg
  by_cases e : putr ord g y = true ∧ x = y
  · rw [if_pos e]
    have := (putr_true e.1).1
    simp [e.2, this]
  · rw [if_neg e, h x]
    constructor
    · rintro ⟨h1, h2⟩
      exact ⟨h1, .inl h2⟩
    · rintro ⟨h1, h2 | h2⟩
      · exact ⟨h1, h2⟩
      · subst h2
        cases e2 : putr ord g x with
        | true => exact absurd ⟨e2, rfl⟩ e
        | false =>
          rcases putr_false e2 with e3 | e3
          · exact (h x).1 e3
          · exact absurd h1 (plc_none.1 e3)

theorem take_mem {l : List Int} {i : Nat} (hi : i < l.length) (x : Int) : x ∈ l.take (i + 1) ↔ x ∈ l.take i ∨ x = l.getD i 0 := by
  rw [List.take_add_one, List.getElem?_eq_getElem hi, List.mem_append, List.getD_eq_getElem?_getD, List.getElem?_eq_getElem hi]
  simp
theorem drop_mem {l : List Int} {i : Nat} (hi : i < l.length) (x : Int) : x ∈ l.drop (l.length - (i + 1)) ↔ x ∈ l.drop (l.length - i) ∨ x = l.getD (l.length - 1 - i) 0 := by
  have hm : l.length - 1 - i < l.length := by omega
  rw [show l.length - (i + 1) = l.length - 1 - i by omega, List.drop_eq_getElem_cons hm, List.getD_eq_getElem?_getD, List.getElem?_eq_getElem hm, show l.length - 1 - i + 1 = l.length - i by omega]
  rw [List.mem_cons, or_comm]
  rfl

theorem and15 (x : Int) : ∃ m : Nat, bits BinOp.and IntKind.i64 x 15 = (m : Int) ∧ m ≤ 15 := by
  have hle : (BitVec.ofInt 64 x &&& BitVec.ofInt 64 15).toNat ≤ 15 := by
    rw [BitVec.toNat_and]
    exact Nat.and_le_right
  refine ⟨(BitVec.ofInt 64 x &&& BitVec.ofInt 64 15).toNat, ?_, hle⟩
  show IntKind.i64.wrap (((BitVec.ofInt 64 x &&& BitVec.ofInt 64 15).toNat : Nat) : Int) = _
  generalize (BitVec.ofInt 64 x &&& BitVec.ofInt 64 15).toNat = n at hle
  have e : (n : Int) % 2 ^ 64 = n := Int.emod_eq_of_lt (by omega) (by omega)
  simp only [IntKind.wrap, IntKind.bits, IntKind.signed, e]
  rw [if_neg]
  simp
  omega

set_option maxHeartbeats 8000000 in
set_option maxRecDepth 100000 in
theorem WorkOrders_c (A0 : Option Addr) (c0 : Nat) (l0 : List Int) (A1 : Option Addr) (c1 : Nat) (l1 : List Int) (a2 : Int) (w : World) (hC0 : dI.C w A0 l0.length l0) (_ : l0.length ≤ c0) (hC1 : dI.C w A1 l1.length l1) (_ : l1.length ≤ c1)
    (_ : l0.length ≤ 9223372036854775807) (hw0 : ∀ y ∈ l0, (Lit.int .i64 y).wf = true) (_ : l1.length ≤ 9223372036854775807) (hw1 : ∀ y ∈ l1, (Lit.int .i64 y).wf = true) (hw2 : (Lit.int .i64 a2).wf = true) :
    Calls Try.prog 8 #[.slice A0 l0.length c0, .slice A1 l1.length c1, .int .i64 a2] w fun e w' => e = .returned (.bool true) ∧ Below w.heap.size w w' := by
  have HC0 := Aside0.mk hC0
  have HC1 := Aside0.mk hC1
  have HW0 := Aside0.mk hw0
  have HW1 := Aside0.mk hw1
  have HW2 := Aside0.mk hw2
  obtain ⟨n0, en0⟩ : ∃ n, n = l0.length := ⟨_, rfl⟩
  obtain ⟨n1, en1⟩ : ∃ n, n = l1.length := ⟨_, rfl⟩
  have HN0 := Aside0.mk en0
  have HN1 := Aside0.mk en1
  rw [← en0, ← en1]
  rename_i _ _ hb0 hb1
  rw [← en0] at hb0
  rw [← en1] at hb1
  clear hC0 hC1 hw0 hw1 hw2 en0 en1
  have hbig : (1000000 : Nat) < maxLen := by decide
  by_cases h60 : n0 ≤ 60
  · by_cases h80 : n1 ≤ 80
    · have d0 : decide ((60 : Int) < (n0 : Int)) = false := by simp; omega
      have d1 : decide ((80 : Int) < (n1 : Int)) = false := by simp; omega
      go_enter Try.func8, Try.ntmps8
      go_upto_region 4 with (go_at_call 14; refine (awake16_c _).mono ?_; rintro e w1 ⟨rfl, hb1⟩; have HB1 := Aside0.mk hb1; clear hb1)
      have HNW := Aside0.mk (WK.new (w0 := w) (w := w1) (A := A0) (c := c0) (ord := l0) (Kd.C_below HC0.out HB1.out) HB1.out (by have := HN0.out; omega) HW0.out)
      rw [← HN0.out] at HNW
      go_upto_region 5 with (go_at_call 15; refine HNW.out.mono ?_; rintro e w2 ⟨a, T, rfl, h2, _, _⟩; have H2 := Aside0.mk h2; clear h2)
      have HNW2 := Aside0.mk (Two.new (c := c0) H2.out (Kd.C_below HC0.out H2.out.bel) (by have := HN0.out; omega) HW0.out)
      rw [← HN0.out] at HNW2
      go_wp2_with (go_at_call 15; refine HNW2.out.mono ?_; rintro e w3 ⟨b, rfl, h3⟩; have H3 := Aside0.mk h3; clear h3)
      clear H2 HNW HNW2
      go_loopw [10, 11] (fun v u wr => ∃ (i na nb : Nat) (ga gb : Int → Bool), i ≤ n1 ∧ v = .int .i64 na ∧ u = .int .i64 i ∧ Aside0 (Two w wr a b l0 ga gb na nb (2 * i)) ∧ na ≤ i ∧ nb ≤ i ∧ Aside0 (∀ x, ga x = true ↔ x ∈ l0 ∧ x ∈ l1.take i) ∧ Aside0 (∀ x, gb x = true ↔ x ∈ l0 ∧ x ∈ l1.drop (l1.length - i))) (fun _ v _ => n1 - (intOf v).toNat)
      case atStart => exact ⟨0, 0, 0, fun _ => false, fun _ => false, Nat.zero_le _, rfl, rfl, H3, Nat.le_refl _, Nat.le_refl _, ⟨fun x => by simp⟩, ⟨fun x => by simp⟩⟩
      case round =>
        obtain ⟨i, na, nb, ga, gb, hi, rfl, rfl, HK, hna, hnb, HGA, HGB⟩ := hrel
        by_cases hlt : i < n1
        · obtain ⟨bb, off, e, _, hc⟩ := C_ints HC1.out (by have := HN1.out; omega)
          subst e
          have hx0 := (HK.out.bel.cell (p := ⟨bb, off + i, none⟩) (World.block_lt_of_cell? _ _ (hc i (by have := HN1.out; omega)))).trans (hc i (by have := HN1.out; omega))
          have hxw : ∀ k, k < n1 → (Lit.int .i64 (l1.getD k 0)).wf = true := fun k hk => by
            have hkl : k < l1.length := by have := HN1.out; omega
            rw [List.getD_eq_getElem?_getD, List.getElem?_eq_getElem hkl]
            exact HW1.out _ (List.getElem_mem hkl)
          obtain ⟨j, ej⟩ : ∃ j, j = n1 - 1 - i := ⟨_, rfl⟩
          have hy := hc j (by have := HN1.out; omega)
          have hyb : bb < w.heap.size := World.block_lt_of_cell? _ ⟨bb, off + j, none⟩ hy
          obtain ⟨x, ex⟩ : ∃ x, x = l1.getD i 0 := ⟨_, rfl⟩
          obtain ⟨y, ey⟩ : ∃ y, y = l1.getD j 0 := ⟨_, rfl⟩
          have hxx := hxw i hlt
          have hyy := hxw j (by omega)
          rw [← ex] at hx0 hxx
          rw [← ey] at hy hyy
          have HY := Aside0.mk hy
          have HX := Aside0.mk ex
          have HEY := Aside0.mk ey
          have HYY := Aside0.mk hyy
          obtain ⟨r, er⟩ : ∃ r, r = putr l0 ga x := ⟨_, rfl⟩
          have hp := HK.out.put hxx (by omega) (by omega)
          rw [← er] at hp
          have HP := Aside0.mk hp
          have HR := Aside0.mk er
          clear hc hxw hxx hyy hp hy ex ey er
          cases r
          all_goals
           go_upto_region 12 with (go_at_call 16; refine HP.out.mono ?_; rintro e w4 ⟨rfl, h4⟩; have H4 := Aside0.mk h4; clear h4)
           have hp2 := H4.out.swap.put HYY.out (by omega) (by omega)
           have HP2 := Aside0.mk hp2
           have hy4 : w4.cell? ⟨bb, off + (n1 - 1 - i), none⟩ = some (.int .i64 y) := by rw [← ej]; exact (H4.out.bel.cell (p := ⟨bb, off + j, none⟩) hyb).trans HY.out
           clear hp2
           go_wp2_with (go_at_call 16; refine HP2.out.mono ?_; rintro e w5 ⟨rfl, h5⟩; have H5 := Aside0.mk h5.swap; clear h5)
           go_roundw
           case rel =>
             refine ⟨i + 1, _, _, _, _, by omega, by simp, by go_num, H5, by simp; try omega, by split <;> omega, ⟨fun z => ?_⟩, ⟨fun z => ?_⟩⟩
             · rw [putg_iff HGA.out x z, take_mem (by have := HN1.out; omega), HX.out]
             · rw [putg_iff HGB.out y z, drop_mem (by have := HN1.out; omega), HEY.out, ej, HN1.out]
           case measure => simp [intOf]; omega
        · obtain rfl : i = n1 := by omega
          have hg : ga = gb := by
            funext x
            rw [Bool.eq_iff_iff, HGA.out x, HGB.out x, HN1.out, List.take_length, Nat.sub_self, List.drop_zero]
          subst hg
          have hnn : na = nb := HK.out.length.trans HK.out.swap.length.symm
          subst hnn
          have HLA := Aside0.mk (HK.out.list (by omega))
          have HLE := Aside0.mk HK.out.len
          obtain ⟨ls, els⟩ : ∃ ls, ls = lst l0 ga := ⟨_, rfl⟩
          have HLS : Aside0 (na = ls.length) := ⟨by rw [els]; exact HK.out.length⟩
          rw [← els] at HLA
          go_upto_region 14 with (first | (go_at_call 30; with_reducible refine HLA.out.mono ?_; rintro e w6 ⟨A6, c6, rfl, hC6, hc6, hb6⟩; have HC6 := Aside0.mk hC6; have HB6 := Aside0.mk hb6; have HK6 := Aside0.mk (HK.out.later hb6); clear hC6 hb6; have HLB := Aside0.mk (HK6.out.swap.list (by omega)); rw [← els] at HLB) | (go_at_call 30; with_reducible refine HLB.out.mono ?_; rintro e w7 ⟨A7, c7, rfl, hC7, hc7, hb7⟩; have HK7 := Aside0.mk (HK6.out.later hb7); have hIN := Ints_c A6 c6 ls A7 c7 ls w7 (by rw [← HLS.out]; exact Kd.C_below HC6.out hb7) (by rw [← HLS.out]; exact hc6) (by rw [← HLS.out]; exact hC7) (by rw [← HLS.out]; exact hc7) (by rw [← HLS.out]; omega); rw [← HLS.out, decide_eq_true rfl] at hIN; have HIN := Aside0.mk hIN; clear hC7 hb7 hIN) | (go_at_call 28; refine HIN.out.mono ?_; rintro e w8 ⟨rfl, hb8⟩; have HK8 := Aside0.mk (HK7.out.later hb8); clear hb8; have HLE8 := Aside0.mk HK8.out.len) | (go_at_call 17; refine HLE8.out.mono ?_; rintro e wz ⟨rfl, rfl⟩))
          obtain ⟨mN, em, hm⟩ := and15 a2
          rw [em]
          go_loopw [13] (fun v wr => ∃ (k n : Nat) (g : Int → Bool), k ≤ mN ∧ v = .int .i64 k ∧ Aside0 (Two w wr a b l0 g g n n (2 * i + 2 * k)) ∧ Aside0 (n = na - k)) (fun v _ => mN - (intOf v).toNat)
          case atStart => exact ⟨0, na, ga, Nat.zero_le _, rfl, HK8, ⟨rfl⟩⟩
          case round =>
            obtain ⟨k, n, g, hk, rfl, HQ, HNK⟩ := hrel
            have hnna : n ≤ na := by have := HNK.out; omega
            by_cases hlt2 : k < mN
            · cases n with
              | zero =>
                have hkn : ¬ (k < na) := by have := HNK.out; omega
                have HTA := Aside0.mk HQ.out.take_no
                have HTB := Aside0.mk HQ.out.swap.take_no
                go_upto_region 20 with (go_at_call 18; with_reducible refine HTA.out.mono ?_; rintro e wz ⟨rfl, rfl⟩)
                go_wp2_with (go_at_call 18; with_reducible refine HTB.out.mono ?_; rintro e wz ⟨rfl, rfl⟩)
                go_roundw
                case rel => exact ⟨k + 1, 0, g, by omega, by go_num, ⟨by obtain ⟨Ta, Tb, q1, q2, q3⟩ := HQ.out; exact ⟨Ta, Tb, q1.same rfl (by omega), q2.same rfl (by omega), q3⟩⟩, ⟨by have := HNK.out; omega⟩⟩
                case measure => simp [intOf]; omega
              | succ n =>
                have hkn : k < na := by have := HNK.out; omega
                obtain ⟨y1, hy1, ht1⟩ := HQ.out.take (by omega) (by omega)
                have HT1 := Aside0.mk ht1
                have HY1 := Aside0.mk hy1
                clear ht1 hy1
                go_upto_region 20 with (go_at_call 18; with_reducible refine HT1.out.mono ?_; rintro e w10 ⟨rfl, h10⟩; have H10 := Aside0.mk h10; clear h10)
                obtain ⟨y2, hy2, ht2⟩ := H10.out.swap.take (na := n) (by omega) (by omega)
                obtain rfl : y1 = y2 := Option.some.inj (HY1.out.symm.trans hy2)
                have HT2 := Aside0.mk ht2
                clear ht2 hy2
                go_wp2_with (go_at_call 18; with_reducible refine HT2.out.mono ?_; rintro e w11 ⟨rfl, h11⟩; have H11 := Aside0.mk h11.swap; clear h11)
                go_roundw
                case rel => exact ⟨k + 1, n, _, by omega, by go_num, H11, ⟨by have := HNK.out; omega⟩⟩
                case measure => simp [intOf]; omega
            · obtain rfl : k = mN := by omega
              have HLQ := Aside0.mk HQ.out.len
              have HLQA := Aside0.mk (HQ.out.list (by omega))
              obtain ⟨ls2, els2⟩ : ∃ ls, ls = lst l0 g := ⟨_, rfl⟩
              have HLS2 : Aside0 (n = ls2.length) := ⟨by rw [els2]; exact HQ.out.length⟩
              rw [← els2] at HLQA
              go_wp2_with (first | (go_at_call 17; refine HLQ.out.mono ?_; rintro e wz ⟨rfl, rfl⟩) | (go_at_call 30; with_reducible refine HLQA.out.mono ?_; rintro e w16 ⟨A16, c16, rfl, hC16, hc16, hb16⟩; have HC16 := Aside0.mk hC16; have HQ16 := Aside0.mk (HQ.out.later hb16); clear hC16 hb16; have HLQB := Aside0.mk (HQ16.out.swap.list (by omega)); rw [← els2] at HLQB) | (go_at_call 30; with_reducible refine HLQB.out.mono ?_; rintro e w17 ⟨A17, c17, rfl, hC17, hc17, hb17⟩; have HQ17 := Aside0.mk (HQ16.out.later hb17); have hIN2 := Ints_c A16 c16 ls2 A17 c17 ls2 w17 (by rw [← HLS2.out]; exact Kd.C_below HC16.out hb17) (by rw [← HLS2.out]; exact hc16) (by rw [← HLS2.out]; exact hC17) (by rw [← HLS2.out]; exact hc17) (by rw [← HLS2.out]; omega); rw [← HLS2.out, decide_eq_true rfl] at hIN2; have HIN2 := Aside0.mk hIN2; clear hC17 hb17 hIN2) | (go_at_call 28; refine HIN2.out.mono ?_; rintro e w18 ⟨rfl, hb18⟩; have HQ18 := Aside0.mk (HQ17.out.later hb18); clear hb18))
              · go_ret
                exact ⟨rfl, HQ18.out.bel⟩
              · rename_i hmx
                exact absurd (by have := HNK.out; omega) hmx
    · have d0 : decide ((60 : Int) < (n0 : Int)) = false := by simp; omega
      have d1 : decide ((80 : Int) < (n1 : Int)) = true := by simp; omega
      go_enter Try.func8, Try.ntmps8
      go_wp2_with (go_at_call 14; refine (awake16_c _).mono ?_; rintro e w1 ⟨rfl, hb1⟩; have HB1 := Aside0.mk hb1; clear hb1)
      go_ret
      exact ⟨rfl, HB1.out⟩
  · have d0 : decide ((60 : Int) < (n0 : Int)) = true := by simp; omega
    go_enter Try.func8, Try.ntmps8
    go_wp2_with (go_at_call 14; refine (awake16_c _).mono ?_; rintro e w1 ⟨rfl, hb1⟩; have HB1 := Aside0.mk hb1; clear hb1)
    go_ret
    exact ⟨rfl, HB1.out⟩

end Go.Proofs.Ytnhcimhdkdgccaa.P
