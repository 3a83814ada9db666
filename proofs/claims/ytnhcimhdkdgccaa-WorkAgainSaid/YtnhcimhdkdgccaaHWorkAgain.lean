/- WorkAgain's walk: true. -/
import Derived.Test.YtnhcimhdkdgccaaGawake16
namespace Go.Proofs.Ytnhcimhdkdgccaa.P
open Go.RowKit Go.Shelf Go.Lib Go.Sort Go.Maps Go.Proofs.YtnhcimhdkdgccaaW.PrintWords Go.Proofs.YtnhcimhdkdgccaaW.PrintLast Go.Proofs.YtnhcimhdkdgccaaW.PrintMore

set_option maxHeartbeats 8000000 in
set_option maxRecDepth 100000 in
theorem WorkAgain_c (A0 : Option Addr) (c0 : Nat) (l0 : List Int) (A1 : Option Addr) (c1 : Nat) (l1 : List Int) (a2 : Int) (w : World) (hC0 : dI.C w A0 l0.length l0) (_ : l0.length ≤ c0) (hC1 : dI.C w A1 l1.length l1) (_ : l1.length ≤ c1)
    (_ : l0.length ≤ 9223372036854775807) (hw0 : ∀ y ∈ l0, (Lit.int .i64 y).wf = true) (_ : l1.length ≤ 9223372036854775807) (hw1 : ∀ y ∈ l1, (Lit.int .i64 y).wf = true) (hw2 : (Lit.int .i64 a2).wf = true) :
    Calls Try.prog 3 #[.slice A0 l0.length c0, .slice A1 l1.length c1, .int .i64 a2] w fun e w' => e = .returned (.bool true) ∧ Below w.heap.size w w' := by
  have HC0 := Aside0.mk hC0
  have HC1 := Aside0.mk hC1
  have HW0 := Aside0.mk hw0
  have HW1 := Aside0.mk hw1
  have HW2 := Aside0.mk hw2
  obtain ⟨n0, en0⟩ : ∃ n, n = l0.length := ⟨_, rfl⟩
  obtain ⟨n1, en1⟩ : ∃ n, n = l1.length := ⟨_, rfl⟩
  have HN0 := Aside0.mk en0
  have HN1 := Aside0.mk en1
  rw [← en0, ← en1]
  rename_i _ _ hb0 hb1
  rw [← en0] at hb0
  rw [← en1] at hb1
  clear hC0 hC1 hw0 hw1 hw2 en0 en1
  by_cases h60 : n0 ≤ 60
  · by_cases h80 : n1 ≤ 80
    · have d0 : decide ((60 : Int) < (n0 : Int)) = false := by simp; omega
      have d1 : decide ((80 : Int) < (n1 : Int)) = false := by simp; omega
      go_enter Try.func3, Try.ntmps3
      go_upto_region 4 with (go_at_call 14; refine (awake16_c _).mono ?_; rintro e w1 ⟨rfl, hb1⟩; have HB1 := Aside0.mk hb1; clear hb1)
      have HNW := Aside0.mk (WK.new (w0 := w) (w := w1) (A := A0) (c := c0) (ord := l0) (Kd.C_below HC0.out HB1.out) HB1.out (by have := HN0.out; omega) HW0.out)
      rw [← HN0.out] at HNW
      go_wp2_with (go_at_call 15; refine HNW.out.mono ?_; rintro e w2 ⟨b, T, rfl, h2, _, _⟩; have H2 := Aside0.mk h2; clear h2)
      go_loopw [9] (fun v wr => ∃ (k : Nat) (T : Nat → Prop) (g : Int → Bool) (n : Nat), k ≤ n1 ∧ v = .int .i64 k ∧ Aside0 (WK w wr T b l0 g n k) ∧ n ≤ k) (fun v _ => n1 - (intOf v).toNat)
      case atStart => exact ⟨0, T, fun _ => false, 0, Nat.zero_le _, rfl, H2, Nat.le_refl _⟩
      case round =>
        obtain ⟨k, T', g, n, hk, rfl, HK, hn⟩ := hrel
        by_cases hlt : k < n1
        · obtain ⟨bb, off, e, _, hc⟩ := C_ints HC1.out (by have := HN1.out; omega)
          subst e
          have hx0 := (HK.out.bel.cell (p := ⟨bb, off + k, none⟩) (World.block_lt_of_cell? _ _ (hc k (by have := HN1.out; omega)))).trans (hc k (by have := HN1.out; omega))
          have hxw : (Lit.int .i64 (l1.getD k 0)).wf = true := by
            have hkl : k < l1.length := by have := HN1.out; omega
            rw [List.getD_eq_getElem?_getD, List.getElem?_eq_getElem hkl]
            exact HW1.out _ (List.getElem_mem hkl)
          obtain ⟨x, ex⟩ : ∃ x, x = l1.getD k 0 := ⟨_, rfl⟩
          rw [← ex] at hx0 hxw
          have HP := Aside0.mk (HK.out.put hxw (by omega) (by have : (1000000 : Nat) < maxLen := by decide
                                                              omega))
          clear hc ex hxw
          go_wp2_with (go_at_call 16; refine HP.out.mono ?_; rintro e w3 ⟨rfl, ⟨T3, h3, _⟩, _⟩; have H3 := Aside0.mk h3; clear h3)
          go_roundw
          case rel => exact ⟨k + 1, T3, _, _, by omega, by go_num, H3, by split <;> omega⟩
          case measure => simp [intOf]; omega
        · have hbig : (1000000 : Nat) < maxLen := by decide
          cases n with
          | zero =>
            have HTO := Aside0.mk (HK.out.take_no rfl).2
            have HL := Aside0.mk HK.out.len
            have HBE := Aside0.mk HK.out.bel
            go_wp2_with (first | (go_at_call 17; refine HL.out.mono ?_; rintro e wz ⟨rfl, rfl⟩) | (go_at_call 18; refine HTO.out.mono ?_; rintro e wz ⟨rfl, rfl⟩))
            go_ret
            exact ⟨rfl, HBE.out⟩
          | succ n =>
            have HL1 := Aside0.mk HK.out.len
            obtain ⟨i, hfi, htk⟩ := HK.out.take_yes (by omega) (by omega)
            have HTK := Aside0.mk htk
            have HFI := Aside0.mk hfi
            clear hfi htk
            go_upto_region 13 with (first | (go_at_call 17; refine HL1.out.mono ?_; rintro e wz ⟨rfl, rfl⟩) | (go_at_call 18; refine HTK.out.mono ?_; rintro e w3 ⟨rfl, h3, _⟩; have H3 := Aside0.mk h3; clear h3))
            have HL2 := Aside0.mk H3.out.len
            have hp := H3.out.put (HW0.out _ (List.mem_of_find?_eq_some HFI.out)) (by omega) (by omega)
            rw [putr_taken HFI.out, putg_taken HFI.out] at hp
            have HP2 := Aside0.mk hp
            clear hp
            go_upto_region 15 with (first | (go_at_call 17; refine HL2.out.mono ?_; rintro e wz ⟨rfl, rfl⟩) | (go_at_call 16; refine HP2.out.mono ?_; rintro e w4 ⟨rfl, ⟨T4, h4, _⟩, _⟩; have H4 := Aside0.mk h4; clear h4))
            obtain ⟨i', hfi', htk2⟩ := H4.out.take_yes (n := n) (by omega) (by omega)
            obtain rfl : i = i' := Option.some.inj (HFI.out.symm.trans hfi')
            have HTK2 := Aside0.mk htk2
            clear hfi' htk2
            go_upto_region 16 with (go_at_call 18; refine HTK2.out.mono ?_; rintro e w5 ⟨rfl, h5, _⟩; have H5 := Aside0.mk h5; clear h5)
            obtain ⟨r, er⟩ : ∃ r, r = putr l0 (takeg l0 g) a2 := ⟨_, rfl⟩
            have hp := H5.out.put HW2.out (by omega) (by omega)
            rw [← er] at hp
            have HP3 := Aside0.mk hp
            clear hp er
            go_upto_region 17 with (go_at_call 16; refine HP3.out.mono ?_; rintro e w6 ⟨rfl, ⟨T6, h6, _⟩, _⟩; have H6 := Aside0.mk h6; clear h6)
            obtain ⟨n6, en6⟩ : ∃ n6, n6 = n + if r = true then 1 else 0 := ⟨_, rfl⟩
            rw [← en6] at H6
            have hn6 : n6 ≤ n + 1 := by rw [en6]; split <;> omega
            have ew : (((n + 1 : Nat) : Int) - 1) = (n : Int) := by omega
            cases n6 with
            | zero =>
              obtain rfl : r = false := by
                cases r with
                | true => simp at en6
                | false => rfl
              clear en6
              have HTO := Aside0.mk (H6.out.take_no rfl).2
              have HBE := Aside0.mk H6.out.bel
              go_wp2_with (go_at_call 18; refine HTO.out.mono ?_; rintro e wz ⟨rfl, rfl⟩)
              go_ret
              exact ⟨by simp, HBE.out⟩
            | succ n6 =>
              clear en6
              obtain ⟨c, hfc, htk3⟩ := H6.out.take_yes (by omega) (by omega)
              have HTK3 := Aside0.mk htk3
              have HFC := Aside0.mk hfc
              clear hfc htk3
              go_upto_region 18 with (go_at_call 18; refine HTK3.out.mono ?_; rintro e w7 ⟨rfl, h7, _⟩; have H7 := Aside0.mk h7; clear h7)
              have hh := H7.out.has (HW0.out _ (List.mem_of_find?_eq_some HFC.out))
              rw [takeg_taken HFC.out] at hh
              have HH := Aside0.mk hh
              have HBE := Aside0.mk H7.out.bel
              clear hh
              go_wp2_with (go_at_call 19; refine HH.out.mono ?_; rintro e wz ⟨rfl, rfl⟩)
              all_goals
                go_ret
                exact ⟨rfl, HBE.out⟩
    · have d0 : decide ((60 : Int) < (n0 : Int)) = false := by simp; omega
      have d1 : decide ((80 : Int) < (n1 : Int)) = true := by simp; omega
      go_enter Try.func3, Try.ntmps3
      go_wp2_with (go_at_call 14; refine (awake16_c _).mono ?_; rintro e w1 ⟨rfl, hb1⟩; have HB1 := Aside0.mk hb1; clear hb1)
      go_ret
      exact ⟨rfl, HB1.out⟩
  · have d0 : decide ((60 : Int) < (n0 : Int)) = true := by simp; omega
    go_enter Try.func3, Try.ntmps3
    go_wp2_with (go_at_call 14; refine (awake16_c _).mono ?_; rintro e w1 ⟨rfl, hb1⟩; have HB1 := Aside0.mk hb1; clear hb1)
    go_ret
    exact ⟨rfl, HB1.out⟩

end Go.Proofs.Ytnhcimhdkdgccaa.P
