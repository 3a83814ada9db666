/- Work.List: what is left, in order. -/
import Derived.Test.YtnhcimhdkdgccaaHwork3
import Derived.Test.YtnhcimhdkdgccaaGwork3
import Derived.Lib.SliceRun
import Derived.Maps.AppendAt
namespace Go.Proofs.Ytnhcimhdkdgccaa.P
open Go.RowKit Go.Shelf Go.Lib Go.Sort Go.Maps Go.Proofs.YtnhcimhdkdgccaaW.PrintWords Go.Proofs.YtnhcimhdkdgccaaW.PrintLast Go.Proofs.YtnhcimhdkdgccaaW.PrintMore

theorem m_all (p : Nat) (w : World) : (method 248 72 (.pointer (some ⟨p, 0, none⟩)) "bywash/work.all").run Try.prog w = .ok (118, .pointer (some ⟨p, 0, none⟩)) w := by kernel_rfl
theorem e_all (args : Array Value) (w : World) : (callFunc 118 args).run Try.prog w = .ok (.enter 118 args) w := by kernel_rfl
theorem u_all {p : Nat} {w : World} : (((method 248 72 (.pointer (some ⟨p, 0, none⟩)) "bywash/work.all").run Try.prog w).andThen fun a w' => (callFunc a.fst #[a.snd]).run Try.prog w') = .ok (.enter 118 #[.pointer (some ⟨p, 0, none⟩)]) w := by
  rw [m_all, Result.andThen_ok, e_all]

set_option maxHeartbeats 2000000 in
set_option maxRecDepth 100000 in
theorem pclone_c (A : Option Addr) (c : Nat) (xs : List Int) (w : World) (h : dI.C w A xs.length xs) (hb : xs.length * 8 ≤ 140737488355328) :
    Calls Try.prog 119 #[.slice A xs.length c] w fun e w' => ∃ v, e = .returned v ∧ dI.R 3 w' w.heap.size (fun _ => True) v xs ∧ Below w.heap.size w w' := by
  have q : ∀ (w : World) (a : Option Addr) (n c n' c' : Nat), (binOp .eql 73 (.slice a n c) (.slice none n' c')).run Try.prog w = .ok (.bool a.isNone) w := fun w a n c n' c' => Lib.run_eql_slice_nil w _ _ a n c n' c' Try.underlying73
  cases A with
  | none =>
    have hn : xs.length = 0 := by
      rcases Nat.eq_zero_or_pos xs.length with h0 | h0
      · exact h0
      · obtain ⟨ad, he, _⟩ := h.2.2 h0
        cases he
    obtain rfl := List.eq_nil_of_length_eq_zero hn
    go_enter Try.func119, Try.ntmps119
    go_wp2
    go_ret
    exact ⟨_, rfl, Kd.R_nil _ _ _ _ _, Below.refl _ _⟩
  | some a =>
    obtain ⟨i0, hi, hz0, hz1, hz2⟩ := info_parts (P := Try.prog) (e := 3) info3
    have HC : Aside0 (∀ j, j < xs.length → (w.alloc (.cells #[] 3)).cell? (a.add j) = some (.int .i64 (xs.getD j 0))) := ⟨fun j hj => by
      obtain ⟨b, off, e, _, hc⟩ := C_ints h (by omega)
      injection e with e
      subst e
      rw [Addr.add_lit]
      exact (World.cell?_alloc_lt w _ ⟨b, off + j, none⟩ (World.block_lt_of_cell? _ _ (hc j hj))).trans (hc j hj)⟩
    obtain ⟨n, en⟩ : ∃ n, n = xs.length := ⟨_, rfl⟩
    have HN := Aside0.mk en
    rw [← en] at hb ⊢
    clear h en
    go_enter Try.func119, Try.ntmps119
    go_wp2_with (at_builtin; refine wpList_append_own _ rfl _ _ 73 rfl w.heap.size 3 i0 (.int .i64 0) 1 8 Try.underlying73 hi hz0 hz1 hz2 rfl (by decide) _ _ _ rfl (World.ownsRow_made w #[] 0 (Nat.le_refl _) (Nat.zero_le _) rfl) a n c (xs.map (Value.int .i64)) rfl ?qc1 ?qc2 ?qc3 ?qc4 ?qc5 ?qc6 ?_)
    case qc1 => have := HN.out; simp; omega
    case qc2 =>
      intro j u hj
      have hjn : j < xs.length := by have := (List.getElem?_eq_some_iff.1 hj).1; simpa using this
      rw [HC.out j hjn, ← hj]
      simp [List.getElem?_eq_getElem hjn, List.getD]
    case qc3 => intro u hu; obtain ⟨x, _, rfl⟩ := List.mem_map.1 hu; rfl
    case qc4 => unfold maxLen; omega
    case qc5 => omega
    case qc6 => simp
    intro v' w1 hown hgrow hnil
    go_wp2
    go_ret
    refine ⟨v', rfl, ints_R (by have := HN.out; simpa [HN.out] using hown) (fun _ _ => trivial), ?_⟩
    exact (below_alloc (Below.refl _ w) _).grown hgrow (by simp) (by intro k hk; simp [Value.ownBlock] at hk; omega)

set_option maxHeartbeats 2000000 in
set_option maxRecDepth 100000 in
theorem all_c {w0 w : World} {p : Nat} {S : Nat → Prop} {v : Value} {xs : List Int} (h : HQ w0 w p S v xs) (hn : xs.length ≤ 1000000) :
    Calls Try.prog 118 #[.pointer (some ⟨p, 0, none⟩)] w fun e w' => ∃ v, e = .returned v ∧ dI.R 3 w' w.heap.size (fun _ => True) v xs ∧ Below w.heap.size w w' := by
  obtain ⟨hc, hf⟩ := h.cell
  obtain ⟨A, c, rfl⟩ := Kd.R_slice h.own
  have HP := Aside0.mk (pclone_c A c xs w (Kd.R_reads' h.own).2.2 (by omega))
  obtain ⟨n, en⟩ : ∃ n, n = xs.length := ⟨_, rfl⟩
  rw [← en] at hc HP
  clear h en hn
  go_enter Try.func118, Try.ntmps118
  go_wp2_with (go_at_call 119; refine HP.out.mono ?_; rintro e w1 ⟨v1, rfl, ho1, hb1⟩; have HO1 := Aside0.mk ho1; have HB1 := Aside0.mk hb1; clear ho1 hb1)
  go_ret
  exact ⟨_, rfl, HO1.out, HB1.out⟩

def cur (ord ss : List Int) (k : Nat) : List Int := (List.range ss.length).map fun j => if j < k then rd ord (ss.getD j 0) else ss.getD j 0
theorem cur_len (ord ss : List Int) (k : Nat) : (cur ord ss k).length = ss.length := by simp [cur]
theorem cur_zero (ord ss : List Int) : cur ord ss 0 = ss := by
  apply List.ext_getElem
  · simp [cur]
  · intro i h1 h2
    simp [cur, h2]
theorem cur_all (ord ss : List Int) : cur ord ss ss.length = ss.map (rd ord) := by
  apply List.ext_getElem
  · simp [cur]
  · intro i h1 h2
    have h3 : i < ss.length := by simpa using h2
    simp [cur, h3]
theorem cur_get {ord ss : List Int} {k : Nat} : (cur ord ss k).getD k 0 = ss.getD k 0 := by
  by_cases hk : k < ss.length
  · simp [cur, hk]
  · simp [cur, hk]
theorem cur_set (ord ss : List Int) (k : Nat) : (cur ord ss k).set k (rd ord (ss.getD k 0)) = cur ord ss (k + 1) := by
  apply List.ext_getElem
  · simp [cur]
  · intro i h1 h2
    have h3 : i < ss.length := by simpa [cur] using h2
    rw [List.getElem_set]
    by_cases e : k = i
    · subst e
      simp [cur]
    · rw [if_neg e]
      have : (i < k + 1) ↔ i < k := by omega
      simp [cur, this]

set_option maxHeartbeats 4000000 in
set_option maxRecDepth 100000 in
theorem list_w {w0 w : World} {b p BA BI na ni : Nat} {S So : Nat → Prop} {vo v : Value} {ord xs : List Int} {f : Int → Option Int} {g : Int → Bool} (h : WS w0 w b p BA BI na ni S So vo v ord xs f g) (hn : xs.length ≤ 1000000) (hol : ord.length ≤ 1000000) (hin : ∀ c ∈ xs, 0 ≤ c ∧ c < (ord.length : Int)) :
    Calls Try.prog 30 #[.pointer (some ⟨b, 0, none⟩)] w fun e w' => ∃ u, e = .returned u ∧ dI.R 3 w' w.heap.size (fun _ => True) u ((xs.mergeSort fun x y => decide (x ≤ y)).map (rd ord)) ∧ Below w.heap.size w w' := by
  have HH := Aside0.mk h
  obtain ⟨h0, h1, h2, h3⟩ := field_hp h.blk
  have HM := Aside0.mk (made_c h.blk)
  have HA := Aside0.mk (all_c h.hq hn)
  obtain ⟨Ao, co, rfl⟩ := Kd.R_slice h.own
  have hbl : b < w.heap.size := h.old.1
  obtain ⟨no, eno⟩ : ∃ no, no = ord.length := ⟨_, rfl⟩
  have HNO := Aside0.mk eno
  rw [← eno] at h0 hol
  clear h eno
  go_enter Try.func30, Try.ntmps30
  go_upto_region 4 with (first | (go_at_call 50; refine HM.out.mono ?_; rintro e wz ⟨rfl, rfl⟩) | (rw [u_all]) | (go_at_call 118; refine HA.out.mono ?_; rintro e w1 ⟨v1, rfl, ho1, hb1⟩; have HO1 := Aside0.mk ho1; have HB1 := Aside0.mk hb1; clear ho1 hb1))
  have HS := Aside0.mk (sort_c _ _ _ _ _ HO1.out (by omega) HB1.out.size)
  obtain ⟨A1, c1, e1⟩ := Kd.R_slice HO1.out
  subst e1
  go_upto_region 5 with (go_at_call 60; refine HS.out.mono ?_; rintro e w2 ⟨rfl, ho2, hb2⟩; have HO2 := Aside0.mk ho2; have HB2 := Aside0.mk (HB1.out.trans hb2); clear ho2 hb2)
  obtain ⟨ss, ess⟩ : ∃ ss, ss = xs.mergeSort fun x y => decide (x ≤ y) := ⟨_, rfl⟩
  have HSS := Aside0.mk ess
  obtain ⟨n, en⟩ : ∃ n, n = xs.length := ⟨_, rfl⟩
  have HN : Aside0 (n = ss.length) := ⟨by rw [en, ess, List.length_mergeSort]⟩
  rw [← ess, ← en] at HO2
  rw [← en] at hn ⊢
  have HIN : Aside0 (∀ k, k < n → ∃ c : Nat, ss.getD k 0 = (c : Int) ∧ c < no) := ⟨fun k hk => by
    have hkl : k < ss.length := by have := HN.out; omega
    have hm : ss.getD k 0 ∈ xs := by
      rw [← List.mem_mergeSort (le := fun x y => decide (x ≤ y)), ← HSS.out, List.getD_eq_getElem?_getD, List.getElem?_eq_getElem hkl]
      exact List.getElem_mem hkl
    have := hin _ hm
    have := HNO.out
    exact ⟨(ss.getD k 0).toNat, by omega, by omega⟩⟩
  have HO3 : Aside0 (dI.R 3 w2 wz.heap.size (fun _ => True) (.slice A1 n c1) (cur ord ss 0)) := ⟨by rw [cur_zero]; exact HO2.out⟩
  clear en ess HO2 HO1 HS hin
  go_wp2
  go_loopw [18] (fun v wr => ∃ k : Nat, k ≤ n ∧ v = .int .i64 k ∧ Aside0 (dI.R 3 wr wz.heap.size (fun _ => True) (.slice A1 n c1) (cur ord ss k)) ∧ Aside0 (Below wz.heap.size wz wr)) (fun v _ => n - (intOf v).toNat)
  case atStart => exact ⟨0, Nat.zero_le _, rfl, HO3, HB2⟩
  case round =>
    obtain ⟨k, hk, rfl, HR, HB⟩ := hrel
    by_cases hlt : k < n
    · obtain ⟨g1, c1', e, _⟩ := Kd.R_form HR.out (by rw [cur_len]; have := HN.out; omega)
      injection e with e _ _
      subst e
      obtain ⟨hx, hfz⟩ := Kd.R_celln 0 HR.out (k : Int) (by omega) (by omega)
      obtain ⟨cN, hcN, hcl⟩ := HIN.out k hlt
      rw [show rdOf 0 (cur ord ss k) (k : Int) = (cN : Int) from (show (cur ord ss k).getD (Int.toNat (k : Int)) 0 = _ by rw [Int.toNat_natCast, cur_get, hcN])] at hx
      rw [Int.toNat_natCast] at hx hfz
      have hown := HH.out.own
      rw [← HNO.out] at hown
      obtain ⟨go, co', eo, _⟩ := Kd.R_form hown (by have := HNO.out; omega)
      injection eo with eo _ _
      subst eo
      have hy0 := (Kd.R_celln 0 hown (cN : Int) (by omega) (by omega)).1
      rw [Int.toNat_natCast] at hy0
      have hy := (HB.out.cell (p := ⟨go, cN, none⟩) (World.block_lt_of_cell? _ _ hy0)).trans hy0
      obtain ⟨y, ey⟩ : ∃ y, y = rd ord (cN : Int) := ⟨_, rfl⟩
      rw [show rdOf 0 ord (cN : Int) = y from ey.symm] at hy
      have hb0 := (HB.out.cell (p := ⟨b, 0, none⟩) hbl).trans h0
      have HY := Aside0.mk ey
      have HCN := Aside0.mk hcN
      clear hown hy0 h0 ey hcN
      have hgb : wz.heap.size ≤ g1 := Kd.R_base HR.out g1 rfl
      go_wp2
      go_roundw
      case rel =>
        refine ⟨k + 1, by omega, by go_num, ⟨?_⟩, ⟨HB.out.setCell hgb _⟩⟩
        have hp := Kd.R_putn HR.out (k : Int) y
        rw [Int.toNat_natCast, HY.out, ← HCN.out, cur_set, HCN.out, ← HY.out] at hp
        exact hp
      case measure => simp [intOf]; omega
    · obtain rfl : k = n := by omega
      go_wp2
      go_ret
      refine ⟨_, rfl, ?_, HB.out⟩
      have h := HR.out
      rw [HN.out, cur_all, HSS.out] at h
      rw [HN.out, HSS.out]
      exact h

section
variable {w0 w w' : World} {T : Nat → Prop} {b : Nat} {ord : List Int} {g : Int → Bool} {n m : Nat}
theorem WK.list (h : WK w0 w T b ord g n m) (hn : n ≤ 1000000) :
    Calls Try.prog 30 #[.pointer (some ⟨b, 0, none⟩)] w fun e w' => ∃ u, e = .returned u ∧ dI.R 3 w' w.heap.size (fun _ => True) u (lst ord g) ∧ Below w.heap.size w w' := by
  obtain ⟨p, BA, BI, na, ni, So, vo, v, xs, hs, hv, hl, hni, hg, hw, ho, _⟩ := h
  have h := list_w hs (by omega) ho (fun c hc => by
    obtain ⟨a, _, hp⟩ := (hv.mem c).1 hc
    have := plc_place ord a c hp
    exact ⟨this.1, this.2.1⟩)
  rw [hv.list] at h
  exact h
theorem WK.length (h : WK w0 w T b ord g n m) : n = (lst ord g).length := by
  obtain ⟨p, BA, BI, na, ni, So, vo, v, xs, hs, hv, hl, _⟩ := h
  rw [← hl]
  exact hv.length
theorem WK.later (h : WK w0 w T b ord g n m) (hb : Below w.heap.size w w') : WK w0 w' T b ord g n m :=
  h.move (Kept.of_below hb (fun _ => False)) (fun _ _ e => e) (h.bel.trans (hb.mono h.bel.size))
theorem WK.put_no (h : WK w0 w T b ord g n m) {i : Int} (hi : (Lit.int .i64 i).wf = true) (hp : putr ord g i = false) :
    Calls Try.prog 16 #[.pointer (some ⟨b, 0, none⟩), .int .i64 i] w fun e w' => e = .returned (.bool false) ∧ w' = w := by
  obtain ⟨p, BA, BI, na, ni, So, vo, v, xs, hs, _⟩ := h
  exact P.put_no hs hi (putr_false hp)
end

/-- A Work in which nothing can be put: nil, one that was not made, one over no order. -/
structure Nought (w : World) (v : Value) (i : Int) : Prop where
  take : Calls Try.prog 18 #[v] w fun e w' => e = .returned (.tuple #[.int .i64 0, .bool false]) ∧ w' = w
  put : Calls Try.prog 16 #[v, .int .i64 i] w fun e w' => e = .returned (.bool false) ∧ w' = w
  has : Calls Try.prog 19 #[v, .int .i64 i] w fun e w' => e = .returned (.bool false) ∧ w' = w
  len : Calls Try.prog 17 #[v] w fun e w' => e = .returned (.int .i64 0) ∧ w' = w
  list : Calls Try.prog 30 #[v] w fun e w' => ∃ A c, e = .returned (.slice A 0 c) ∧ Below w.heap.size w w'
theorem WK.nought {w0 w : World} {T : Nat → Prop} {b m : Nat} (h : WK w0 w T b [] (fun _ => false) 0 m) {i : Int} (hi : (Lit.int .i64 i).wf = true) : Nought w (.pointer (some ⟨b, 0, none⟩)) i :=
  ⟨(h.take_no rfl).2, h.put_no hi (by simp [putr]), h.has hi, h.len, (h.list (by decide)).mono (by
    rintro e w' ⟨u, rfl, ho, hb⟩
    obtain ⟨A, c, rfl⟩ := Kd.R_slice ho
    exact ⟨A, c, rfl, hb⟩)⟩
section
variable {w : World} {a : Option Addr} {i : Int}
set_option maxRecDepth 100000 in
theorem len_un (hm : Calls Try.prog 50 #[.pointer a] w fun e w' => e = .returned (.bool false) ∧ w' = w) : Calls Try.prog 17 #[.pointer a] w fun e w' => e = .returned (.int .i64 0) ∧ w' = w := by
  have HM := Aside0.mk hm
  clear hm
  go_enter Try.func17, Try.ntmps17
  go_wp2_with (go_at_call 50; refine HM.out.mono ?_; rintro e w' ⟨rfl, rfl⟩)
  go_ret
  exact ⟨rfl, rfl⟩
set_option maxRecDepth 100000 in
theorem has_un (hm : Calls Try.prog 50 #[.pointer a] w fun e w' => e = .returned (.bool false) ∧ w' = w) : Calls Try.prog 19 #[.pointer a, .int .i64 i] w fun e w' => e = .returned (.bool false) ∧ w' = w := by
  have HM := Aside0.mk hm
  clear hm
  go_enter Try.func19, Try.ntmps19
  go_wp2_with (go_at_call 50; refine HM.out.mono ?_; rintro e w' ⟨rfl, rfl⟩)
  go_ret
  exact ⟨rfl, rfl⟩
set_option maxRecDepth 100000 in
theorem put_un (hm : Calls Try.prog 50 #[.pointer a] w fun e w' => e = .returned (.bool false) ∧ w' = w) : Calls Try.prog 16 #[.pointer a, .int .i64 i] w fun e w' => e = .returned (.bool false) ∧ w' = w := by
  have HM := Aside0.mk hm
  clear hm
  go_enter Try.func16, Try.ntmps16
  go_wp2_with (go_at_call 50; refine HM.out.mono ?_; rintro e w' ⟨rfl, rfl⟩)
  go_ret
  exact ⟨rfl, rfl⟩
set_option maxRecDepth 100000 in
theorem take_un (hm : Calls Try.prog 50 #[.pointer a] w fun e w' => e = .returned (.bool false) ∧ w' = w) : Calls Try.prog 18 #[.pointer a] w fun e w' => e = .returned (.tuple #[.int .i64 0, .bool false]) ∧ w' = w := by
  have HL := Aside0.mk (len_un hm)
  clear hm
  go_enter Try.func18, Try.ntmps18
  go_wp2_with (go_at_call 17; refine HL.out.mono ?_; rintro e w' ⟨rfl, rfl⟩)
  go_ret2
  exact ⟨rfl, rfl⟩
set_option maxRecDepth 100000 in
theorem list_un (hm : Calls Try.prog 50 #[.pointer a] w fun e w' => e = .returned (.bool false) ∧ w' = w) : Calls Try.prog 30 #[.pointer a] w fun e w' => ∃ A c, e = .returned (.slice A 0 c) ∧ Below w.heap.size w w' := by
  have HM := Aside0.mk hm
  clear hm
  go_enter Try.func30, Try.ntmps30
  go_wp2_with (go_at_call 50; refine HM.out.mono ?_; rintro e w' ⟨rfl, rfl⟩)
  go_ret
  exact ⟨_, _, rfl, Below.refl _ _⟩
theorem nought_un (hm : Calls Try.prog 50 #[.pointer a] w fun e w' => e = .returned (.bool false) ∧ w' = w) : Nought w (.pointer a) i := ⟨take_un hm, put_un hm, has_un hm, len_un hm, list_un hm⟩
end

end Go.Proofs.Ytnhcimhdkdgccaa.P
