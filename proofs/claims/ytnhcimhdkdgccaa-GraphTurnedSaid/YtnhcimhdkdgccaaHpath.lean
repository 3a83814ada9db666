/- graph.Path: what it answers. -/
import Derived.Test.YtnhcimhdkdgccaaHreach
import Derived.Deep.RegionWith
namespace Go.Proofs.Ytnhcimhdkdgccaa.P
open Go.RowKit Go.Lib Go.Sort Go.Shelf Go.Proofs.YtnhcimhdkdgccaaW.PrintWords Go.Proofs.YtnhcimhdkdgccaaW.PrintLast Go.Proofs.YtnhcimhdkdgccaaW.PrintMore

/-- The first place at which p holds, or -1. -/
def idxF (p : Int → Bool) (xs : List Int) : Int := match xs.findIdx? p with | some i => (i : Int) | none => -1
theorem idxF_any (p : Int → Bool) (xs : List Int) : decide (0 ≤ idxF p xs) = xs.any p := by
  unfold idxF
  cases h : xs.findIdx? p with
  | none =>
    rw [List.findIdx?_eq_none_iff] at h
    have : xs.any p = false := by rw [List.any_eq_false]; exact fun x hx => by rw [h x hx]; simp
    rw [this]
    rfl
  | some i =>
    rw [List.findIdx?_eq_some_iff_getElem] at h
    obtain ⟨hi, hp, _⟩ := h
    have : xs.any p = true := List.any_eq_true.2 ⟨xs[i], List.getElem_mem hi, hp⟩
    rw [this]
    simp
theorem idxF_hit {p : Int → Bool} {xs : List Int} {k : Nat} (hk : k < xs.length) (hp : p xs[k] = true) (hno : ∀ j (hj : j < xs.length), j < k → p xs[j] = false) : idxF p xs = (k : Int) := by
  unfold idxF
  have : xs.findIdx? p = some k := List.findIdx?_eq_some_iff_getElem.2 ⟨hk, hp, fun j hj => by rw [hno j (by omega) hj]; simp⟩
  rw [this]
theorem idxF_miss {p : Int → Bool} {xs : List Int} (hno : ∀ j (hj : j < xs.length), p xs[j] = false) : idxF p xs = -1 := by
  unfold idxF
  have : xs.findIdx? p = none := List.findIdx?_eq_none_iff.2 (fun x hx => by
    obtain ⟨j, hj, e⟩ := List.getElem_of_mem hx
    rw [← e]
    exact hno j hj)
  rw [this]

set_option maxHeartbeats 4000000 in
/-- IndexFunc at a predicate that makes memory. -/
theorem index_b (g : Nat) (lb : Array Value) (p : Int → Bool) (eg : ∀ args w, (callFunc g args).run Try.prog w = .ok (.enter g args) w) (A : Option Addr) (c : Nat) (xs : List Int) (w : World) (hC : dI.C w A xs.length xs) (hb : xs.length ≤ 1000000)
    (hp : ∀ W x, Below w.heap.size w W → x ∈ xs → Calls Try.prog g (#[.int .i64 x] ++ lb) W fun e w' => e = .returned (.bool (p x)) ∧ Below W.heap.size W w') :
    Calls Try.prog 72 #[.slice A xs.length c, .func (.func g) #[] lb] w fun e w' => e = .returned (.int .i64 (idxF p xs)) ∧ Below w.heap.size w w' := by
  have HP := Aside0.mk hp
  have HC := Aside0.mk hC
  obtain ⟨n, hn⟩ : ∃ n, n = xs.length := ⟨_, rfl⟩
  rw [← hn] at hb ⊢
  have HN := Aside0.mk hn
  clear hp hC hn
  go_enter Try.func72, Try.ntmps72
  go_wp2
  go_loopw [5, 8] (fun _ v8 wr => ∃ k : Nat, v8 = .int .i64 k ∧ k ≤ n ∧ Aside0 (∀ j (hj : j < xs.length), j < k → p xs[j] = false) ∧ Aside0 (Below w.heap.size w wr)) (fun _ v8 _ => n - (intOf v8).toNat)
  case atStart => exact ⟨0, rfl, Nat.zero_le _, ⟨fun j _ hj => absurd hj (Nat.not_lt_zero _)⟩, ⟨Below.refl _ _⟩⟩
  case round =>
    obtain ⟨k, rfl, hk, HNO, HB⟩ := hrel
    by_cases hlt : k < n
    · have hkx : k < xs.length := by have := HN.out; omega
      obtain ⟨b, off, e1, _, hcc⟩ := C_ints (Kd.C_below HC.out HB.out) (by omega)
      subst e1
      have hcell := hcc k hkx
      obtain ⟨y, ey⟩ : ∃ y, y = xs[k] := ⟨_, rfl⟩
      rw [List.getD_eq_getElem?_getD, List.getElem?_eq_getElem hkx, Option.getD_some, ← ey] at hcell
      have HY := Aside0.mk ey
      have hcall := HP.out wr y HB.out (by rw [ey]; exact List.getElem_mem hkx)
      obtain ⟨q, hq⟩ : ∃ q, q = p y := ⟨_, rfl⟩
      rw [← hq] at hcall
      have HQ := Aside0.mk hq
      clear hcc ey hq
      cases q with
      | true =>
        go_wp2_with (go_at_fn g; refine hcall.mono ?_; rintro e w2 ⟨rfl, hb2⟩; have HB2 := Aside0.mk hb2; clear hb2)
        go_ret
        refine ⟨?_, below_step HB.out HB2.out⟩
        rw [idxF_hit (p := p) (xs := xs) (k := k) (by have := HN.out; omega) (by rw [← HY.out]; exact HQ.out.symm) HNO.out]
        rfl
      | false =>
        go_wp2_with (go_at_fn g; refine hcall.mono ?_; rintro e w2 ⟨rfl, hb2⟩; have HB2 := Aside0.mk hb2; clear hb2)
        go_roundw
        case rel =>
          refine ⟨k + 1, by go_num, by omega, ⟨fun j hj hjk => ?_⟩, ⟨below_step HB.out HB2.out⟩⟩
          rcases Nat.lt_or_ge j k with h1 | h1
          · exact HNO.out j hj h1
          · obtain rfl : j = k := by omega
            rw [← HY.out]
            exact HQ.out.symm
        case measure => simp [intOf]; omega
    · obtain rfl : k = n := by omega
      clear hlt
      go_wp2
      go_ret
      refine ⟨?_, HB.out⟩
      rw [idxF_miss (p := p) (xs := xs) (fun j hj => HNO.out j hj (by have := HN.out; omega))]
      rfl

set_option maxHeartbeats 1000000 in
theorem contains_b (g : Nat) (lb : Array Value) (p : Int → Bool) (eg : ∀ args w, (callFunc g args).run Try.prog w = .ok (.enter g args) w) (A : Option Addr) (c : Nat) (xs : List Int) (w : World) (hC : dI.C w A xs.length xs) (hb : xs.length ≤ 1000000)
    (hp : ∀ W x, Below w.heap.size w W → x ∈ xs → Calls Try.prog g (#[.int .i64 x] ++ lb) W fun e w' => e = .returned (.bool (p x)) ∧ Below W.heap.size W w') :
    Calls Try.prog 62 #[.slice A xs.length c, .func (.func g) #[] lb] w fun e w' => e = .returned (.bool (xs.any p)) ∧ Below w.heap.size w w' := by
  have HI := Aside0.mk (index_b g lb p eg A c xs w hC hb hp)
  obtain ⟨r, hr⟩ : ∃ r, r = idxF p xs := ⟨_, rfl⟩
  rw [← hr] at HI
  rw [← idxF_any p xs, ← hr]
  clear hp hC hr
  go_enter Try.func62, Try.ntmps62
  go_wp2_with (go_at_call 72; refine HI.out.mono ?_; rintro e w2 ⟨rfl, hb2⟩; have HB2 := Aside0.mk hb2; clear hb2)
  go_ret
  exact ⟨rfl, HB2.out⟩

set_option maxHeartbeats 4000000 in
theorem pathfn_gives (x b : Int) (Bg Bb : Nat) (A0 : Option Addr) (c0 : Nat) (l0 : List (List Int)) (r : List Bool) (W : World) (hcg : W.cell? ⟨Bg, 0, none⟩ = some (.slice A0 l0.length c0)) (hcb : W.cell? ⟨Bb, 0, none⟩ = some (.int .i64 b)) (hlg : Bg < W.heap.size) (hlb : Bb < W.heap.size)
    (hC : dG.C W A0 l0.length l0) (hc0 : l0.length ≤ c0) (hr : graph_Reach.f l0 x = some r) (hb0 : 0 ≤ b) (hb1 : b < (r.length : Int)) :
    Calls Try.prog 63 (#[.int .i64 x] ++ #[.pointer (some ⟨Bg, 0, none⟩), .pointer (some ⟨Bb, 0, none⟩)]) W fun e w' => e = .returned (.bool (rdOf false r b)) ∧ Below W.heap.size W w' := by
  show Calls Try.prog 63 #[.int .i64 x, .pointer (some ⟨Bg, 0, none⟩), .pointer (some ⟨Bb, 0, none⟩)] W _
  have HRE := Aside0.mk (fun W' (hW : Below W.heap.size W W') => graph_Reach.calls A0 c0 l0 x r W' (Kd.C_below hC hW) hc0 hr)
  have HLG := Aside0.mk (And.intro hlg hlb)
  clear hC hr hc0 hlg hlb
  obtain ⟨q, hq⟩ : ∃ q, q = rdOf false r b := ⟨_, rfl⟩
  rw [← hq]
  have HQ := Aside0.mk hq
  clear hq
  go_enter Try.func63, Try.ntmps63
  go_wp2
  go_region_with
    (first | (go_at_call 23; refine (HRE.out _ (by repeat (first | exact Below.refl _ _ | apply pw_below_drewN | apply below_drew1 | apply below_drew))).mono ?_; rintro e w1 ⟨v, rfl, ho, hbw⟩; (have g1 := cell_later hbw hcg HLG.out.1); (have g2 := cell_later hbw hcb HLG.out.2); obtain ⟨gv, cv, rfl, _⟩ := Kd.R_form ho (by omega); obtain ⟨hcv, hfv⟩ := Kd.R_celln false ho b hb0 hb1; rw [← HQ.out] at hcv; have HBW := Aside0.mk ((by repeat (first | exact Below.refl _ _ | apply pw_below_drewN | apply below_drew1 | apply below_drew) : Below W.heap.size W _).trans hbw); clear ho hbw))
  all_goals
    go_wp2
    go_ret
    exact ⟨rfl, by repeat (first | exact HBW.out | apply pw_below_drewN | apply below_drew1 | apply below_drew)⟩

set_option maxHeartbeats 4000000 in
set_option maxRecDepth 100000 in
theorem graph_Path.calls (A0 : Option Addr) (c0 : Nat) (l0 : List (List Int)) (a1 : Int) (a2 : Int) (r : Bool) (w : World) (hr0 : Kd.C (Kd.slice 3 (Kd.int .i64)) w A0 l0.length l0) (hc0 : l0.length ≤ c0) (h : graph_Path.f l0 a1 a2 = some r) :
    Calls Try.prog 26 #[.slice A0 l0.length c0, .int .i64 a1, .int .i64 a2] w fun e w' => e = .returned (.bool r) ∧ Below w.heap.size w w' := by
  have HR0 := Aside0.mk hr0
  have HC0 := Aside0.mk hc0
  obtain ⟨hfit, hpath⟩ : fits l0 = true ∧ (if isN l0.length a1 = true ∧ isN l0.length a2 = true then (if ((clean l0).getD a1.toNat []).all (fun c => decide ((graph_Reach.f l0 c).isSome = true ∧ ((graph_Reach.f l0 c).getD []).length = l0.length)) = true then some (((clean l0).getD a1.toNat []).any fun c => reachB l0 c a2) else none) else some false) = some r := by
    unfold graph_Path.f at h
    split at h
    · exact ⟨by assumption, h⟩
    · cases h
  have HF := Aside0.mk hfit
  clear hr0 hc0 h hfit
  have HIS : ∀ W, Calls Try.prog 59 #[.slice A0 l0.length c0, .int .i64 a1] W fun e w' => e = .returned (.bool (isN l0.length a1)) ∧ W = w' := fun W => is_c a1 A0 l0.length c0 W
  have HIT : ∀ W, Calls Try.prog 59 #[.slice A0 l0.length c0, .int .i64 a2] W fun e w' => e = .returned (.bool (isN l0.length a2)) ∧ W = w' := fun W => is_c a2 A0 l0.length c0 W
  have hBw : Below w.heap.size w ((w.alloc (.cells #[.slice A0 l0.length c0] 31)).alloc (.cells #[.int .i64 a2] 3)) := below_alloc (below_alloc (Below.refl _ _) _) _
  have HBW := Aside0.mk hBw
  have CL := Aside0.mk (graph_Clean.calls A0 c0 l0 (clean l0) _ (Kd.C_below HR0.out hBw) HC0.out (by unfold graph_Clean.f; rw [if_pos HF.out]))
  clear hBw
  rcases Bool.eq_false_or_eq_true (isN l0.length a1) with hna | hna
  · rcases Bool.eq_false_or_eq_true (isN l0.length a2) with hnb | hnb
    · rw [if_pos ⟨hna, hnb⟩] at hpath
      rw [hna] at HIS
      rw [hnb] at HIT
      obtain ⟨ha0, ha1⟩ := isN_iff.1 hna
      obtain ⟨hb0, hb1⟩ := isN_iff.1 hnb
      obtain ⟨row_, erow⟩ : ∃ row_, row_ = (clean l0).getD a1.toNat [] := ⟨_, rfl⟩
      rw [← erow] at hpath
      split at hpath
      · rename_i hall
        have HER := Aside0.mk erow
        have hr := Option.some.inj hpath
        rw [← hr]
        have HALL : Aside0 (∀ c ∈ row_, ∃ r', graph_Reach.f l0 c = some r' ∧ r'.length = l0.length) := by
          refine ⟨fun c hc => ?_⟩
          have := List.all_eq_true.1 hall c hc
          simp only [decide_eq_true_eq] at this
          obtain ⟨r', hr'⟩ := Option.isSome_iff_exists.1 this.1
          exact ⟨r', hr', by have := this.2; rw [hr'] at this; exact this⟩
        have hmem : row_ ∈ clean l0 := by
          rw [erow, List.getD_eq_getElem?_getD, List.getElem?_eq_getElem (by rw [clean_len]; omega)]
          exact List.getElem_mem _
        have HRW := Aside0.mk (clean_small HF.out _ hmem)
        obtain ⟨q, hq⟩ : ∃ q, q = row_.any fun c => reachB l0 c a2 := ⟨_, rfl⟩
        rw [← hq]
        have HQ := Aside0.mk hq
        clear hna hnb hmem hall hr erow hpath hq
        go_enter Try.func26, Try.ntmps26
        go_wp2_with (first | (go_at_call 24; refine CL.out.mono ?_; rintro e w2 ⟨v2, rfl, ho2, hb2⟩; obtain ⟨A2, c2, e2, _⟩ := Kd.S_reads ho2; rw [clean_len] at e2; subst e2; (obtain ⟨g2, A3, c3, e3, hl3, hst⟩ := row_stays ho2 (S := fun _ => False) (fun _ hk => hk.elim) (k := a1.toNat) (by omega)); subst e3; rw [← HER.out] at hl3 hst; (obtain ⟨hx3, hC3⟩ := hst w2 (Fr.refl _ _)); have HC3 := Aside0.mk hC3; have HB2 := Aside0.mk hb2; clear ho2 hb2 hst hC3 hl3) | (go_at_call 59; (with_reducible refine (HIS _).mono ?_); rintro e w' ⟨rfl, rfl⟩) | (go_at_call 59; (with_reducible refine (HIT _).mono ?_); rintro e w' ⟨rfl, rfl⟩))
        have HPR : Aside0 (∀ W x, Below w2.heap.size w2 W → x ∈ row_ → Calls Try.prog 63 (#[.int .i64 x] ++ #[.pointer (some ⟨w.heap.size, 0, none⟩), .pointer (some ⟨w.heap.size + 1, 0, none⟩)]) W fun e w' => e = .returned (.bool (reachB l0 x a2)) ∧ Below W.heap.size W w') := by
          refine ⟨fun W x hW hx => ?_⟩
          obtain ⟨r', hr', hl'⟩ := HALL.out x hx
          have hs1 : ((w.alloc (.cells #[.slice A0 l0.length c0] 31)).alloc (.cells #[.int .i64 a2] 3)).heap.size = w.heap.size + 2 := by rw [size_alloc1, size_alloc1]
          have hB2 : Below (w.heap.size + 2) ((w.alloc (.cells #[.slice A0 l0.length c0] 31)).alloc (.cells #[.int .i64 a2] 3)) w2 := by rw [← hs1]; exact HB2.out
          have hsz := hB2.size
          rw [hs1] at hsz
          have k1 := cell_later hW (cell_later hB2 (g := w.heap.size) (o := 0) (v := .slice A0 l0.length c0) (by simp) (by omega)) (by omega)
          have k2 := cell_later hW (cell_later hB2 (g := w.heap.size + 1) (o := 0) (v := .int .i64 a2) (by rw [show w.heap.size + 1 = (w.alloc (.cells #[.slice A0 l0.length c0] 31)).heap.size from (size_alloc1 _ _).symm]; simp) (by omega)) (by omega)
          have hBW : Below w.heap.size w W := below_step (below_step HBW.out HB2.out) hW
          have := pathfn_gives x a2 w.heap.size (w.heap.size + 1) A0 c0 l0 r' W k1 k2 (by have := hW.size; omega) (by have := hW.size; omega) (Kd.C_below HR0.out hBW) HC0.out hr' hb0 (by rw [hl']; exact hb1)
          have er : reachB l0 x a2 = rdOf false r' a2 := by unfold reachB rdOf; rw [hr']; rfl
          rw [er]
          exact this
        go_wp2_with (go_at_call 62; refine (contains_b 63 _ (fun c => reachB l0 c a2) (enters_of Try.func63 (by kernel_rfl) rfl) _ _ row_ w2 HC3.out (by have := HRW.out; omega) HPR.out).mono ?_; rintro e w3 ⟨rfl, hb3⟩; rw [← HQ.out]; have HB3 := Aside0.mk hb3; clear hb3)
        go_ret
        exact ⟨rfl, below_step (below_step HBW.out HB2.out) HB3.out⟩
      · cases hpath
    · rw [if_neg (by rw [hnb]; simp)] at hpath
      have HRS := Aside0.mk (Option.some.inj hpath)
      rw [hna] at HIS
      rw [hnb] at HIT
      clear hna hnb hpath
      go_enter Try.func26, Try.ntmps26
      go_wp2_with (first | (go_at_call 59; (with_reducible refine (HIS _).mono ?_); rintro e w' ⟨rfl, rfl⟩) | (go_at_call 59; (with_reducible refine (HIT _).mono ?_); rintro e w' ⟨rfl, rfl⟩))
      go_ret
      exact ⟨by rw [← HRS.out]; rfl, HBW.out⟩
  · rw [if_neg (by rw [hna]; simp)] at hpath
    have HRS := Aside0.mk (Option.some.inj hpath)
    rw [hna] at HIS
    clear hna hpath HIT
    go_enter Try.func26, Try.ntmps26
    go_wp2_with (go_at_call 59; (with_reducible refine (HIS _).mono ?_); rintro e w' ⟨rfl, rfl⟩)
    go_ret
    exact ⟨by rw [← HRS.out]; rfl, HBW.out⟩

end Go.Proofs.Ytnhcimhdkdgccaa.P
