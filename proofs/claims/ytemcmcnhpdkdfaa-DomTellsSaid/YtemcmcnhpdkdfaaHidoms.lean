/- dom.Idoms: meet, step, and the whole. -/
import Derived.Test.YtemcmcnhpdkdfaaHgr
import Derived.Test.YtemcmcnhpdkdfaaGdom
import Derived.Deep.QuietTactic
import Derived.BigQuiet
import Derived.Test.YtemcmcnhpdkdfaaPbits
import Derived.Laws.CopyOwn
import Derived.Deep.RegionLaw
import Derived.Shelf.Bits.Mul64
import Derived.Laws.OwnMore
import Derived.Deep.CutRange
import Derived.Deep.RegionHeld3
namespace Go.Proofs.Ytemcmcnhpdkdfaa.P
open Go.RowKit Go.Shelf Go.Lib Go.Sort Go.Proofs.YtemcmcnhpdkdfaaW.PrintWords Go.Proofs.YtemcmcnhpdkdfaaW.PrintLast Go.Proofs.YtemcmcnhpdkdfaaW.PrintMore

/-- One of two goes up until it stands no further than the other. -/
def meetA (n : Nat) (at' d : List Int) : Nat → Int → Int → Option Int
  | 0, _, _ => none
  | k + 1, a, b => if isN n a = true ∧ isN n b = true then (if rd at' b < rd at' a then meetA n at' d k (rd d a) b else some a) else none
def meetO (n : Nat) (at' d : List Int) : Nat → Int → Int → Option Int
  | 0, _, _ => none
  | k + 1, a, b => if a = b then some a else (meetA n at' d k a b).bind fun a' => (meetA n at' d k b a').bind fun b' => meetO n at' d k a' b'

/-- What a solver holds, that is only read here. -/
structure Solv (w : World) (s n ga ca gd cd : Nat) (vp vo : Value) (at' d : List Int) : Prop where
  blk : w.heap[s]? = some (.cells #[vp, vo, .slice (some ⟨ga, 0, none⟩) n ca, .slice (some ⟨gd, 0, none⟩) n cd] 60 (0, 0))
  at_ : ∀ i, i < n → w.cell? ⟨ga, i, none⟩ = some (.int .i64 (at'.getD i 0))
  d_ : ∀ i, i < n → w.cell? ⟨gd, i, none⟩ = some (.int .i64 (d.getD i 0))
theorem Solv.drewN {w : World} {s n ga ca gd cd : Nat} {vp vo : Value} {at' d : List Int} (h : Solv w s n ga ca gd cd vp vo at' d) (m : Nat) : Solv (w.drewN m) s n ga ca gd cd vp vo at' d := ⟨h.blk, h.at_, h.d_⟩
theorem cells4 {w : World} {b t : Nat} {v0 v1 v2 v3 : Value} (h : w.heap[b]? = some (.cells #[v0, v1, v2, v3] t (0, 0))) : w.cell? ⟨b, 0, none⟩ = some v0 ∧ w.cell? ⟨b, 1, none⟩ = some v1 ∧ w.cell? ⟨b, 2, none⟩ = some v2 ∧ w.cell? ⟨b, 3, none⟩ = some v3 := by
  refine ⟨?_, ?_, ?_, ?_⟩ <;> simp [World.cell?, h]

set_option maxHeartbeats 8000000 in
set_option maxRecDepth 100000 in
theorem meet_c {w : World} {s n ga ca gd cd : Nat} {vp vo : Value} {at' d : List Int} (h : Solv w s n ga ca gd cd vp vo at' d) (k : Nat) (a b r : Int) (hr : meetO n at' d k a b = some r) :
    Calls Try.prog 73 #[.pointer (some ⟨s, 0, none⟩), .int .i64 a, .int .i64 b] w fun e w' => e = .returned (.int .i64 r) ∧ ∃ m, w' = w.drewN m := by
  have HA := Aside0.mk h.at_
  have HD := Aside0.mk h.d_
  obtain ⟨_, _, s2, s3⟩ := cells4 h.blk
  have H' := Aside0.mk hr
  clear h hr
  go_enter Try.func73, Try.ntmps73
  go_wp2
  go_loopg [1, 2] k (fun kq v1 v2 w' => ∃ x y : Int, v1 = .int .i64 x ∧ v2 = .int .i64 y ∧ Aside0 (meetO n at' d kq x y = some r) ∧ ∃ m, w' = w.drewN m)
  case atStart => exact ⟨a, b, rfl, rfl, H', 0, rfl⟩
  case round =>
    clear H'
    obtain ⟨x, y, rfl, rfl, HM, m, rfl⟩ := hrel
    cases gk with
    | zero => exact absurd HM.out (by simp [meetO])
    | succ k1 =>
      have H := HM.out
      rw [meetO] at H
      by_cases hxy : x = y
      · rw [if_pos hxy] at H
        obtain rfl := Option.some.inj H
        subst hxy
        clear H
        go_wp2
        go_ret
        exact ⟨rfl, m, rfl⟩
      · rw [if_neg hxy] at H
        obtain ⟨x', hx', H⟩ := Option.bind_eq_some_iff.1 H
        obtain ⟨y', hy', H⟩ := Option.bind_eq_some_iff.1 H
        have HX := Aside0.mk hx'
        have HY := Aside0.mk hy'
        have HZ := Aside0.mk H
        clear hx' hy' H
        go_wp2
        go_loopg [1] k1 (fun kq v w' => ∃ x1 : Int, v = .int .i64 x1 ∧ Aside0 (meetA n at' d kq x1 y = some x') ∧ ∃ m, w' = w.drewN m)
        case atStart => exact ⟨x, rfl, HX, m, rfl⟩
        case round =>
          clear HX
          obtain ⟨x1, rfl, HM1, m1, rfl⟩ := hrel
          cases gk with
          | zero => exact absurd HM1.out (by simp [meetA])
          | succ k2 =>
            have H := HM1.out
            rw [meetA] at H
            by_cases hin : isN n x1 = true ∧ isN n y = true
            · rw [if_pos hin] at H
              have b1 := isN_iff.1 hin.1
              have b2 := isN_iff.1 hin.2
              obtain ⟨i, rfl⟩ : ∃ i : Nat, x1 = (i : Int) := ⟨x1.toNat, by omega⟩
              obtain ⟨j, rfl⟩ : ∃ j : Nat, y = (j : Int) := ⟨y.toNat, by omega⟩
              have hi : i < n := by omega
              have hj : j < n := by omega
              have ci := HA.out i hi
              have cj := HA.out j hj
              have di := HD.out i hi
              have ri : rd at' (i : Int) = at'.getD i 0 := by show at'.getD (Int.toNat (i : Int)) 0 = _; rw [Int.toNat_natCast]
              have rj : rd at' (j : Int) = at'.getD j 0 := by show at'.getD (Int.toNat (j : Int)) 0 = _; rw [Int.toNat_natCast]
              have rdi : rd d (i : Int) = d.getD i 0 := by show d.getD (Int.toNat (i : Int)) 0 = _; rw [Int.toNat_natCast]
              rw [ri, rj, rdi] at H
              obtain ⟨pi, epi⟩ : ∃ p, p = at'.getD i 0 := ⟨_, rfl⟩
              obtain ⟨pj, epj⟩ : ∃ p, p = at'.getD j 0 := ⟨_, rfl⟩
              obtain ⟨qi, eqi⟩ : ∃ q, q = d.getD i 0 := ⟨_, rfl⟩
              rw [← epi, ← epj, ← eqi] at H
              rw [← epi] at ci
              rw [← epj] at cj
              rw [← eqi] at di
              clear ri rj rdi epi epj eqi b1 b2 hin
              by_cases hlt : pj < pi
              · rw [if_pos hlt] at H
                have HN := Aside0.mk H
                have c0 : decide (pj < pi) = true := decide_eq_true hlt
                clear H
                go_wp2
                go_quiet ((fail))
                go_wp2
                go_roundg k2
                case measure => omega
                case rel => exact ⟨qi, rfl, HN, _, rfl⟩
              · rw [if_neg hlt] at H
                have c0 : decide (pj < pi) = false := decide_eq_false hlt
                obtain rfl := Option.some.inj H
                clear H hlt HM1
                go_wp2
                go_quiet ((fail))
                go_wp2
                clear c0 cj di hj ci
                go_loopg [2] k1 (fun kq v w' => ∃ y1 : Int, v = .int .i64 y1 ∧ Aside0 (meetA n at' d kq y1 (i : Int) = some y') ∧ ∃ m, w' = w.drewN m)
                case atStart => exact ⟨_, rfl, HY, _, World.drewN_drewN _ _ _⟩
                case round =>
                  clear HY
                  obtain ⟨y1, rfl, HM2, m2, rfl⟩ := hrel
                  cases gk with
                  | zero => exact absurd HM2.out (by simp [meetA])
                  | succ k3 =>
                    have H := HM2.out
                    rw [meetA] at H
                    by_cases hin : isN n y1 = true ∧ isN n (i : Int) = true
                    · rw [if_pos hin] at H
                      have b1 := isN_iff.1 hin.1
                      obtain ⟨l, rfl⟩ : ∃ l : Nat, y1 = (l : Int) := ⟨y1.toNat, by omega⟩
                      have hl : l < n := by omega
                      have cl := HA.out l hl
                      have dl := HD.out l hl
                      have ci := HA.out i hi
                      have ri : rd at' (i : Int) = at'.getD i 0 := by show at'.getD (Int.toNat (i : Int)) 0 = _; rw [Int.toNat_natCast]
                      have rl : rd at' (l : Int) = at'.getD l 0 := by show at'.getD (Int.toNat (l : Int)) 0 = _; rw [Int.toNat_natCast]
                      have rdl : rd d (l : Int) = d.getD l 0 := by show d.getD (Int.toNat (l : Int)) 0 = _; rw [Int.toNat_natCast]
                      rw [ri, rl, rdl] at H
                      obtain ⟨p1, ep1⟩ : ∃ p, p = at'.getD i 0 := ⟨_, rfl⟩
                      obtain ⟨pl, epl⟩ : ∃ p, p = at'.getD l 0 := ⟨_, rfl⟩
                      obtain ⟨ql, eql⟩ : ∃ q, q = d.getD l 0 := ⟨_, rfl⟩
                      rw [← ep1, ← epl, ← eql] at H
                      rw [← ep1] at ci
                      rw [← epl] at cl
                      rw [← eql] at dl
                      clear ri rl rdl ep1 epl eql b1 hin
                      by_cases hlt : p1 < pl
                      · rw [if_pos hlt] at H
                        have HN := Aside0.mk H
                        have c0 : decide (p1 < pl) = true := decide_eq_true hlt
                        clear H
                        go_wp2
                        go_quiet ((fail))
                        go_wp2
                        go_roundg k3
                        case measure => omega
                        case rel => exact ⟨ql, rfl, HN, _, rfl⟩
                      · rw [if_neg hlt] at H
                        have c0 : decide (p1 < pl) = false := decide_eq_false hlt
                        obtain rfl := Option.some.inj H
                        clear H
                        go_wp2
                        go_quiet ((fail))
                        go_wp2
                        go_roundg k1
                        case measure => omega
                        case rel => exact ⟨(i : Int), (l : Int), rfl, rfl, HZ, _, World.drewN_drewN _ _ _⟩
                    · rw [if_neg hin] at H
                      cases H
            · rw [if_neg hin] at H
              cases H

/-- What is known ahead of a node, met. -/
def toF (n : Nat) (at' d : List Int) (k : Nat) : List Int → Int → Option Int
  | [], z => some z
  | a :: ps, z => if isN n a = true then (if rd d a = -3 ∨ rd d a = -2 then toF n at' d k ps z else if z = -3 then toF n at' d k ps a else (meetO n at' d k z a).bind fun m => toF n at' d k ps m) else none

set_option maxHeartbeats 8000000 in
set_option maxRecDepth 100000 in
theorem step_c {w : World} {s n ga ca gd cd gp cp : Nat} {vo : Value} {at' d : List Int} (h : Solv w s n ga ca gd cd (.slice (some ⟨gp, 0, none⟩) n cp) vo at' d) {b : Nat} (hbn : b < n) {A : Option Addr} {c : Nat} {ps : List Int} (hrow : w.cell? ⟨gp, b, none⟩ = some (.slice A ps.length c)) (hC : dI.C w A ps.length ps) (hps : ps.length ≤ 1000000)
    (hfz : w.frozen? ⟨gd, b, none⟩ = false) (k : Nat) (z : Int) (hr : toF n at' d k ps (-3) = some z) :
    Calls Try.prog 43 #[.pointer (some ⟨s, 0, none⟩), .int .i64 b] w fun e w' => e = .returned (.bool (rd d b != z)) ∧ ∃ m, w' = (w.drewN m).setCell ⟨gd, b, none⟩ (.int .i64 z) := by
  have HS := Aside0.mk h
  have HC := Aside0.mk hC
  obtain ⟨s0, _, s2, s3⟩ := cells4 h.blk
  have hdb := h.d_ b hbn
  obtain ⟨db, edb⟩ : ∃ db, db = d.getD b 0 := ⟨_, rfl⟩
  have hrd : rd d (b : Int) = db := by rw [edb]; show d.getD (Int.toNat (b : Int)) 0 = _; rw [Int.toNat_natCast]
  rw [hrd]
  rw [← edb] at hdb
  obtain ⟨np, enp⟩ : ∃ np, np = ps.length := ⟨_, rfl⟩
  have HNP := Aside0.mk enp
  rw [← enp] at hrow hps
  have H' : Aside0 (toF n at' d k (ps.drop 0) (-3) = some z) := ⟨by rw [List.drop_zero]; exact hr⟩
  clear h hC hr edb hrd enp
  go_enter Try.func43, Try.ntmps43
  go_wp2
  go_loopw [5, 17] (fun v5 v17 w' => ∃ (i : Nat) (x : Int), i ≤ np ∧ v5 = .int .i64 x ∧ v17 = .int .i64 i ∧ Aside0 (toF n at' d k (ps.drop i) x = some z) ∧ ∃ m, w' = w.drewN m) (fun _ v _ => np - (intOf v).toNat)
  case atStart => exact ⟨0, -3, Nat.zero_le _, rfl, rfl, H', 0, rfl⟩
  case round =>
    clear H'
    obtain ⟨i, x, hi, rfl, rfl, HT, m, rfl⟩ := hrel
    by_cases hlt : i < np
    · have hil : i < ps.length := by have := HNP.out; omega
      obtain ⟨bb, off, e, _, hc⟩ := C_ints HC.out (by omega)
      subst e
      have hx0 := hc i hil
      have H := HT.out
      rw [List.drop_eq_getElem_cons hil, toF] at H
      have ea : ps.getD i 0 = ps[i] := by rw [List.getD_eq_getElem?_getD, List.getElem?_eq_getElem hil]; rfl
      rw [ea] at hx0
      obtain ⟨a, eaa⟩ : ∃ a, a = ps[i] := ⟨_, rfl⟩
      rw [← eaa] at H hx0
      clear ea eaa hc
      by_cases hin : isN n a = true
      · rw [if_pos hin] at H
        have b1 := isN_iff.1 hin
        obtain ⟨j, rfl⟩ : ∃ j : Nat, a = (j : Int) := ⟨a.toNat, by omega⟩
        have hj : j < n := by omega
        have dj := HS.out.d_ j hj
        have rdj : rd d (j : Int) = d.getD j 0 := by show d.getD (Int.toNat (j : Int)) 0 = _; rw [Int.toNat_natCast]
        rw [rdj] at H
        obtain ⟨q, eq⟩ : ∃ q, q = d.getD j 0 := ⟨_, rfl⟩
        rw [← eq] at H dj
        clear rdj eq b1 hin
        by_cases h3 : q = -3
        · subst h3
          rw [if_pos (.inl rfl)] at H
          have HN := Aside0.mk H
          clear H
          go_wp2
          go_roundw
          case rel => exact ⟨i + 1, x, by omega, rfl, by go_num, HN, _, rfl⟩
          case measure => simp [intOf]; omega
        · by_cases h2 : q = -2
          · subst h2
            rw [if_pos (.inr rfl)] at H
            have HN := Aside0.mk H
            clear H
            go_wp2
            go_roundw
            case rel => exact ⟨i + 1, x, by omega, rfl, by go_num, HN, _, rfl⟩
            case measure => simp [intOf]; omega
          · rw [if_neg (by omega)] at H
            have e3 : (q == -3) = false := by simpa using h3
            have e2 : (q == -2) = false := by simpa using h2
            by_cases hx : x = -3
            · subst hx
              rw [if_pos rfl] at H
              have HN := Aside0.mk H
              clear H
              go_wp2
              go_roundw
              case rel => exact ⟨i + 1, (j : Int), by omega, rfl, by go_num, HN, _, rfl⟩
              case measure => simp [intOf]; omega
            · rw [if_neg hx] at H
              obtain ⟨mm, hm, H⟩ := Option.bind_eq_some_iff.1 H
              have HN := Aside0.mk H
              have HMT := Aside0.mk (meet_c (HS.out.drewN m) k x (j : Int) mm hm)
              have ex : (x == -3) = false := by simpa using hx
              clear H hm
              go_wp2_with (go_at_call 73; refine HMT.out.mono ?_; rintro e w3 ⟨rfl, m3, rfl⟩)
              go_roundw
              case rel => first | exact ⟨i + 1, mm, by omega, rfl, by go_num, HN, _, rfl⟩ | exact ⟨i + 1, mm, by omega, rfl, by go_num, HN, _, World.drewN_drewN _ _ _⟩
              case measure => simp [intOf]; omega
      · rw [if_neg hin] at H
        cases H
    · obtain rfl : i = np := by omega
      have H := HT.out
      rw [HNP.out, List.drop_length, toF] at H
      obtain rfl := Option.some.inj H
      clear H HT
      have hz : (w.drewN m).frozen? ⟨gd, b, none⟩ = false := hfz
      go_wp2
      go_ret
      exact ⟨rfl, m, rfl⟩

end Go.Proofs.Ytemcmcnhpdkdfaa.P

/-! What meet and step of dom's solver reckon: the first one on both ways up. Plain laws over what the walk shows (meetA, meetO, toF). -/
namespace Go.Proofs.Ytemcmcnhpdkdfaa.P
open Go.Proofs.YtemcmcnhpdkdfaaW.PrintWords

/-- The code's list as a partial function: -3 unknown, -2 lost; 0 is its own. -/
structure Rep (n : Nat) (o : List Int) (at' d : List Int) (T : Int → Option Int) : Prop where
  node : ∀ x ∈ o, 0 ≤ x ∧ x < (n : Int)
  at_ : ∀ x ∈ o, rd at' x = (o.idxOf x : Int)
  zero : rd d 0 = 0
  known : ∀ b p, T b = some p → rd d b = p
  unk : ∀ b, b ∈ o → b ≠ 0 → T b = none → rd d b = -3
  lost : ∀ b, 0 ≤ b → b < (n : Int) → ¬ b ∈ o → rd d b = -2

section
variable {g : List (List Int)} {n : Nat} {o at' d : List Int} {par T : Int → Option Int}
theorem meetA_ev (hd : Dfs g o par) (h : DI g o par T) (hr : Rep n o at' d T) {b : Int} (hb : b ∈ o) : ∀ (m : Nat) (a : Int), Kn T a → a ∈ o → o.idxOf a ≤ m →
    ∃ a', Ev (fun k => meetA n at' d k a b) a' ∧ Up T a a' ∧ o.idxOf a' ≤ o.idxOf b ∧ (∀ y, Up T a y → o.idxOf y ≤ o.idxOf b → Up T a' y) ∧ (o.idxOf b < o.idxOf a → o.idxOf a' < o.idxOf a) ∧ (o.idxOf a ≤ o.idxOf b → a' = a) := by
  intro m
  induction m with
  | zero =>
    intro a ha hao hm
    refine ⟨a, ?_, .refl _, by omega, fun y hy _ => hy, fun hlt => by omega, fun _ => rfl⟩
    refine Ev.step (f := fun _ => some a) (fun k => ?_) (Ev.now _)
    rw [meetA, if_pos ⟨isN_iff.2 (hr.node a hao), isN_iff.2 (hr.node b hb)⟩, hr.at_ a hao, hr.at_ b hb, if_neg (by omega)]
  | succ m ih =>
    intro a ha hao hm
    by_cases hlt : o.idxOf b < o.idxOf a
    · have ha0 : a ≠ 0 := fun e => by
        by_cases e0 : b = 0
        · rw [e, e0] at hlt; omega
        · have := zero_first hd hb e0
          rw [e] at hlt
          omega
      rcases ha with e | ⟨p, hp⟩
      · exact absurd e ha0
      · have h1 := h.t1 a p hp
        obtain ⟨a', e1, e2, e3, e4, e5, e6⟩ := ih p h1.2.2.2.2 h1.2.2.1 (by omega)
        refine ⟨a', ?_, .step hp e2, e3, fun y hy hyb => ?_, fun _ => ?_, fun hle => by omega⟩
        · refine Ev.step (f := fun k => meetA n at' d k p b) (fun k => ?_) e1
          rw [meetA, if_pos ⟨isN_iff.2 (hr.node a hao), isN_iff.2 (hr.node b hb)⟩, hr.at_ a hao, hr.at_ b hb, if_pos (by omega), hr.known a p hp]
        · rcases hy.cases with e | ⟨q, hq, k⟩
          · rw [e] at hyb; omega
          · rw [hp] at hq
            obtain rfl := Option.some.inj hq
            exact e4 y k hyb
        · have := (h.up e2 h1.2.2.1).2
          omega
    · refine ⟨a, ?_, .refl _, by omega, fun y hy _ => hy, fun h => by omega, fun _ => rfl⟩
      refine Ev.step (f := fun _ => some a) (fun k => ?_) (Ev.now _)
      rw [meetA, if_pos ⟨isN_iff.2 (hr.node a hao), isN_iff.2 (hr.node b hb)⟩, hr.at_ a hao, hr.at_ b hb, if_neg (by omega)]
theorem meetO_ev (hd : Dfs g o par) (h : DI g o par T) (hr : Rep n o at' d T) : ∀ (m : Nat) (a b : Int), Kn T a → a ∈ o → Kn T b → b ∈ o → o.idxOf a + o.idxOf b ≤ m →
    ∃ N, Ev (fun k => meetO n at' d k a b) N ∧ Up T a N ∧ Up T b N ∧ ∀ y, Up T a y → Up T b y → Up T N y := by
  intro m
  induction m with
  | zero =>
    intro a b _ hao _ hbo hm
    obtain rfl : a = b := idx_inj hao hbo (by omega)
    exact ⟨a, Ev.step (f := fun _ => some a) (fun k => by rw [meetO, if_pos rfl]) (Ev.now _), .refl _, .refl _, fun y hy _ => hy⟩
  | succ m ih =>
    intro a b ha hao hb hbo hm
    by_cases e : a = b
    · subst e
      exact ⟨a, Ev.step (f := fun _ => some a) (fun k => by rw [meetO, if_pos rfl]) (Ev.now _), .refl _, .refl _, fun y hy _ => hy⟩
    · have hne : o.idxOf a ≠ o.idxOf b := fun h => e (idx_inj hao hbo h)
      obtain ⟨a', a1, a2, a3, a4, a5, a6⟩ := meetA_ev hd h hr hbo _ a ha hao (Nat.le_refl _)
      have hao' := (h.up a2 hao).1
      obtain ⟨b', b1, b2, b3, b4, b5, b6⟩ := meetA_ev hd h hr hao' _ b hb hbo (Nat.le_refl _)
      have hbo' := (h.up b2 hbo).1
      have hlt : o.idxOf a' + o.idxOf b' ≤ m := by
        have h1 := (h.up a2 hao).2
        have h2 := (h.up b2 hbo).2
        rcases Nat.lt_or_ge (o.idxOf b) (o.idxOf a) with k | k
        · have := a5 k; omega
        · have := a6 k
          rw [this] at b5
          have := b5 (by omega)
          omega
      obtain ⟨N, n1, n2, n3, n4⟩ := ih a' b' (h.up_kn a2 ha) hao' (h.up_kn b2 hb) hbo' hlt
      refine ⟨N, Ev.step (f := fun k => (meetA n at' d k a b).bind fun x => (meetA n at' d k b x).bind fun y => meetO n at' d k x y) (fun k => by rw [meetO, if_neg e]) (Ev.bind a1 (Ev.bind b1 n1)), a2.trans n2, b2.trans n3, fun y hy hy2 => ?_⟩
      have h1 := a4 y hy (h.up hy2 hbo).2
      exact n4 y h1 (b4 y hy2 (h.up h1 hao').2)
/-- Of what is known ahead of a node the first one on all ways up. -/
theorem toF_ev (hd : Dfs g o par) (h : DI g o par T) (hr : Rep n o at' d T) : ∀ (ps : List Int), (∀ a ∈ ps, 0 ≤ a ∧ a < (n : Int)) → ∀ (z : Int) (S : Int → Prop), ((z = -3 ∧ ∀ a, ¬ S a) ∨ (Kn T z ∧ z ∈ o ∧ (∀ a, S a → Up T a z) ∧ ∀ y, (∀ a, S a → Up T a y) → Up T z y)) →
    ∃ z', Ev (fun k => toF n at' d k ps z) z' ∧ ((z' = -3 ∧ ∀ a, ¬ (S a ∨ (a ∈ ps ∧ Kn T a))) ∨ (Kn T z' ∧ z' ∈ o ∧ (∀ a, S a ∨ (a ∈ ps ∧ Kn T a) → Up T a z') ∧ ∀ y, (∀ a, S a ∨ (a ∈ ps ∧ Kn T a) → Up T a y) → Up T z' y)) := by
  intro ps
  induction ps with
  | nil =>
    intro _ z S hz
    refine ⟨z, Ev.congr (f := fun _ => some z) (fun k => by rw [toF]) (Ev.now _), ?_⟩
    simpa using hz
  | cons a ps ih =>
    intro hps z S hz
    have han := hps a (by simp)
    have hps' : ∀ x ∈ ps, 0 ≤ x ∧ x < (n : Int) := fun x hx => hps x (by simp [hx])
    have skip : ∀ (S' : Int → Prop), (∀ x, S' x ↔ S x) → ¬ Kn T a → ((∃ z', Ev (fun k => toF n at' d k ps z) z' ∧ ((z' = -3 ∧ ∀ x, ¬ (S x ∨ (x ∈ ps ∧ Kn T x))) ∨ (Kn T z' ∧ z' ∈ o ∧ (∀ x, S x ∨ (x ∈ ps ∧ Kn T x) → Up T x z') ∧ ∀ y, (∀ x, S x ∨ (x ∈ ps ∧ Kn T x) → Up T x y) → Up T z' y))) →
        ∃ z', Ev (fun k => toF n at' d k ps z) z' ∧ ((z' = -3 ∧ ∀ x, ¬ (S x ∨ (x ∈ a :: ps ∧ Kn T x))) ∨ (Kn T z' ∧ z' ∈ o ∧ (∀ x, S x ∨ (x ∈ a :: ps ∧ Kn T x) → Up T x z') ∧ ∀ y, (∀ x, S x ∨ (x ∈ a :: ps ∧ Kn T x) → Up T x y) → Up T z' y))) := by
      rintro _ _ hk ⟨z', h1, h2⟩
      refine ⟨z', h1, ?_⟩
      have e : ∀ x, (S x ∨ (x ∈ a :: ps ∧ Kn T x)) ↔ (S x ∨ (x ∈ ps ∧ Kn T x)) := fun x => by
        rw [List.mem_cons]
        constructor
        · rintro (k | ⟨rfl | k, k2⟩)
          · exact .inl k
          · exact absurd k2 hk
          · exact .inr ⟨k, k2⟩
        · rintro (k | ⟨k, k2⟩)
          · exact .inl k
          · exact .inr ⟨.inr k, k2⟩
      simp only [e]
      exact h2
    by_cases hk : Kn T a
    · have hao := h.kn_mem hd hk
      have hda : ¬ (rd d a = -3 ∨ rd d a = -2) := by
        rcases hk with e | ⟨p, hp⟩
        · rw [e, hr.zero]; omega
        · rw [hr.known a p hp]
          have := hr.node p (h.t1 a p hp).2.2.1
          omega
      have main : ∀ z2, Kn T z2 ∧ z2 ∈ o ∧ (∀ x, (S x ∨ x = a) → Up T x z2) ∧ (∀ y, (∀ x, (S x ∨ x = a) → Up T x y) → Up T z2 y) →
          ∃ z', Ev (fun k => toF n at' d k ps z2) z' ∧ ((z' = -3 ∧ ∀ x, ¬ (S x ∨ (x ∈ a :: ps ∧ Kn T x))) ∨ (Kn T z' ∧ z' ∈ o ∧ (∀ x, S x ∨ (x ∈ a :: ps ∧ Kn T x) → Up T x z') ∧ ∀ y, (∀ x, S x ∨ (x ∈ a :: ps ∧ Kn T x) → Up T x y) → Up T z' y)) := by
        intro z2 hz2
        obtain ⟨z', h1, h2⟩ := ih hps' z2 (fun x => S x ∨ x = a) (.inr hz2)
        refine ⟨z', h1, ?_⟩
        have e : ∀ x, (S x ∨ (x ∈ a :: ps ∧ Kn T x)) ↔ ((S x ∨ x = a) ∨ (x ∈ ps ∧ Kn T x)) := fun x => by
          rw [List.mem_cons]
          constructor
          · rintro (k | ⟨k | k, k2⟩)
            · exact .inl (.inl k)
            · exact .inl (.inr k)
            · exact .inr ⟨k, k2⟩
          · rintro ((k | k) | ⟨k, k2⟩)
            · exact .inl k
            · exact .inr ⟨.inl k, by rw [k]; exact hk⟩
            · exact .inr ⟨.inr k, k2⟩
        simp only [e]
        exact h2
      rcases hz with ⟨rfl, hS⟩ | ⟨hkz, hzo, hall, hbest⟩
      · obtain ⟨z', h1, h2⟩ := main a ⟨hk, hao, fun x hx => hx.elim (fun k => absurd k (hS x)) (fun e => by rw [e]; exact .refl _), fun y hy => hy a (.inr rfl)⟩
        exact ⟨z', Ev.congr (f := fun k => toF n at' d k ps a) (fun k => by rw [toF, if_pos (isN_iff.2 han), if_neg hda, if_pos rfl]) h1, h2⟩
      · have hz3 : z ≠ -3 := fun e => by have := hr.node z hzo; omega
        obtain ⟨N, n1, n2, n3, n4⟩ := meetO_ev hd h hr _ z a hkz hzo hk hao (Nat.le_refl _)
        obtain ⟨z', h1, h2⟩ := main N ⟨h.up_kn n2 hkz, (h.up n2 hzo).1, fun x hx => hx.elim (fun k => (hall x k).trans n2) (fun e => by rw [e]; exact n3), fun y hy => n4 y (hbest y (fun x hx => hy x (.inl hx))) (hy a (.inr rfl))⟩
        exact ⟨z', Ev.congr (f := fun k => (meetO n at' d k z a).bind fun m => toF n at' d k ps m) (fun k => by rw [toF, if_pos (isN_iff.2 han), if_neg hda, if_neg hz3]) (Ev.bind n1 h1), h2⟩
    · have hda : rd d a = -3 ∨ rd d a = -2 := by
        by_cases hao : a ∈ o
        · left
          refine hr.unk a hao (fun e => hk (.inl e)) ?_
          cases hT : T a with
          | none => rfl
          | some p => exact absurd (.inr ⟨p, hT⟩) hk
        · right
          exact hr.lost a han.1 han.2 hao
      obtain ⟨z', h1, h2⟩ := skip S (fun _ => Iff.rfl) hk (ih hps' z S hz)
      exact ⟨z', Ev.congr (f := fun k => toF n at' d k ps z) (fun k => by rw [toF, if_pos (isN_iff.2 han), if_pos hda]) h1, h2⟩
end

end Go.Proofs.Ytemcmcnhpdkdfaa.P

/-! The passes of dom.Idoms, until nothing changes: plain laws. -/
namespace Go.Proofs.Ytemcmcnhpdkdfaa.P
open Go.Proofs.YtemcmcnhpdkdfaaW.PrintWords

def passF (n : Nat) (at' : List Int) (pre : List (List Int)) (k : Nat) : List Int → List Int → Bool → Option (List Int × Bool)
  | [], d, ch => some (d, ch)
  | b :: bs, d, ch => (toF n at' d k (pre.getD b.toNat []) (-3)).bind fun z => passF n at' pre k bs (d.set b.toNat z) ((rd d b != z) || ch)
def itF (n : Nat) (at' : List Int) (pre : List (List Int)) (bs : List Int) : Nat → List Int → Option (List Int)
  | 0, _ => none
  | m + 1, d => (passF n at' pre m bs d false).bind fun r => if r.2 = true then itF n at' pre bs m r.1 else some r.1

theorem rd_setn {d : List Int} {c y v : Int} (hc : 0 ≤ c) (hl : c < (d.length : Int)) (hy : 0 ≤ y) : rd (d.set c.toNat v) y = if y = c then v else rd d y := by
  show (d.set c.toNat v).getD y.toNat 0 = _
  rw [List.getD_eq_getElem?_getD, List.getElem?_set]
  by_cases e : y = c
  · subst e
    rw [if_pos rfl, if_pos (by omega), if_pos rfl]
    rfl
  · rw [if_neg (by omega), if_neg e]
    show d[y.toNat]?.getD 0 = d.getD y.toNat 0
    rw [List.getD_eq_getElem?_getD]
theorem Rep.upd {n : Nat} {o at' d : List Int} {T : Int → Option Int} (h : Rep n o at' d T) (hl : d.length = n) {c N : Int} (hc : c ∈ o) (hc0 : c ≠ 0) : Rep n o at' (d.set c.toNat N) (upd T c N) := by
  have hn := h.node c hc
  have hs : ∀ y, 0 ≤ y → rd (d.set c.toNat N) y = if y = c then N else rd d y := fun y hy => rd_setn hn.1 (by omega) hy
  refine ⟨h.node, h.at_, by rw [hs 0 (by omega), if_neg (Ne.symm hc0)]; exact h.zero, fun b p hp => ?_, fun b hb hb0 hT => ?_, fun b h0 h1 hb => ?_⟩
  · by_cases e : b = c
    · subst e
      rw [upd_at] at hp
      rw [hs b hn.1, if_pos rfl]
      exact Option.some.inj hp
    · rw [upd_ne _ e] at hp
      have h2 := h.known b p hp
      by_cases hb : 0 ≤ b
      · rw [hs b hb, if_neg e, h2]
      · rw [← h2]
        show (d.set c.toNat N).getD b.toNat 0 = d.getD b.toNat 0
        have hb' : b.toNat = (0 : Int).toNat := by omega
        have h3 := hs 0 (by omega)
        rw [if_neg (Ne.symm hc0)] at h3
        rw [hb']
        exact h3
  · by_cases e : b = c
    · subst e
      rw [upd_at] at hT
      cases hT
    · rw [upd_ne _ e] at hT
      rw [hs b (h.node b hb).1, if_neg e]
      exact h.unk b hb hb0 hT
  · have e : b ≠ c := fun e => hb (by rw [e]; exact hc)
    rw [hs b h0, if_neg e]
    exact h.lost b h0 h1 hb

def wt (o : List Int) (T : Int → Option Int) (b : Int) : Nat := match T b with
  | none => o.length
  | some p => o.idxOf p
def mes (o : List Int) (T : Int → Option Int) : Nat := (o.map (wt o T)).sum
theorem sum_less {f f' : Int → Nat} {c : Int} : ∀ (l : List Int), l.Nodup → c ∈ l → (∀ x, x ≠ c → f' x = f x) → f' c < f c → (l.map f').sum < (l.map f).sum
  | [], _, h, _, _ => by simp at h
  | x :: l, hn, hc, he, hlt => by
    rw [List.nodup_cons] at hn
    simp only [List.map_cons, List.sum_cons]
    by_cases e : x = c
    · subst e
      have : l.map f' = l.map f := List.map_congr_left (fun y hy => he y (fun e => hn.1 (by rw [← e]; exact hy)))
      rw [this]
      omega
    · have hcl : c ∈ l := by
        rcases List.mem_cons.1 hc with h | h
        · exact absurd h.symm e
        · exact h
      have := sum_less l hn.2 hcl he hlt
      rw [he x e]
      omega

section
variable {g pre : List (List Int)} {n : Nat} {o at' : List Int} {par : Int → Option Int}
theorem pass_ev (hd : Dfs g o par) (hnd : o.Nodup) (hp1 : ∀ b, b ∈ o → ∀ a ∈ pre.getD b.toNat [], 0 ≤ a ∧ a < (n : Int)) (hp2 : ∀ a b, a ∈ o → b ∈ o → (a ∈ pre.getD b.toNat [] ↔ b ∈ row g a)) :
    ∀ (bs s : List Int), o = s ++ bs → 0 ∈ s → ∀ (T : Int → Option Int) (d : List Int) (ch : Bool), DI g o par T → Rep n o at' d T → d.length = n → Eq0 o par T s.length →
      ∃ T' d' e, Ev (fun k => passF n at' pre k bs d ch) (d', e || ch) ∧ DI g o par T' ∧ Rep n o at' d' T' ∧ d'.length = n ∧
        ((e = false ∧ d' = d ∧ T' = T ∧ ∀ c ∈ bs, ∃ p, T c = some p ∧ StepOk g T c p) ∨ (e = true ∧ mes o T' < mes o T)) := by
  intro bs
  induction bs with
  | nil =>
    intro s _ _ T d ch h hr hl _
    exact ⟨T, d, false, Ev.congr (f := fun _ => some (d, ch)) (fun k => by rw [passF]) (by rw [Bool.false_or]; exact Ev.now _), h, hr, hl, .inl ⟨rfl, rfl, rfl, fun c hc => by simp at hc⟩⟩
  | cons c bs ih =>
    intro s ho h0s T d ch h hr hl he
    have hco : c ∈ o := by rw [ho]; simp
    have hnd' := hnd
    rw [ho, List.nodup_append] at hnd'
    have hcs : ¬ c ∈ s := fun k => hnd'.2.2 c k c (by simp) rfl
    have hc0 : c ≠ 0 := fun e => hcs (by rw [e]; exact h0s)
    have hix : o.idxOf c = s.length := by
      rw [ho, List.idxOf_append, if_neg hcs, List.idxOf_cons_self]
      omega
    rw [← hix] at he
    obtain ⟨u, hu⟩ := hd.has c hco hc0
    have hpu := hd.ok _ _ hu
    have hku := DI.kn_par hd he hu
    obtain ⟨z, hz, hzz⟩ := toF_ev hd h hr (pre.getD c.toNat []) (hp1 c hco) (-3) (fun _ => False) (.inl ⟨rfl, fun _ h => h⟩)
    have hup : u ∈ pre.getD c.toNat [] := (hp2 u c hpu.2.2.2.1 hco).2 hpu.2.2.1
    rcases hzz with ⟨_, hno⟩ | ⟨hkz, hzo, hall, hbest⟩
    · exact absurd (.inr ⟨hup, hku⟩) (hno u)
    · have hs : StepOk g T c z := by
        refine ⟨fun a ha hrow => hall a (.inr ⟨(hp2 a c (h.kn_mem hd ha) hco).2 hrow, ha⟩), fun x hx => hbest x (fun a ha => ?_)⟩
        rcases ha with ha | ⟨ha, hk⟩
        · exact ha.elim
        · exact hx a hk ((hp2 a c (h.kn_mem hd hk) hco).1 ha)
      obtain ⟨h', he'⟩ := h.step hd he hs hco hc0
      have hr' := hr.upd (N := z) hl hco hc0
      have hl' : (d.set c.toNat z).length = n := by rw [List.length_set]; exact hl
      obtain ⟨T', d', e, i1, i2, i3, i4, i5⟩ := ih (s ++ [c]) (by rw [ho]; simp) (by simp [h0s]) (upd T c z) (d.set c.toNat z) ((rd d c != z) || ch) h' hr' hl' (by rw [List.length_append, ← hix]; exact he')
      refine ⟨T', d', e || (rd d c != z), Ev.congr (f := fun k => (toF n at' d k (pre.getD c.toNat []) (-3)).bind fun z => passF n at' pre k bs (d.set c.toNat z) ((rd d c != z) || ch)) (fun k => by rw [passF]) (Ev.bind hz (by rw [Bool.or_assoc]; exact i1)), i2, i3, i4, ?_⟩
      by_cases hch : rd d c = z
      · have hTc : T c = some z := by
          cases hT : T c with
          | none =>
            have := hr.unk c hco hc0 hT
            have := hr.node z hzo
            omega
          | some p => rw [← hch, hr.known c p hT]
        have hT' : upd T c z = T := by
          funext b
          unfold P.upd
          split
          · rename_i e; rw [e, hTc]
          · rfl
        have hd' : d.set c.toNat z = d := by
          apply List.ext_getElem
          · simp
          · intro i h1 h2
            rw [List.getElem_set]
            split
            · rename_i e
              subst e
              rw [← hch]
              show d.getD c.toNat 0 = _
              rw [List.getD_eq_getElem?_getD, List.getElem?_eq_getElem h2]
              rfl
            · rfl
        have hne : (rd d c != z) = false := by simp [hch]
        rw [hne, Bool.or_false]
        rcases i5 with ⟨q1, q2, q3, q4⟩ | ⟨q1, q2⟩
        · refine .inl ⟨q1, by rw [q2, hd'], by rw [q3, hT'], fun x hx => ?_⟩
          rcases List.mem_cons.1 hx with rfl | hx
          · exact ⟨z, hTc, hs⟩
          · rw [hT'] at q4
            exact q4 x hx
        · rw [hT'] at q2
          exact .inr ⟨q1, q2⟩
      · have hne : (rd d c != z) = true := by simp [hch]
        rw [hne, Bool.or_true]
        have hm : mes o (upd T c z) < mes o T := by
          refine sum_less o hnd hco (fun x hx => by unfold wt; rw [upd_ne _ hx]) ?_
          unfold wt
          rw [upd_at]
          have hzl := List.idxOf_lt_length_of_mem hzo
          cases hT : T c with
          | none => exact hzl
          | some p =>
            have hup := h.higher hd he hs hT
            have h1 := h.t1 c p hT
            have h2 := (h.up hup h1.2.2.1).2
            have h3 : o.idxOf z ≠ o.idxOf p := fun e => hch (by rw [hr.known c p hT]; exact (idx_inj hzo h1.2.2.1 e).symm)
            show o.idxOf z < o.idxOf p
            omega
        refine .inr ⟨rfl, ?_⟩
        rcases i5 with ⟨_, _, q3, _⟩ | ⟨_, q2⟩
        · rw [q3]; exact hm
        · omega
end

end Go.Proofs.Ytemcmcnhpdkdfaa.P

/-! slices.Repeat, of one number: what it answers. -/
namespace Go.Proofs.Ytemcmcnhpdkdfaa.P
open Go.RowKit Go.Lib Go.Sort Go.Shelf Go.Proofs.YtemcmcnhpdkdfaaW.PrintWords Go.Proofs.YtemcmcnhpdkdfaaW.PrintLast Go.Proofs.YtemcmcnhpdkdfaaW.PrintMore

theorem u64_in (x : Int) (h0 : 0 ≤ x) (h1 : x < 18446744073709551616) : IntKind.u64.wrap x = x := by rw [IntKind.wrap_u64]; omega
theorem i64_in (x : Int) (h0 : -9223372036854775808 ≤ x) (h1 : x ≤ 9223372036854775807) : IntKind.i64.wrap x = x := by rw [IntKind.wrap_i64]; omega
theorem mul_one (n : Nat) (h : n ≤ 100000) : bits_Mul.f 1 (n : Int) = some (0, (n : Int)) := by
  have e1 : Go.bits .and .u64 1 4294967295 = 1 := by have := Mul64.maskN 1 (by decide); simpa using this
  have e2 : Go.bits .and .u64 (n : Int) 4294967295 = (n : Int) := by
    rw [Mul64.maskN n (by omega), Nat.mod_eq_of_lt (by omega)]
  have e3 : (n : Int) / 4294967296 = 0 := by omega
  have e4 : (1 : Int) / 4294967296 = 0 := by decide
  have e0 : IntKind.u64.wrap 0 = 0 := by decide
  have en : IntKind.u64.wrap (n : Int) = (n : Int) := u64_in _ (by omega) (by omega)
  have e5 : Go.bits .and .u64 0 4294967295 = 0 := by have := Mul64.maskN 0 (by decide); simpa using this
  have e6 : (0 : Int) / 4294967296 = 0 := by decide
  unfold bits_Mul.f bits_Mul64.f
  simp only [e1, e2, e3, e4, Int.zero_mul, Int.mul_zero, Int.one_mul, e0, en, Int.add_zero, e5, e6, Option.bind_some]

/-- The first m cells of the row hold v. -/
structure RepAt (w wr : World) (g n m : Nat) (v : Int) (cur : List Value) : Prop where
  blk : wr.heap[g]? = some (.cells cur.toArray 3 (0, 0))
  len : cur.length = n
  one : ∀ i, i < m → cur[i]? = some (.int .i64 v)
  bel : Below w.heap.size w wr
theorem RepAt.cell {w wr : World} {g n m : Nat} {v : Int} {cur : List Value} (h : RepAt w wr g n m v cur) (i : Nat) (hi : i < m) : wr.cell? ⟨g, i, none⟩ = some (.int .i64 v) := by
  have := h.one i hi
  simp only [World.cell?, h.blk]
  simpa using this
theorem getElem?_splice {cur : List Value} {off k : Nat} {v : Value} (h : off + k ≤ cur.length) (i : Nat) : (splice cur off (List.replicate k v))[i]? = if off ≤ i ∧ i < off + k then some v else cur[i]? := by
  unfold splice
  rw [List.length_replicate]
  by_cases h1 : i < off
  · rw [List.getElem?_append_left (by rw [List.length_take]; omega), List.getElem?_take_of_lt h1, if_neg (by omega)]
  · rw [List.getElem?_append_right (by rw [List.length_take]; omega), List.length_take, Nat.min_eq_left (by omega)]
    by_cases h2 : i < off + k
    · rw [List.getElem?_append_left (by rw [List.length_replicate]; omega), List.getElem?_replicate, if_pos (by omega), if_pos (by omega)]
    · rw [List.getElem?_append_right (by rw [List.length_replicate]; omega), List.getElem?_drop, List.length_replicate, if_neg (by omega)]
      congr 1
      omega

set_option maxHeartbeats 8000000 in
set_option maxRecDepth 100000 in
theorem repeat_c (v : Int) (n : Nat) (h0 : 0 < n) (hn : n ≤ 100000) (A : Option Addr) (c : Nat) (w : World) (_hc : 1 ≤ c) (hC : dI.C w A 1 [v]) :
    Calls Try.prog 42 #[.slice A 1 c, .int .i64 n] w fun e w' => ∃ v0 : Value, e = .returned v0 ∧ dI.R 3 w' w.heap.size (fun _ => True) v0 (List.replicate n v) ∧ Below w.heap.size w w' := by
  obtain ⟨b, off, rfl, _, hcell⟩ := C_ints hC (by omega)
  have hcl : w.cell? ⟨b, off, none⟩ = some (.int .i64 v) := hcell 0 (by simp)
  have HCL := Aside0.mk hcl
  have HM := Aside0.mk (fun W => bits_Mul.calls 1 (n : Int) 0 (n : Int) W (mul_one n hn))
  have hmk := run_make_row' (P := Try.prog) 25 3 (.int .i64 0) 8 Try.underlying25 info3 rfl .i64 .i64 n (by omega) (by omega)
  have hbl : b < w.heap.size := by
    simp only [World.cell?] at hcl
    by_cases h : b < w.heap.size
    · exact h
    · rw [Array.getElem?_eq_none (by omega)] at hcl
      simp at hcl
  have HSP : ∀ nd : Nat, Aside0 ((((w.drewN nd).alloc (.cells (madeCells #[.int .i64 0] n) 3)).heap[w.heap.size]? = some (.cells (List.replicate n (.int .i64 0)).toArray 3 (0, 0))) ∧ (((w.drewN nd).alloc (.cells (madeCells #[.int .i64 0] n) 3)).cell? ⟨b, off, none⟩ = some (.int .i64 v)) ∧ Below w.heap.size w ((w.drewN nd).alloc (.cells (madeCells #[.int .i64 0] n) 3))) := fun nd => by
    refine ⟨?_, ?_, ?_⟩
    · have e : madeCells #[Value.int .i64 0] n = (List.replicate n (Value.int .i64 0)).toArray := by rw [← toList_madeCells_one, Array.toArray_toList]
      rw [e]
      show (w.heap.push _)[w.heap.size]? = _
      simp
    · exact (World.cell?_alloc_lt (w := w.drewN nd) (a := ⟨b, off, none⟩) _ hbl).trans hcl
    · exact below_alloc (pw_below_drewN (Below.refl _ _) nd) _
  clear hC hcell hcl
  go_enter Try.func42, Try.ntmps42
  go_wp2_with (first | (go_at_call 72; refine (HM.out _).mono ?_; rintro e w1 ⟨rfl, nd, rfl⟩) | ((with_reducible refine gate_dst (N := 33) rfl ?_); refine wpList_copy_splice rfl (.tmp 31) (.tmp 32) 25 25 rfl 3 Try.underlying25 (by kernel_rfl) (some ⟨w.heap.size, 0, none⟩) (some ⟨b, off, none⟩) n n 1 c rfl rfl w.heap.size 0 (List.replicate n (.int .i64 0)) 3 (HSP nd).out.1 [.int .i64 v] (show 1 = Nat.min 1 n from (Nat.min_eq_left h0).symm) (fun _ => ⟨rfl, _, rfl, ?_⟩) (show 0 + 1 ≤ (List.replicate n (Value.int .i64 0)).length by rw [List.length_replicate]; omega) (fun u hu => by simp at hu; subst hu; rfl) w.heap.size w (HSP nd).out.2.2 (Nat.le_refl _) ?_; (intro j u hj; match j, hj with | 0, hj => simpa [Go.WideShapes.add_plain, ← (Option.some.inj hj)] using (HSP nd).out.2.1 | j + 1, hj => simp at hj); intro w2 hg2 hb2; have HG2 := Aside0.mk hg2.out; have HB2 := Aside0.mk hb2; clear hg2 hb2))
  have HS0 : Aside0 (RepAt w w2 w.heap.size n 1 v (splice (List.replicate n (.int .i64 0)) 0 (List.replicate 1 (.int .i64 v)))) := by
    refine ⟨⟨HG2.out, by rw [length_splice _ _ _ (by simp; omega)]; simp, fun i hi => ?_, HB2.out⟩⟩
    rw [getElem?_splice (by simp; omega), if_pos (by omega)]
  clear HG2 HB2
  go_loopw [8] (fun v8 wr => ∃ m : Nat, v8 = .int .i64 m ∧ 1 ≤ m ∧ m ≤ n ∧ ∃ cur, Aside0 (RepAt w wr w.heap.size n m v cur)) (fun v8 _ => n - (intOf v8).toNat)
  case atStart => exact ⟨1, rfl, Nat.le_refl _, h0, _, HS0⟩
  case round =>
    clear HS0
    obtain ⟨m, rfl, hm1, hmn, cur, HS⟩ := hrel
    by_cases hlt : m < n
    · have hblk := HS.out.blk
      have hbel := HS.out.bel
      obtain ⟨q, hq⟩ : ∃ q, q = Nat.min m (n - m) := ⟨_, rfl⟩
      have hq1 : q ≤ m := by rw [hq]; exact Nat.min_le_left ..
      have hq2 : q ≤ n - m := by rw [hq]; exact Nat.min_le_right ..
      have hq3 : 1 ≤ q := by rw [hq]; exact Nat.le_min.2 ⟨hm1, by omega⟩
      have HQ := Aside0.mk hq
      clear hq
      have HL : Aside0 (m + (List.replicate q (Value.int .i64 v)).length ≤ cur.length) := ⟨by rw [List.length_replicate, HS.out.len]; omega⟩
      have HCE : ∀ W : World, W.heap = wr.heap → Aside0 (∀ j u, (List.replicate q (Value.int .i64 v))[j]? = some u → W.cell? ((⟨w.heap.size, 0, none⟩ : Addr).add j) = some u) := fun W hW => by
        refine ⟨fun j u hj => ?_⟩
        have hj2 : j < q := by
          by_cases h : j < q
          · exact h
          · rw [List.getElem?_eq_none (by rw [List.length_replicate]; omega)] at hj
            cases hj
        rw [List.getElem?_replicate, if_pos hj2] at hj
        rw [← Option.some.inj hj]
        have h2 := HS.out.cell j (show j < m from Nat.lt_of_lt_of_le hj2 hq1)
        rw [Go.WideShapes.add_plain, Nat.zero_add, ← h2]
        simp only [World.cell?, hW]
      have HBL := Aside0.mk (And.intro hblk hbel)
      clear hblk hbel
      go_wp2
      go_region_law (refine step_copy_splice rfl (.tmp 41) (.tmp 44) 25 25 rfl 3 Try.underlying25 (by kernel_rfl) (some ⟨w.heap.size, m, none⟩) (some ⟨w.heap.size, 0, none⟩) (n - m) (n - m) m n (by simp [Act.eval, Act.put]; omega) (by simp [Act.eval, Act.put]) w.heap.size m cur 3 HBL.out.1 (List.replicate q (.int .i64 v)) (by rw [List.length_replicate]; exact HQ.out) (fun _ => ⟨rfl, _, rfl, (HCE _ rfl).out⟩) HL.out (fun u hu => by rw [List.eq_of_mem_replicate hu]; rfl) w.heap.size w (by repeat (first | exact HBL.out.2 | apply pw_below_drewN | apply below_drew1 | apply below_drew)) (Nat.le_refl _) ?_; intro w4 hg4 hb4)
      have HR : Aside0 (RepAt w w4 w.heap.size n (m + q) v (splice cur m (List.replicate q (.int .i64 v)))) := by
        refine ⟨⟨hg4.out, ?_, fun i hi => ?_, hb4⟩⟩
        · rw [length_splice _ _ _ HL.out, HS.out.len]
        · have := HL.out
          rw [List.length_replicate] at this
          rw [getElem?_splice this]
          split
          · rfl
          · exact HS.out.one i (by omega)
      clear hg4 hb4
      go_wp2
      go_roundw
      case rel => exact ⟨m + q, by rw [i64_in _ (by omega) (by omega)]; rfl, by omega, by omega, _, HR⟩
      case measure => simp only [intOf]; rw [i64_in _ (by omega) (by omega)]; simp; omega
    · obtain rfl : m = n := by omega
      go_wp2
      go_ret
      refine ⟨_, rfl, ?_, HS.out.bel⟩
      have hcur : cur = List.replicate m (Value.int .i64 v) := by
        apply List.ext_getElem?
        intro i
        by_cases h : i < m
        · rw [HS.out.one i h, List.getElem?_replicate, if_pos h]
        · rw [List.getElem?_eq_none (by rw [HS.out.len]; omega), List.getElem?_eq_none (by rw [List.length_replicate]; omega)]
      have hb := HS.out.blk
      rw [hcur] at hb
      exact ints_R ⟨by simp, .inr ⟨w.heap.size, m, _, by simp, Nat.le_refl _, hb, by simp, by unfold maxLen; simp; omega, by simp, by simp⟩⟩ (fun _ _ => trivial)

end Go.Proofs.Ytemcmcnhpdkdfaa.P

/-! dom.Idoms: the solver that it makes. -/
namespace Go.Proofs.Ytemcmcnhpdkdfaa.P
open Go.RowKit Go.Shelf Go.Lib Go.Sort Go.Proofs.YtemcmcnhpdkdfaaW.PrintWords Go.Proofs.YtemcmcnhpdkdfaaW.PrintLast Go.Proofs.YtemcmcnhpdkdfaaW.PrintMore

/-- A solver that this call has made: what it holds, and that nothing of it lies in anything else of it. -/
structure IdS (w W : World) (s n ga gd cd : Nat) (vp vo : Value) (pre : List (List Int)) (ord at' d : List Int) : Prop where
  bel : Below w.heap.size w W
  base : w.heap.size ≤ s ∧ w.heap.size ≤ ga ∧ w.heap.size ≤ gd
  ne : s ≠ ga ∧ s ≠ gd ∧ ga ≠ gd
  blk : W.heap[s]? = some (.cells #[vp, vo, .slice (some ⟨ga, 0, none⟩) n n, .slice (some ⟨gd, 0, none⟩) n cd] 60 (0, 0))
  rat : dI.R 3 W w.heap.size (fun k => k = ga) (.slice (some ⟨ga, 0, none⟩) n n) at'
  rd_ : dI.R 3 W w.heap.size (fun k => k = gd) (.slice (some ⟨gd, 0, none⟩) n cd) d
  po : dI.R 3 W w.heap.size (fun k => k ≠ s ∧ k ≠ ga ∧ k ≠ gd) vo ord
  pp : Kd.S dG 25 W w.heap.size (fun k => k ≠ s ∧ k ≠ ga ∧ k ≠ gd) vp pre

theorem IdS.drewN {w W : World} {s n ga gd cd : Nat} {vp vo : Value} {pre : List (List Int)} {ord at' d : List Int} (h : IdS w W s n ga gd cd vp vo pre ord at' d) (m : Nat) : IdS w (W.drewN m) s n ga gd cd vp vo pre ord at' d :=
  ⟨pw_below_drewN h.bel m, h.base, h.ne, h.blk, Kd.R_move h.rat (fun _ _ => rfl), Kd.R_move h.rd_ (fun _ _ => rfl), Kd.R_move h.po (fun _ _ => rfl), Kd.S_step (ok := _) (Kd.S_bound h.pp |> fun h => Kd.S_mono h (fun _ hk => hk.1)) (fun _ _ _ => rfl)⟩

theorem size_drew1 (w : World) : w.drew.heap.size = w.heap.size := rfl
theorem size_drewN1 (w : World) (n : Nat) : (w.drewN n).heap.size = w.heap.size := rfl
theorem bel_next {w W W' : World} (h : Below w.heap.size w W) (k : Below W.heap.size W W') : Below w.heap.size w W' := h.trans (k.mono h.size)
theorem cell_new (W : World) (v : Value) (t : TypeId) : (W.alloc (.cells #[v] t)).cell? ⟨W.heap.size, 0, none⟩ = some v := by simp
theorem cell_bel {W W' : World} {a : Addr} {v : Value} (h : Below W.heap.size W W') (hc : W.cell? a = some v) : W'.cell? a = some v := (h.cell (World.block_lt_of_cell? _ _ hc)).trans hc
theorem bel_call {P : Program} {f : FuncId} {args : Array Value} {w W : World} {Q1 Q : Ending → World → Prop} (h : Below w.heap.size w W → Calls P f args W Q1) (hW : Below w.heap.size w W) (k : ∀ e W', Q1 e W' → Below w.heap.size w W → Q e W') : Calls P f args W Q :=
  (h hW).mono (fun e W' hq => k e W' hq hW)
theorem cell_one {W : World} {b off : Nat} {v : Int} (h : W.cell? ⟨b, off, none⟩ = some (.int .i64 v)) : dI.C W (some ⟨b, off, none⟩) 1 [v] := by
  refine ⟨rfl, by omega, fun _ => ⟨_, rfl, fun i x hi => ?_⟩⟩
  match i, hi with
  | 0, hi =>
    obtain rfl := Option.some.inj hi
    refine ⟨[.int .i64 v], rfl, rfl, fun j u hj => ?_⟩
    match j, hj with
    | 0, hj =>
      obtain rfl := Option.some.inj hj
      simpa [Go.WideShapes.add_plain] using h
    | j + 1, hj => simp at hj
  | i + 1, hi => simp at hi
theorem heap_new (W : World) (o : Obj) (k : Nat) (hk : k = W.heap.size) : (W.alloc o).heap[k]? = some o := by
  subst hk
  show (W.heap.push o)[W.heap.size]? = some o
  simp
theorem heap_old {W : World} {o c : Obj} {k : Nat} (h : W.heap[k]? = some c) : (W.alloc o).heap[k]? = some c := by
  have hk : k < W.heap.size := by
    by_cases hk : k < W.heap.size
    · exact hk
    · rw [Array.getElem?_eq_none (by omega)] at h
      cases h
  rw [Below.heap_alloc _ _ _ hk]
  exact h
theorem heap_bel {W W' : World} {c : Obj} {k : Nat} (h : W.heap[k]? = some c) (hb : Below W.heap.size W W') : W'.heap[k]? = some c := by
  have hk : k < W.heap.size := by
    by_cases hk : k < W.heap.size
    · exact hk
    · rw [Array.getElem?_eq_none (by omega)] at h
      cases h
  rw [hb.block k hk]
  exact h
theorem IdS_make {w wT wO wR WT WO WR W : World} {s n ga gd cd : Nat} {vT vO : Value} {pre : List (List Int)} {ord : List Int}
    (hoT : Kd.S dG 25 wT WT.heap.size (fun _ => True) vT pre) (hbT : Below WT.heap.size WT wT) (hxT : Below wT.heap.size wT W)
    (hoO : dI.R 3 wO WO.heap.size (fun _ => True) vO ord) (hbO : Below WO.heap.size WO wO) (hxO : Below wO.heap.size wO W)
    (hoR : dI.R 3 wR WR.heap.size (fun _ => True) (.slice (some ⟨gd, 0, none⟩) n cd) (List.replicate n (-2))) (hbR : Below WR.heap.size WR wR) (hxR : Below wR.heap.size wR W)
    (hS : W.heap[s]? = some (.cells #[vT, vO, .slice (some ⟨ga, 0, none⟩) n n, .slice (some ⟨gd, 0, none⟩) n cd] 60 (0, 0)))
    (hM : W.heap[ga]? = some (.cells (madeCells #[.int .i64 0] n) 3 (0, 0)))
    (hb : Below w.heap.size w W) (hn0 : 0 < n) (hn : n ≤ 100000)
    (h : w.heap.size ≤ WT.heap.size ∧ wT.heap.size ≤ WO.heap.size ∧ wO.heap.size ≤ WR.heap.size ∧ wR.heap.size ≤ s ∧ ga < s ∧ w.heap.size ≤ ga ∧ (ga < WT.heap.size ∨ wT.heap.size ≤ ga) ∧ (ga < WO.heap.size ∨ wO.heap.size ≤ ga) ∧ (ga < WR.heap.size ∨ wR.heap.size ≤ ga)) :
    IdS w W s n ga gd cd vT vO pre ord (List.replicate n 0) (List.replicate n (-2)) := by
  have s1 := hbT.size
  have s2 := hbO.size
  have s3 := hbR.size
  obtain ⟨g', c', e, hg1, hg2, _⟩ := Kd.R_form hoR (by rw [List.length_replicate]; exact hn0)
  injection e with e _ _
  injection e with e
  injection e with e _ _
  subst e
  refine ⟨hb, ⟨by omega, by omega, by omega⟩, ⟨by omega, by omega, by omega⟩, hS, ?_, ?_, ?_, ?_⟩
  · refine ints_R ⟨by simp, .inr ⟨ga, n, _, by simp, by omega, hM, by simp, by unfold maxLen; simp; omega, by simp [size_madeCells], by simp [toList_madeCells_one]⟩⟩ (fun k hk => ?_)
    simp only [Value.ownBlock] at hk
    exact (Option.some.inj hk).symm
  · refine Kd.R_lower (Kd.R_mono (Kd.R_tight rfl (Kd.R_below hoR hxR)) (fun k hk => ?_)) (by omega)
    simp only [Value.ownBlock] at hk
    exact Option.some.inj hk
  · exact Kd.R_lower (Kd.R_mono (Kd.R_below (Kd.R_bound hoO) hxO) (fun k hk => by have h1 := hk.2.1; have h2 := hk.2.2.1; omega)) (by omega)
  · exact Kd.S_lower (Kd.S_mono (Kd.S_below (Kd.S_bound hoT) hxT) (fun k hk => by have h1 := hk.2.1; have h2 := hk.2.2.1; omega)) (by omega)

theorem C_row {w : World} {A : Option Addr} {n : Nat} {xs : List (List Int)} (h : dG.C w A n xs) {i : Nat} (hi : i < n) : ∃ ad A' c, A = some ad ∧ w.cell? (ad.add i) = some (.slice A' (xs.getD i []).length c) ∧ (xs.getD i []).length ≤ c ∧ dI.C w A' (xs.getD i []).length (xs.getD i []) := by
  obtain ⟨ad, cs, rfl, _, ⟨A', c, rfl, hc, hC⟩, hcell⟩ := Kd.C_get h [] (i : Int) (by omega) (by omega)
  refine ⟨ad, A', c, rfl, ?_, hc, hC⟩
  have := hcell 0 _ rfl
  rw [show (i : Int).toNat * dG.sz + 0 = i from by show (i : Int).toNat * 1 + 0 = i; omega] at this
  exact this
theorem R_int_cell {W : World} {base g n cap : Nat} {ok : Nat → Prop} {xs : List Int} (h : dI.R 3 W base ok (.slice (some ⟨g, 0, none⟩) n cap) xs) (i : Nat) (hi : i < n) : W.cell? ⟨g, i, none⟩ = some (.int .i64 (xs.getD i 0)) ∧ W.frozen? ⟨g, i, none⟩ = false := by
  have := Kd.R_celln (0 : Int) h (i : Int) (by omega) (by omega)
  exact this
theorem IdS.solv {w W : World} {s n ga gd cd : Nat} {vp vo : Value} {pre : List (List Int)} {ord at' d : List Int} (h : IdS w W s n ga gd cd vp vo pre ord at' d) : Solv W s n ga n gd cd vp vo at' d :=
  ⟨h.blk, fun i hi => (R_int_cell h.rat i hi).1, fun i hi => (R_int_cell h.rd_ i hi).1⟩
theorem IdS.setAt {w W : World} {s n ga gd cd : Nat} {vp vo : Value} {pre : List (List Int)} {ord at' d : List Int} (h : IdS w W s n ga gd cd vp vo pre ord at' d) (i : Nat) (x : Int) : IdS w (W.setCell ⟨ga, i, none⟩ (.int .i64 x)) s n ga gd cd vp vo pre ord (at'.set i x) d := by
  have hne := h.ne
  have hm : ∀ k, k ≠ ga → (W.setCell ⟨ga, i, none⟩ (.int .i64 x)).heap[k]? = W.heap[k]? := fun k hk => Below.heap_setCell _ _ _ _ hk
  refine ⟨h.bel.setCell h.base.2.1 _, h.base, h.ne, (hm s hne.1).trans h.blk, ?_, Kd.R_move h.rd_ (fun k hk => hm k (by rw [hk]; exact fun e => hne.2.2 e.symm)), Kd.R_move h.po (fun k hk => hm k hk.2.1), Kd.S_step h.pp (fun k hk _ => hm k hk.2.1)⟩
  have := Kd.R_putn h.rat (i : Int) x
  rw [Int.toNat_natCast] at this
  exact this
theorem IdS.setD {w W : World} {s n ga gd cd : Nat} {vp vo : Value} {pre : List (List Int)} {ord at' d : List Int} (h : IdS w W s n ga gd cd vp vo pre ord at' d) (i : Nat) (x : Int) : IdS w (W.setCell ⟨gd, i, none⟩ (.int .i64 x)) s n ga gd cd vp vo pre ord at' (d.set i x) := by
  have hne := h.ne
  have hm : ∀ k, k ≠ gd → (W.setCell ⟨gd, i, none⟩ (.int .i64 x)).heap[k]? = W.heap[k]? := fun k hk => Below.heap_setCell _ _ _ _ hk
  refine ⟨h.bel.setCell h.base.2.2 _, h.base, h.ne, (hm s hne.2.1).trans h.blk, Kd.R_move h.rat (fun k hk => hm k (by rw [hk]; exact hne.2.2)), ?_, Kd.R_move h.po (fun k hk => hm k hk.2.2), Kd.S_step h.pp (fun k hk _ => hm k hk.2.2)⟩
  have := Kd.R_putn h.rd_ (i : Int) x
  rw [Int.toNat_natCast] at this
  exact this

end Go.Proofs.Ytemcmcnhpdkdfaa.P

/-! dom.Idoms: the walk. -/
namespace Go.Proofs.Ytemcmcnhpdkdfaa.P
open Go.RowKit Go.Shelf Go.Lib Go.Sort Go.Proofs.YtemcmcnhpdkdfaaW.PrintWords Go.Proofs.YtemcmcnhpdkdfaaW.PrintLast Go.Proofs.YtemcmcnhpdkdfaaW.PrintMore

/-- Where nodes stand, and what is known of them, before the passes. -/
def atSo (o : List Int) (n : Nat) : Nat → List Int
  | 0 => List.replicate n 0
  | k + 1 => (atSo o n k).set (o.getD k 0).toNat (k : Int)
def dSo (o : List Int) (n : Nat) : Nat → List Int
  | 0 => List.replicate n (-2)
  | k + 1 => (dSo o n k).set (o.getD k 0).toNat (-3)
def idF (k : Nat) (l0 : List (List Int)) : Option (List Int) :=
  if l0.length = 0 then some [] else (graph_Order.f l0 0).bind fun o => if (o.all (isN l0.length) && decide (0 < o.length)) = true then
    (itF l0.length (atSo o l0.length o.length) (turn (clean l0)) (o.drop 1) k ((dSo o l0.length o.length).set 0 0)).map fun d => d.set 0 (-1) else none

theorem pre_rows {l0 : List (List Int)} (hf : fits l0 = true) (b : Nat) : ((turn (clean l0)).getD b []).length ≤ 1000000 := by
  have h := clean_row_le (g := turn (clean l0))
  rw [clean_self (turn_Valid (clean_Valid l0) (clean_rises l0)) (turn_rises (clean_Valid l0) (clean_rises l0)), turn_len, clean_len] at h
  have hn : l0.length ≤ 100000 := by
    unfold fits at hf
    simp at hf
    exact hf.1
  rw [List.getD_eq_getElem?_getD]
  by_cases hb : b < (turn (clean l0)).length
  · rw [List.getElem?_eq_getElem hb]
    exact Nat.le_trans (h _ (List.getElem_mem _)) (by omega)
  · rw [List.getElem?_eq_none (by omega)]
    exact Nat.zero_le _

set_option maxHeartbeats 8000000 in
set_option maxRecDepth 100000 in
theorem idoms_c (A0 : Option Addr) (c0 : Nat) (l0 : List (List Int)) (k : Nat) (o at' dfin : List Int) (w : World) (hr0 : Kd.C (Kd.slice 3 (Kd.int .i64)) w A0 l0.length l0) (hc0 : l0.length ≤ c0) (hf : fits l0 = true) (hn0 : 0 < l0.length) (ho : graph_Order.f l0 0 = some o)
    (hon : ∀ x ∈ o, 0 ≤ x ∧ x < (l0.length : Int)) (ho0 : 0 < o.length) (hat : at' = atSo o l0.length o.length) (hit : itF l0.length at' (turn (clean l0)) (o.drop 1) k ((dSo o l0.length o.length).set 0 0) = some dfin) :
    Calls Try.prog 15 #[.slice A0 l0.length c0] w fun e w' => ∃ v0_ : Value, e = .returned v0_ ∧ dI.R 3 w' w.heap.size (fun _ => True) v0_ (dfin.set 0 (-1)) ∧ Below w.heap.size w w' := by
  have HT := Aside0.mk (fun W (hW : Below w.heap.size w W) => graph_Turn.calls A0 c0 l0 (turn (clean l0)) W (Kd.C_below hr0 hW) hc0 (by unfold graph_Turn.f; rw [if_pos hf]))
  have HO := Aside0.mk (fun W (hW : Below w.heap.size w W) => graph_Order.calls A0 c0 l0 0 o W (Kd.C_below hr0 hW) hc0 ho)
  have hn : l0.length ≤ 100000 := by
    have := hf
    unfold fits at this
    simp at this
    exact this.1
  have hom : o.length ≤ 1000000 := by
    unfold graph_Order.f at ho
    rw [if_pos hf] at ho
    obtain ⟨t, ht, e⟩ := Option.map_eq_some_iff.1 ho
    rw [← e, List.length_reverse]
    exact toldOf_len ht
  obtain ⟨n, en⟩ : ∃ n, n = l0.length := ⟨_, rfl⟩
  rw [← en] at HT HO hn hn0 hon hat hit ⊢
  have HAT := Aside0.mk hat
  have HIT := Aside0.mk hit
  have HON := Aside0.mk hon
  have HPR := Aside0.mk (pre_rows hf)
  have HPL : Aside0 ((turn (clean l0)).length = n) := ⟨by rw [turn_len, clean_len, en]⟩
  have HN := Aside0.mk en
  have hne0 : ((n : Int) == 0) = false := beq_eq_false_iff_ne.2 (by omega)
  have HR := Aside0.mk (fun W A c (hc : 1 ≤ c) (hC : dI.C W A 1 [-2]) => repeat_c (-2) n hn0 hn A c W hc hC)
  have hmk := run_make_row' (P := Try.prog) 25 3 (.int .i64 0) 8 Try.underlying25 info3 rfl .i64 .i64 n (by omega) (by omega)
  clear hr0 hc0 hf ho en hon hat hit
  go_enter Try.func15, Try.ntmps15
  go_upto_region 4 with (fail)
  go_cut [4] from 14 to 24 (fun v4 wx => ∃ s ga gd cd vp vo, v4 = .pointer (some ⟨s, 0, none⟩) ∧ Aside0 (IdS w wx s n ga gd cd vp vo (turn (clean l0)) o (List.replicate n 0) (List.replicate n (-2))))
  case first =>
    go_region_with (first
      | (go_at_call 18; refine bel_call (HT.out _) (by repeat (first | exact Below.refl _ _ | apply pw_below_drewN | apply below_drew1 | apply below_drew | apply below_alloc)) ?_; rintro e wT ⟨vT, rfl, hoT, hbT⟩ hW; obtain ⟨AT, cT, rfl, _⟩ := Kd.S_reads hoT; have HOT := Aside0.mk hoT; have HBc := Aside0.mk (bel_next hW hbT); have HBT := Aside0.mk hbT; clear hoT hbT hW)
      | (go_at_call 41; refine bel_call (HO.out _) (by repeat (first | exact Below.refl _ _ | exact HBc.out | apply pw_below_drewN | apply below_drew1 | apply below_drew | apply below_alloc)) ?_; rintro e wO ⟨vO, rfl, hoO, hbO⟩ hW; obtain ⟨AO, cO, rfl, _⟩ := Kd.R_reads hoO; have HOO := Aside0.mk hoO; have HBc := Aside0.mk (bel_next hW hbO); have HBO := Aside0.mk hbO; clear hoO hbO hW)
      | (go_at_call 42; refine bel_call (fun hW => HR.out _ _ _ (by omega) (cell_one (by repeat (first | exact World.cell?_alloc_at _ _ _ _ (by simp) | exact cell_new _ _ _ | apply cell?_alloc_some | apply cell_bel HBO.out | apply cell_bel HBT.out)))) (by repeat (first | exact Below.refl _ _ | exact HBc.out | apply pw_below_drewN | apply below_drew1 | apply below_drew | apply below_alloc)) ?_; rintro e wR ⟨vR, rfl, hoR, hbR⟩ hW; obtain ⟨gd, cd, rfl, hgd, hgd2, _⟩ := Kd.R_form hoR (by rw [List.length_replicate]; omega); rw [List.length_replicate] at hoR ⊢; have HOR := Aside0.mk hoR; have HBc := Aside0.mk (bel_next hW hbR); have HBR := Aside0.mk hbR; clear hoR hbR hW))
    all_goals (go_wp2_with (fail))
    all_goals go_meet
    all_goals exact ⟨_, _, _, _, _, _, rfl, ⟨IdS_make HOT.out HBT.out (by repeat (first | with_reducible exact Below.refl _ _ | apply below_alloc | apply pw_below_drewN | refine bel_next ?_ HBR.out | refine bel_next ?_ HBO.out | refine bel_next ?_ HBT.out)) HOO.out HBO.out (by repeat (first | with_reducible exact Below.refl _ _ | apply below_alloc | apply pw_below_drewN | refine bel_next ?_ HBR.out | refine bel_next ?_ HBO.out | refine bel_next ?_ HBT.out)) HOR.out HBR.out (by repeat (first | with_reducible exact Below.refl _ _ | apply below_alloc | apply pw_below_drewN | refine bel_next ?_ HBR.out | refine bel_next ?_ HBO.out | refine bel_next ?_ HBT.out)) (by repeat (first | exact heap_new _ _ _ (by simp) | apply heap_old | refine heap_bel ?_ HBR.out | refine heap_bel ?_ HBO.out | refine heap_bel ?_ HBT.out)) (by repeat (first | exact heap_new _ _ _ (by simp) | apply heap_old | refine heap_bel ?_ HBR.out | refine heap_bel ?_ HBO.out | refine heap_bel ?_ HBT.out)) (by repeat (first | with_reducible exact Below.refl _ _ | apply below_alloc | apply pw_below_drewN | refine bel_next ?_ HBR.out | refine bel_next ?_ HBO.out | refine bel_next ?_ HBT.out)) hn0 hn (by have h1 := HBT.out.size; have h2 := HBO.out.size; have h3 := HBR.out.size; simp only [size_alloc1, size_drew1] at h1 h2 h3 ⊢; omega)⟩⟩
  case rest =>
    obtain ⟨s, ga, gd, cd, vp, vo, rfl, HS⟩ := hcut
    obtain ⟨go, co, rfl, _, _, _⟩ := Kd.R_form HS.out.po ho0
    clear HT HO HR hmk
    obtain ⟨m, em⟩ : ∃ m, m = o.length := ⟨_, rfl⟩
    rw [← em] at HS HIT HAT ho0 hom
    have HEM := Aside0.mk em
    clear em
    obtain ⟨z0, z1, z2, z3⟩ := cells4 HS.out.blk
    obtain ⟨hne1, hne2, hne3⟩ := HS.out.ne
    clear z0 z2 z3
    go_wp2
    go_loopw [30] (fun v30 w' => ∃ i : Nat, i ≤ m ∧ v30 = .int .i64 i ∧ Aside0 (IdS w w' s n ga gd cd vp (.slice (some ⟨go, 0, none⟩) m co) (turn (clean l0)) o (atSo o n i) (dSo o n i))) (fun v30 _ => m - (intOf v30).toNat)
    case atStart => exact ⟨0, Nat.zero_le _, rfl, HS⟩
    case round =>
      clear HS z1
      obtain ⟨i, hi, rfl, HI⟩ := hrel
      by_cases hlt : i < m
      · obtain ⟨b, eb⟩ : ∃ b, b = o.getD i 0 := ⟨_, rfl⟩
        have hb : 0 ≤ b ∧ b < (n : Int) := by
          have hil : i < o.length := by have := HEM.out; omega
          have := HON.out (o.getD i 0) (by rw [List.getD_eq_getElem?_getD, List.getElem?_eq_getElem hil]; exact List.getElem_mem hil)
          rw [← eb] at this
          exact this
        obtain ⟨x, rfl⟩ : ∃ x : Nat, b = (x : Int) := ⟨b.toNat, by omega⟩
        have hx : x < n := by omega
        have co_ := (R_int_cell HI.out.po i hlt).1
        rw [← eb] at co_
        have HEB := Aside0.mk eb
        clear eb hb
        obtain ⟨z0, z1, z2, z3⟩ := cells4 HI.out.blk
        have ca := HI.out.solv.at_ x hx
        have cd_ := HI.out.solv.d_ x hx
        have fa := (R_int_cell HI.out.rat x hx).2
        have fd := (R_int_cell HI.out.rd_ x hx).2
        clear z0 z1
        go_wp2
        go_region
        all_goals go_wp2
        go_roundw
        case rel =>
          refine ⟨i + 1, by omega, by go_num, ⟨?_⟩⟩
          have h := (((HI.out.setAt x (i : Int)).setD x (-3)).drewN 1)
          rw [atSo, dSo, ← HEB.out, Int.toNat_natCast]
          exact h
        case measure => simp [intOf]; omega
      · obtain rfl : i = m := by omega
        have HI' : Aside0 (IdS w wr s n ga gd cd vp (.slice (some ⟨go, 0, none⟩) i co) (turn (clean l0)) o at' (dSo o n i)) := ⟨by
          have := HI.out
          rw [HAT.out]
          exact this⟩
        clear HI
        obtain ⟨z0, z1, z2, z3⟩ := cells4 HI'.out.blk
        have cd_ := HI'.out.solv.d_ 0 hn0
        have fd := (R_int_cell HI'.out.rd_ 0 hn0).2
        clear z0 z2
        have hc1 : i ≤ co := (Kd.R_reads' HI'.out.po).2.1
        go_wp2
        clear cd_ fd z1 z3
        have HI2 : Aside0 (IdS w (wr.setCell ⟨gd, 0, none⟩ (.int .i64 0)) s n ga gd cd vp (.slice (some ⟨go, 0, none⟩) i co) (turn (clean l0)) o at' ((dSo o n i).set 0 0)) := ⟨HI'.out.setD 0 0⟩
        clear HI'
        obtain ⟨W0, hW0⟩ : ∃ W0, W0 = wr.setCell ⟨gd, 0, none⟩ (.int .i64 0) := ⟨_, rfl⟩
        rw [← hW0] at HI2 ⊢
        clear hW0
        obtain ⟨d0, hd0⟩ : ∃ d0, d0 = (dSo o n i).set 0 0 := ⟨_, rfl⟩
        rw [← hd0] at HI2 HIT
        clear hd0
        obtain ⟨pre, epre⟩ : ∃ pre, pre = turn (clean l0) := ⟨_, rfl⟩
        rw [← epre] at HI2 HIT HPR HPL
        clear epre
        obtain ⟨gp, cp, e, _, _, _⟩ := Kd.S_form HI2.out.pp (by rw [HPL.out]; exact hn0)
        rw [HPL.out] at e
        subst e
        go_loopg [7] k (fun kq v7 w' => ∃ (c : Bool) (d : List Int), v7 = .bool c ∧ Aside0 (IdS w w' s n ga gd cd (.slice (some ⟨gp, 0, none⟩) n cp) (.slice (some ⟨go, 0, none⟩) i co) pre o at' d) ∧ Aside0 ((c = true ∧ itF n at' pre (o.drop 1) kq d = some dfin) ∨ (c = false ∧ d = dfin)))
        case atStart => exact ⟨true, d0, rfl, HI2, ⟨.inl ⟨rfl, HIT.out⟩⟩⟩
        case round =>
          clear HI2 HIT
          obtain ⟨c, d, rfl, HI, HC⟩ := hrel
          cases c with
          | false =>
            obtain rfl : d = dfin := by
              rcases HC.out with h | h
              · exact absurd h.1 (by simp)
              · exact h.2
            obtain ⟨z0, z1, z2, z3⟩ := cells4 HI.out.blk
            have cd_ := HI.out.solv.d_ 0 hn0
            have fd := (R_int_cell HI.out.rd_ 0 hn0).2
            clear z0 z1 z2
            go_wp2
            go_ret
            exact ⟨_, rfl, Kd.R_mono (HI.out.setD 0 (-1)).rd_ (fun _ _ => trivial), (HI.out.setD 0 (-1)).bel⟩
          | true =>
            cases gk with
            | zero =>
              rcases HC.out with h | h
              · rw [itF] at h
                exact absurd h.2 (by simp)
              · exact absurd h.1 (by simp)
            | succ k1 =>
              obtain ⟨r, hr, hr2⟩ : ∃ r, passF n at' pre k1 (o.drop 1) d false = some r ∧ (if r.2 = true then itF n at' pre (o.drop 1) k1 r.1 else some r.1) = some dfin := by
                rcases HC.out with h | h
                · have h2 := h.2
                  rw [itF] at h2
                  exact Option.bind_eq_some_iff.1 h2
                · exact absurd h.1 (by simp)
              have HR1 := Aside0.mk hr
              have HR2 := Aside0.mk hr2
              clear hr hr2 HC
              obtain ⟨z0, z1, z2, z3⟩ := cells4 HI.out.blk
              clear z0 z2 z3
              have hi1 : (1 : Int) ≤ (i : Int) := by omega
              have hi2 : (i : Int) ≤ (co : Int) := by omega
              by_cases hc11 : co = 1
              · obtain rfl : i = 1 := by omega
                have hd1 : d = dfin := by
                  have h := HR1.out
                  rw [List.drop_eq_nil_of_le (by have := HEM.out; omega), passF] at h
                  have h2 := HR2.out
                  obtain rfl := Option.some.inj h
                  simpa using h2
                subst hc11
                go_wp2
                go_loopw [7, 61] (fun v7 v61 w' => v7 = .bool false ∧ v61 = .int .i64 0 ∧ Aside0 (IdS w w' s n ga gd cd (.slice (some ⟨gp, 0, none⟩) n cp) (.slice (some ⟨go, 0, none⟩) 1 1) pre o at' d)) (fun _ _ _ => 0)
                case atStart => exact ⟨rfl, rfl, HI⟩
                case round =>
                  clear HI z1
                  obtain ⟨rfl, rfl, HI⟩ := hrel
                  go_wp2
                  go_roundg k1
                  case measure => omega
                  case rel => exact ⟨false, d, rfl, HI, ⟨.inr ⟨rfl, hd1⟩⟩⟩
              · go_wp2
                clear z1
                go_loopw [7, 61] (fun v7 v61 w' => ∃ (j : Nat) (ch : Bool) (d1 : List Int), v7 = .bool ch ∧ v61 = .int .i64 j ∧ j ≤ i - 1 ∧ Aside0 (IdS w w' s n ga gd cd (.slice (some ⟨gp, 0, none⟩) n cp) (.slice (some ⟨go, 0, none⟩) i co) pre o at' d1) ∧ Aside0 (passF n at' pre k1 (o.drop (j + 1)) d1 ch = some r)) (fun _ v61 _ => i - (intOf v61).toNat)
                case atStart => exact ⟨0, false, d, rfl, rfl, Nat.zero_le _, HI, HR1⟩
                case round =>
                  clear HI HR1
                  obtain ⟨j, ch, d1, rfl, rfl, hj, HI, HP⟩ := hrel
                  by_cases hjl : j < i - 1
                  · have hjl2 : j + 1 < i := by omega
                    have hil : j + 1 < o.length := by have := HEM.out; omega
                    obtain ⟨b, eb⟩ : ∃ b, b = o.getD (j + 1) 0 := ⟨_, rfl⟩
                    have hbo : o.getD (j + 1) 0 = o[j + 1] := by rw [List.getD_eq_getElem?_getD, List.getElem?_eq_getElem hil]; rfl
                    have hb : 0 ≤ b ∧ b < (n : Int) := by
                      rw [eb, hbo]
                      exact HON.out _ (List.getElem_mem hil)
                    have h := HP.out
                    rw [List.drop_eq_getElem_cons hil, passF, ← hbo, ← eb] at h
                    obtain ⟨z, hz, hrest⟩ := Option.bind_eq_some_iff.1 h
                    clear h hbo
                    obtain ⟨x, rfl⟩ : ∃ x : Nat, b = (x : Int) := ⟨b.toNat, by omega⟩
                    have hx : x < n := by omega
                    rw [Int.toNat_natCast] at hz hrest
                    have co_ := (R_int_cell HI.out.po (j + 1) hjl2).1
                    rw [← eb, Nat.add_comm j 1] at co_
                    clear eb hb
                    obtain ⟨q, eq⟩ : ∃ q, q = (rd d1 (x : Int) != z) := ⟨_, rfl⟩
                    rw [← eq] at hrest
                    have HPN := Aside0.mk hrest
                    obtain ⟨ad, A', c', e, hrow, hlc, hC⟩ := C_row (Kd.S_reads' HI.out.pp).2.2 (i := x) (by rw [HPL.out]; exact hx)
                    injection e with e
                    subst e
                    rw [Addr.add_lit, Nat.zero_add] at hrow
                    have HST := Aside0.mk (step_c HI.out.solv hx hrow hC (HPR.out x) (R_int_cell HI.out.rd_ x hx).2 k1 z hz)
                    rw [← eq] at HST
                    clear hrest hz eq hrow hlc hC
                    cases q with
                    | true =>
                      go_wp2_with (go_at_call 43; refine HST.out.mono ?_; rintro e w3 ⟨rfl, m3, rfl⟩)
                      go_roundw
                      case rel => exact ⟨j + 1, true, d1.set x z, rfl, by go_num, by omega, ⟨(HI.out.drewN m3).setD x z⟩, ⟨HPN.out⟩⟩
                      case measure => simp [intOf]; omega
                    | false =>
                      rw [Bool.false_or] at HPN
                      go_wp2_with (go_at_call 43; refine HST.out.mono ?_; rintro e w3 ⟨rfl, m3, rfl⟩)
                      go_roundw
                      case rel => exact ⟨j + 1, ch, d1.set x z, rfl, by go_num, by omega, ⟨(HI.out.drewN m3).setD x z⟩, ⟨HPN.out⟩⟩
                      case measure => simp [intOf]; omega
                  · obtain rfl : j = i - 1 := by omega
                    obtain ⟨d2, ch2⟩ := r
                    have h := HP.out
                    rw [List.drop_eq_nil_of_le (by have := HEM.out; omega), passF] at h
                    have h2 := Option.some.inj h
                    injection h2 with h3 h4
                    have hfin : Aside0 ((ch = true ∧ itF n at' pre (o.drop 1) k1 d1 = some dfin) ∨ (ch = false ∧ d1 = dfin)) := ⟨by
                      have h5 := HR2.out
                      rw [← h3, ← h4] at h5
                      cases ch with
                      | true => exact .inl ⟨rfl, by simpa using h5⟩
                      | false => exact .inr ⟨rfl, by simpa using h5⟩⟩
                    clear h h3 h4 HP HR2
                    go_wp2
                    go_roundg k1
                    case measure => omega
                    case rel => exact ⟨ch, d1, rfl, HI, hfin⟩

end Go.Proofs.Ytemcmcnhpdkdfaa.P

/-! dom.Idoms: the contract. -/
namespace Go.Proofs.Ytemcmcnhpdkdfaa.P
open Go.RowKit Go.Shelf Go.Lib Go.Sort Go.Proofs.YtemcmcnhpdkdfaaW.PrintWords Go.Proofs.YtemcmcnhpdkdfaaW.PrintLast Go.Proofs.YtemcmcnhpdkdfaaW.PrintMore

def dom_Idoms.f (k : Nat) (l0 : List (List Int)) : Option (List Int) := if fits l0 = true then idF k l0 else none

theorem leO_bind {α β : Type} {a b : Option α} {f g : α → Option β} (h : LeO a b) (k : ∀ x, LeO (f x) (g x)) : LeO (a.bind f) (b.bind g) := by
  intro r hr
  obtain ⟨x, hx, hx2⟩ := Option.bind_eq_some_iff.1 hr
  exact Option.bind_eq_some_iff.2 ⟨x, h x hx, k x r hx2⟩
theorem leO_refl {α : Type} (a : Option α) : LeO a a := fun _ h => h
theorem leO_none {α : Type} (a : Option α) : LeO none a := fun _ h => by cases h
theorem leO_ite {α : Type} {c : Prop} [Decidable c] {a b a' b' : Option α} (h : LeO a a') (k : LeO b b') : LeO (if c then a else b) (if c then a' else b') := by
  split
  · exact h
  · exact k
theorem meetA_mono (n : Nat) (at' d : List Int) : ∀ k a b, LeO (meetA n at' d k a b) (meetA n at' d (k + 1) a b)
  | 0, _, _ => leO_none _
  | k + 1, _, _ => leO_ite (leO_ite (meetA_mono n at' d k _ _) (leO_refl _)) (leO_refl _)
theorem meetO_mono (n : Nat) (at' d : List Int) : ∀ k a b, LeO (meetO n at' d k a b) (meetO n at' d (k + 1) a b)
  | 0, _, _ => leO_none _
  | k + 1, _, _ => leO_ite (leO_refl _) (leO_bind (meetA_mono n at' d k _ _) fun _ => leO_bind (meetA_mono n at' d k _ _) fun _ => meetO_mono n at' d k _ _)
theorem toF_mono (n : Nat) (at' d : List Int) (k : Nat) : ∀ ps z, LeO (toF n at' d k ps z) (toF n at' d (k + 1) ps z)
  | [], _ => leO_refl _
  | _ :: ps, _ => leO_ite (leO_ite (toF_mono n at' d k ps _) (leO_ite (toF_mono n at' d k ps _) (leO_bind (meetO_mono n at' d k _ _) fun _ => toF_mono n at' d k ps _))) (leO_refl _)
theorem passF_mono (n : Nat) (at' : List Int) (pre : List (List Int)) (k : Nat) : ∀ bs d ch, LeO (passF n at' pre k bs d ch) (passF n at' pre (k + 1) bs d ch)
  | [], _, _ => leO_refl _
  | _ :: bs, _, _ => leO_bind (toF_mono n at' _ k _ _) fun _ => passF_mono n at' pre k bs _ _
theorem itF_mono (n : Nat) (at' : List Int) (pre : List (List Int)) (bs : List Int) : ∀ k d, LeO (itF n at' pre bs k d) (itF n at' pre bs (k + 1) d)
  | 0, _ => leO_none _
  | k + 1, _ => leO_bind (passF_mono n at' pre k bs _ _) fun _ => leO_ite (itF_mono n at' pre bs k _) (leO_refl _)
theorem dom_Idoms.mono : ∀ a0 k, LeO (dom_Idoms.f k a0) (dom_Idoms.f (k + 1) a0) := by
  intro a0 k
  refine leO_ite (leO_ite (leO_refl _) (leO_bind (leO_refl _) fun o => leO_ite ?_ (leO_refl _))) (leO_refl _)
  intro r hr
  obtain ⟨x, hx, hx2⟩ := Option.map_eq_some_iff.1 hr
  exact Option.map_eq_some_iff.2 ⟨x, itF_mono _ _ _ _ k _ x hx, hx2⟩

set_option maxHeartbeats 1000000 in
theorem dom_Idoms.calls (k : Nat) (A0 : Option Addr) (c0 : Nat) (l0 : List (List Int)) (r : List Int) (w : World) (hr0 : Kd.C (Kd.slice 3 (Kd.int .i64)) w A0 l0.length l0) (hc0 : l0.length ≤ c0) (h : dom_Idoms.f k l0 = some r) :
    Calls Try.prog 15 #[.slice A0 l0.length c0] w fun e w' => ∃ v0_ : Value, e = .returned v0_ ∧ Kd.R (Kd.int .i64) 3 w' w.heap.size (fun _ => True) v0_ r ∧ Below w.heap.size w w' := by
  unfold dom_Idoms.f at h
  split at h
  · rename_i hf
    unfold idF at h
    split at h
    · rename_i h0
      obtain rfl := Option.some.inj h
      rw [h0]
      clear hf hr0 hc0 h
      go_enter Try.func15, Try.ntmps15
      go_wp2
      go_ret
      exact ⟨_, rfl, Kd.R_nil _ _ _ _ _, Below.refl _ _⟩
    · rename_i h0
      obtain ⟨o, ho, h⟩ := Option.bind_eq_some_iff.1 h
      split at h
      · rename_i hc
        obtain ⟨x, hx, rfl⟩ := Option.map_eq_some_iff.1 h
        simp only [Bool.and_eq_true, List.all_eq_true, decide_eq_true_eq] at hc
        exact idoms_c A0 c0 l0 k o _ x w hr0 hc0 hf (by omega) ho (fun x hx => isN_iff.1 (hc.1 x hx)) hc.2 rfl hx
      · cases h
  · cases h

end Go.Proofs.Ytemcmcnhpdkdfaa.P

/-! dom.Idoms: what it answers are the closest dominators. Plain laws. -/
namespace Go.Proofs.Ytemcmcnhpdkdfaa.P
open Go.Proofs.YtemcmcnhpdkdfaaW.PrintWords

section
variable {g pre : List (List Int)} {n : Nat} {bs at' : List Int} {par : Int → Option Int}
theorem eq0_one (T : Int → Option Int) : Eq0 (0 :: bs) par T 1 := by
  intro v _ hv0 hlt
  rw [idx_ne2 bs (Ne.symm hv0)] at hlt
  omega
theorem it_ev (hd : Dfs g (0 :: bs) par) (hnd : (0 :: bs).Nodup) (hp1 : ∀ b, b ∈ (0 :: bs) → ∀ a ∈ pre.getD b.toNat [], 0 ≤ a ∧ a < (n : Int)) (hp2 : ∀ a b, a ∈ (0 :: bs) → b ∈ (0 :: bs) → (a ∈ pre.getD b.toNat [] ↔ b ∈ row g a)) :
    ∀ (m : Nat) (T : Int → Option Int) (d : List Int), mes (0 :: bs) T ≤ m → DI g (0 :: bs) par T → Rep n (0 :: bs) at' d T → d.length = n →
      ∃ T' d', Ev (fun k => itF n at' pre bs k d) d' ∧ DI g (0 :: bs) par T' ∧ Rep n (0 :: bs) at' d' T' ∧ d'.length = n ∧ ∀ c ∈ bs, ∃ p, T' c = some p ∧ StepOk g T' c p := by
  intro m
  induction m with
  | zero =>
    intro T d hm h hr hl
    obtain ⟨T', d', e, i1, i2, i3, i4, i5⟩ := pass_ev hd hnd hp1 hp2 bs [0] rfl (by simp) T d false h hr hl (eq0_one T)
    rcases i5 with ⟨q1, q2, q3, q4⟩ | ⟨_, q2⟩
    · subst q1 q2 q3
      refine ⟨T', d', Ev.step (f := fun k => (passF n at' pre k bs d' false).bind fun r => if r.2 = true then itF n at' pre bs k r.1 else some r.1) (fun k => by rw [itF]) (Ev.bind i1 ?_), i2, i3, i4, q4⟩
      simp only [Bool.or_self, Bool.false_eq_true, if_false]
      exact Ev.now _
    · omega
  | succ m ih =>
    intro T d hm h hr hl
    obtain ⟨T', d', e, i1, i2, i3, i4, i5⟩ := pass_ev hd hnd hp1 hp2 bs [0] rfl (by simp) T d false h hr hl (eq0_one T)
    rcases i5 with ⟨q1, q2, q3, q4⟩ | ⟨q1, q2⟩
    · subst q1 q2 q3
      refine ⟨T', d', Ev.step (f := fun k => (passF n at' pre k bs d' false).bind fun r => if r.2 = true then itF n at' pre bs k r.1 else some r.1) (fun k => by rw [itF]) (Ev.bind i1 ?_), i2, i3, i4, q4⟩
      simp only [Bool.or_self, Bool.false_eq_true, if_false]
      exact Ev.now _
    · subst q1
      obtain ⟨T2, d2, j1, j2⟩ := ih T' d' (by omega) i2 i3 i4
      refine ⟨T2, d2, Ev.step (f := fun k => (passF n at' pre k bs d false).bind fun r => if r.2 = true then itF n at' pre bs k r.1 else some r.1) (fun k => by rw [itF]) (Ev.bind i1 ?_), j2⟩
      simp only [Bool.or_false, if_true]
      exact j1
end

/-- Where nodes stand before the passes; what is known of them. -/
theorem atSo_get {o : List Int} {n : Nat} (hn : o.Nodup) (ho : ∀ x ∈ o, 0 ≤ x ∧ x < (n : Int)) : ∀ k, k ≤ o.length → (atSo o n k).length = n ∧ (dSo o n k).length = n ∧ ∀ x : Int, 0 ≤ x → x < (n : Int) → rd (atSo o n k) x = (if x ∈ o.take k then (o.idxOf x : Int) else 0) ∧ rd (dSo o n k) x = (if x ∈ o.take k then -3 else -2)
  | 0, _ => by
    refine ⟨by simp [atSo], by simp [dSo], fun x h0 h1 => ?_⟩
    rw [List.take_zero, if_neg (by simp), if_neg (by simp)]
    obtain ⟨i, rfl⟩ : ∃ i : Nat, x = (i : Int) := ⟨x.toNat, by omega⟩
    refine ⟨?_, ?_⟩
    · show (List.replicate n (0 : Int)).getD (Int.toNat (i : Int)) 0 = 0
      rw [Int.toNat_natCast, List.getD_eq_getElem?_getD, List.getElem?_replicate]
      split <;> rfl
    · show (List.replicate n (-2 : Int)).getD (Int.toNat (i : Int)) 0 = -2
      rw [Int.toNat_natCast, List.getD_eq_getElem?_getD, List.getElem?_replicate, if_pos (by omega)]
      rfl
  | k + 1, hk => by
    obtain ⟨l1, l2, ih⟩ := atSo_get hn ho k (by omega)
    have hko : k < o.length := by omega
    have e : o.getD k 0 = o[k] := by rw [List.getD_eq_getElem?_getD, List.getElem?_eq_getElem hko]; rfl
    have hm := ho o[k] (List.getElem_mem hko)
    refine ⟨by rw [atSo, List.length_set]; exact l1, by rw [dSo, List.length_set]; exact l2, fun x h0 h1 => ?_⟩
    rw [atSo, dSo, e, rd_setn hm.1 (by rw [l1]; exact hm.2) h0, rd_setn hm.1 (by rw [l2]; exact hm.2) h0, List.take_succ_eq_append_getElem hko]
    have hix : o.idxOf o[k] = k := List.Nodup.idxOf_getElem hn k hko
    by_cases ex : x = o[k]
    · subst ex
      have hin : o[k] ∈ List.take k o ++ [o[k]] := List.mem_append.2 (.inr (List.mem_singleton.2 rfl))
      rw [if_pos rfl, if_pos rfl, if_pos hin, if_pos hin, hix]
      exact ⟨rfl, rfl⟩
    · rw [if_neg ex, if_neg ex, (ih x h0 h1).1, (ih x h0 h1).2]
      have : (x ∈ List.take k o ++ [o[k]]) ↔ x ∈ List.take k o := by rw [List.mem_append, List.mem_singleton]; exact ⟨fun h => h.elim id (fun e => absurd e ex), .inl⟩
      simp only [this]
      exact ⟨trivial, trivial⟩

/-- The closest one, by a list: none of the entry, and of what is lost. -/
def idT (l : List Int) : Int → Option Int := fun b => if (0 ≤ b ∧ b < (l.length : Int)) ∧ 0 ≤ rd l b then some (rd l b) else none
/-- A list holds the closest dominators of a graph. -/
structure IsDom (c : List (List Int)) (l : List Int) : Prop where
  len : l.length = c.length
  zero : 0 < c.length → rd l 0 = -1
  lost : ∀ b, Node c b → ¬ Way c 0 b → rd l b = -2
  par : ∀ b, Node c b → Way c 0 b → b ≠ 0 → ∃ p, idT l b = some p ∧ rd l b = p ∧ Node c p ∧ Way c 0 p
  doms : ∀ b, Node c b → Way c 0 b → ∀ x, Up (idT l) b x ↔ ¬ Av c x 0 b
  rank : ∃ f : Int → Nat, (∀ b p, idT l b = some p → f p < f b) ∧ ∀ b, Node c b → Way c 0 b → f b < c.length

theorem Up.congr {T T' : Int → Option Int} (P : Int → Prop) (hT : ∀ b, P b → T b = T' b) (hP : ∀ b p, P b → T b = some p → P p) {b x : Int} (h : Up T b x) (hb : P b) : Up T' b x := by
  induction h with
  | refl => exact .refl _
  | step h1 _ ih => exact .step (by rw [← hT _ hb]; exact h1) (ih (hP _ _ hb h1))

set_option maxHeartbeats 1000000 in
theorem idoms_now {g : List (List Int)} (hs : Small g) : ∃ l, Ev (fun k => dom_Idoms.f k g) l ∧ IsDom (clean g) l := by
  rcases Nat.eq_zero_or_pos g.length with h0 | h0
  · refine ⟨[], Ev.congr (f := fun _ => some []) (fun k => by unfold dom_Idoms.f idF; rw [if_pos hs.1, if_pos h0]) (Ev.now _), ?_⟩
    have hc : (clean g).length = 0 := by rw [clean_len]; exact h0
    have no : ∀ b, ¬ Node (clean g) b := fun b hb => by unfold Node at hb; omega
    exact ⟨hc.symm, fun h => by omega, fun b hb => absurd hb (no b), fun b hb => absurd hb (no b), fun b hb => absurd hb (no b), fun _ => 0, fun b p h => by simp [idT] at h; omega, fun b hb => absurd hb (no b)⟩
  · obtain ⟨bs, par, h1, hd, hnd, ho⟩ := dfs_ctx hs h0
    obtain ⟨n, en⟩ : ∃ n, n = g.length := ⟨_, rfl⟩
    have hcl := clean_len g
    have hv := clean_Valid g
    have hri := clean_rises g
    rw [← en] at ho hcl h0
    have hp1 : ∀ b, b ∈ (0 :: bs) → ∀ a ∈ (turn (clean g)).getD b.toNat [], 0 ≤ a ∧ a < (n : Int) := fun b hb a ha => by
      have := (mem_turn hv hri (ho b hb).1).1 ha
      rw [hcl] at this
      exact this.1
    have hp2 : ∀ a b, a ∈ (0 :: bs) → b ∈ (0 :: bs) → (a ∈ (turn (clean g)).getD b.toNat [] ↔ b ∈ row (clean g) a) := fun a b ha hb => by
      have := mem_turn hv hri (a := a) (ho b hb).1
      rw [hcl] at this
      exact ⟨fun h => (this.1 h).2, fun h => this.2 ⟨ho a ha, h⟩⟩
    have hg := atSo_get hnd ho (0 :: bs).length (Nat.le_refl _)
    have hDI : DI (clean g) (0 :: bs) par (fun _ => none) := by
      have hup : ∀ b x, Up (fun _ : Int => (none : Option Int)) b x → x = b := fun b x h => by
        rcases h.cases with e | ⟨p, hp, _⟩
        · exact e
        · cases hp
      refine ⟨fun b p h => (by cases h), fun b x _ h => (by obtain rfl := hup b x h; exact .refl _), fun b x hb h => ?_, fun b p h => (by cases h)⟩
      rcases hb with rfl | ⟨p, hp⟩
      · by_cases e : x = 0
        · rw [e]; exact .refl _
        · exact absurd (.refl (Ne.symm e)) h
      · cases hp
    have hd0 : ∀ x : Int, 0 ≤ x → x < (n : Int) → rd ((dSo (0 :: bs) n (0 :: bs).length).set 0 0) x = if x = 0 then 0 else if x ∈ (0 :: bs) then -3 else -2 := fun x hx0 hx1 => by
      have := rd_setn (d := dSo (0 :: bs) n (0 :: bs).length) (c := 0) (v := 0) (Int.le_refl 0) (by rw [hg.2.1]; omega) hx0
      rw [show (0 : Int).toNat = 0 from rfl] at this
      rw [this, (hg.2.2 x hx0 hx1).2, List.take_length]
    have hRep : Rep n (0 :: bs) (atSo (0 :: bs) n (0 :: bs).length) ((dSo (0 :: bs) n (0 :: bs).length).set 0 0) (fun _ => none) := by
      refine ⟨ho, fun x hx => ?_, ?_, fun b p h => (by cases h), fun b hb hb0 _ => ?_, fun b hb0 hb1 hb => ?_⟩
      · rw [(hg.2.2 x (ho x hx).1 (ho x hx).2).1, List.take_length, if_pos hx]
      · rw [hd0 0 (by omega) (by omega), if_pos rfl]
      · rw [hd0 b (ho b hb).1 (ho b hb).2, if_neg hb0, if_pos hb]
      · rw [hd0 b hb0 hb1, if_neg (fun e => hb (by rw [e]; simp)), if_neg hb]
    obtain ⟨T, d, e1, hD, hR, hl, hall⟩ := it_ev hd hnd hp1 hp2 _ (fun _ => none) _ (Nat.le_refl _) hDI hRep (by rw [List.length_set]; exact hg.2.1)
    have hdone : ∀ b x, b ∈ (0 :: bs) → (Up T b x ↔ ¬ Av (clean g) x 0 b) := fun b x hb => hD.done hd (fun c hc hc0 => hall c (by rcases List.mem_cons.1 hc with e | e; exact absurd e hc0; exact e)) hb
    have hdl : ∀ x : Int, 0 ≤ x → x < (n : Int) → rd (d.set 0 (-1)) x = if x = 0 then -1 else rd d x := fun x hx0 _ => by
      have := rd_setn (d := d) (c := 0) (v := -1) (Int.le_refl 0) (by omega) hx0
      rw [show (0 : Int).toNat = 0 from rfl] at this
      exact this
    have hll : (d.set 0 (-1)).length = n := by rw [List.length_set]; exact hl
    -- the list as a partial function is T on what is reached
    have hT0 : T 0 = none := by
      cases hT : T 0 with
      | none => rfl
      | some p => exact absurd rfl (hD.t1 0 p hT).2.1
    have hidT : ∀ b, b ∈ (0 :: bs) → idT (d.set 0 (-1)) b = T b := fun b hb => by
      have hn := ho b hb
      unfold idT
      rw [hll, hdl b hn.1 hn.2]
      by_cases e : b = 0
      · rw [if_pos e, e, hT0, if_neg (by omega)]
      · obtain ⟨p, hp, _⟩ := hall b (by rcases List.mem_cons.1 hb with h | h; exact absurd h e; exact h)
        have hk := hR.known b p hp
        have hpn := ho p (hD.t1 b p hp).2.2.1
        rw [if_neg e, hk, if_pos ⟨hn, hpn.1⟩, hp]
    have hidN : ∀ b p, idT (d.set 0 (-1)) b = some p → b ∈ (0 :: bs) := fun b p h => by
      unfold idT at h
      rw [hll] at h
      split at h
      · rename_i hc
        rw [hdl b hc.1.1 hc.1.2] at hc
        by_cases hb : b ∈ (0 :: bs)
        · exact hb
        · rw [if_neg (fun e => hb (by rw [e]; simp)), hR.lost b hc.1.1 hc.1.2 hb] at hc
          omega
      · cases h
    have hTc : ∀ b p, b ∈ (0 :: bs) → T b = some p → p ∈ (0 :: bs) := fun b p _ h => (hD.t1 b p h).2.2.1
    have hmem : ∀ b, b ∈ (0 :: bs) ↔ Way (clean g) 0 b := hd.mem
    refine ⟨d.set 0 (-1), ?_, by rw [hll, hcl], fun _ => by rw [hdl 0 (by omega) (by omega), if_pos rfl], fun b hb hw => ?_, fun b hb hw hb0 => ?_, fun b hb hw x => ?_, fun b => (0 :: bs).idxOf b, fun b p h => ?_, fun b hb hw => ?_⟩
    · refine Ev.congr (f := fun k => (itF n (atSo (0 :: bs) n (0 :: bs).length) (turn (clean g)) bs k ((dSo (0 :: bs) n (0 :: bs).length).set 0 0)).bind fun d => some (d.set 0 (-1))) (fun k => ?_) (Ev.bind e1 (Ev.now _))
      unfold dom_Idoms.f idF
      rw [if_pos hs.1, if_neg (by omega), h1, Option.bind_some, if_pos ?_, ← en]
      · rw [show List.drop 1 (0 :: bs) = bs from rfl, Option.map_eq_bind]
        rfl
      · simp only [Bool.and_eq_true, List.all_eq_true, decide_eq_true_eq]
        exact ⟨fun x hx => isN_iff.2 (by rw [← en]; exact ho x hx), by simp⟩
    · have hb' := (clean_node.1 hb)
      rw [← en] at hb'
      have hbo : ¬ b ∈ (0 :: bs) := fun h => hw ((hmem b).1 h)
      rw [hdl b hb'.1 hb'.2, if_neg (fun e => hbo (by rw [e]; simp)), hR.lost b hb'.1 hb'.2 hbo]
    · have hbo := (hmem b).2 hw
      obtain ⟨p, hp, _⟩ := hall b (by rcases List.mem_cons.1 hbo with h | h; exact absurd h hb0; exact h)
      have hpo := (hD.t1 b p hp).2.2.1
      refine ⟨p, by rw [hidT b hbo, hp], by rw [hdl b (ho b hbo).1 (ho b hbo).2, if_neg hb0, hR.known b p hp], clean_node.2 (by rw [← en]; exact ho p hpo), (hmem p).1 hpo⟩
    · have hbo := (hmem b).2 hw
      rw [← hdone b x hbo]
      refine ⟨fun h => h.congr (fun b => b ∈ (0 :: bs)) hidT (fun b p hb h => hTc b p hb (by rw [← hidT b hb]; exact h)) hbo, fun h => h.congr (fun b => b ∈ (0 :: bs)) (fun b hb => (hidT b hb).symm) hTc hbo⟩
    · have hbo := hidN b p h
      rw [hidT b hbo] at h
      exact (hD.t1 b p h).2.2.2.1
    · have hbo := (hmem b).2 hw
      have := List.idxOf_lt_length_of_mem hbo
      have hle := few_nodes hnd ho
      rw [hcl]
      exact Nat.lt_of_lt_of_le this hle

end Go.Proofs.Ytemcmcnhpdkdfaa.P
