/- container/heap at work's places: what it leaves. -/
import Derived.Test.YtnhcimhdkdgccaaHeach
import Derived.Test.YtnhcimhdkdgccaaPwork
import Derived.Test.YtnhcimhdkdgccaaGheap
namespace Go.Proofs.Ytnhcimhdkdgccaa.P
open Go.RowKit Go.Lib Go.Sort Go.Proofs.YtnhcimhdkdgccaaW.PrintWords Go.Proofs.YtnhcimhdkdgccaaW.PrintLast Go.Proofs.YtnhcimhdkdgccaaW.PrintMore

/-- A heap: the pointer's block holds a slice, whose memory is its own. -/
def HP (w : World) (base p : Nat) (xs : List Int) : Prop := ∃ v, w.heap[p]? = some (.cells #[v] 73 (0, 0)) ∧ dI.R 3 w base (fun k => k ≠ p) v xs

theorem m_push (p : Nat) (w : World) : (method 248 72 (.pointer (some ⟨p, 0, none⟩)) "Push").run Try.prog w = .ok (116, .pointer (some ⟨p, 0, none⟩)) w := by kernel_rfl
theorem m_pop (p : Nat) (w : World) : (method 248 72 (.pointer (some ⟨p, 0, none⟩)) "Pop").run Try.prog w = .ok (115, .pointer (some ⟨p, 0, none⟩)) w := by kernel_rfl
theorem m_less {p : Nat} {w : World} {v : Value} (h : w.heap[p]? = some (.cells #[v] 73 (0, 0))) : (method 248 72 (.pointer (some ⟨p, 0, none⟩)) "Less").run Try.prog w = .ok (114, v) w := by
  have hc : w.cell? ⟨p, 0, none⟩ = some v := by simp [World.cell?, h]
  refine Eq.trans (b := (match w.cell? ⟨p, 0, none⟩ with
      | some v => Result.ok (114, v) w
      | none => match w.farLoad Try.prog ⟨p, 0, none⟩ false with
        | .ok (v, _) => .ok (114, v) w
        | .error h => .halt h w)) (by kernel_rfl) ?_
  rw [hc]
theorem m_swap {p : Nat} {w : World} {v : Value} (h : w.heap[p]? = some (.cells #[v] 73 (0, 0))) : (method 248 72 (.pointer (some ⟨p, 0, none⟩)) "Swap").run Try.prog w = .ok (117, v) w := by
  have hc : w.cell? ⟨p, 0, none⟩ = some v := by simp [World.cell?, h]
  refine Eq.trans (b := (match w.cell? ⟨p, 0, none⟩ with
      | some v => Result.ok (117, v) w
      | none => match w.farLoad Try.prog ⟨p, 0, none⟩ false with
        | .ok (v, _) => .ok (117, v) w
        | .error h => .halt h w)) (by kernel_rfl) ?_
  rw [hc]
theorem m_len {p : Nat} {w : World} {v : Value} (h : w.heap[p]? = some (.cells #[v] 73 (0, 0))) : (method 248 72 (.pointer (some ⟨p, 0, none⟩)) "Len").run Try.prog w = .ok (113, v) w := by
  have hc : w.cell? ⟨p, 0, none⟩ = some v := by simp [World.cell?, h]
  refine Eq.trans (b := (match w.cell? ⟨p, 0, none⟩ with
      | some v => Result.ok (113, v) w
      | none => match w.farLoad Try.prog ⟨p, 0, none⟩ false with
        | .ok (v, _) => .ok (113, v) w
        | .error h => .halt h w)) (by kernel_rfl) ?_
  rw [hc]

theorem e_less (args : Array Value) (w : World) : (callFunc 114 args).run Try.prog w = .ok (.enter 114 args) w := by kernel_rfl
theorem u_less {p : Nat} {w : World} {v : Value} (h : w.heap[p]? = some (.cells #[v] 73 (0, 0))) (x y : Value) : (((method 248 72 (.pointer (some ⟨p, 0, none⟩)) "Less").run Try.prog w).andThen fun a w' => (callFunc a.fst #[a.snd, x, y]).run Try.prog w') = .ok (.enter 114 #[v, x, y]) w := by
  rw [m_less h, Result.andThen_ok, e_less]
theorem e_swap (args : Array Value) (w : World) : (callFunc 117 args).run Try.prog w = .ok (.enter 117 args) w := by kernel_rfl
theorem u_swap {p : Nat} {w : World} {v : Value} (h : w.heap[p]? = some (.cells #[v] 73 (0, 0))) (x y : Value) : (((method 248 72 (.pointer (some ⟨p, 0, none⟩)) "Swap").run Try.prog w).andThen fun a w' => (callFunc a.fst #[a.snd, x, y]).run Try.prog w') = .ok (.enter 117 #[v, x, y]) w := by
  rw [m_swap h, Result.andThen_ok, e_swap]
theorem e_len (args : Array Value) (w : World) : (callFunc 113 args).run Try.prog w = .ok (.enter 113 args) w := by kernel_rfl
theorem u_len {p : Nat} {w : World} {v : Value} (h : w.heap[p]? = some (.cells #[v] 73 (0, 0))) : (((method 248 72 (.pointer (some ⟨p, 0, none⟩)) "Len").run Try.prog w).andThen fun a w' => (callFunc a.fst #[a.snd]).run Try.prog w') = .ok (.enter 113 #[v]) w := by
  rw [m_len h, Result.andThen_ok, e_len]
theorem e_push (args : Array Value) (w : World) : (callFunc 116 args).run Try.prog w = .ok (.enter 116 args) w := by kernel_rfl
theorem u_push {p : Nat} {w : World} (x : Value) : (((method 248 72 (.pointer (some ⟨p, 0, none⟩)) "Push").run Try.prog w).andThen fun a w' => (callFunc a.fst #[a.snd, x]).run Try.prog w') = .ok (.enter 116 #[.pointer (some ⟨p, 0, none⟩), x]) w := by
  rw [m_push, Result.andThen_ok, e_push]
theorem e_pop (args : Array Value) (w : World) : (callFunc 115 args).run Try.prog w = .ok (.enter 115 args) w := by kernel_rfl
theorem u_pop {p : Nat} {w : World} : (((method 248 72 (.pointer (some ⟨p, 0, none⟩)) "Pop").run Try.prog w).andThen fun a w' => (callFunc a.fst #[a.snd]).run Try.prog w') = .ok (.enter 115 #[.pointer (some ⟨p, 0, none⟩)]) w := by
  rw [m_pop, Result.andThen_ok, e_pop]

/-- A heap that is not empty: the pointer's block holds a slice, whose memory is its own. -/
structure HS (w0 w : World) (p g n c : Nat) (xs : List Int) : Prop where
  hp : w.heap[p]? = some (.cells #[.slice (some ⟨g, 0, none⟩) n c] 73 (0, 0))
  len : xs.length = n
  own : dI.R 3 w w0.heap.size (fun k => k = g) (.slice (some ⟨g, 0, none⟩) n c) xs
  bel : Below w0.heap.size w0 w
  ne : p ≠ g
theorem HS.drewN {w0 w : World} {p g n c : Nat} {xs : List Int} (h : HS w0 w p g n c xs) (m : Nat) : HS w0 (w.drewN m) p g n c xs := ⟨h.hp, h.len, Kd.R_drewN h.own m, pw_below_drewN h.bel m, h.ne⟩

section
variable {w0 w : World} {p g n c : Nat} {xs : List Int}
theorem less_h (h : HS w0 w p g n c xs) (i j : Nat) (hi : i < n) (hj : j < n) :
    Calls Try.prog 114 #[.slice (some ⟨g, 0, none⟩) n c, .int .i64 i, .int .i64 j] w fun e w' => e = .returned (.bool (decide (xs.getD i 0 < xs.getD j 0))) ∧ ∃ m, w' = w.drewN m := by
  have hl := h.len
  subst hl
  obtain ⟨_, hc, hC⟩ := Kd.R_reads' h.own
  refine (work_places_Less.calls (some ⟨g, 0, none⟩) c xs i j _ w hC hc (by unfold work_places_Less.f; rw [if_pos (by omega), if_pos (by omega), if_pos (by omega), if_pos (by omega)])).mono ?_
  rintro e w' ⟨rfl, ⟨⟨m, rfl⟩⟩⟩
  exact ⟨rfl, m, rfl⟩
theorem rd_at {xs : List Int} {x : Int} {i : Nat} (h : x = (i : Int)) : Go.Proofs.YtnhcimhdkdgccaaW.PrintWords.rd xs x = xs.getD i 0 := by subst h; unfold Go.Proofs.YtnhcimhdkdgccaaW.PrintWords.rd; rw [Int.toNat_natCast]
theorem less_i (h : HS w0 w p g n c xs) (i j : Int) (hi : 0 ≤ i ∧ i < (n : Int)) (hj : 0 ≤ j ∧ j < (n : Int)) {b : Bool} (hb : decide (Go.Proofs.YtnhcimhdkdgccaaW.PrintWords.rd xs i < Go.Proofs.YtnhcimhdkdgccaaW.PrintWords.rd xs j) = b) :
    Calls Try.prog 114 #[.slice (some ⟨g, 0, none⟩) n c, .int .i64 i, .int .i64 j] w fun e w' => e = .returned (.bool b) ∧ ∃ m, w' = w.drewN m := by
  have hl := h.len
  subst hl
  obtain ⟨_, hc, hC⟩ := Kd.R_reads' h.own
  refine (work_places_Less.calls (some ⟨g, 0, none⟩) c xs i j b w hC hc (by unfold work_places_Less.f; rw [if_pos hi.1, if_pos hi.2, if_pos hj.1, if_pos hj.2, hb])).mono ?_
  rintro e w' ⟨rfl, ⟨⟨m, rfl⟩⟩⟩
  exact ⟨rfl, m, rfl⟩
theorem swap_h (h : HS w0 w p g n c xs) (i j : Nat) (hi : i < n) (hj : j < n) :
    Calls Try.prog 117 #[.slice (some ⟨g, 0, none⟩) n c, .int .i64 i, .int .i64 j] w fun e w' => e = .returned (.tuple #[]) ∧ HS w0 w' p g n c (swp xs i j) ∧ Kept w w' (fun k => k = g) := by
  have hl := h.len
  subst hl
  refine (work_places_Swap.calls (fun k => k = g) (.slice (some ⟨g, 0, none⟩) xs.length c) xs i j _ w0 w h.bel h.own (by unfold work_places_Swap.f; rw [if_pos (by omega), if_pos (by omega), if_pos (by omega), if_pos (by omega)])).mono ?_
  rintro e w' ⟨rfl, hR, hb, hk⟩
  exact ⟨rfl, ⟨blk_kept h.hp hk h.ne, swp_len xs i j, Kd.R_mono (Kd.R_tight rfl hR) (fun k e => by simp [Value.ownBlock] at e; exact e), hb, h.ne⟩, hk⟩
end

set_option maxHeartbeats 4000000 in
set_option maxRecDepth 100000 in
theorem up_c {w0 w : World} {p g n c : Nat} {xs ys : List Int} {k j : Nat} (h : HS w0 w p g n c xs) (hj : j < n) (hn : n ≤ 1000000) (hu : upN k xs j = some ys) :
    Calls Try.prog 70 #[.iface 72 (.pointer (some ⟨p, 0, none⟩)), .int .i64 j] w fun e w' => e = .returned (.tuple #[]) ∧ HS w0 w' p g n c ys ∧ Kept w w' (fun k => k = g) := by
  have HH := Aside0.mk h
  have HU := Aside0.mk hu
  clear h hu
  go_enter Try.func70, Try.ntmps70
  go_wp2
  go_loopg [1] k (fun kq v1 wr => ∃ (zs : List Int) (i : Nat), v1 = .int .i64 i ∧ i < n ∧ Aside0 (upN kq zs i = some ys) ∧ Aside0 (HS w0 wr p g n c zs) ∧ Aside0 (Kept w wr (fun k => k = g)))
  case atStart => exact ⟨xs, j, rfl, hj, HU, HH, ⟨Kept.refl _ _⟩⟩
  case round =>
    obtain ⟨zs, i, rfl, hi, HUr, HHr, HKr⟩ := hrel
    clear HU HH
    cases gk with
    | zero => exact absurd HUr.out (by simp [upN])
    | succ kq =>
    by_cases h0 : i = 0
    · subst h0
      have c0 : ((((0 : Nat) : Int) - 1).tdiv 2 == ((0 : Nat) : Int)) = true := rfl
      have hfin : Aside0 (zs = ys) := ⟨by have h := HUr.out; rw [upN, if_pos (by omega)] at h; exact Option.some.inj h⟩
      go_wp2
      go_end0
      exact ⟨rfl, by rw [← hfin.out]; exact HHr.out, HKr.out⟩
    · obtain ⟨q, hq, hqi⟩ : ∃ q : Nat, q = (i - 1) / 2 ∧ ((i : Int) - 1) / 2 = (q : Int) := ⟨_, rfl, by omega⟩
      have hqlt : q < i := by omega
      have HQ := Aside0.mk hq
      have HQI := Aside0.mk hqi
      clear hq hqi
      go_upto_region 1 with (fail)
      rw [HQI.out]
      have c0 : ((q : Int) == (i : Int)) = false := by simp; omega
      by_cases hlt : zs.getD i 0 < zs.getD q 0
      · have HL : Aside0 (Calls Try.prog 114 #[.slice (some ⟨g, 0, none⟩) n c, .int .i64 i, .int .i64 q] wr fun e w' => e = .returned (.bool true) ∧ ∃ m, w' = wr.drewN m) := ⟨by have h := less_h HHr.out i q hi (by omega); rw [decide_eq_true hlt] at h; exact h⟩
        have HLT := Aside0.mk hlt
        clear hlt
        go_upto_region 2 with (first | (rw [u_less HHr.out.hp]) | (go_at_call 114; refine HL.out.mono ?_; rintro e w' ⟨rfl, m, rfl⟩))
        have HSW := Aside0.mk (HHr.out.drewN m)
        go_wp2_with (first | (rw [u_swap HSW.out.hp]) | (go_at_call 117; refine (swap_h HSW.out q i (by omega) hi).mono ?_; rintro e w' ⟨rfl, hs, hk⟩; have HS1 := Aside0.mk hs; have HK1 := Aside0.mk hk; clear hs hk))
        go_roundg kq
        case measure => omega
        case rel =>
          refine ⟨swp zs q i, q, rfl, by omega, ⟨?_⟩, HS1, ⟨?_⟩⟩
          · have h := HUr.out
            rw [upN, if_neg (by have := HQ.out; omega), ← HQ.out, if_pos HLT.out] at h
            exact h
          · exact HKr.out.then_ (HK1.out) (fun k hk => .inl hk)
      · have HL : Aside0 (Calls Try.prog 114 #[.slice (some ⟨g, 0, none⟩) n c, .int .i64 i, .int .i64 q] wr fun e w' => e = .returned (.bool false) ∧ ∃ m, w' = wr.drewN m) := ⟨by have h := less_h HHr.out i q hi (by omega); rw [decide_eq_false hlt] at h; exact h⟩
        have HLT := Aside0.mk hlt
        clear hlt
        go_wp2_with (first | (rw [u_less HHr.out.hp]) | (go_at_call 114; refine HL.out.mono ?_; rintro e w' ⟨rfl, m, rfl⟩))
        have hfin : zs = ys := by
          have h := HUr.out
          rw [upN, if_neg (by have := HQ.out; omega), ← HQ.out, if_neg (by have := HLT.out; omega)] at h
          exact Option.some.inj h
        go_end0
        subst hfin
        exact ⟨rfl, HHr.out.drewN m, HKr.out.drewN m⟩

set_option maxHeartbeats 4000000 in
set_option maxRecDepth 100000 in
theorem down_c {w0 w : World} {p g n c : Nat} {xs ys : List Int} {k m : Nat} (h : HS w0 w p g n c xs) (hm : m ≤ n) (hpos : 0 < n) (hn : n ≤ 1000000) (hu : downN k xs 0 m = some ys) :
    Calls Try.prog 71 #[.iface 72 (.pointer (some ⟨p, 0, none⟩)), .int .i64 0, .int .i64 m] w fun e w' => (∃ b, e = .returned (.bool b)) ∧ HS w0 w' p g n c ys ∧ Kept w w' (fun k => k = g) := by
  have HH := Aside0.mk h
  have HU := Aside0.mk hu
  clear h hu
  go_enter Try.func71, Try.ntmps71
  go_wp2
  go_loopg [7] k (fun kq v7 wr => ∃ (zs : List Int) (i : Nat), v7 = .int .i64 i ∧ i < n ∧ Aside0 (downN kq zs i m = some ys) ∧ Aside0 (HS w0 wr p g n c zs) ∧ Aside0 (Kept w wr (fun k => k = g)))
  case atStart => exact ⟨xs, 0, rfl, hpos, HU, HH, ⟨Kept.refl _ _⟩⟩
  case round =>
    obtain ⟨zs, i, rfl, hi, HUr, HHr, HKr⟩ := hrel
    clear HU HH
    cases gk with
    | zero => exact absurd HUr.out (by simp [downN])
    | succ kq =>
    have c0 : decide (2 * (i : Int) + 1 < 0) = false := decide_eq_false (by omega)
    by_cases hA : m ≤ 2 * i + 1
    · have cA : decide ((m : Int) ≤ 2 * (i : Int) + 1) = true := decide_eq_true (by omega)
      have hfin : Aside0 (zs = ys) := ⟨by have h := HUr.out; rw [downN, if_pos hA] at h; exact Option.some.inj h⟩
      clear hA
      go_wp2
      go_ret
      exact ⟨⟨_, rfl⟩, by rw [← hfin.out]; exact HHr.out, HKr.out⟩
    · have cA : decide ((m : Int) ≤ 2 * (i : Int) + 1) = false := decide_eq_false (by omega)
      have HA := Aside0.mk hA
      by_cases h1 : 2 * i + 2 < m
      · have c1 : decide (2 * (i : Int) + 1 + 1 < (m : Int)) = true := decide_eq_true (by omega)
        by_cases h2 : zs.getD (2 * i + 2) 0 < zs.getD (2 * i + 1) 0
        · have HL1 := Aside0.mk (less_i HHr.out (2 * (i : Int) + 1 + 1) (2 * (i : Int) + 1) ⟨by omega, by omega⟩ ⟨by omega, by omega⟩ (b := true) (by rw [decide_eq_true_iff, rd_at (i := 2 * i + 2) (by omega), rd_at (i := 2 * i + 1) (by omega)]; first | exact h2 | omega))
          go_upto_region 8 with (first | (rw [u_less HHr.out.hp]) | (go_at_call 114; refine HL1.out.mono ?_; rintro e w' ⟨rfl, q1, rfl⟩))
          have HSW := Aside0.mk (HHr.out.drewN q1)
          have HKW := Aside0.mk (HKr.out.drewN q1)
          clear HL1
          obtain ⟨j, hj, hji, hjn⟩ : ∃ j : Nat, j = lesser zs i m ∧ 2 * (i : Int) + 1 + 1 = (j : Int) ∧ j < n := ⟨_, rfl, by unfold lesser; rw [if_pos ⟨h1, h2⟩]; omega, by unfold lesser; rw [if_pos ⟨h1, h2⟩]; omega⟩
          have HJ := Aside0.mk hj
          have HJI := Aside0.mk hji
          clear hj hji
          rw [HJI.out]
          clear HJI h2 h1
          by_cases hlt : zs.getD j 0 < zs.getD i 0
          · have HL2 := Aside0.mk (less_i HSW.out (j : Int) (i : Int) ⟨by omega, by omega⟩ ⟨by omega, by omega⟩ (b := true) (by rw [decide_eq_true_iff, rd_at (i := j) rfl, rd_at (i := i) rfl]; first | exact hlt | omega))
            have HLT := Aside0.mk hlt
            clear hlt
            go_upto_region 9 with (first | (rw [u_less HSW.out.hp]) | (go_at_call 114; refine HL2.out.mono ?_; rintro e w' ⟨rfl, q2, rfl⟩))
            have hs_ := HSW.out.drewN q2
            have hk_ := HKW.out.drewN q2
            (try rw [World.drewN_drewN] at hs_)
            (try rw [World.drewN_drewN] at hk_)
            have HSX := Aside0.mk hs_
            have HKX := Aside0.mk hk_
            clear HL2 hs_ hk_
            go_wp2_with (first | (rw [u_swap HSX.out.hp]) | (go_at_call 117; refine (swap_h HSX.out i j hi hjn).mono ?_; rintro e w' ⟨rfl, hs, hk⟩; have HS1 := Aside0.mk hs; have HK1 := Aside0.mk hk; clear hs hk))
            go_roundg kq
            case measure => omega
            case rel =>
              refine ⟨swp zs i j, j, rfl, hjn, ⟨?_⟩, HS1, ⟨?_⟩⟩
              · have h := HUr.out
                rw [downN, if_neg HA.out, ← HJ.out, if_pos HLT.out] at h
                exact h
              · exact HKX.out.then_ (HK1.out) (fun k hk => .inl hk)
          · have HL2 := Aside0.mk (less_i HSW.out (j : Int) (i : Int) ⟨by omega, by omega⟩ ⟨by omega, by omega⟩ (b := false) (by rw [decide_eq_false_iff_not, rd_at (i := j) rfl, rd_at (i := i) rfl]; first | exact hlt | omega))
            have HLT := Aside0.mk hlt
            clear hlt
            go_wp2_with (first | (rw [u_less HSW.out.hp]) | (go_at_call 114; refine HL2.out.mono ?_; rintro e w' ⟨rfl, q2, rfl⟩))
            have hfin : zs = ys := by
              have h := HUr.out
              rw [downN, if_neg HA.out, ← HJ.out, if_neg (by have := HLT.out; omega)] at h
              exact Option.some.inj h
            go_ret
            subst hfin
            have hs_ := HSW.out.drewN q2
            have hk_ := HKW.out.drewN q2
            (try rw [World.drewN_drewN] at hs_)
            (try rw [World.drewN_drewN] at hk_)
            exact ⟨⟨_, rfl⟩, hs_, hk_⟩
        · have HL1 := Aside0.mk (less_i HHr.out (2 * (i : Int) + 1 + 1) (2 * (i : Int) + 1) ⟨by omega, by omega⟩ ⟨by omega, by omega⟩ (b := false) (by rw [decide_eq_false_iff_not, rd_at (i := 2 * i + 2) (by omega), rd_at (i := 2 * i + 1) (by omega)]; first | exact h2 | omega))
          go_upto_region 8 with (first | (rw [u_less HHr.out.hp]) | (go_at_call 114; refine HL1.out.mono ?_; rintro e w' ⟨rfl, q1, rfl⟩))
          have HSW := Aside0.mk (HHr.out.drewN q1)
          have HKW := Aside0.mk (HKr.out.drewN q1)
          clear HL1
          obtain ⟨j, hj, hji, hjn⟩ : ∃ j : Nat, j = lesser zs i m ∧ 2 * (i : Int) + 1 = (j : Int) ∧ j < n := ⟨_, rfl, by unfold lesser; rw [if_neg (fun h => by have := h.2; omega)]; omega, by unfold lesser; rw [if_neg (fun h => by have := h.2; omega)]; omega⟩
          have HJ := Aside0.mk hj
          have HJI := Aside0.mk hji
          clear hj hji
          rw [HJI.out]
          clear HJI h2 h1
          by_cases hlt : zs.getD j 0 < zs.getD i 0
          · have HL2 := Aside0.mk (less_i HSW.out (j : Int) (i : Int) ⟨by omega, by omega⟩ ⟨by omega, by omega⟩ (b := true) (by rw [decide_eq_true_iff, rd_at (i := j) rfl, rd_at (i := i) rfl]; first | exact hlt | omega))
            have HLT := Aside0.mk hlt
            clear hlt
            go_upto_region 9 with (first | (rw [u_less HSW.out.hp]) | (go_at_call 114; refine HL2.out.mono ?_; rintro e w' ⟨rfl, q2, rfl⟩))
            have hs_ := HSW.out.drewN q2
            have hk_ := HKW.out.drewN q2
            (try rw [World.drewN_drewN] at hs_)
            (try rw [World.drewN_drewN] at hk_)
            have HSX := Aside0.mk hs_
            have HKX := Aside0.mk hk_
            clear HL2 hs_ hk_
            go_wp2_with (first | (rw [u_swap HSX.out.hp]) | (go_at_call 117; refine (swap_h HSX.out i j hi hjn).mono ?_; rintro e w' ⟨rfl, hs, hk⟩; have HS1 := Aside0.mk hs; have HK1 := Aside0.mk hk; clear hs hk))
            go_roundg kq
            case measure => omega
            case rel =>
              refine ⟨swp zs i j, j, rfl, hjn, ⟨?_⟩, HS1, ⟨?_⟩⟩
              · have h := HUr.out
                rw [downN, if_neg HA.out, ← HJ.out, if_pos HLT.out] at h
                exact h
              · exact HKX.out.then_ (HK1.out) (fun k hk => .inl hk)
          · have HL2 := Aside0.mk (less_i HSW.out (j : Int) (i : Int) ⟨by omega, by omega⟩ ⟨by omega, by omega⟩ (b := false) (by rw [decide_eq_false_iff_not, rd_at (i := j) rfl, rd_at (i := i) rfl]; first | exact hlt | omega))
            have HLT := Aside0.mk hlt
            clear hlt
            go_wp2_with (first | (rw [u_less HSW.out.hp]) | (go_at_call 114; refine HL2.out.mono ?_; rintro e w' ⟨rfl, q2, rfl⟩))
            have hfin : zs = ys := by
              have h := HUr.out
              rw [downN, if_neg HA.out, ← HJ.out, if_neg (by have := HLT.out; omega)] at h
              exact Option.some.inj h
            go_ret
            subst hfin
            have hs_ := HSW.out.drewN q2
            have hk_ := HKW.out.drewN q2
            (try rw [World.drewN_drewN] at hs_)
            (try rw [World.drewN_drewN] at hk_)
            exact ⟨⟨_, rfl⟩, hs_, hk_⟩
      · have c1 : decide (2 * (i : Int) + 1 + 1 < (m : Int)) = false := decide_eq_false (by omega)
        go_upto_region 8 with (fail)
        have HSW := HHr
        have HKW := HKr
        obtain ⟨j, hj, hji, hjn⟩ : ∃ j : Nat, j = lesser zs i m ∧ 2 * (i : Int) + 1 = (j : Int) ∧ j < n := ⟨_, rfl, by unfold lesser; rw [if_neg (fun h => by have := h.1; omega)]; omega, by unfold lesser; rw [if_neg (fun h => by have := h.1; omega)]; omega⟩
        have HJ := Aside0.mk hj
        have HJI := Aside0.mk hji
        clear hj hji
        rw [HJI.out]
        clear HJI h1
        by_cases hlt : zs.getD j 0 < zs.getD i 0
        · have HL2 := Aside0.mk (less_i HSW.out (j : Int) (i : Int) ⟨by omega, by omega⟩ ⟨by omega, by omega⟩ (b := true) (by rw [decide_eq_true_iff, rd_at (i := j) rfl, rd_at (i := i) rfl]; first | exact hlt | omega))
          have HLT := Aside0.mk hlt
          clear hlt
          go_upto_region 9 with (first | (rw [u_less HSW.out.hp]) | (go_at_call 114; refine HL2.out.mono ?_; rintro e w' ⟨rfl, q2, rfl⟩))
          have hs_ := HSW.out.drewN q2
          have hk_ := HKW.out.drewN q2
          (try rw [World.drewN_drewN] at hs_)
          (try rw [World.drewN_drewN] at hk_)
          have HSX := Aside0.mk hs_
          have HKX := Aside0.mk hk_
          clear HL2 hs_ hk_
          go_wp2_with (first | (rw [u_swap HSX.out.hp]) | (go_at_call 117; refine (swap_h HSX.out i j hi hjn).mono ?_; rintro e w' ⟨rfl, hs, hk⟩; have HS1 := Aside0.mk hs; have HK1 := Aside0.mk hk; clear hs hk))
          go_roundg kq
          case measure => omega
          case rel =>
            refine ⟨swp zs i j, j, rfl, hjn, ⟨?_⟩, HS1, ⟨?_⟩⟩
            · have h := HUr.out
              rw [downN, if_neg HA.out, ← HJ.out, if_pos HLT.out] at h
              exact h
            · exact HKX.out.then_ (HK1.out) (fun k hk => .inl hk)
        · have HL2 := Aside0.mk (less_i HSW.out (j : Int) (i : Int) ⟨by omega, by omega⟩ ⟨by omega, by omega⟩ (b := false) (by rw [decide_eq_false_iff_not, rd_at (i := j) rfl, rd_at (i := i) rfl]; first | exact hlt | omega))
          have HLT := Aside0.mk hlt
          clear hlt
          go_wp2_with (first | (rw [u_less HSW.out.hp]) | (go_at_call 114; refine HL2.out.mono ?_; rintro e w' ⟨rfl, q2, rfl⟩))
          have hfin : zs = ys := by
            have h := HUr.out
            rw [downN, if_neg HA.out, ← HJ.out, if_neg (by have := HLT.out; omega)] at h
            exact Option.some.inj h
          go_ret
          subst hfin
          have hs_ := HSW.out.drewN q2
          have hk_ := HKW.out.drewN q2
          (try rw [World.drewN_drewN] at hs_)
          (try rw [World.drewN_drewN] at hk_)
          exact ⟨⟨_, rfl⟩, hs_, hk_⟩

end Go.Proofs.Ytnhcimhdkdgccaa.P
