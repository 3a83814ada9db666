/- dom.Chain: a way up. -/
import Derived.Test.YtemcmcnhpdkdfaaHup
import Derived.Test.YtemcmcnhpdkdfaaPdomSane
namespace Go.Proofs.Ytemcmcnhpdkdfaa.P
open Go.RowKit Go.Shelf Go.Lib Go.Sort Go.Proofs.YtemcmcnhpdkdfaaW.PrintWords Go.Proofs.YtemcmcnhpdkdfaaW.PrintLast Go.Proofs.YtemcmcnhpdkdfaaW.PrintMore
attribute [local go_sem] Oper.semAt_some

def dom_Chain.f (k : Nat) (l0 : List Int) (a1 : Int) : Option (List Int) :=
  if isN l0.length a1 = true then (if rd l0 a1 = -2 then some [] else (dom_Sane.f k l0).bind fun s => if s = true then (if l0.length ≤ 1000000 then some (upL l0 l0.length l0.length a1) else none) else some []) else some []
theorem leO_bind' {α β : Type} {a b : Option α} {f : α → Option β} (h : LeO a b) : LeO (a.bind f) (b.bind f) := by
  intro r hr
  obtain ⟨x, hx, hx2⟩ := Option.bind_eq_some_iff.1 hr
  exact Option.bind_eq_some_iff.2 ⟨x, h x hx, hx2⟩
theorem dom_Chain.mono : ∀ a0 a1 k, LeO (dom_Chain.f k a0 a1) (dom_Chain.f (k + 1) a0 a1) := by
  intro a0 a1 k
  unfold dom_Chain.f
  split
  · split
    · exact fun _ h => h
    · exact leO_bind' (dom_Sane.mono _ _)
  · exact fun _ h => h

set_option maxRecDepth 100000 in
set_option maxHeartbeats 4000000 in
theorem chain_in (k : Nat) (A : Option Addr) (cap : Nat) (ds : List Int) (b : Int) (r : List Int) (w : World) (hC : dI.C w A ds.length ds) (hc0 : ds.length ≤ cap) (h : dom_Chain.f k ds b = some r) :
    CallsIn Fence.wide 8 Try.prog 25 #[.slice A ds.length cap, .int .i64 b] w fun e w' => ∃ v, e = .returned v ∧ dI.R 3 w' w.heap.size (fun _ => True) v r ∧ Below w.heap.size w w' := by
  have HC := Aside0.mk hC
  have HC0 := Aside0.mk hc0
  obtain ⟨n, en⟩ : ∃ n, n = ds.length := ⟨_, rfl⟩
  have HN := Aside0.mk en
  have H := Aside0.mk h
  rw [← en] at hC ⊢
  refine callsIn_of_wp Try.func25 rfl trivial ?_ rfl
  simp only [Try.ntmps25, List.size_toArray, List.length_cons, List.length_nil, Nat.reduceAdd, Nat.reduceSub, Array.replicate_succ, Array.replicate_zero, List.push_toArray, List.append_toArray, List.nil_append, List.cons_append]
  unfold dom_Chain.f at h
  rw [← en] at h
  clear hc0 en
  rcases Bool.eq_false_or_eq_true (isN n b) with hin | hin
  · rw [if_pos hin] at h
    have hbn := isN_iff.1 hin
    obtain ⟨x, rfl⟩ : ∃ x : Nat, b = (x : Int) := ⟨b.toNat, by omega⟩
    have hx : x < n := by omega
    have c1 : decide ((x : Int) < 0) = false := decide_eq_false (by omega)
    have c2 : decide ((n : Int) ≤ (x : Int)) = false := decide_eq_false (by omega)
    have c3 : decide (n ≤ x) = false := decide_eq_false (by omega)
    have q0 : (0 : Int) ≤ (x : Int) := by omega
    have q1 : (x : Int) < (n : Int) := by omega
    obtain ⟨g, off, e, _, hcell⟩ := C_ints HC.out (by have := HN.out; omega)
    have hcx := hcell x (by have := HN.out; omega)
    have er : rd ds (x : Int) = ds.getD x 0 := by show ds.getD (Int.toNat (x : Int)) 0 = _; rw [Int.toNat_natCast]
    rw [er] at h
    obtain ⟨y, ey⟩ : ∃ y, y = ds.getD x 0 := ⟨_, rfl⟩
    rw [← ey] at h hcx
    clear er ey hcell hbn hin H
    by_cases hy : y = -2
    · rw [if_pos hy] at h
      subst hy
      obtain rfl := Option.some.inj h
      clear h hC
      subst e
      gi_wp2
      refine ⟨trivial, ?_⟩
      gi_wp2
      go_ret
      exact ⟨_, rfl, Kd.R_nil _ _ _ _ _, Below.refl _ _⟩
    · rw [if_neg hy] at h
      have e2 : (y == -2) = false := by simpa using hy
      obtain ⟨s, hs, h⟩ := Option.bind_eq_some_iff.1 h
      have HS := Aside0.mk (dom_Sane.calls k A cap ds s w HC.out HC0.out hs)
      rw [← HN.out] at HS
      cases s with
      | false =>
        rw [if_neg (by simp)] at h
        obtain rfl := Option.some.inj h
        clear h hC hs
        subst e
        gi_wp2_with (refine ⟨trivial, ?_⟩; gi_at_call 23; refine (callsIn_wide.2 HS.out).mono ?_; rintro e w' ⟨rfl, hb⟩; have HB := Aside0.mk hb; clear hb)
        go_ret
        exact ⟨_, rfl, Kd.R_nil _ _ _ _ _, HB.out⟩
      | true =>
        rw [if_pos rfl] at h
        split at h
        · rename_i hlen
          obtain rfl := Option.some.inj h
          have HU := Aside0.mk (fun (W : World) (hW : Below w.heap.size w W) => UpI_made (cap := cap) (b := (x : Int)) hC hW _ _ rfl rfl)
          have HAD := Aside0.mk (C_addr hC)
          clear h hC hs
          subst e
          gi_wp2_with (first | (refine ⟨trivial, ?_⟩; gi_at_call 23; refine (callsIn_wide.2 HS.out).mono ?_; rintro e w1 ⟨rfl, hb⟩; have HB := Aside0.mk hb; clear hb) | (refine ⟨trivial, ?_⟩; gi_at_call 59; refine (up_in Fence.wide _ trivial rfl _ _ _ _ _).mono ?_; rintro e w2 ⟨rfl, rfl⟩) | (refine ⟨trivial, ?_⟩; gi_at_call 58; refine (collect_in _ n cap ds (x : Int) _ _ _ (HU.out w1 HB.out) (by omega) (fun hp g' off' e' => (by have := HAD.out hp g' off' e'; have := HB.out.size; rw [size_alloc1, size_alloc1]; omega)) hlen).mono ?_; rintro e w3 ⟨v, rfl, hr, hf⟩; obtain ⟨A3, c3, rfl⟩ := Kd.R_slice hr; have HR3 := Aside0.mk hr; have HF3 := Aside0.mk hf; clear hr hf))
          go_ret
          have hz := HB.out.size
          have hb1 : Below w.heap.size w ((w1.alloc (.cells #[.slice (some ⟨g, off, none⟩) n cap] 25)).alloc (.cells #[.int .i64 (x : Int)] 3)) := HB.out.trans ((below_alloc (below_alloc (Below.refl _ _) _) _).mono hz)
          exact ⟨_, rfl, Kd.R_lower HR3.out (by have := hb1.size; omega), below_fr hb1 HF3.out (fun k hk => by omega) hb1.size⟩
        · cases h
  · have hout : b < 0 ∨ (n : Int) ≤ b := by
      have : ¬ (0 ≤ b ∧ b < (n : Int)) := fun h => by rw [isN_iff.2 h] at hin; cases hin
      omega
    rw [if_neg (by rw [hin]; simp)] at h
    obtain rfl := Option.some.inj h
    clear h hC H
    rcases hout with hb | hb
    · have c1 : decide (b < 0) = true := decide_eq_true hb
      gi_wp2
      refine ⟨trivial, ?_⟩
      gi_wp2
      go_ret
      exact ⟨_, rfl, Kd.R_nil _ _ _ _ _, Below.refl _ _⟩
    · have c1 : decide (b < 0) = false := decide_eq_false (by omega)
      have c2 : decide ((n : Int) ≤ b) = true := decide_eq_true hb
      gi_wp2
      refine ⟨trivial, ?_⟩
      gi_wp2
      go_ret
      exact ⟨_, rfl, Kd.R_nil _ _ _ _ _, Below.refl _ _⟩

theorem dom_Chain.calls (k : Nat) (A0 : Option Addr) (c0 : Nat) (l0 : List Int) (a1 : Int) (r : List Int) (w : World) (hr0 : Kd.C (Kd.int .i64) w A0 l0.length l0) (hc0 : l0.length ≤ c0) (h : dom_Chain.f k l0 a1 = some r) :
    Calls Try.prog 25 #[.slice A0 l0.length c0, .int .i64 a1] w fun e w' => ∃ v0_ : Value, e = .returned v0_ ∧ Kd.R (Kd.int .i64) 3 w' w.heap.size (fun _ => True) v0_ r ∧ Below w.heap.size w w' :=
  callsIn_wide.1 (chain_in k A0 c0 l0 a1 r w hr0 hc0 h)

end Go.Proofs.Ytemcmcnhpdkdfaa.P
