/- Two Works over one order, beside each other; the document's comparison of two lists. -/
import Derived.Test.YtnhcimhdkdgccaaHlist
import Derived.Test.YtnhcimhdkdgccaaGrefs
namespace Go.Proofs.Ytnhcimhdkdgccaa.P
open Go.RowKit Go.Shelf Go.Lib Go.Sort Go.Maps Go.Proofs.YtnhcimhdkdgccaaW.PrintWords Go.Proofs.YtnhcimhdkdgccaaW.PrintLast Go.Proofs.YtnhcimhdkdgccaaW.PrintMore

theorem Ints_c (A0 : Option Addr) (c0 : Nat) (l0 : List Int) (A1 : Option Addr) (c1 : Nat) (l1 : List Int) (w : World) (h0 : dI.C w A0 l0.length l0) (hc0 : l0.length ≤ c0) (h1 : dI.C w A1 l1.length l1) (hc1 : l1.length ≤ c1) (hb : l0.length ≤ 1000000) :
    Calls Try.prog 28 #[.slice A0 l0.length c0, .slice A1 l1.length c1] w fun e w' => e = .returned (.bool (decide (l0 = l1))) ∧ Below w.heap.size w w' := by
  obtain ⟨k, hk⟩ := ints_ev l0 l1 (by omega)
  refine (bywashref01_Ints.calls k A0 c0 l0 A1 c1 l1 _ w h0 hc0 h1 hc1 (hk k (Nat.le_refl _))).mono ?_
  rintro e w' ⟨rfl, ⟨nd, rfl⟩⟩
  exact ⟨rfl, pw_below_drewN (Below.refl _ _) nd⟩

theorem Has_q (A0 : Option Addr) (c0 : Nat) (l0 : List Int) (x : Int) (w : World) (h0 : dI.C w A0 l0.length l0) (hc0 : l0.length ≤ c0) (hb : l0.length ≤ 1000000) :
    ∀ n, Calls Try.prog 36 #[.slice A0 l0.length c0, .int .i64 x] (w.drewN n) fun e w' => e = .returned (.bool (decide (x ∈ l0))) ∧ ∃ m, w' = w.drewN m := fun n => by
  obtain ⟨k, hk⟩ := has_ev l0 x (by omega)
  refine (bywashref10_Has.calls k A0 c0 l0 x _ (w.drewN n) (Kd.C_drewN h0 n) hc0 (hk k (Nat.le_refl _))).mono ?_
  rintro e w' ⟨rfl, ⟨nd, rfl⟩⟩
  exact ⟨rfl, _, World.drewN_drewN _ _ _⟩
theorem Has_c (A0 : Option Addr) (c0 : Nat) (l0 : List Int) (x : Int) (w : World) (h0 : dI.C w A0 l0.length l0) (hc0 : l0.length ≤ c0) (hb : l0.length ≤ 1000000) :
    Calls Try.prog 36 #[.slice A0 l0.length c0, .int .i64 x] w fun e w' => e = .returned (.bool (decide (x ∈ l0))) ∧ Below w.heap.size w w' := by
  obtain ⟨k, hk⟩ := has_ev l0 x (by omega)
  refine (bywashref10_Has.calls k A0 c0 l0 x _ w h0 hc0 (hk k (Nat.le_refl _))).mono ?_
  rintro e w' ⟨rfl, ⟨nd, rfl⟩⟩
  exact ⟨rfl, pw_below_drewN (Below.refl _ _) nd⟩
theorem C_take {w : World} {A : Option Addr} {xs : List Int} (h : dI.C w A xs.length xs) {k : Nat} (hk : k ≤ xs.length) : dI.C w A (xs.take k).length (xs.take k) := by
  obtain ⟨_, hm, hc⟩ := h
  have hl : (xs.take k).length = k := by rw [List.length_take]; omega
  refine ⟨rfl, by rw [hl]; omega, fun hp => ?_⟩
  obtain ⟨ad, e, hc⟩ := hc (by omega)
  refine ⟨ad, e, fun i p hi => hc i p ?_⟩
  have hik : i < k := by have := (List.getElem?_eq_some_iff.1 hi).1; omega
  rwa [List.getElem?_take_of_lt hik] at hi

def Two (w0 w : World) (a b : Nat) (ord : List Int) (ga gb : Int → Bool) (na nb m : Nat) : Prop :=
  ∃ Ta Tb, WK w0 w Ta a ord ga na m ∧ WK w0 w Tb b ord gb nb m ∧ ∀ k, Ta k → ¬ Tb k
section
variable {w0 w w' : World} {a b : Nat} {ord : List Int} {ga gb : Int → Bool} {na nb m : Nat}
theorem Two.swap (h : Two w0 w a b ord ga gb na nb m) : Two w0 w b a ord gb ga nb na m := by
  obtain ⟨Ta, Tb, h1, h2, h3⟩ := h
  exact ⟨Tb, Ta, h2, h1, fun k hb ha => h3 k ha hb⟩
theorem Two.bel (h : Two w0 w a b ord ga gb na nb m) : Below w0.heap.size w0 w := by
  obtain ⟨_, _, h1, _⟩ := h
  exact h1.bel
theorem Two.later (h : Two w0 w a b ord ga gb na nb m) (hb : Below w.heap.size w w') : Two w0 w' a b ord ga gb na nb m := by
  obtain ⟨Ta, Tb, h1, h2, h3⟩ := h
  exact ⟨Ta, Tb, h1.later hb, h2.later hb, h3⟩
theorem Two.same (h : Two w0 w a b ord ga gb na nb m) {ga' gb' : Int → Bool} (e1 : ga' = ga) (e2 : gb' = gb) : Two w0 w a b ord ga' gb' na nb m := by subst e1; subst e2; exact h
theorem Two.put (h : Two w0 w a b ord ga gb na nb m) {i : Int} (hi : (Lit.int .i64 i).wf = true) (hn : na < 1000000) (hm : m < maxLen) :
    Calls Try.prog 16 #[.pointer (some ⟨a, 0, none⟩), .int .i64 i] w fun e w' => e = .returned (.bool (putr ord ga i)) ∧ Two w0 w' a b ord (putg ord ga i) gb (na + if putr ord ga i then 1 else 0) nb (m + 1) := by
  obtain ⟨Ta, Tb, h1, h2, h3⟩ := h
  refine (h1.put hi hn hm).mono ?_
  rintro e w' ⟨rfl, ⟨T', h, hT⟩, hk⟩
  exact ⟨rfl, T', Tb, h, (h2.move hk (fun k hb ha => h3 k ha hb) h.bel).same rfl (by omega), fun k hk' hb => (hT k hk').elim (fun ha => h3 k ha hb) (fun hge => by have := (h2.lt k hb).2; omega)⟩
theorem Two.take (h : Two w0 w a b ord ga gb (na + 1) nb m) (hn : na < 1000000) (hm : m < maxLen) :
    ∃ i, ord.find? ga = some i ∧ Calls Try.prog 18 #[.pointer (some ⟨a, 0, none⟩)] w fun e w' => e = .returned (.tuple #[.int .i64 i, .bool true]) ∧ Two w0 w' a b ord (takeg ord ga) gb na nb (m + 1) := by
  obtain ⟨Ta, Tb, h1, h2, h3⟩ := h
  obtain ⟨i, hf, hc⟩ := h1.take_yes hn hm
  refine ⟨i, hf, hc.mono ?_⟩
  rintro e w' ⟨rfl, h, hk⟩
  exact ⟨rfl, Ta, Tb, h, (h2.move hk (fun k hb ha => h3 k ha hb) h.bel).same rfl (by omega), h3⟩
theorem Two.take_no (h : Two w0 w a b ord ga gb 0 nb m) :
    Calls Try.prog 18 #[.pointer (some ⟨a, 0, none⟩)] w fun e w' => e = .returned (.tuple #[.int .i64 0, .bool false]) ∧ w' = w := by
  obtain ⟨Ta, Tb, h1, h2, h3⟩ := h
  exact (h1.take_no rfl).2
theorem Two.len (h : Two w0 w a b ord ga gb na nb m) :
    Calls Try.prog 17 #[.pointer (some ⟨a, 0, none⟩)] w fun e w' => e = .returned (.int .i64 na) ∧ w' = w := by
  obtain ⟨Ta, Tb, h1, h2, h3⟩ := h
  exact h1.len
theorem Two.length (h : Two w0 w a b ord ga gb na nb m) : na = (lst ord ga).length := by
  obtain ⟨Ta, Tb, h1, h2, h3⟩ := h
  exact h1.length
theorem Two.list (h : Two w0 w a b ord ga gb na nb m) (hn : na ≤ 1000000) :
    Calls Try.prog 30 #[.pointer (some ⟨a, 0, none⟩)] w fun e w' => ∃ A c, e = .returned (.slice A na c) ∧ dI.C w' A na (lst ord ga) ∧ na ≤ c ∧ Below w.heap.size w w' := by
  have hl := h.length
  obtain ⟨Ta, Tb, h1, h2, h3⟩ := h
  refine (h1.list hn).mono ?_
  rintro e w' ⟨u, rfl, ho, hb⟩
  obtain ⟨A, c, rfl⟩ := Kd.R_slice ho
  obtain ⟨_, hle, hC⟩ := Kd.R_reads' ho
  rw [← hl] at hC hle ⊢
  exact ⟨A, c, rfl, hC, hle, hb⟩
theorem Two.new {T : Nat → Prop} {A : Option Addr} {c : Nat} (h : WK w0 w T a ord (fun _ => false) 0 0) (hC : dI.C w A ord.length ord) (hl : ord.length ≤ 1000000) (hw : ∀ y ∈ ord, (Lit.int .i64 y).wf = true) :
    Calls Try.prog 15 #[.slice A ord.length c] w fun e w' => ∃ b, e = .returned (.pointer (some ⟨b, 0, none⟩)) ∧ Two w0 w' a b ord (fun _ => false) (fun _ => false) 0 0 0 := by
  refine (WK.new hC h.bel hl hw).mono ?_
  rintro e w' ⟨b, T2, rfl, h2, hT2, hb⟩
  exact ⟨b, rfl, T, T2, h.later hb, h2, fun k hk hk2 => by have := (h.lt k hk).2; have := hT2 k hk2; omega⟩
end

end Go.Proofs.Ytnhcimhdkdgccaa.P
