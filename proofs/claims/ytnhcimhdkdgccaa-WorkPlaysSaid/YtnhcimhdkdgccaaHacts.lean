/- An argument that is a slice of Acts, as the rows' readers give it and as the walks take it. -/
import Derived.Test.YtnhcimhdkdgccaaHopen1
import Derived.Deep.SlicePairs
namespace Go.Proofs.Ytnhcimhdkdgccaa.P
open Go.RowKit Go.Lib Go.Sort Go.Deep Go.ChangeShapes Go.WideShapes Go.Proofs.YtnhcimhdkdgccaaW.PrintWords Go.Proofs.YtnhcimhdkdgccaaW.PrintLast Go.Proofs.YtnhcimhdkdgccaaW.PrintMore

def ActsC (w : World) (A : Option Addr) (l : List (Bool × Int)) : Prop := ∀ k, k < l.length → ∃ b off, A = some ⟨b, off, none⟩ ∧ w.cell? ⟨b, off + k * 2, none⟩ = some (.bool (l.getD k (false, 0)).1) ∧ w.cell? ⟨b, off + k * 2 + 1, none⟩ = some (.int .i64 (l.getD k (false, 0)).2)

theorem open_acts {H : Type} {enc : TypeId × Value → H} {P : Program} {w : World} {base : Nat} {held : Bool} {t e : TypeId} {f0 f1 : Field} {fuel : Nat} {a0 : Option Addr} {len cap : Nat} {x : DataW H × List MemPlace} (ht : P.underlying t = some (.slice e)) (he : P.underlying e = some (.struct #[f0, f1]))
    (ce : P.cellsOf e = 2) (o0 : f0.offset = 0) (o1 : f1.offset = 1) (c0 : P.cellsOf f0.type = 1) (c1 : P.cellsOf f1.type = 1) (hb : P.underlying f0.type = some .bool) (hi : P.underlying f1.type = some (.int .i64))
    (h : DataW.trod enc P w base (fun _ => true) held fuel t [.slice a0 len cap] = some x) :
    ∃ l : List (Bool × Int), l.length = len ∧ ActsC w a0 l ∧ l.length ≤ cap ∧ l.length ≤ 9223372036854775807 ∧ (∀ p ∈ l, (Lit.int .i64 p.2).wf = true) := by
  rcases open_slice_pairs ht he ce o0 o1 c0 c1 h with ⟨hcs, _⟩ | ⟨a, len', cap', m, n, V0, V1, D0, D1, P0, P1, hcs, _, hl, hm, hz, _, hr⟩
  · simp at hcs
    obtain ⟨rfl, rfl, rfl⟩ := hcs
    exact ⟨[], rfl, fun k hk => by simp at hk, Nat.le_refl _, by simp, fun r hr => by simp at hr⟩
  · simp at hcs
    obtain ⟨rfl, rfl, rfl⟩ := hcs
    have hm' : cap ≤ 9223372036854775807 := hm
    rw [if_pos rfl] at hz
    have each : ∀ k, k < len → ∃ p : Bool × Int, V0 k = .bool p.1 ∧ V1 k = .int .i64 p.2 ∧ (Lit.int .i64 p.2).wf = true := by
      intro k hk
      obtain ⟨_, _, h2, h3⟩ := hr k (by omega)
      obtain ⟨b, hb', _⟩ := DataW.trod_bool hb h2
      obtain ⟨y, hy, _, hw⟩ := DataW.trod_int hi h3
      exact ⟨(b, y), by simpa using hb', by simpa using hy, hw⟩
    obtain ⟨q, hq⟩ := choose_lt each
    refine ⟨(List.range len).map q, by simp, ?_, by simpa using hl, by simp; omega, ?_⟩
    · intro k hk
      have hk' : k < len := by simpa using hk
      obtain ⟨h0, h1, _, _⟩ := hr k (by omega)
      obtain ⟨b, off, spot⟩ := a
      have hspot : spot = none := by simpa [Addr.add] using World.cell?_spot (hr 0 (by omega)).1
      subst hspot
      rw [Go.WideShapes.add_plain] at h0 h1
      have e : ((List.range len).map q).getD k (false, 0) = q k := by
        rw [List.getD_eq_getElem?_getD, List.getElem?_map, List.getElem?_eq_getElem (by simpa using hk')]
        simp
      rw [e, ← (hq k hk').1, ← (hq k hk').2.1]
      exact ⟨b, off, rfl, h0, by rw [Nat.add_assoc]; exact h1⟩
    · intro p hp
      rw [List.mem_map] at hp
      obtain ⟨k, hk, rfl⟩ := hp
      exact (hq k (List.mem_range.1 hk)).2.2

end Go.Proofs.Ytnhcimhdkdgccaa.P
