/- An argument that is a slice of numbers, as the rows' readers give it and as the contracts take it. -/
import Derived.Test.YtnhcimhdkdgccaaHopen
import Derived.ChangeOld
namespace Go.Proofs.Ytnhcimhdkdgccaa.P
open Go.RowKit Go.Lib Go.Sort Go.Deep Go.ChangeShapes Go.WideShapes Go.Proofs.YtnhcimhdkdgccaaW.PrintWords Go.Proofs.YtnhcimhdkdgccaaW.PrintLast Go.Proofs.YtnhcimhdkdgccaaW.PrintMore

theorem open_row {H : Type} {enc : TypeId × Value → H} {P : Program} {w : World} {base : Nat} {held : Bool} {t e : TypeId} {fuel : Nat} {a0 : Option Addr} {len cap : Nat} {x : DataW H × List MemPlace} (ht : P.underlying t = some (.slice e)) (he : P.underlying e = some (.int .i64))
    (ce : P.cellsOf e = 1) (h : DataW.trod enc P w base (fun _ => true) held fuel t [.slice a0 len cap] = some x) :
    ∃ l : List Int, l.length = len ∧ (Kd.int .i64).C w a0 l.length l ∧ l.length ≤ cap ∧ l.length ≤ 9223372036854775807 ∧ (∀ y ∈ l, (Lit.int .i64 y).wf = true) := by
  rcases open_ints ht he ce h with ⟨hcs, _⟩ | ⟨a, len', cap', zs, hcs, _, hl, hm, hz, _, hr, hw⟩
  · simp at hcs
    obtain ⟨rfl, rfl, rfl⟩ := hcs
    exact ⟨[], rfl, ⟨rfl, by simp, fun hp => absurd hp (by simp)⟩, Nat.le_refl _, by simp, fun r hr => by simp at hr⟩
  · simp at hcs
    obtain ⟨rfl, rfl, rfl⟩ := hcs
    have hm' : cap ≤ 9223372036854775807 := hm
    rw [if_pos rfl] at hz
    refine ⟨zs.take len, by rw [List.length_take]; omega, C_of_cells (by omega) (by omega) (fun e => by cases e) (fun a' ha c hc => by injection ha with ha; rw [← ha]; exact hr c hc), ?_, ?_, fun y hy => hw y (List.mem_of_mem_take hy)⟩
    · rw [List.length_take]; omega
    · rw [List.length_take]; omega

end Go.Proofs.Ytnhcimhdkdgccaa.P
