/- What is held through a region may grow on the way. -/
import Derived.Test.YtemcmcnhpdkdfaaP0
namespace Go.Proofs.Ytemcmcnhpdkdfaa.P
open Go.RowKit Go.Proofs.YtemcmcnhpdkdfaaW.PrintWords Go.Proofs.YtemcmcnhpdkdfaaW.PrintLast Go.Proofs.YtemcmcnhpdkdfaaW.PrintMore

theorem anyLast_more {P : Program} {md : Region.Mode} {ops : Array Oper} {Q : Exit → Act → World → Prop} {S S' : World → Prop} (hsub : ∀ w, S' w → S w) :
    ∀ (fuel : Nat) (l : Array Bool) (a : Act) (w : World), S' w → wpAnyLast P md ops Q S' [] fuel l a w → wpAnyLast P md ops Q S [] fuel l a w
  | 0, _, _, _, _, h => h
  | fuel + 1, l, a, w, hS, h => ⟨h.1, fun i hi => wpOp_mono (fun a' w' h' => ⟨fun _ _ => hsub _ (h'.1 (by simp) hS), anyLast_more hsub fuel _ a' w' (h'.1 (by simp) hS) h'.2⟩) (h.2 i hi)⟩

/-- Two bools that are compared. -/
theorem beq_yes (a b : Bool) (h : (a == b) = true) : b = a := (eq_of_beq h).symm
theorem beq_no (a b : Bool) (h : (a == b) = false) : b = !a := by
  cases a <;> cases b <;> simp_all

end Go.Proofs.Ytemcmcnhpdkdfaa.P
