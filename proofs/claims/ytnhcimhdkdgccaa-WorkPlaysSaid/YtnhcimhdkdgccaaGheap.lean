/- A heap in a list: what up and down leave. Plain words. -/
import Derived.Test.YtnhcimhdkdgccaaP0
namespace Go.Proofs.Ytnhcimhdkdgccaa.P

def swp (xs : List Int) (i j : Nat) : List Int := (xs.set i (xs.getD j 0)).set j (xs.getD i 0)
theorem swp_len (xs : List Int) (i j : Nat) : (swp xs i j).length = xs.length := by simp [swp]
def upN : Nat → List Int → Nat → Option (List Int)
  | 0, _, _ => none
  | k + 1, xs, j => if (j - 1) / 2 = j then some xs else if xs.getD j 0 < xs.getD ((j - 1) / 2) 0 then upN k (swp xs ((j - 1) / 2) j) ((j - 1) / 2) else some xs
/-- The lesser one of two below. -/
def lesser (xs : List Int) (i n : Nat) : Nat := if 2 * i + 2 < n ∧ xs.getD (2 * i + 2) 0 < xs.getD (2 * i + 1) 0 then 2 * i + 2 else 2 * i + 1
def downN : Nat → List Int → Nat → Nat → Option (List Int)
  | 0, _, _, _ => none
  | k + 1, xs, i, n => if n ≤ 2 * i + 1 then some xs else if xs.getD (lesser xs i n) 0 < xs.getD i 0 then downN k (swp xs i (lesser xs i n)) (lesser xs i n) n else some xs

end Go.Proofs.Ytnhcimhdkdgccaa.P
