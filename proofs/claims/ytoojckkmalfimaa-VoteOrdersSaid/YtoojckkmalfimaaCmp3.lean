/- The first index at which strings of bytes differ. -/
import Derived.Test.YtoojckkmalfimaaCmp2
namespace Go.Proofs.Ytoojckkmalfimaa
open Go.RowKit

def firstF : Nat → List Int → List Int → Int
  | k, x :: xs, y :: ys => if x = y then firstF (k + 1) xs ys else k
  | _, [], [] => -1
  | k, _, _ => k
theorem firstF_step {xs ys : List Int} {k : Nat} (hx : k < xs.length) (hy : k < ys.length) : firstF k (xs.drop k) (ys.drop k) = if xs[k] = ys[k] then firstF (k + 1) (xs.drop (k + 1)) (ys.drop (k + 1)) else k := by
  rw [List.drop_eq_getElem_cons hx, List.drop_eq_getElem_cons hy]; rfl
theorem firstF_end {xs ys : List Int} {k : Nat} (hk : ¬ (k < xs.length ∧ k < ys.length)) (h1 : k ≤ xs.length) (h2 : k ≤ ys.length) : firstF k (xs.drop k) (ys.drop k) = if xs.length = ys.length then -1 else (k : Int) := by
  by_cases a : k < xs.length
  · have b : ¬ k < ys.length := fun b => hk ⟨a, b⟩
    rw [List.drop_eq_getElem_cons a, List.drop_of_length_le (by omega : ys.length ≤ k), if_neg (by omega)]; rfl
  · rw [List.drop_of_length_le (by omega : xs.length ≤ k)]
    by_cases b : k < ys.length
    · rw [List.drop_eq_getElem_cons b, if_neg (by omega)]; rfl
    · rw [List.drop_of_length_le (by omega : ys.length ≤ k), if_pos (by omega)]; rfl

end Go.Proofs.Ytoojckkmalfimaa
