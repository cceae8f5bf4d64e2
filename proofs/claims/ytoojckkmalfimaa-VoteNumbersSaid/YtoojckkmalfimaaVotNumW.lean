/- VoteNumbers: as the closing text wants it. -/
import Derived.Test.YtoojckkmalfimaaVotNum
namespace Go.Proofs.Ytoojckkmalfimaa
open Go.RowKit

theorem walk_VoteNumbers (x y : Int) (w : World) (hx : (Lit.int .u8 x).wf = true) (hy : (Lit.int .u8 y).wf = true) : Calls Try.prog 7 #[.int .u8 x, .int .u8 y] w (fun e w' => e = .returned (.bool true) ∧ Pu w w') :=
  (num_c x y w (by simp [Lit.wf] at hx; exact hx) (by simp [Lit.wf] at hy; exact hy)).law
end Go.Proofs.Ytoojckkmalfimaa
