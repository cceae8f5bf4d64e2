/- A drawn region goes on from a later world. -/
import Derived.Test.YtfcmejcmijjnpaaEng17
namespace Go.Proofs.Ytfcmejcmijjnpaa
open Go.RowKit

section
variable {P : Program} {a : Act} {w w0 : World} {S : Nat → Prop} {M M1 : List Hp} {Q : Exit → Act → World → Prop} {ops : Array Oper} {l : Array Bool} {n : Nat}
theorem wpAnyH_imp {Q : Exit → Act → World → Prop} {A B : World → Prop} (h : ∀ w, B w → A w) : ∀ (n : Nat) (l : Array Bool) (a : Act) (w : World), wpAnyH P .any ops Q B n l a w → wpAnyH P .any ops Q A n l a w
  | 0, _, _, _, hB => hB
  | n + 1, _, _, _, hB => ⟨hB.1, fun i hi => wpOp_mono (fun _ _ hk => ⟨h _ hk.1, wpAnyH_imp h n _ _ _ hk.2⟩) (hB.2 i hi)⟩
theorem hRebase (hm : Mm S w0 M w) (k : Drawn P ops Q (fun w' => Mm (own M) w M1 w') n l a w) : Drawn P ops Q (fun w' => Mm S w0 M1 w') n l a w :=
  ⟨wpAnyH_imp (fun _ h => hm.trans h) n l a w k.h⟩
end
end Go.Proofs.Ytfcmejcmijjnpaa
