/- Guarded operations of a drawn region that are not wanted. -/
import Derived.Test.YtlapnhpaedkgcaaDoorEng16
namespace Go.Proofs.YtlapnhpaedkgcaaDoor
open Go.RowKit

section
variable {P : Program} {T : List (Nat × TI)} {N : Nat} {L : List (Nat × Value)} {a : Act} {w w0 : World} {S : Nat → Prop} {M M1 : List Hp} {o : Oper} {v : Value} {K : Value → World → Prop} {Q : Exit → Act → World → Prop} {ops : Array Oper} {l : Array Bool} {S1 : World → Prop} {n : Nat}
theorem hTakeN {d j e : Nat} {b c : Bool} (i : Nat) (hs : Sl N L a) (hi : lget ops.toList i = some o) (hb : takeB ops l i = true) (hg : o.guard = some (j, b)) (hj : (ops[j]?).bind (·.dst) = some e) (he : Nat.blt e N = true) (hv : lk L e = some (.bool c)) (hbc : (c == b) = false) (ho : o.dst = some d) (hd : Nat.blt d N = true) (hS : S1 w) (k : ∀ a, Sl N ((d, undef) :: L) a → Drawn P ops Q S1 n (l.setIfInBounds i true) a w) : Drawn P ops Q S1 (n + 1) l a w := by
  unfold takeB at hb
  simp only [Bool.and_eq_true] at hb
  refine ⟨wpAnyH_take (v := undef) (lget_ok hi) hb.1.1 hb.1.2 hb.2 (fun _ _ _ h => h) (.inr ⟨?_, rfl⟩) hS ?_⟩
  · simp only [Region.wanted, hg, yielded_of hs hj he hv]
    simpa using hbc
  · rw [ho]
    exact (k _ (hs.put undef hd)).h
theorem hTakeU {d j e : Nat} {b : Bool} (i : Nat) (hs : Sl N L a) (hi : lget ops.toList i = some o) (hb : takeB ops l i = true) (hg : o.guard = some (j, b)) (hj : (ops[j]?).bind (·.dst) = some e) (he : Nat.blt e N = true) (hv : lk L e = some undef) (ho : o.dst = some d) (hd : Nat.blt d N = true) (hS : S1 w) (k : ∀ a, Sl N ((d, undef) :: L) a → Drawn P ops Q S1 n (l.setIfInBounds i true) a w) : Drawn P ops Q S1 (n + 1) l a w := by
  unfold takeB at hb
  simp only [Bool.and_eq_true] at hb
  refine ⟨wpAnyH_take (v := undef) (lget_ok hi) hb.1.1 hb.1.2 hb.2 (fun _ _ _ h => h) (.inr ⟨?_, rfl⟩) hS ?_⟩
  · simp [Region.wanted, hg, yielded_un hs hj he hv]
  · rw [ho]
    exact (k _ (hs.put undef hd)).h
end
end Go.Proofs.YtlapnhpaedkgcaaDoor
