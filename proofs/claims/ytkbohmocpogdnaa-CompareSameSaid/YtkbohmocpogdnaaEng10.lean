/- Slices of slices and of arrays. -/
import Derived.Test.YtkbohmocpogdnaaEng9
namespace Go.Proofs.Ytkbohmocpogdnaa
open Go.RowKit

section
variable {P : Program} {T : List (Nat × TI)} {N : Nat} {L : List (Nat × Value)} {a : Act} {w w0 : World} {o : Oper} {x y z : Operand} {t e : TypeId} {i j : TI} {A : Option Addr} {n c : Nat} {k k' : IntKind} {l h : Int}

theorem add_zero' (p : Addr) : p.add 0 = p := by cases p; rfl
/-- `x[:h]` -/
theorem r_sliceTo (hs : Sl N L a) (ho : o.op = .slice t x none (some y) none) (hx : ev L x = some (.slice A n c)) (hy : ev L y = some (.int k h)) (hT : TabOk P T) (hc : tlk T t = some i) (hd : i.d = .sl e) (he : tlk T e = some j) (h0 : 0 ≤ h) (h1 : h ≤ c) : RunV P a o w (.slice A h.toNat c) := by
  replace hx := hs.ev hx; replace hy := hs.ev hy
  unfold RunV execOp
  have e1 : (A.map fun x => x.add 0) = A := by cases A <;> simp [add_zero']
  simp [ho, hx, hy, Instr.sliceAt, Instr.slice, run_und ((hT _ _ hc).sl hd), Instr.sliceBounds, run_sliceBound, h0, h1, run_sizeOf (hT _ _ he), e1]
/-- `x[l:]` -/
theorem r_sliceFrom (hs : Sl N L a) (ho : o.op = .slice t x (some y) none none) (hx : ev L x = some (.slice A n c)) (hy : ev L y = some (.int k l)) (hT : TabOk P T) (hc : tlk T t = some i) (hd : i.d = .sl e) (he : tlk T e = some j) (h0 : 0 ≤ l) (h1 : l ≤ n) : RunV P a o w (.slice (if c = l.toNat then A else A.map (·.add (l.toNat * j.sz))) (n - l.toNat) (c - l.toNat)) := by
  replace hx := hs.ev hx; replace hy := hs.ev hy
  unfold RunV execOp
  simp [ho, hx, hy, Instr.sliceAt, Instr.slice, run_und ((hT _ _ hc).sl hd), Instr.sliceBounds, run_sliceBound, h0, h1, run_sizeOf (hT _ _ he)]
/-- `x[:]` of an array -/
theorem r_sliceArr {g : Nat} (hs : Sl N L a) (ho : o.op = .slice t x none none none) (hx : ev L x = some (.pointer (some ⟨g, 0, none⟩))) (hT : TabOk P T) (hc : tlk T t = some i) (hd : i.d = .arr n e) (he : tlk T e = some j) : RunV P a o w (.slice (some ⟨g, 0, none⟩) n n) := by
  replace hx := hs.ev hx
  unfold RunV execOp
  simp [ho, hx, Instr.sliceAt, Instr.sureAddr, run_und ((hT _ _ hc).arr hd), Instr.sliceBounds, run_sizeOf (hT _ _ he), add_zero']
/-- `x[:h]` of an array -/
theorem r_sliceArrTo {g : Nat} (hs : Sl N L a) (ho : o.op = .slice t x none (some y) none) (hx : ev L x = some (.pointer (some ⟨g, 0, none⟩))) (hy : ev L y = some (.int k h)) (hT : TabOk P T) (hc : tlk T t = some i) (hd : i.d = .arr n e) (he : tlk T e = some j) (h0 : 0 ≤ h) (h1 : h ≤ n) : RunV P a o w (.slice (some ⟨g, 0, none⟩) h.toNat n) := by
  replace hx := hs.ev hx; replace hy := hs.ev hy
  unfold RunV execOp
  simp [ho, hx, hy, Instr.sliceAt, Instr.sureAddr, run_und ((hT _ _ hc).arr hd), Instr.sliceBounds, run_sliceBound, h0, h1, run_sizeOf (hT _ _ he), add_zero']
theorem Ret.law {f : FuncId} {vs : List Value} (h : Ret P f vs w (fun v w' => v = .bool true ∧ Pu w w')) : Calls P f vs.toArray w (fun e w' => e = .returned (.bool true) ∧ Pu w w') :=
  Calls.mono h.c fun _ _ ⟨_, he, hv, hp⟩ => ⟨by rw [he, hv], hp⟩
end
end Go.Proofs.Ytkbohmocpogdnaa
