/- Slices of slices and of arrays. -/
import Derived.Test.YtlapnhpaedkgcaaDoorEng9
namespace Go.Proofs.YtlapnhpaedkgcaaDoor
open Go.RowKit

section
variable {P : Program} {T : List (Nat × TI)} {N : Nat} {L : List (Nat × Value)} {a : Act} {w w0 : World} {o : Oper} {x y z : Operand} {t e : TypeId} {i j : TI} {A : Option Addr} {n c : Nat} {k k' : IntKind} {l h : Int}

theorem r_addH {yt : TypeId} {m : Nat} {p q : Int} (hs : Sl N L a) (ho : o.op = .binOp .add t x y yt) (hx : ev L x = some (.int .i64 p)) (hy : ev L y = some (.int .i64 q)) (he : p + q = (m : Int)) (hb : (m : Int) ≤ 9223372036854775807) : RunV P a o w (.int .i64 (m : Int)) := by
  have h := r_add64 (P := P) (w := w) hs ho hx hy (by omega)
  rwa [he] at h
theorem r_subH {yt : TypeId} {m : Nat} {p q : Int} (hs : Sl N L a) (ho : o.op = .binOp .sub t x y yt) (hx : ev L x = some (.int .i64 p)) (hy : ev L y = some (.int .i64 q)) (he : p - q = (m : Int)) (hb : (m : Int) ≤ 9223372036854775807) : RunV P a o w (.int .i64 (m : Int)) := by
  have h := r_sub64 (P := P) (w := w) hs ho hx hy (by omega)
  rwa [he] at h
theorem r_mulH {yt : TypeId} {m : Nat} {p q : Int} (hs : Sl N L a) (ho : o.op = .binOp .mul t x y yt) (hx : ev L x = some (.int .i64 p)) (hy : ev L y = some (.int .i64 q)) (he : p * q = (m : Int)) (hb : (m : Int) ≤ 9223372036854775807) : RunV P a o w (.int .i64 (m : Int)) := by
  have h := r_mul64 (P := P) (w := w) hs ho hx hy (by omega)
  rwa [he] at h
theorem r_pred {yt : TypeId} {m : Nat} (hs : Sl N L a) (ho : o.op = .binOp .sub t x y yt) (hx : ev L x = some (.int .i64 ((m + 1 : Nat) : Int))) (hy : ev L y = some (.int .i64 1)) (hb : (m : Int) ≤ 9223372036854775806) : RunV P a o w (.int .i64 (m : Int)) :=
  r_subH hs ho hx hy (by omega) (by omega)
theorem add_zero' (p : Addr) : p.add 0 = p := by cases p; rfl
/-- `x[:h]` -/
theorem r_sliceTo (hs : Sl N L a) (ho : o.op = .slice t x none (some y) none) (hx : ev L x = some (.slice A n c)) (hy : ev L y = some (.int k h)) (hT : TabOk P T) (hc : tlk T t = some i) (hd : i.d = .sl e) (he : tlk T e = some j) (h0 : 0 ≤ h) (h1 : h ≤ c) : RunV P a o w (.slice A h.toNat c) := by
  replace hx := hs.ev hx; replace hy := hs.ev hy
  unfold RunV execOp
  have e1 : (A.map fun x => x.add 0) = A := by cases A <;> simp [add_zero']
  simp [ho, hx, hy, Instr.sliceAt, Instr.slice, run_und ((hT _ _ hc).sl hd), Instr.sliceBounds, run_sliceBound, h0, h1, run_sizeOf (hT _ _ he), e1]
/-- `x[l:]` -/
theorem r_sliceFrom (hs : Sl N L a) (ho : o.op = .slice t x (some y) none none) (hx : ev L x = some (.slice A n c)) (hy : ev L y = some (.int k l)) (hT : TabOk P T) (hc : tlk T t = some i) (hd : i.d = .sl e) (he : tlk T e = some j) (h0 : 0 ≤ l) (h1 : l ≤ n) : RunV P a o w (.slice (if c = l.toNat then A else A.map (·.add (l.toNat * j.sz))) (n - l.toNat) (c - l.toNat)) := by
  replace hx := hs.ev hx; replace hy := hs.ev hy
  unfold RunV execOp
  simp [ho, hx, hy, Instr.sliceAt, Instr.slice, run_und ((hT _ _ hc).sl hd), Instr.sliceBounds, run_sliceBound, h0, h1, run_sizeOf (hT _ _ he)]
/-- `x[:]` of an array -/
theorem r_sliceArr {g : Nat} (hs : Sl N L a) (ho : o.op = .slice t x none none none) (hx : ev L x = some (.pointer (some ⟨g, 0, none⟩))) (hT : TabOk P T) (hc : tlk T t = some i) (hd : i.d = .arr n e) (he : tlk T e = some j) : RunV P a o w (.slice (some ⟨g, 0, none⟩) n n) := by
  replace hx := hs.ev hx
  unfold RunV execOp
  simp [ho, hx, Instr.sliceAt, Instr.sureAddr, run_und ((hT _ _ hc).arr hd), Instr.sliceBounds, run_sizeOf (hT _ _ he), add_zero']
/-- `x[:h]` of an array -/
theorem r_sliceArrTo {g : Nat} (hs : Sl N L a) (ho : o.op = .slice t x none (some y) none) (hx : ev L x = some (.pointer (some ⟨g, 0, none⟩))) (hy : ev L y = some (.int k h)) (hT : TabOk P T) (hc : tlk T t = some i) (hd : i.d = .arr n e) (he : tlk T e = some j) (h0 : 0 ≤ h) (h1 : h ≤ n) : RunV P a o w (.slice (some ⟨g, 0, none⟩) h.toNat n) := by
  replace hx := hs.ev hx; replace hy := hs.ev hy
  unfold RunV execOp
  simp [ho, hx, hy, Instr.sliceAt, Instr.sureAddr, run_und ((hT _ _ hc).arr hd), Instr.sliceBounds, run_sliceBound, h0, h1, run_sizeOf (hT _ _ he), add_zero']
theorem Ret.law {f : FuncId} {vs : List Value} (h : Ret P f vs w (fun v w' => v = .bool true ∧ Pu w w')) : Calls P f vs.toArray w (fun e w' => e = .returned (.bool true) ∧ Pu w w') :=
  Calls.mono h.c fun _ _ ⟨_, he, hv, hp⟩ => ⟨by rw [he, hv], hp⟩
end
end Go.Proofs.YtlapnhpaedkgcaaDoor
