/- Elements of arrays that are values; structs of numbers compared; a block that a call has changed. -/
import Derived.Test.YtlapnhpaedkgcaaDoorEng13
import Derived.Laws.StructEq
namespace Go.Proofs.YtlapnhpaedkgcaaDoor
open Go.RowKit

section
variable (T : List (Nat × TI))
/-- are these fields equal: numbers and bools -/
def stEq : List (Bool × Nat × TypeId) → List Value → List Value → Option Bool
  | [], _, _ => some true
  | (true, off, t) :: r, xs, ys => match tlk T t with
    | some ⟨_, _, _, .int _⟩ => match xs[off]? with
      | some (.int k1 n) => match ys[off]? with
        | some (.int k2 m) => bif kEq k1 k2 then match stEq r xs ys with
          | some b => some ((n == m) && b)
          | none => none else none
        | _ => none
      | _ => none
    | _ => none
  | _, _, _ => none
end
section
variable {P : Program} {T : List (Nat × TI)} {N : Nat} {L : List (Nat × Value)} {a : Act} {w w0 : World} {S : Nat → Prop} {M : List Hp} {o : Oper} {x y z : Operand} {v u : Value}
theorem run_partF {t : TypeId} {i : TI} {cs : Array Value} {off : Nat} (h : TOk P t i) (hf : i.d.flat = true) (hv : cs.toList[off]? = some v) : Sem.run P (part t cs off) w = .ok v w := by
  have hv' : cs[off]? = some v := by simpa using hv
  unfold part
  simp [run_isAgg h, hf, hv']
theorem run_eqFields_T (hT : TabOk P T) (d : Nat) (xs ys : Array Value) : ∀ (fs : List Field) (b : Bool), stEq T (fs.map fun f => (f.name != "_", f.offset, f.type)) xs.toList ys.toList = some b → Sem.run P (Op.eqFields (d + 1) xs ys fs) w = .ok b w
  | [], b, h => by
    simp only [List.map_nil, stEq, Option.some.injEq] at h
    subst h
    simp [Op.eqFields]
  | f :: r, b, h => by
    rw [List.map_cons] at h
    cases hn : (f.name != "_") with
    | false => rw [hn] at h; simp [stEq] at h
    | true =>
      rw [hn] at h
      simp only [stEq] at h
      have hn' : f.name ≠ "_" := by simpa using hn
      split at h
      · rename_i s1 b1 z1 k ht
        split at h
        · rename_i k1 n hx
          split at h
          · rename_i k2 m hy
            cases hk : kEq k1 k2 with
            | false => rw [hk] at h; cases h
            | true =>
              have e := kEq_ok hk
              subst e
              rw [hk, cond_true] at h
              split at h
              · rename_i b' hb
                obtain rfl := Option.some.inj h
                have ih := run_eqFields_T hT d xs ys r b' hb
                have hi := (hT _ _ ht).int rfl
                simp only [Op.eqFields, hn', ne_eq, not_false_eq_true, if_true, Sem.run_bind, run_partF (hT _ _ ht) rfl hx, run_partF (hT _ _ ht) rfl hy, Result.andThen_ok, run_equalIn_int w d f.type k2 k n m hi]
                cases hnm : (n == m)
                · simp
                · simp only [Bool.not_true, Bool.false_eq_true, if_false, Bool.true_and]
                  exact ih
              · cases h
          · cases h
        · cases h
      · cases h
theorem r_neqSt {t yt : TypeId} {xs ys : Array Value} {fl : List (Bool × Nat × TypeId)} {b : Bool} (hs : Sl N L a) (ho : o.op = .binOp .neq t x y yt) (hx : ev L x = some (.agg xs)) (hy : ev L y = some (.agg ys)) (hT : TabOk P T) (hg : P.eqGuardType P.depth t = false) (hp : P.stoodInHeld t = false) (hu : P.underlying t = some (.struct (P.fieldsOf t))) (hf : ((P.fieldsOf t).toList.map fun f => (f.name != "_", f.offset, f.type)) = fl) (he : stEq T fl xs.toList ys.toList = some b) : RunV P a o w (.bool (!b)) := by
  replace hx := hs.ev hx; replace hy := hs.ev hy
  have h1 := run_equalIn_struct w 9999 t xs ys hu hp
  rw [run_eqFields_T hT 9998 xs ys _ b (by rw [hf]; exact he)] at h1
  unfold RunV execOp
  simp [ho, hx, hy, run_eqGuard_agg w .neq t x y xs ys hg, run_neq_struct, h1]
theorem r_eqlSt {t yt : TypeId} {xs ys : Array Value} {fl : List (Bool × Nat × TypeId)} {b : Bool} (hs : Sl N L a) (ho : o.op = .binOp .eql t x y yt) (hx : ev L x = some (.agg xs)) (hy : ev L y = some (.agg ys)) (hT : TabOk P T) (hg : P.eqGuardType P.depth t = false) (hp : P.stoodInHeld t = false) (hu : P.underlying t = some (.struct (P.fieldsOf t))) (hf : ((P.fieldsOf t).toList.map fun f => (f.name != "_", f.offset, f.type)) = fl) (he : stEq T fl xs.toList ys.toList = some b) : RunV P a o w (.bool b) := by
  replace hx := hs.ev hx; replace hy := hs.ev hy
  have h1 := run_equalIn_struct w 9999 t xs ys hu hp
  rw [run_eqFields_T hT 9998 xs ys _ b (by rw [hf]; exact he)] at h1
  unfold RunV execOp
  simp [ho, hx, hy, run_eqGuard_agg w .eql t x y xs ys hg, run_eql_struct, h1]
/-- an element of an array that is a value -/
theorem r_idx {t e : TypeId} {i j : TI} {n k : Nat} {kk : IntKind} {ii : Int} {cs : List Value} (hs : Sl N L a) (ho : o.op = .index t x y) (hx : ev L x = some (.agg cs.toArray)) (hy : ev L y = some (.int kk ii)) (hii : litN ii = some k) (hT : TabOk P T) (hc : tlk T t = some i) (hd : i.d = .arr n e) (he : tlk T e = some j) (hf : j.d.flat = true) (hk : ii < (n : Int)) (hv : cs[k * j.sz]? = some v) : RunV P a o w v := by
  replace hx := hs.ev hx; replace hy := hs.ev hy
  have e1 := litN_ok hii
  subst e1
  have hp := run_partF (w := w) (cs := cs.toArray) (hT _ _ he) hf hv
  have hk' : k < n := by omega
  unfold RunV execOp
  simp [ho, hx, hy, Instr.index, asIntOf, run_und ((hT _ _ hc).arr hd), run_sizeOf (hT _ _ he), hk', hp]
theorem r_idxA {t e : TypeId} {i j : TI} {n k : Nat} {kk : IntKind} {ii : Int} {cs vs : List Value} (hs : Sl N L a) (ho : o.op = .index t x y) (hx : ev L x = some (.agg cs.toArray)) (hy : ev L y = some (.int kk ii)) (hii : litN ii = some k) (hT : TabOk P T) (hc : tlk T t = some i) (hd : i.d = .arr n e) (he : tlk T e = some j) (hf : j.d.flat = false) (hk : ii < (n : Int)) (hv : some ((cs.drop (k * j.sz)).take j.sz) = some vs) : RunV P a o w (.agg vs.toArray) := by
  replace hx := hs.ev hx; replace hy := hs.ev hy
  have e1 := litN_ok hii
  subst e1
  have hk' : k < n := by omega
  have hp : Sem.run P (part e cs.toArray (k * j.sz)) w = .ok (.agg vs.toArray) w := by
    obtain rfl := Option.some.inj hv
    unfold part
    simp [run_isAgg (hT _ _ he), hf, run_sizeOf (hT _ _ he)]
  unfold RunV execOp
  simp [ho, hx, hy, Instr.index, asIntOf, run_und ((hT _ _ hc).arr hd), run_sizeOf (hT _ _ he), hk', hp]
end
end Go.Proofs.YtlapnhpaedkgcaaDoor
