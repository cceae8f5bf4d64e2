/- What each operation does, by the slots and the blocks. -/
import Derived.Test.YtlapnhpaedkgcaaDoorEng
namespace Go.Proofs.YtlapnhpaedkgcaaDoor
open Go.RowKit

/-- the operation gives v and leaves the world as it is -/
def RunV (P : Program) (a : Act) (o : Oper) (w : World) (v : Value) : Prop := (execOp a.eval o).run P w = .ok (.value v) w
theorem beq_dec (n m : Int) : (n == m) = decide (n = m) := by
  by_cases h : n = m <;> simp [h]
theorem run_und {P : Program} {t : TypeId} {d : TypeDesc} {w : World} (h : P.underlying t = some d) : Sem.run P (underlying t) w = .ok d w := by
  unfold underlying; simp [go_sem, h]
theorem TOk.und {P : Program} {t : TypeId} {x : TI} (h : TOk P t x) : ∃ d, P.underlying t = some d ∧ tdOf d = x.d := by
  have := h.2; rwa [Option.map_eq_some_iff] at this
theorem TOk.int {P : Program} {t : TypeId} {x : TI} {k : IntKind} (h : TOk P t x) (hd : x.d = .int k) : P.underlying t = some (.int k) := by
  obtain ⟨d, h1, h2⟩ := h.und
  rw [hd] at h2
  cases d <;> simp [tdOf] at h2
  rw [h1, h2]
theorem TOk.bool {P : Program} {t : TypeId} {x : TI} (h : TOk P t x) (hd : x.d = .bool) : P.underlying t = some .bool := by
  obtain ⟨d, h1, h2⟩ := h.und
  rw [hd] at h2
  cases d <;> simp [tdOf] at h2
  exact h1
theorem TOk.sl {P : Program} {t e : TypeId} {x : TI} (h : TOk P t x) (hd : x.d = .sl e) : P.underlying t = some (.slice e) := by
  obtain ⟨d, h1, h2⟩ := h.und
  rw [hd] at h2
  cases d <;> simp [tdOf] at h2
  rw [h1, h2]
theorem TOk.arr {P : Program} {t e : TypeId} {n : Nat} {x : TI} (h : TOk P t x) (hd : x.d = .arr n e) : P.underlying t = some (.array n e) := by
  obtain ⟨d, h1, h2⟩ := h.und
  rw [hd] at h2
  cases d <;> simp [tdOf] at h2
  rw [h1, h2.1, h2.2]
theorem TOk.st {P : Program} {t : TypeId} {fs : List (Nat × TypeId)} {x : TI} (h : TOk P t x) (hd : x.d = .st fs) : ∃ gs, P.underlying t = some (.struct gs) ∧ gs.toList.map (fun f => (f.offset, f.type)) = fs := by
  obtain ⟨d, h1, h2⟩ := h.und
  rw [hd] at h2
  cases d <;> simp [tdOf] at h2
  exact ⟨_, h1, h2⟩
/-- is it one cell? -/
def TD.flat : TD → Bool
  | .st _ => false
  | .arr _ _ => false
  | _ => true
theorem run_isAgg {P : Program} {t : TypeId} {x : TI} {w : World} (h : TOk P t x) : Sem.run P (isAgg t) w = .ok (!x.d.flat) w := by
  obtain ⟨d, h1, h2⟩ := h.und
  unfold isAgg
  simp only [Sem.run_bind, run_und h1, Result.andThen_ok]
  rw [← h2]
  cases d <;> rfl
theorem TOk.info {P : Program} {t : TypeId} {x : TI} (h : TOk P t x) : ∃ i, P.info? t = some i ∧ i.zero = some x.z ∧ i.size = x.sz ∧ i.bytes = x.by_ := by
  have := h.1
  rw [Option.map_eq_some_iff] at this
  obtain ⟨i, h1, h2⟩ := this
  simp only [Prod.mk.injEq] at h2
  exact ⟨i, h1, h2.1, h2.2.1, h2.2.2⟩
theorem run_sizeOf {P : Program} {t : TypeId} {x : TI} {w : World} (h : TOk P t x) : Sem.run P (sizeOf t) w = .ok x.sz w := by
  obtain ⟨i, h1, h2, h3, h4⟩ := h.info
  unfold sizeOf typeInfo; simp [go_sem, h1, h3]
theorem run_zero {P : Program} {t : TypeId} {x : TI} {w : World} (h : TOk P t x) : Sem.run P (zeroValue t) w = .ok x.z w := by
  obtain ⟨i, h1, h2, h3, h4⟩ := h.info
  unfold zeroValue typeInfo; simp [go_sem, h1, h2]
/-- an integer division that is none by zero: what it gives -/
theorem ediv_wrap64 {n m : Int} (h0 : 0 ≤ n) (h1 : n ≤ 9223372036854775807) (h2 : 0 < m) : IntKind.i64.wrap (n.tdiv m) = n / m := by
  rw [Int.tdiv_eq_ediv_of_nonneg h0]
  have h3 : 0 ≤ n / m := Int.ediv_nonneg h0 (by omega)
  have h4 : n / m ≤ n := Int.ediv_le_self _ h0
  simp [IntKind.wrap, IntKind.bits, IntKind.signed]; omega

section
variable {P : Program} {T : List (Nat × TI)} {N : Nat} {L : List (Nat × Value)} {a : Act} {w w0 : World} {S : Nat → Prop} {M : List Hp} {o : Oper} {x y z : Operand} {v u : Value}

theorem r_move (hs : Sl N L a) (ho : o.op = .move x) (hx : ev L x = some (v)) : RunV P a o w (v) := by
  replace hx := hs.ev hx
  unfold RunV
  generalize a.eval = ρ at *
  unfold execOp
  simp [ho, go_sem, hx]
theorem r_assign (hs : Sl N L a) (ho : o.op = .assign x) (hx : ev L x = some (v)) : RunV P a o w (v) := by
  replace hx := hs.ev hx
  unfold RunV
  generalize a.eval = ρ at *
  unfold execOp
  simp [ho, go_sem, hx]
theorem r_pick {b : Bool} (hs : Sl N L a) (ho : o.op = .pick x y z) (hx : ev L x = some (.bool b)) (hy : ev L y = some (v)) (hz : ev L z = some (u)) : RunV P a o w (if b then v else u) := by
  replace hx := hs.ev hx
  replace hy := hs.ev hy
  replace hz := hs.ev hz
  unfold RunV
  generalize a.eval = ρ at *
  unfold execOp
  cases b <;> simp [ho, go_sem, hx, hy, hz]
theorem r_not {t : TypeId} {b : Bool} (hs : Sl N L a) (ho : o.op = .unOp .not t x) (hx : ev L x = some (.bool b)) : RunV P a o w (.bool (!b)) := by
  replace hx := hs.ev hx
  unfold RunV
  generalize a.eval = ρ at *
  unfold execOp
  simp [ho, go_sem, hx]
theorem r_neg {t : TypeId} {k : IntKind} {n : Int} (hs : Sl N L a) (ho : o.op = .unOp .neg t x) (hx : ev L x = some (.int k n)) : RunV P a o w (.int k (k.wrap (0 - n))) := by
  replace hx := hs.ev hx
  unfold RunV
  generalize a.eval = ρ at *
  unfold execOp
  simp [ho, go_sem, hx, Op.unary, Op.intArith]
theorem r_add {t yt : TypeId} {k : IntKind} {n m : Int} (hs : Sl N L a) (ho : o.op = .binOp .add t x y yt) (hx : ev L x = some (.int k n)) (hy : ev L y = some (.int k m)) : RunV P a o w (.int k (k.wrap (n + m))) := by
  replace hx := hs.ev hx
  replace hy := hs.ev hy
  unfold RunV
  generalize a.eval = ρ at *
  unfold execOp
  simp [ho, go_sem, hx, hy]
theorem r_sub {t yt : TypeId} {k : IntKind} {n m : Int} (hs : Sl N L a) (ho : o.op = .binOp .sub t x y yt) (hx : ev L x = some (.int k n)) (hy : ev L y = some (.int k m)) : RunV P a o w (.int k (k.wrap (n - m))) := by
  replace hx := hs.ev hx
  replace hy := hs.ev hy
  unfold RunV
  generalize a.eval = ρ at *
  unfold execOp
  simp [ho, go_sem, hx, hy]
theorem r_mul {t yt : TypeId} {k : IntKind} {n m : Int} (hs : Sl N L a) (ho : o.op = .binOp .mul t x y yt) (hx : ev L x = some (.int k n)) (hy : ev L y = some (.int k m)) : RunV P a o w (.int k (k.wrap (n * m))) := by
  replace hx := hs.ev hx
  replace hy := hs.ev hy
  unfold RunV
  generalize a.eval = ρ at *
  unfold execOp
  simp [ho, go_sem, hx, hy]
theorem r_add64 {t yt : TypeId} {n m : Int} (hs : Sl N L a) (ho : o.op = .binOp .add t x y yt) (hx : ev L x = some (.int .i64 n)) (hy : ev L y = some (.int .i64 m)) (hb : -9223372036854775808 ≤ n + m ∧ n + m ≤ 9223372036854775807) : RunV P a o w (.int .i64 (n + m)) := by
  replace hx := hs.ev hx
  replace hy := hs.ev hy
  unfold RunV
  generalize a.eval = ρ at *
  unfold execOp
  have hw : IntKind.i64.wrap (n + m) = n + m := by simp [IntKind.wrap, IntKind.bits, IntKind.signed]; omega
  simp [ho, go_sem, hx, hy, hw]
theorem r_sub64 {t yt : TypeId} {n m : Int} (hs : Sl N L a) (ho : o.op = .binOp .sub t x y yt) (hx : ev L x = some (.int .i64 n)) (hy : ev L y = some (.int .i64 m)) (hb : -9223372036854775808 ≤ n - m ∧ n - m ≤ 9223372036854775807) : RunV P a o w (.int .i64 (n - m)) := by
  replace hx := hs.ev hx
  replace hy := hs.ev hy
  unfold RunV
  generalize a.eval = ρ at *
  unfold execOp
  have hw : IntKind.i64.wrap (n - m) = n - m := by simp [IntKind.wrap, IntKind.bits, IntKind.signed]; omega
  simp [ho, go_sem, hx, hy, hw]
theorem r_mul64 {t yt : TypeId} {n m : Int} (hs : Sl N L a) (ho : o.op = .binOp .mul t x y yt) (hx : ev L x = some (.int .i64 n)) (hy : ev L y = some (.int .i64 m)) (hb : -9223372036854775808 ≤ n * m ∧ n * m ≤ 9223372036854775807) : RunV P a o w (.int .i64 (n * m)) := by
  replace hx := hs.ev hx
  replace hy := hs.ev hy
  unfold RunV
  generalize a.eval = ρ at *
  unfold execOp
  have hw : IntKind.i64.wrap (n * m) = n * m := by simp [IntKind.wrap, IntKind.bits, IntKind.signed]; omega
  simp [ho, go_sem, hx, hy, hw]
theorem r_quo {t yt : TypeId} {k : IntKind} {n m : Int} (hs : Sl N L a) (ho : o.op = .binOp .quo t x y yt) (hx : ev L x = some (.int k n)) (hy : ev L y = some (.int k m)) (hm : m ≠ 0) : RunV P a o w (.int k (k.wrap (n.tdiv m))) := by
  replace hx := hs.ev hx
  replace hy := hs.ev hy
  unfold RunV
  generalize a.eval = ρ at *
  unfold execOp
  simp [ho, go_sem, hx, hy, binOp, Op.intDiv, hm]
theorem r_rem {t yt : TypeId} {k : IntKind} {n m : Int} (hs : Sl N L a) (ho : o.op = .binOp .rem t x y yt) (hx : ev L x = some (.int k n)) (hy : ev L y = some (.int k m)) (hm : m ≠ 0) : RunV P a o w (.int k (n.tmod m)) := by
  replace hx := hs.ev hx
  replace hy := hs.ev hy
  unfold RunV
  generalize a.eval = ρ at *
  unfold execOp
  simp [ho, go_sem, hx, hy, binOp, Op.intDiv, hm]
theorem r_lss {t yt : TypeId} {k : IntKind} {n m : Int} (hs : Sl N L a) (ho : o.op = .binOp .lss t x y yt) (hx : ev L x = some (.int k n)) (hy : ev L y = some (.int k m)) : RunV P a o w (.bool (decide (n < m))) := by
  replace hx := hs.ev hx
  replace hy := hs.ev hy
  unfold RunV
  generalize a.eval = ρ at *
  unfold execOp
  simp [ho, go_sem, hx, hy, binOp, Op.intCmp]
theorem r_leq {t yt : TypeId} {k : IntKind} {n m : Int} (hs : Sl N L a) (ho : o.op = .binOp .leq t x y yt) (hx : ev L x = some (.int k n)) (hy : ev L y = some (.int k m)) : RunV P a o w (.bool (decide (n ≤ m))) := by
  replace hx := hs.ev hx
  replace hy := hs.ev hy
  unfold RunV
  generalize a.eval = ρ at *
  unfold execOp
  simp [ho, go_sem, hx, hy, binOp, Op.intCmp]
theorem r_gtr {t yt : TypeId} {k : IntKind} {n m : Int} (hs : Sl N L a) (ho : o.op = .binOp .gtr t x y yt) (hx : ev L x = some (.int k n)) (hy : ev L y = some (.int k m)) : RunV P a o w (.bool (decide (m < n))) := by
  replace hx := hs.ev hx
  replace hy := hs.ev hy
  unfold RunV
  generalize a.eval = ρ at *
  unfold execOp
  simp [ho, go_sem, hx, hy, binOp, Op.intCmp]
theorem r_geq {t yt : TypeId} {k : IntKind} {n m : Int} (hs : Sl N L a) (ho : o.op = .binOp .geq t x y yt) (hx : ev L x = some (.int k n)) (hy : ev L y = some (.int k m)) : RunV P a o w (.bool (decide (m ≤ n))) := by
  replace hx := hs.ev hx
  replace hy := hs.ev hy
  unfold RunV
  generalize a.eval = ρ at *
  unfold execOp
  simp [ho, go_sem, hx, hy, binOp, Op.intCmp]
theorem r_eql {t yt : TypeId} {k : IntKind} {n m : Int} (hs : Sl N L a) (ho : o.op = .binOp .eql t x y yt) (hx : ev L x = some (.int k n)) (hy : ev L y = some (.int k m)) : RunV P a o w (.bool (decide (n = m))) := by
  replace hx := hs.ev hx
  replace hy := hs.ev hy
  unfold RunV
  generalize a.eval = ρ at *
  unfold execOp
  simp [ho, go_sem, hx, hy, binOp, Op.intCmp]
  exact beq_dec n m
theorem r_neq {t yt : TypeId} {k : IntKind} {n m : Int} (hs : Sl N L a) (ho : o.op = .binOp .neq t x y yt) (hx : ev L x = some (.int k n)) (hy : ev L y = some (.int k m)) : RunV P a o w (.bool (!decide (n = m))) := by
  replace hx := hs.ev hx
  replace hy := hs.ev hy
  unfold RunV
  generalize a.eval = ρ at *
  unfold execOp
  simp [ho, go_sem, hx, hy, binOp, Op.intCmp, bne, beq_dec]
theorem r_and {t yt : TypeId} {k : IntKind} {n m : Int} (hs : Sl N L a) (ho : o.op = .binOp .and t x y yt) (hx : ev L x = some (.int k n)) (hy : ev L y = some (.int k m)) : RunV P a o w (.int k (bits .and k n m)) := by
  replace hx := hs.ev hx
  replace hy := hs.ev hy
  unfold RunV
  generalize a.eval = ρ at *
  unfold execOp
  simp [ho, go_sem, hx, hy]
theorem r_or {t yt : TypeId} {k : IntKind} {n m : Int} (hs : Sl N L a) (ho : o.op = .binOp .or t x y yt) (hx : ev L x = some (.int k n)) (hy : ev L y = some (.int k m)) : RunV P a o w (.int k (bits .or k n m)) := by
  replace hx := hs.ev hx
  replace hy := hs.ev hy
  unfold RunV
  generalize a.eval = ρ at *
  unfold execOp
  simp [ho, go_sem, hx, hy]
theorem r_xor {t yt : TypeId} {k : IntKind} {n m : Int} (hs : Sl N L a) (ho : o.op = .binOp .xor t x y yt) (hx : ev L x = some (.int k n)) (hy : ev L y = some (.int k m)) : RunV P a o w (.int k (bits .xor k n m)) := by
  replace hx := hs.ev hx
  replace hy := hs.ev hy
  unfold RunV
  generalize a.eval = ρ at *
  unfold execOp
  simp [ho, go_sem, hx, hy]
theorem r_conv {s t : TypeId} {k k' : IntKind} {n : Int} (hs : Sl N L a) (ho : o.op = .convert s t x) (hx : ev L x = some (.int k n)) (hT : TabOk P T) {i i' : TI} (hc : tlk T s = some i) (hc' : tlk T t = some i') (hd' : i'.d = .int k') : RunV P a o w (.int k' (k'.wrap n)) := by
  replace hx := hs.ev hx
  unfold RunV
  generalize a.eval = ρ at *
  unfold execOp
  obtain ⟨d1, e1, g1⟩ := (hT _ _ hc).und
  simp [ho, go_sem, hx, convert, run_und e1, run_und ((hT _ _ hc').int hd'), Conv.intToInt]
end
end Go.Proofs.YtlapnhpaedkgcaaDoor
