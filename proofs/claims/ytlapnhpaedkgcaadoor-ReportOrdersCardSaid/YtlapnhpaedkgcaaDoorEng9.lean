/- Empty literals; append of whatever is read; least and greatest; slices of slices. -/
import Derived.Test.YtlapnhpaedkgcaaDoorEng8
namespace Go.Proofs.YtlapnhpaedkgcaaDoor
open Go.RowKit

theorem ndT {p : Prop} [Decidable p] (h : ¬ p) : (!decide p) = true := by simp [h]
theorem ndF {p : Prop} [Decidable p] (h : p) : (!decide p) = false := by simp [h]
theorem ints_some {xs : List Int} {k : Nat} (h : k < xs.length) : (ints xs)[k]? = some (.int .i64 xs[k]) := by simp [ints, h]
theorem bys_some {xs : List Int} {k : Nat} (h : k < xs.length) : (bys xs)[k]? = some (.int .u8 xs[k]) := by simp [bys, h]
def bools (xs : List Bool) : List Value := xs.map Value.bool
theorem bools_some {xs : List Bool} {k : Nat} (h : k < xs.length) : (bools xs)[k]? = some (.bool xs[k]) := by simp [bools, h]
theorem ints_take {xs : List Int} {k : Nat} : (ints xs).take k = ints (xs.take k) := by simp [ints, List.map_take]
theorem ints_app (xs : List Int) (x : Int) : ints xs ++ [.int .i64 x] = ints (xs ++ [x]) := by simp [ints]
theorem bys_len (xs : List Int) : (bys xs).length = xs.length := by simp [bys]
theorem bools_len (xs : List Bool) : (bools xs).length = xs.length := by simp [bools]
theorem Rep.at_ {R : List Hp} {k : Nat} {x : Hp} (y : Hp) (h : R[k]? = some x) : Rep R x y (R.set k y) := by
  induction R generalizing k with
  | nil => simp at h
  | cons z r ih =>
    cases k with
    | zero => simp at h; subst h; exact .head ..
    | succ k => exact .tail z (ih (by simpa using h))

section
variable {P : Program} {T : List (Nat × TI)} {N : Nat} {L : List (Nat × Value)} {a : Act} {w w0 : World} {S : Nat → Prop} {M M' : List Hp} {o : Oper} {x y z : Operand} {v u : Value}

theorem r_T {p : Prop} [Decidable p] (h : RunV P a o w (.bool (decide p))) (hp : p) : RunV P a o w (.bool true) := by rwa [decide_eq_true hp] at h
theorem r_F {p : Prop} [Decidable p] (h : RunV P a o w (.bool (decide p))) (hp : ¬ p) : RunV P a o w (.bool false) := by rwa [decide_eq_false hp] at h
theorem r_nT {p : Prop} [Decidable p] (h : RunV P a o w (.bool (!decide p))) (hp : ¬ p) : RunV P a o w (.bool true) := by rwa [decide_eq_false hp] at h
theorem r_nF {p : Prop} [Decidable p] (h : RunV P a o w (.bool (!decide p))) (hp : p) : RunV P a o w (.bool false) := by rwa [decide_eq_true hp] at h
theorem r_min {ts : Array TypeId} {k : IntKind} {n m : Int} (hs : Sl N L a) (ho : o.op = .call { callee := .builtin .min, args := #[x, y], argTypes := ts }) (hx : ev L x = some (.int k n)) (hy : ev L y = some (.int k m)) : RunV P a o w (.int k (min n m)) := by
  replace hx := hs.ev hx; replace hy := hs.ev hy
  unfold RunV
  generalize a.eval = ρ at *
  unfold execOp resolve invoke builtin
  simp [ho, hx, hy, go_sem]
  omega
theorem r_max {ts : Array TypeId} {k : IntKind} {n m : Int} (hs : Sl N L a) (ho : o.op = .call { callee := .builtin .max, args := #[x, y], argTypes := ts }) (hx : ev L x = some (.int k n)) (hy : ev L y = some (.int k m)) : RunV P a o w (.int k (max n m)) := by
  replace hx := hs.ev hx; replace hy := hs.ev hy
  unfold RunV
  generalize a.eval = ρ at *
  unfold execOp resolve invoke builtin
  simp [ho, hx, hy, go_sem]
  omega
/-- '[]T{}' -/
theorem d_buildSlice0 {t e : TypeId} {i j : TI} (ho : o.op = .buildSlice t 0 #[]) (hT : TabOk P T) (hc : tlk T t = some i) (hd : i.d = .sl e) (he : tlk T e = some j) (hm : Mm S w0 M w) :
    Does P a o w (fun v w' => ∃ g, v = .slice (some ⟨g, 0, none⟩) 0 0 ∧ w.heap.size ≤ g ∧ Mm S w0 (⟨some g, e, []⟩ :: M) w') := by
  unfold Does execOp
  simp only [ho, Instr.buildSlice, Sem.run_bind, run_und ((hT _ _ hc).sl hd), run_sizeOf (hT _ _ he), Result.andThen_ok, Nat.zero_mul]
  simp [Instr.fill, newRow, Array.range]
  exact hm.alloc e []
/-- append of what some slice reads (nil, empty, or not) -/
theorem d_appendS {t e : TypeId} {i j : TI} {A : Option Nat} {A2 : Option Addr} {n c m c2 B : Nat} {xs cs news : List Value} {ts : Array TypeId} (hs : Sl N L a) (ho : o.op = .call { callee := .builtin .append, args := #[x, y], argTypes := ts }) (hx : ev L x = some (slv A n c)) (hy : ev L y = some (.slice A2 m c2)) (hts : ts = #[t, t]) (hT : TabOk P T) (hc : tlk T t = some i) (hd : i.d = .sl e) (he : tlk T e = some j) (hsz : Nat.blt 0 j.sz = true) (hzl : j.z.cells.size = j.sz)
    (hm : Mm S w0 M w) (hM : (⟨A, e, cs⟩ : Hp) ∈ M) (hr : Row A n c j.sz xs cs) (hl : news.length = m * j.sz) (hnew : Rd w B A2 news) (h1 : news.all (·.oneCell') = true) (hb : (n + m) * j.by_ ≤ 140737488355328) (h63 : n + m ≤ 140737488355328) :
    Does P a o w (fun v w' => ∃ A' c' cs', v = slv A' (n + m) c' ∧ Row A' (n + m) c' j.sz (xs ++ news) cs' ∧ ∀ M', Rep M ⟨A, e, cs⟩ ⟨A', e, cs'⟩ M' → Mm S w0 M' w') := by
  have hsz' : 0 < j.sz := by simpa using hsz
  by_cases h0 : 0 < news.length
  · obtain ⟨b, off, rfl, _, hro⟩ := hnew h0
    exact d_append hs ho hx hy rfl hts hT hc hd he hsz hzl hm hM hr hl hro h1 hb h63
  · have hn : news = [] := List.eq_nil_of_length_eq_zero (by omega)
    subst hn
    have hm0 : m = 0 := by
      have h2 : m * j.sz = 0 := by simpa using hl.symm
      rcases Nat.mul_eq_zero.1 h2 with h | h
      · exact h
      · omega
    subst hm0
    replace hx := hs.ev hx; replace hy := hs.ev hy
    subst hts
    have hf : Sem.run P (Builtin.firstCells j.sz 0 (.slice A2 0 c2)) w = .ok #[] w := by
      cases A2 <;> simp [Builtin.firstCells, loadCells, loadCellsFrom]
    have hmt : (match TypeDesc.slice e with | TypeDesc.int _ => true | _ => false) = false := rfl
    have hrun : Sem.run P (Builtin.append_ #[t, t] o.type #[slv A n c, .slice A2 0 c2]) w = .ok (slv A n c) w := by
      have hle : n ≤ c := hr.le
      unfold Builtin.append_ slv
      cases A <;> simp [run_und ((hT _ _ hc).sl hd), run_sizeOf (hT _ _ he), Builtin.lenOf, hf, hle, storeCells]
    unfold Does execOp resolve invoke builtin
    simp only [ho, Sem.run_bind, Sem.run_pure, Result.andThen_ok, List.map_toArray, List.map_cons, List.map_nil, hx, hy, hrun]
    refine ⟨A, c, cs, rfl, by rw [List.append_nil]; exact hr, fun M' hR => ?_⟩
    exact hm.turn hR (Fr.refl _ w) (hm.me _ hM) (fun g hg => .inl hg)
end
end Go.Proofs.YtlapnhpaedkgcaaDoor
