/- Watches, bools, hangs as they come in. -/
import Derived.Test.YtlgimjinaijhlaaWre
import Derived.Test.YtlgimjinaijhlaaDeep
namespace Go.Proofs.Ytlgimjinaijhlaa
open Go.ChangeShapes Go.WideShapes Go.ChangeAt Go.RowKit

theorem choose_listQ {α β : Type} {f : β → List α} {Q : β → Prop} : ∀ (rows : List (List α)), (∀ r ∈ rows, ∃ x, r = f x ∧ Q x) → ∃ xs : List β, rows = xs.map f ∧ ∀ x ∈ xs, Q x
  | [], _ => ⟨[], rfl, fun x hx => by cases hx⟩
  | r :: t, h => by
    obtain ⟨x, rfl, hx⟩ := h r (List.mem_cons_self ..)
    obtain ⟨xs, rfl, hxs⟩ := choose_listQ t fun s hs => h s (List.mem_cons_of_mem _ hs)
    exact ⟨x :: xs, rfl, fun y hy => by
      rcases List.mem_cons.1 hy with rfl | hy
      · exact hx
      · exact hxs y hy⟩
theorem flat_oneQ {α β : Type} (g : α → β) (xs : List α) : (xs.map fun x => [g x]).flatten = xs.map g := by
  induction xs with
  | nil => rfl
  | cons x t ih => simp [ih]
theorem i64_in {x : Int} (h : (Lit.int .i64 x).wf = true) : I64 x := by
  simp [Lit.wf] at h; exact h
theorem dpq_ints {W : World} {cs : List Value} (h : Dp W (.sl (.int .i64) 1 8) cs) : ∃ b : IS, cs = [b.v] ∧ b.ok W ∧ b.n ≤ 140737488351232 := by
  obtain ⟨A, n, c, rows, rfl, hl, hn, hc, hm, hr, hrow⟩ := h
  obtain ⟨xs, rfl, -⟩ := choose_listQ (f := fun x => [Value.int .i64 x]) (Q := fun _ => True) rows fun r hr => by
    obtain ⟨_, n, rfl, hw⟩ := hrow r hr
    exact ⟨n, rfl, trivial⟩
  have e : (xs.map fun x => [Value.int .i64 x]).flatten = ints xs := flat_oneQ _ xs
  rw [e] at hr
  exact ⟨⟨A, n, c, xs⟩, rfl, ⟨by simpa using hl, hr⟩, by dsimp only; omega⟩
theorem dpq_bools {W : World} {cs : List Value} (h : Dp W (.sl .bool 1 1) cs) : ∃ b : TS, cs = [b.v] ∧ b.ok W ∧ b.n ≤ 140737488351232 := by
  obtain ⟨A, n, c, rows, rfl, hl, hn, hc, hm, hr, hrow⟩ := h
  obtain ⟨xs, rfl, hxs⟩ := choose_listQ (f := fun x => [Value.bool x]) (Q := fun _ => True) rows fun r hr => by
    obtain ⟨_, b, rfl⟩ := hrow r hr
    exact ⟨b, rfl, trivial⟩
  have e : (xs.map fun x => [Value.bool x]).flatten = bools xs := flat_oneQ _ xs
  rw [e] at hr
  exact ⟨⟨A, n, c, xs⟩, rfl, ⟨by simpa using hl, hr⟩, by dsimp only; omega⟩
def shHang : Sh := .pr (.int .i64) (.pr (.int .i64) (.pr (.int .i64) .nil))
theorem dpq_hang {W : World} {cs : List Value} (h : Dp W shHang cs) : ∃ x : Int × Int × Int, cs = hangV x ∧ I64 x.1 ∧ I64 x.2.2 := by
  obtain ⟨u, v, rfl, ⟨a, rfl, ha⟩, x, y, rfl, ⟨b, rfl, hb⟩, p, q, rfl, ⟨c, rfl, hc⟩, h2⟩ := h
  simp only [Dp] at h2
  subst h2
  exact ⟨(a, b, c), rfl, i64_in ha, i64_in hc⟩
theorem dpq_hs {W : World} {cs : List Value} (h : Dp W (.sl shHang 3 24) cs) : ∃ y : HS, cs = [y.v] ∧ y.ok W ∧ y.n ≤ 140737488351232 := by
  obtain ⟨A, n, c, rows, rfl, hl, hn, hc, hm, hr, hrow⟩ := h
  obtain ⟨xs, rfl, hxs⟩ := choose_listQ (f := hangV) (Q := fun x => I64 x.1 ∧ I64 x.2.2) rows fun r hr => dpq_hang (hrow r hr).2
  exact ⟨⟨A, n, c, xs⟩, rfl, ⟨by simpa using hl, hr, hxs⟩, by dsimp only; omega⟩
section
variable {H : Type} {enc : TypeId × Value → H} {W : World} {base b0 : Nat} {spare : Nat → Bool} {held : Bool} {v : Value} {d : DataW H} {p : List MemPlace} {r : Reach}
theorem opn_tsQ (hval : Value.okWide Try.prog W r b0 25 v) (hw : ∀ k ∈ d.weights Try.prog 25, k ≤ reachBytes) (h : DataW.Trod enc Try.prog W base spare held 25 v d p) : ∃ y : TS, v = y.v ∧ y.ok W ∧ y.n ≤ 140737488351232 := by
  obtain ⟨A, m, c, rfl, h1⟩ := opn_sl 9 Try.underlying25 (l := .sl .bool 1 1) (by kernel_rfl) hw hval h
  obtain ⟨y, hy, hok⟩ := dpq_bools h1
  exact ⟨y, by simpa using hy, hok⟩
theorem opn_hs (hval : Value.okWide Try.prog W r b0 26 v) (hw : ∀ k ∈ d.weights Try.prog 26, k ≤ reachBytes) (h : DataW.Trod enc Try.prog W base spare held 26 v d p) : ∃ y : HS, v = y.v ∧ y.ok W ∧ y.n ≤ 140737488351232 := by
  obtain ⟨A, m, c, rfl, h1⟩ := opn_sl 9 Try.underlying26 (l := .sl shHang 3 24) (by kernel_rfl) hw hval h
  obtain ⟨y, hy, hok⟩ := dpq_hs h1
  exact ⟨y, by simpa using hy, hok⟩
theorem opn_wt (hval : Value.okWide Try.prog W r b0 24 v) (hw : ∀ k ∈ d.weights Try.prog 24, k ≤ reachBytes) (h : DataW.Trod enc Try.prog W base spare held 24 v d p) : ∃ y : Wt, v = y.v ∧ y.ok W ∧ y.m.n ≤ 140737488351232 := by
  obtain ⟨vs, rfl, h1⟩ := opn_agg 9 (.inl ⟨_, Try.underlying24⟩) (l := .pr (.int .i64) (.pr (.sl (.int .i64) 1 8) .nil)) (by kernel_rfl) hw hval h
  obtain ⟨u, z, rfl, ⟨a, rfl, ha⟩, x, y, rfl, hx, h2⟩ := h1
  simp only [Dp] at h2
  subst h2
  obtain ⟨b, rfl, hb, hn⟩ := dpq_ints hx
  exact ⟨⟨a, b⟩, rfl, hb, hn⟩
end
end Go.Proofs.Ytlgimjinaijhlaa
