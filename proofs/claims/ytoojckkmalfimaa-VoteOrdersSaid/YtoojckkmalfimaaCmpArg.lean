/- Answers, bytes, bools as they come in. -/
import Derived.Test.YtoojckkmalfimaaCmp8
import Derived.Test.YtoojckkmalfimaaDeep
namespace Go.Proofs.Ytoojckkmalfimaa
open Go.ChangeShapes Go.WideShapes Go.ChangeAt Go.RowKit

theorem choose_list {α β : Type} {f : β → List α} {Q : β → Prop} : ∀ (rows : List (List α)), (∀ r ∈ rows, ∃ x, r = f x ∧ Q x) → ∃ xs : List β, rows = xs.map f ∧ ∀ x ∈ xs, Q x
  | [], _ => ⟨[], rfl, fun x hx => by cases hx⟩
  | r :: t, h => by
    obtain ⟨x, rfl, hx⟩ := h r (List.mem_cons_self ..)
    obtain ⟨xs, rfl, hxs⟩ := choose_list t fun s hs => h s (List.mem_cons_of_mem _ hs)
    exact ⟨x :: xs, rfl, fun y hy => by
      rcases List.mem_cons.1 hy with rfl | hy
      · exact hx
      · exact hxs y hy⟩
theorem flatMap_eq {α β : Type} (f : β → List α) (xs : List β) : (xs.map f).flatten = xs.flatMap f := rfl
theorem flat_one {α β : Type} (g : α → β) (xs : List α) : (xs.map fun x => [g x]).flatten = xs.map g := by
  induction xs with
  | nil => rfl
  | cons x t ih => simp [ih]
theorem u8_in {x : Int} (h : (Lit.int .u8 x).wf = true) : 0 ≤ x ∧ x ≤ 255 := by
  simp [Lit.wf] at h; exact h
theorem dp_bytes {W : World} {cs : List Value} (h : Dp W (.sl (.int .u8) 1 1) cs) : ∃ b : BS, cs = [b.v] ∧ b.ok W ∧ b.n ≤ 140737488351232 := by
  obtain ⟨A, n, c, rows, rfl, hl, hn, hc, hm, hr, hrow⟩ := h
  obtain ⟨xs, rfl, hxs⟩ := choose_list (f := fun x => [Value.int .u8 x]) (Q := fun x => 0 ≤ x ∧ x ≤ 255) rows fun r hr => by
    obtain ⟨_, n, rfl, hw⟩ := hrow r hr
    exact ⟨n, rfl, u8_in hw⟩
  have e : (xs.map fun x => [Value.int .u8 x]).flatten = bys xs := flat_one _ xs
  rw [e] at hr
  exact ⟨⟨A, n, c, xs⟩, rfl, ⟨by simpa using hl, hr, hxs⟩, by dsimp only; omega⟩
theorem dp_bools {W : World} {cs : List Value} (h : Dp W (.sl .bool 1 1) cs) : ∃ b : TS, cs = [b.v] ∧ b.ok W ∧ b.n ≤ 140737488351232 := by
  obtain ⟨A, n, c, rows, rfl, hl, hn, hc, hm, hr, hrow⟩ := h
  obtain ⟨xs, rfl, hxs⟩ := choose_list (f := fun x => [Value.bool x]) (Q := fun _ => True) rows fun r hr => by
    obtain ⟨_, b, rfl⟩ := hrow r hr
    exact ⟨b, rfl, trivial⟩
  have e : (xs.map fun x => [Value.bool x]).flatten = bools xs := flat_one _ xs
  rw [e] at hr
  exact ⟨⟨A, n, c, xs⟩, rfl, ⟨by simpa using hl, hr⟩, by dsimp only; omega⟩
/-- an answer that came in -/
def An.in_ (x : An) (W : World) : Prop := x.b.ok W ∧ x.b.n ≤ 140737488351232
def shAn : Sh := .pr .bool (.pr (.sl (.int .u8) 1 1) .nil)
theorem dp_an {W : World} {cs : List Value} (h : Dp W shAn cs) : ∃ x : An, cs = x.cs ∧ x.in_ W := by
  obtain ⟨u, v, rfl, ⟨b, rfl⟩, x, y, rfl, h1, h2⟩ := h
  obtain ⟨bs, rfl, hok⟩ := dp_bytes h1
  simp only [Dp] at h2
  subst h2
  exact ⟨⟨b, bs⟩, rfl, hok⟩
structure AS.in_ (y : AS) (W : World) : Prop where
  len : y.l.length = y.n
  n : y.n ≤ 140737488351232
  rd : Rd W W.heap.size y.A (y.l.flatMap An.cs)
  el : ∀ x ∈ y.l, x.in_ W
theorem dp_as {W : World} {cs : List Value} (h : Dp W (.sl shAn 2 32) cs) : ∃ y : AS, cs = [y.v] ∧ y.in_ W := by
  obtain ⟨A, n, c, rows, rfl, hl, hn, hc, hm, hr, hrow⟩ := h
  obtain ⟨xs, rfl, hxs⟩ := choose_list (f := An.cs) (Q := fun x => x.in_ W) rows fun r hr => dp_an (hrow r hr).2
  exact ⟨⟨A, n, c, xs⟩, rfl, ⟨by simpa using hl, by dsimp only; omega, hr, hxs⟩⟩
section
variable {H : Type} {enc : TypeId × Value → H} {W : World} {base b0 : Nat} {spare : Nat → Bool} {held : Bool} {v : Value} {d : DataW H} {p : List MemPlace} {r : Reach}
theorem opn_as (hval : Value.okWide Try.prog W r b0 22 v) (hw : ∀ k ∈ d.weights Try.prog 22, k ≤ reachBytes) (h : DataW.Trod enc Try.prog W base spare held 22 v d p) : ∃ y : AS, v = y.v ∧ y.in_ W := by
  obtain ⟨A, m, c, rfl, h1⟩ := opn_sl 9 Try.underlying22 (l := .sl shAn 2 32) (by kernel_rfl) hw hval h
  obtain ⟨y, hy, hok⟩ := dp_as h1
  exact ⟨y, by simpa using hy, hok⟩
theorem opn_ts (hval : Value.okWide Try.prog W r b0 23 v) (hw : ∀ k ∈ d.weights Try.prog 23, k ≤ reachBytes) (h : DataW.Trod enc Try.prog W base spare held 23 v d p) : ∃ y : TS, v = y.v ∧ y.ok W ∧ y.n ≤ 140737488351232 := by
  obtain ⟨A, m, c, rfl, h1⟩ := opn_sl 9 Try.underlying23 (l := .sl .bool 1 1) (by kernel_rfl) hw hval h
  obtain ⟨y, hy, hok⟩ := dp_bools h1
  exact ⟨y, by simpa using hy, hok⟩
theorem opn_bs (hval : Value.okWide Try.prog W r b0 24 v) (hw : ∀ k ∈ d.weights Try.prog 24, k ≤ reachBytes) (h : DataW.Trod enc Try.prog W base spare held 24 v d p) : ∃ y : BS, v = y.v ∧ y.ok W ∧ y.n ≤ 140737488351232 := by
  obtain ⟨A, m, c, rfl, h1⟩ := opn_sl 9 Try.underlying24 (l := .sl (.int .u8) 1 1) (by kernel_rfl) hw hval h
  obtain ⟨y, hy, hok⟩ := dp_bytes h1
  exact ⟨y, by simpa using hy, hok⟩
theorem opn_an (hval : Value.okWide Try.prog W r b0 26 v) (hw : ∀ k ∈ d.weights Try.prog 26, k ≤ reachBytes) (h : DataW.Trod enc Try.prog W base spare held 26 v d p) : ∃ y : An, v = y.v ∧ y.in_ W := by
  obtain ⟨vs, rfl, h1⟩ := opn_agg 9 (.inl ⟨_, Try.underlying26⟩) (l := shAn) (by kernel_rfl) hw hval h
  obtain ⟨y, rfl, hok⟩ := dp_an h1
  exact ⟨y, rfl, hok⟩
end
end Go.Proofs.Ytoojckkmalfimaa
