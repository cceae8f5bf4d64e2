/- Lines as they come in. -/
import Derived.Test.YtlapnhpaedkgcaaDoorRph
import Derived.Test.YtlapnhpaedkgcaaDoorDeep
namespace Go.Proofs.YtlapnhpaedkgcaaDoor
open Go.ChangeShapes Go.WideShapes Go.ChangeAt Go.RowKit

theorem choose_listQ {α β : Type} {f : β → List α} {Q : β → Prop} : ∀ (rows : List (List α)), (∀ r ∈ rows, ∃ x, r = f x ∧ Q x) → ∃ xs : List β, rows = xs.map f ∧ ∀ x ∈ xs, Q x
  | [], _ => ⟨[], rfl, fun x hx => by cases hx⟩
  | r :: t, h => by
    obtain ⟨x, rfl, hx⟩ := h r (List.mem_cons_self ..)
    obtain ⟨xs, rfl, hxs⟩ := choose_listQ t fun s hs => h s (List.mem_cons_of_mem _ hs)
    exact ⟨x :: xs, rfl, fun y hy => by
      rcases List.mem_cons.1 hy with rfl | hy
      · exact hx
      · exact hxs y hy⟩
def shFate : Sh := .pr (.int .i64) (.pr (.int .i64) (.pr (.int .i64) (.pr (.int .i64) (.pr (.int .i64) (.pr (.int .i64) .nil)))))
theorem dpq_ft {W : World} {cs : List Value} (h : Dp W shFate cs) : ∃ x : Ft, cs = ftV x ∧ True := by
  obtain ⟨_, _, rfl, ⟨a, rfl, -⟩, _, _, rfl, ⟨b, rfl, -⟩, _, _, rfl, ⟨c, rfl, -⟩, _, _, rfl, ⟨d, rfl, -⟩, _, _, rfl, ⟨e, rfl, -⟩, _, _, rfl, ⟨f, rfl, -⟩, h2⟩ := h
  simp only [Dp] at h2
  subst h2
  exact ⟨⟨a, b, c, d, e, f⟩, rfl, trivial⟩
section
variable {H : Type} {enc : TypeId × Value → H} {W : World} {base b0 : Nat} {spare : Nat → Bool} {held : Bool} {v : Value} {d : DataW H} {p : List MemPlace} {r : Reach}
theorem opn_fs (hval : Value.okWide Tryd.prog W r b0 29 v) (hw : ∀ k ∈ d.weights Tryd.prog 29, k ≤ reachBytes) (h : DataW.Trod enc Tryd.prog W base spare held 29 v d p) : ∃ y : FS, v = y.v ∧ y.ok W ∧ y.n ≤ 140737488351232 := by
  obtain ⟨A, m, c, rfl, h1⟩ := opn_sl 9 Tryd.underlying29 (l := .sl shFate 6 48) (by kernel_rfl) hw hval h
  obtain ⟨A', n, c', rows, he, hl, hn, hc, hm, hr, hrow⟩ := h1
  obtain ⟨xs, rfl, -⟩ := choose_listQ (f := ftV) (Q := fun _ => True) rows fun r hr => dpq_ft (hrow r hr).2
  exact ⟨⟨A', n, c', xs⟩, by simpa [FS.v] using he, ⟨by simpa using hl, hr⟩, by dsimp only; omega⟩
end
theorem walk_ReportLines (x y : FS) (w : World) (hx : x.ok w ∧ x.n ≤ 140737488351232) (hy : y.ok w ∧ y.n ≤ 140737488351232) (ht : TabW w) : Calls Tryd.prog 4 #[x.v, y.v] w (fun e w' => e = .returned (.bool true) ∧ Pu w w') :=
  (rlines_c x y w hx.1 hy.1 hx.2 hy.2 ht).law
end Go.Proofs.YtlapnhpaedkgcaaDoor
