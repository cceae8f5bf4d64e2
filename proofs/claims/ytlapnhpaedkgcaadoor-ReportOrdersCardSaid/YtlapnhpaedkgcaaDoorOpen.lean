/- What a statement's arguments are when they come in: over any program. -/
import Derived.Test.YtlapnhpaedkgcaaDoorLib
import Derived.ProofKit
import Derived.OpenShut
import Derived.ShutString
import Derived.ChangeOld
import Derived.SizedLaws
namespace Go.Proofs.YtlapnhpaedkgcaaDoor
open Go.ChangeShapes Go.WideShapes Go.ChangeAt Go.RowKit

/-- A slice of integers that came in. -/
def IsInts (k : IntKind) (W : World) (A : Option Addr) (n c : Nat) (xs : List Int) : Prop :=
  xs.length = n ∧ n ≤ c ∧ c ≤ 9223372036854775807 ∧ Rd W W.heap.size A (xs.map (Value.int k)) ∧ ∀ x ∈ xs, (Lit.int k x).wf = true

theorem wf_I64 {x : Int} (h : (Lit.int .i64 x).wf = true) : I64 x := by
  simp [Lit.wf, IntKind.min, IntKind.max, IntKind.signed, IntKind.bits] at h; exact h

section
variable {H : Type} {enc : TypeId × Value → H} {P : Program} {W : World} {base : Nat} {T E : TypeId} {v : Value} {d : DataW H} {p : List MemPlace}

theorem cell_lt {w : World} {a : Addr} {u : Value} (h : w.cell? a = some u) : a.block < w.heap.size := by
  rcases Nat.lt_or_ge a.block w.heap.size with hlt | hge
  · exact hlt
  · unfold World.cell? at h; rw [Array.getElem?_eq_none hge] at h; cases h

theorem opn_ints {k : IntKind} (hT : P.underlying T = some (.slice E)) (hE : P.underlying E = some (.int k)) (hc : P.cellsOf E = 1)
    (hval : Value.okWide P W .any base T v) (h : DataW.Trod enc P W 0 (fun _ => true) true T v d p) : ∃ A n c xs, v = .slice A n c ∧ IsInts k W A n c xs := by
  obtain ⟨A, n, c, rfl⟩ := okWide_slice hT hval
  obtain ⟨fuel, hf⟩ := h
  rcases open_ints hT hE hc hf with ⟨hcs, _⟩ | ⟨x, l, c', zs, hcs, _, hl, hm, hz, _, hcell, hwz⟩
  · simp [Value.cells] at hcs
    obtain ⟨rfl, rfl, rfl⟩ := hcs
    exact ⟨none, 0, 0, [], rfl, rfl, Nat.le_refl _, by omega, Rd.nil, by simp⟩
  · simp [Value.cells] at hcs
    obtain ⟨rfl, rfl, rfl⟩ := hcs
    have hz' : zs.length = c := by simpa using hz
    refine ⟨some x, n, c, zs.take n, rfl, by rw [List.length_take]; omega, hl, hm, ?_, fun y hy => hwz y (List.mem_of_mem_take hy)⟩
    by_cases h0 : 0 < zs.length
    · refine Rd.of_add (cell_lt (hcell 0 h0)) fun j u hu => ?_
      rw [List.getElem?_map, List.getElem?_take] at hu
      split at hu
      · cases hj : zs[j]? with
        | none => rw [hj] at hu; simp at hu
        | some y =>
          rw [hj] at hu
          obtain ⟨hlt, rfl⟩ := List.getElem?_eq_some_iff.1 hj
          have := hcell j hlt
          simp at hu
          rw [← hu]; simpa [List.getD, hlt] using this
      · simp at hu
    · have : zs = [] := List.eq_nil_of_length_eq_zero (by omega)
      subst this
      rw [List.take_nil]; exact Rd.nil
end
end Go.Proofs.YtlapnhpaedkgcaaDoor
