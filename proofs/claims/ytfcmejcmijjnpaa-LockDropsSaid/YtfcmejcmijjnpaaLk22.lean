/- Drop: its plain law. -/
import Derived.Test.YtfcmejcmijjnpaaLk20
import Derived.Test.YtfcmejcmijjnpaaLk14
namespace Go.Proofs.Ytfcmejcmijjnpaa
open Go.RowKit

theorem va_filter {os : List Int} {qs : List (List Int)} {t : Int} (h : VA ⟨os, qs⟩) : VA ⟨os, qs.map (fun q => q.filter (· ≠ t))⟩ := by
  have hg : ∀ i, (qs.map (fun q => q.filter (· ≠ t))).getD i [] = (qs.getD i []).filter (· ≠ t) := fun i => by
    rw [List.getD_eq_getElem?_getD, List.getD_eq_getElem?_getD, List.getElem?_map]
    cases qs[i]? <;> rfl
  refine ⟨h.o, by have := h.q; dsimp only at this ⊢; rw [List.length_map]; exact this, h.ob, fun i hi e => ?_, fun q hq u hu => ?_, fun i u hi hu => ?_, ?_⟩
  · have := h.e i hi e
    dsimp only at this ⊢
    rw [hg, this]
    rfl
  · obtain ⟨q', hq', rfl⟩ := List.mem_map.1 hq
    exact h.qb q' hq' u (List.mem_filter.1 hu).1
  · dsimp only at hu
    rw [hg] at hu
    exact h.ne i u hi (List.mem_filter.1 hu).1
  · dsimp only
    rw [← List.filter_flatten]
    exact h.nd.filter _
def dstep (t : Int) (p : Ab × List Int) (i : Nat) : Ab × List Int := ((givF p.1 i t).1, if (givF p.1 i t).2.2 = true ∧ (givF p.1 i t).2.1 ≠ -1 then p.2 ++ [(givF p.1 i t).2.1] else p.2)
def dropN (t : Int) (a : Ab) (i : Nat) : Ab × List Int := (List.range i).foldl (dstep t) (a, [])
theorem dropN_succ (t : Int) (a : Ab) (i : Nat) : dropN t a (i + 1) = dstep t (dropN t a i) i := by
  unfold dropN
  rw [List.range_succ, List.foldl_append]
  rfl
theorem dropN_len (t : Int) (a : Ab) (i : Nat) : (dropN t a i).2.length ≤ i := by
  induction i with
  | zero => exact Nat.le_refl _
  | succ i ih =>
    rw [dropN_succ]
    unfold dstep
    dsimp only
    split
    · rw [List.length_append, List.length_singleton]; omega
    · omega
theorem dropN_va {t : Int} {a : Ab} (h : VA a) : ∀ i, i ≤ 4 → VA (dropN t a i).1
  | 0, _ => h
  | i + 1, hi => by
    rw [dropN_succ]
    exact giv_va (dropN_va h i (by omega)) (by omega)
def dropF (a : Ab) (t : Int) : Ab × List Int := dropN t ⟨a.os, a.qs.map (fun q => q.filter (· ≠ t))⟩ 4
end Go.Proofs.Ytfcmejcmijjnpaa
