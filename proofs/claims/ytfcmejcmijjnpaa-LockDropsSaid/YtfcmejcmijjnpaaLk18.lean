/- Drop: a row without a thread; plain law. -/
import Derived.Test.YtfcmejcmijjnpaaLk17
import Derived.Test.YtfcmejcmijjnpaaEng20
namespace Go.Proofs.Ytfcmejcmijjnpaa
open Go.RowKit

/-- the first j looked at, m of them kept -/
structure DI (xs : List Int) (t : Int) (c j m : Nat) (cs : List Value) : Prop where
  jn : j ≤ xs.length
  mj : m < j
  nc : xs.length ≤ c
  cl : cs.length = c
  ml : ((xs.take j).filter (· ≠ t)).length = m
  dn : ∀ (p : Nat) (v : Int), ((xs.take j).filter (· ≠ t))[p]? = some v → cs[p]? = some (Value.int .i64 v)
  td : ∀ (p : Nat) (hp : p < xs.length), j ≤ p → cs[p]? = some (Value.int .i64 xs[p])
section
variable {xs : List Int} {t : Int} {c j m k : Nat} {cs : List Value}
theorem DI.start (hr : ∀ (p : Nat) (v : Value), (ints xs)[p]? = some v → cs[p]? = some v) (hcl : cs.length = c) (hnc : xs.length ≤ c) (hk : k < xs.length) (hkt : xs[k] = t) (hlt : ∀ j (hj : j < xs.length), j < k → xs[j] ≠ t) : DI xs t c (k + 1) k cs := by
  have e1 : (xs.take k).filter (· ≠ t) = xs.take k := by
    rw [List.filter_eq_self]
    intro v hv
    obtain ⟨i, hi, rfl⟩ := List.getElem_of_mem hv
    rw [List.getElem_take]
    rw [List.length_take] at hi
    simpa using hlt i (by omega) (by omega)
  have e2 : (xs.take (k + 1)).filter (· ≠ t) = xs.take k := by
    rw [List.take_succ_eq_append_getElem hk, List.filter_append, e1, hkt]
    try simp
  refine ⟨hk, Nat.lt_succ_self _, hnc, hcl, by rw [e2, List.length_take]; omega, fun p v hp => ?_, fun p hp _ => hr p _ (ints_some hp)⟩
  rw [e2, List.getElem?_take] at hp
  split at hp
  · refine hr p _ ?_
    unfold ints
    rw [List.getElem?_map, hp]
    rfl
  · cases hp
theorem DI.skip (h : DI xs t c j m cs) (hj : j < xs.length) (ht : xs[j] = t) : DI xs t c (j + 1) m cs := by
  have e2 : (xs.take (j + 1)).filter (· ≠ t) = (xs.take j).filter (· ≠ t) := by
    rw [List.take_succ_eq_append_getElem hj, List.filter_append, ht]
    try simp
  have := h.mj
  exact ⟨hj, by omega, h.nc, h.cl, by rw [e2]; exact h.ml, fun p v hp => h.dn p v (by rwa [e2] at hp), fun p hp hjp => h.td p hp (by omega)⟩
theorem DI.keep (h : DI xs t c j m cs) (hj : j < xs.length) (ht : xs[j] ≠ t) : DI xs t c (j + 1) (m + 1) (cs.set m (Value.int .i64 xs[j])) := by
  have e2 : (xs.take (j + 1)).filter (· ≠ t) = (xs.take j).filter (· ≠ t) ++ [xs[j]] := by
    rw [List.take_succ_eq_append_getElem hj, List.filter_append]
    simp [ht]
  have hmj := h.mj
  have hml := h.ml
  have hcl := h.cl
  have hnc := h.nc
  refine ⟨hj, by omega, h.nc, by rw [List.length_set]; exact h.cl, by rw [e2, List.length_append, hml]; rfl, fun p v hp => ?_, fun p hp hjp => ?_⟩
  · rw [e2, List.getElem?_append] at hp
    split at hp
    · rename_i hl
      rw [List.getElem?_set_ne (by omega)]
      exact h.dn p v hp
    · rename_i hl
      have hp0 : p - ((xs.take j).filter (· ≠ t)).length = 0 := by
        rcases Nat.eq_zero_or_pos (p - ((xs.take j).filter (· ≠ t)).length) with e | e
        · exact e
        · rw [List.getElem?_eq_none (by simp only [List.length_singleton]; omega)] at hp; cases hp
      rw [hp0] at hp
      have hpm : p = m := by omega
      subst hpm
      cases hp
      rw [List.getElem?_set_self (by omega)]
  · rw [List.getElem?_set_ne (by omega)]
    exact h.td p hp (by omega)
theorem DI.fin {A : Nat} (h : DI xs t c xs.length m cs) (hcm : c ≤ maxLen) : Row (some A) m c 1 (ints (xs.filter (· ≠ t))) (cs.take m ++ List.replicate (xs.length - m) (Value.int .i64 0) ++ cs.drop (m + (xs.length - m))) := by
  have hmj := h.mj
  have hml := h.ml
  have hcl := h.cl
  have hnc := h.nc
  have hdn := h.dn
  rw [List.take_length] at hml hdn
  have hle : m ≤ xs.length := by omega
  refine ⟨(fun e => by cases e), by omega, hcm, ?_, by rw [ints_len, hml, Nat.mul_one], ?_⟩
  · simp only [List.length_append, List.length_take, List.length_replicate, List.length_drop]
    omega
  · rw [Nat.mul_one, List.append_assoc, List.take_append_of_le_length (by rw [List.length_take]; omega), List.take_take, Nat.min_self]
    apply List.ext_getElem?
    intro p
    rw [List.getElem?_take]
    by_cases hp : p < m
    · have e : (xs.filter (· ≠ t))[p]? = some ((xs.filter (· ≠ t))[p]'(by omega)) := List.getElem?_eq_getElem (by omega)
      rw [if_pos hp, hdn p _ e]
      unfold ints
      rw [List.getElem?_map, e]
      rfl
    · rw [if_neg hp, List.getElem?_eq_none (by rw [ints_len]; omega)]
end
end Go.Proofs.Ytfcmejcmijjnpaa
