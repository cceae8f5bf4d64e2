/- The shape of a program's memory: the program's functions and the reference's, each by one contract. -/
import Derived.Test.YtfcimpfhfbkgbaaRows
import Derived.Test.YtfcimpfhfbkgbaaLib
namespace Go.Proofs.Ytfcimpfhfbkgbaa
open Go.RowKit

def sumW (xs : List Int) : Int := xs.foldl (fun a x => wrap64 (a + x)) 0
theorem sumW_snoc (xs : List Int) (x : Int) : sumW (xs ++ [x]) = wrap64 (sumW xs + x) := by simp [sumW]
theorem take_snoc (xs : List Int) (k : Nat) (h : k < xs.length) : xs.take (k + 1) = xs.take k ++ [xs[k]] := by
  rw [List.take_succ_eq_append_getElem h]

/-- each of the first k sizes is one -/
def okB (xs : List Int) : Bool := xs.all fun x => decide (1 ≤ x ∧ x ≤ 32)
def validB (xs : List Int) : Bool := okB xs && decide (1 ≤ xs.length ∧ xs.length ≤ 4)
theorem okB_bad {xs : List Int} {k : Nat} (h : k < xs.length) (hb : xs[k] < 1 ∨ 32 < xs[k]) : validB xs = false := by
  have : okB xs = false := by
    rw [Bool.eq_false_iff]
    intro ht
    have := of_decide_eq_true (List.all_eq_true.1 ht _ (List.getElem_mem h))
    omega
  simp [validB, this]
theorem okB_take {xs : List Int} {k : Nat} (h : k < xs.length) (ht : okB (xs.take k) = true) (hb : ¬ xs[k] < 1 ∧ ¬ 32 < xs[k]) : okB (xs.take (k + 1)) = true := by
  rw [take_snoc xs k h]
  unfold okB at *
  rw [List.all_append, ht]
  simp; omega

/-- is (r, o) a place? -/
def insideB (xs : List Int) (r o : Int) : Bool := decide (0 ≤ r ∧ r < xs.length ∧ 0 ≤ o ∧ o < xs.getD r.toNat 0)



set_option maxHeartbeats 800000 in
theorem inside_p (A : Option Addr) (n c : Nat) (xs : List Int) (r o : Int) (B : Nat) (w : World) (hl : xs.length = n) (hB : B ≤ w.heap.size) (hn : n ≤ 9223372036854775807) (hr : Rd w B A (ints xs)) :
    Calls Try.prog 43 #[.slice A n c, .agg #[.int .i64 r, .int .i64 o]] w fun e w' => e = .returned (.bool (insideB xs r o)) ∧ Pu w w' := by
  subst hl
  by_cases h1 : 0 ≤ r
  · obtain ⟨k, rfl⟩ := Int.eq_ofNat_of_zero_le h1
    by_cases h2 : k < xs.length
    · by_cases h3 : 0 ≤ o
      · obtain ⟨b, off, rfl, hb, hc⟩ := hr.at_ (k := k) (by rw [ints_len]; exact h2)
        rw [ints_get h2] at hc
        have hc1 : (w.alloc (.cells #[.int .i64 (k : Int), .int .i64 o] 53)).cell? ⟨b, off + k, none⟩ = some (.int .i64 xs[k]) := by
          rw [World.cell?_alloc_lt w _ _ (by show b < _; omega)]; exact hc
        go_enter Try.func43, Try.ntmps43
        go_wp2
        go_quiet (fail)
        go_wp2
        go_ret
        refine ⟨ret_b ?_, ((Fr.refl _ w).alloc _).drewN _⟩
        have e : xs.getD (k : Int).toNat 0 = xs[k] := by simp [List.getD, h2]
        unfold insideB
        rw [e]
        exact bq (by omega)
      · have h3' : decide (0 ≤ o) = false := by simpa using h3
        go_enter Try.func43, Try.ntmps43
        go_wp2
        go_quiet (fail)
        go_wp2
        go_ret
        exact ⟨ret_b (df (by omega)), ((Fr.refl _ w).alloc _).drewN _⟩
    · have h2' : decide (k < xs.length) = false := by simpa using h2
      go_enter Try.func43, Try.ntmps43
      go_wp2
      go_quiet (fail)
      go_wp2
      go_ret
      exact ⟨ret_b (df (by omega)), ((Fr.refl _ w).alloc _).drewN _⟩
  · have h1' : decide (0 ≤ r) = false := by simpa using h1
    go_enter Try.func43, Try.ntmps43
    go_wp2
    go_quiet (fail)
    go_wp2
    go_ret
    exact ⟨ret_b (df (by omega)), ((Fr.refl _ w).alloc _).drewN _⟩
set_option maxHeartbeats 400000 in
theorem total_r (A : Option Addr) (n c : Nat) (xs : List Int) (B : Nat) (w : World) (hl : xs.length = n) (hn : n ≤ 9223372036854775807) (hr : Rd w B A (ints xs)) :
    Calls Try.prog 38 #[.slice A n c] w fun e w' => e = .returned (.int .i64 (sumW xs)) ∧ w = w' := by
  subst hl
  go_enter Try.func38, Try.ntmps38
  go_wp2
  go_loop [3, 8] (fun n i => ∃ k : Nat, k ≤ xs.length ∧ i = .int .i64 k ∧ n = .int .i64 (sumW (xs.take k))) (fun _ i => xs.length - (intOf i).toNat)
  case atStart => exact ⟨0, Nat.zero_le _, rfl, rfl⟩
  case round =>
    obtain ⟨k, hk, rfl, rfl⟩ := hrel
    by_cases hlt : k < xs.length
    · obtain ⟨b, off, rfl, hb, hc⟩ := hr.at_ (k := k) (by rw [ints_len]; exact hlt)
      rw [ints_get hlt] at hc
      go_wp2
      go_round
      case rel => exact ⟨k + 1, by omega, by go_num, by rw [take_snoc xs k hlt, sumW_snoc]⟩
      case measure => simp [intOf]; omega
    · go_wp2
      go_ret
      have e : xs.take k = xs := List.take_of_length_le (by omega)
      exact ⟨ret_i (by rw [e]), rfl⟩

set_option maxHeartbeats 400000 in
theorem valid_r (A : Option Addr) (n c : Nat) (xs : List Int) (B : Nat) (w : World) (hl : xs.length = n) (hn : n ≤ 9223372036854775807) (hr : Rd w B A (ints xs)) :
    Calls Try.prog 35 #[.slice A n c] w fun e w' => e = .returned (.bool (validB xs)) ∧ w = w' := by
  subst hl
  go_enter Try.func35, Try.ntmps35
  go_wp2
  go_loop [7] (fun i => ∃ k : Nat, k ≤ xs.length ∧ i = .int .i64 k ∧ okB (xs.take k) = true) (fun i => xs.length - (intOf i).toNat)
  case atStart => exact ⟨0, Nat.zero_le _, rfl, rfl⟩
  case round =>
    obtain ⟨k, hk, rfl, hok⟩ := hrel
    have HO := Lib.hid hok
    clear hok
    by_cases hlt : k < xs.length
    · obtain ⟨b, off, rfl, hb, hc⟩ := hr.at_ (k := k) (by rw [ints_len]; exact hlt)
      rw [ints_get hlt] at hc
      by_cases h1 : xs[k] < 1
      · go_wp2
        go_ret
        exact ⟨ret_b (okB_bad hlt (.inl h1)).symm, rfl⟩
      · by_cases h2 : 32 < xs[k]
        · go_wp2
          go_ret
          exact ⟨ret_b (okB_bad hlt (.inr h2)).symm, rfl⟩
        · go_wp2
          go_round
          case rel => exact ⟨k + 1, by omega, by go_num, okB_take hlt HO.out ⟨h1, h2⟩⟩
          case measure => simp [intOf]; omega
    · have e : xs.take k = xs := List.take_of_length_le (by omega)
      have hv : validB xs = decide (1 ≤ xs.length ∧ xs.length ≤ 4) := by have := HO.out; rw [e] at this; simp [validB, this]
      have HV := Lib.hid hv
      clear hv e
      by_cases h1 : 1 ≤ xs.length
      · go_wp2
        go_ret
        exact ⟨ret_b (by rw [HV.out]; exact bq (by omega)), rfl⟩
      · go_wp2
        go_ret
        exact ⟨ret_b (by rw [HV.out]; exact df (by omega)), rfl⟩

set_option maxHeartbeats 800000 in
theorem inside_r (A : Option Addr) (n c : Nat) (xs : List Int) (r o : Int) (B : Nat) (w : World) (hl : xs.length = n) (hB : B ≤ w.heap.size) (hn : n ≤ 9223372036854775807) (hr : Rd w B A (ints xs)) :
    Calls Try.prog 42 #[.slice A n c, .agg #[.int .i64 r, .int .i64 o]] w fun e w' => e = .returned (.bool (insideB xs r o)) ∧ Pu w w' := by
  subst hl
  by_cases h1 : 0 ≤ r
  · obtain ⟨k, rfl⟩ := Int.eq_ofNat_of_zero_le h1
    by_cases h2 : k < xs.length
    · by_cases h3 : 0 ≤ o
      · obtain ⟨b, off, rfl, hb, hc⟩ := hr.at_ (k := k) (by rw [ints_len]; exact h2)
        rw [ints_get h2] at hc
        have hc1 : (w.alloc (.cells #[.int .i64 (k : Int), .int .i64 o] 53)).cell? ⟨b, off + k, none⟩ = some (.int .i64 xs[k]) := by
          rw [World.cell?_alloc_lt w _ _ (by show b < _; omega)]; exact hc
        go_enter Try.func42, Try.ntmps42
        go_wp2
        go_quiet (fail)
        go_wp2
        go_ret
        refine ⟨ret_b ?_, ((Fr.refl _ w).alloc _).drewN _⟩
        have e : xs.getD (k : Int).toNat 0 = xs[k] := by simp [List.getD, h2]
        unfold insideB
        rw [e]
        exact bq (by omega)
      · have h3' : decide (0 ≤ o) = false := by simpa using h3
        go_enter Try.func42, Try.ntmps42
        go_wp2
        go_quiet (fail)
        go_wp2
        go_ret
        exact ⟨ret_b (df (by omega)), ((Fr.refl _ w).alloc _).drewN _⟩
    · have h2' : decide (k < xs.length) = false := by simpa using h2
      go_enter Try.func42, Try.ntmps42
      go_wp2
      go_quiet (fail)
      go_wp2
      go_ret
      exact ⟨ret_b (df (by omega)), ((Fr.refl _ w).alloc _).drewN _⟩
  · have h1' : decide (0 ≤ r) = false := by simpa using h1
    go_enter Try.func42, Try.ntmps42
    go_wp2
    go_quiet (fail)
    go_wp2
    go_ret
    exact ⟨ret_b (df (by omega)), ((Fr.refl _ w).alloc _).drewN _⟩
end Go.Proofs.Ytfcimpfhfbkgbaa
