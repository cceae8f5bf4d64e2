/- The deck of numbers: Mod, New, Next. -/
import Derived.Test.YtlgimjinaijhlaaRows
import Derived.Test.YtlgimjinaijhlaaLib
namespace Go.Proofs.Ytlgimjinaijhlaa
open Go.RowKit

theorem tmod_emod_nonneg {v n : Int} (hv : 0 ≤ v) : v.tmod n = v % n := Int.tmod_eq_emod_of_nonneg hv
theorem tmod_neg_cases {v n : Int} (hv : v < 0) (hn : 1 ≤ n) : (v.tmod n < 0 ∧ v.tmod n + n = v % n ∧ -n < v.tmod n) ∨ (v.tmod n = 0 ∧ v % n = 0) := by
  have h1 : v.tmod n = -((-v) % n) := by
    have := Int.neg_tmod (a := -v) (b := n)
    rw [Int.neg_neg] at this
    rw [this, Int.tmod_eq_emod_of_nonneg (by omega)]
  have h2 := Int.emod_nonneg (-v) (b := n) (by omega)
  have h3 := Int.emod_lt_of_pos (-v) (b := n) (by omega)
  have h4 : v % n = (-(((-v) % n))) % n := by
    conv => lhs; rw [← Int.neg_neg v]
    rw [Int.neg_emod_eq_sub_emod, Int.neg_emod_eq_sub_emod, Int.sub_emod, Int.emod_self, Int.zero_sub, Int.sub_emod n, Int.emod_self, Int.zero_sub, Int.emod_emod]
  by_cases h0 : (-v) % n = 0
  · right
    rw [h1, h0]; refine ⟨rfl, ?_⟩
    rw [h4, h0]; simp
  · left
    rw [h1]
    refine ⟨by omega, ?_, by omega⟩
    have h5 : (-(-v % n)) % n = n - -v % n := by
      rw [Int.neg_emod_eq_sub_emod (a := -v % n)]
      exact Int.emod_eq_of_lt (by omega) (by omega)
    rw [h4, h5]
    omega

set_option maxHeartbeats 400000 in
theorem refMod (v n : Int) (w : World) (hv : I64 v) (hn : 1 ≤ n) (hn' : n ≤ 9223372036854775807) :
    Calls Try.prog 25 #[.int .i64 v, .int .i64 n] w fun e w' => e = .returned (.int .i64 (v % n)) ∧ w = w' := by
  obtain ⟨hv1, hv2⟩ := hv
  by_cases h : 0 ≤ v
  · have hm := Int.emod_nonneg v (b := n) (by omega)
    go_enter Try.func25, Try.ntmps25
    go_wp2
    go_ret
    exact ⟨rfl, rfl⟩
  · have h0 : v < 0 := by omega
    rcases tmod_neg_cases h0 hn with ⟨a, b, c⟩ | ⟨a, b⟩
    · have B := Lib.hid b
      clear b
      go_enter Try.func25, Try.ntmps25
      go_wp2
      go_ret
      exact ⟨ret_i B.out, rfl⟩
    · have B := Lib.hid b
      have A' : ¬ v.tmod n < 0 := by omega
      have A2 := Lib.hid a
      clear b a
      go_enter Try.func25, Try.ntmps25
      go_wp2
      go_ret
      exact ⟨ret_i (by rw [A2.out, B.out]), rfl⟩

set_option maxHeartbeats 400000 in
theorem mkMod (v n : Int) (w : World) (hv : I64 v) (hn : 1 ≤ n) (hn' : n ≤ 9223372036854775807) :
    Calls Try.prog 18 #[.int .i64 v, .int .i64 n] w fun e w' => e = .returned (.int .i64 (v % n)) ∧ w = w' := by
  go_enter Try.func18, Try.ntmps18
  go_wp2_with (go_at_call 25; refine (refMod v n _ hv hn hn').mono ?_; rintro e w' ⟨rfl, rfl⟩)
  go_ret
  exact ⟨rfl, rfl⟩
end Go.Proofs.Ytlgimjinaijhlaa
