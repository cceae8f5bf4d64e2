/- The greatest common divisor of a fraction's numbers; adding; the plain law of what lies between. -/
import Derived.Test.YtmaikkanfhbiaaaRat2
namespace Go.Proofs.Ytmaikkanfhbiaaa
open Go.RowKit

set_option maxHeartbeats 800000 in
theorem common_n (m n : Nat) (w : World) (hm : (m : Int) ≤ 9223372036854775807) (hn : (n : Int) ≤ 9223372036854775807) :
    Calls Try.prog 9 #[.agg #[.int .i64 m, .int .i64 n]] w fun e w' => e = .returned (.int .i64 (Nat.gcd m n : Nat)) ∧ Pu w w' := by
  have HF : Pu w (w.alloc (.cells #[.int .i64 m, .int .i64 n] 31)) := (Fr.refl _ w).alloc _
  have HF' := fun k => Lib.hid (HF.drewN k)
  go_enter Try.func9, Try.ntmps9
  go_wp2
  go_region
  all_goals
    go_wp2
    go_loopw [3, 4] (fun a b wr => ∃ x y : Nat, a = .int .i64 x ∧ b = .int .i64 y ∧ (x : Int) ≤ 9223372036854775807 ∧ (y : Int) ≤ 9223372036854775807 ∧ Hid (Nat.gcd x y = Nat.gcd m n) ∧ Pu w wr) (fun _ b _ => (intOf b).toNat)
    case atStart => exact ⟨m, n, rfl, rfl, hm, hn, rfl, ((Fr.refl _ w).alloc _).drew⟩
    case round =>
      obtain ⟨x, y, rfl, rfl, hx, hy, HG, hF⟩ := hrel
      by_cases h0 : 0 < y
      · have h1 : (0 : Int) < (y : Int) := by omega
        have hlt := Nat.mod_lt x h0
        have hcast : (x : Int) % (y : Int) = ((x % y : Nat) : Int) := by simp
        have HC := Lib.hid hcast
        have q1 := Int.emod_nonneg x (b := (y : Int)) (by omega)
        have q2 := Int.emod_lt_of_pos x (b := (y : Int)) (by omega)
        clear hcast
        go_wp2
        go_region
        all_goals
          go_wp2
          go_roundw
          case rel => exact ⟨y, x % y, rfl, by rw [HC.out], hy, by omega, (gcd_step x y).trans HG.out, hF.drew⟩
          case measure => simp only [intOf]; rw [HC.out]; simp; omega
      · have hy0 : y = 0 := by omega
        subst hy0
        have h1 : ¬ (0 : Int) < ((0 : Nat) : Int) := by omega
        go_wp2
        go_ret
        refine ⟨ret_i ?_, hF⟩
        rw [← HG.out, Nat.gcd_zero_right]
theorem common_c (a b : Int) (w : World) (ha : 0 ≤ a ∧ a ≤ 200000) (hb : 0 ≤ b ∧ b ≤ 200000) :
    Calls Try.prog 9 #[.agg #[.int .i64 a, .int .i64 b]] w fun e w' => e = .returned (.int .i64 (Int.gcd a b)) ∧ Pu w w' := by
  obtain ⟨m, rfl⟩ := Int.eq_ofNat_of_zero_le ha.1
  obtain ⟨n, rfl⟩ := Int.eq_ofNat_of_zero_le hb.1
  exact common_n m n w (by omega) (by omega)

theorem pr_bd {a b : Int} (h1 : 0 ≤ a) (h2 : a ≤ 200000) (h3 : 0 ≤ b) (h4 : b ≤ 200000) : wrap64 (a * b) = a * b := by
  have i1 : 0 ≤ a * b := Int.mul_nonneg h1 h3
  have i2 : a * b ≤ 200000 * 200000 := Int.mul_le_mul h2 h4 h3 (by omega)
  exact IntWalk.wrap64_in _ ⟨by omega, by omega⟩
/-- the greater one -/
def mx (a b : Int) : Int := if a < b then b else a
theorem mx_comm (a b : Int) : mx a b = mx b a := by unfold mx; split <;> split <;> omega
theorem mx_assoc (a b c : Int) : mx (mx a b) c = mx a (mx b c) := by unfold mx; repeat (split) <;> omega
theorem mx_bd {a b n : Int} (ha : 0 ≤ a ∧ a ≤ n) (hb : 0 ≤ b ∧ b ≤ n) : 0 ≤ mx a b ∧ mx a b ≤ n := by unfold mx; split <;> omega
end Go.Proofs.Ytmaikkanfhbiaaa
