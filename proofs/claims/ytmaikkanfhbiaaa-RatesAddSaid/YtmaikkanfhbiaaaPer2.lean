/- Less, in the program and in the reference; the best period. -/
import Derived.Test.YtmaikkanfhbiaaaPer
import Derived.Test.YtmaikkanfhbiaaaMul
namespace Go.Proofs.Ytmaikkanfhbiaaa
open Go.RowKit

def two64 : Int := 18446744073709551616
/-- a fraction that can be compared -/
def fineB (a b : Int) : Bool := decide (1 ≤ b ∧ b ≤ 1073741824 ∧ -1152921504606846976 ≤ a ∧ a ≤ 1152921504606846976)
def lessS (a b c d : Int) : Bool := fineB a b && fineB c d && lessF a b c d

set_option maxHeartbeats 800000 in
theorem fine_p (a b : Int) (w : World) :
    Calls Try.prog 21 #[.agg #[.int .i64 a, .int .i64 b]] w fun e w' => e = .returned (.bool (fineB a b)) ∧ Pu w w' := by
  have HF : Pu w (w.alloc (.cells #[.int .i64 a, .int .i64 b] 31)) := (Fr.refl _ w).alloc _
  by_cases h1 : 1 ≤ b
  · by_cases h2 : b ≤ 1073741824
    · by_cases h3 : -1152921504606846976 ≤ a
      · go_enter Try.func21, Try.ntmps21
        go_wp2
        go_ret
        exact ⟨ret_b (bq (by omega)), HF⟩
      · have h3' : decide (-1152921504606846976 ≤ a) = false := by simpa using h3
        go_enter Try.func21, Try.ntmps21
        go_wp2
        go_ret
        exact ⟨ret_b (df (by omega)), HF⟩
    · have h2' : decide (b ≤ 1073741824) = false := by simpa using h2
      go_enter Try.func21, Try.ntmps21
      go_wp2
      go_ret
      exact ⟨ret_b (df (by omega)), HF⟩
  · have h1' : decide (1 ≤ b) = false := by simpa using h1
    go_enter Try.func21, Try.ntmps21
    go_wp2
    go_ret
    exact ⟨ret_b (df (by omega)), HF⟩

theorem prod_pos (x y hi lo : Nat) (h1 : hi = x * y / 18446744073709551616) (h2 : lo = x * y % 18446744073709551616) (hx : (x : Int) ≤ 1152921504606846976) (hy : (y : Int) ≤ 1073741824) :
    (hi : Int) ≤ 1152921504606846976 ∧ (x : Int) * (y : Int) / two64 = hi ∧ (x : Int) * (y : Int) % two64 = lo := by
  have hb : x * y ≤ 1152921504606846976 * 1073741824 := Nat.mul_le_mul (by omega) (by omega)
  subst h1; subst h2
  unfold two64
  refine ⟨by omega, ?_, ?_⟩
  · rw [← Int.natCast_mul]; omega
  · rw [← Int.natCast_mul]; omega
theorem prod_neg (a : Int) (x y hi lo : Nat) (hx : IntKind.u64.wrap a = x) (h1 : hi = x * y / 18446744073709551616) (h2 : lo = x * y % 18446744073709551616) (ha : -1152921504606846976 ≤ a) (ha0 : a < 0) (hy1 : 1 ≤ (y : Int)) (hy : (y : Int) ≤ 1073741824) :
    (hi : Int) < y ∧ a * (y : Int) / two64 = (hi : Int) - y ∧ a * (y : Int) % two64 = lo := by
  rw [IntKind.wrap_u64] at hx
  have hx' : (x : Int) = a + 18446744073709551616 := by omega
  have hp : ((x * y : Nat) : Int) = a * y + 18446744073709551616 * y := by rw [Int.natCast_mul, hx', Int.add_mul]
  have hn : a * (y : Int) < 0 := Int.mul_neg_of_neg_of_pos ha0 (by omega)
  generalize a * (y : Int) = q at *
  generalize x * y = z at *
  subst h1; subst h2
  unfold two64
  omega
theorem u64_back {h y : Int} (h1 : h < y) (h0 : 0 ≤ h) (h2 : y ≤ 1073741824) : wrap64 (IntKind.u64.wrap (h - y)) = h - y := by
  rw [IntKind.wrap_u64]; unfold wrap64; omega

set_option maxHeartbeats 800000 in
theorem product_any (a b : Int) (w : World) (hb : 1 ≤ b ∧ b ≤ 1073741824) (ha : -1152921504606846976 ≤ a ∧ a ≤ 1152921504606846976) :
    Calls Try.prog 22 #[.int .i64 a, .int .i64 b] w fun e w' => e = .returned (.tuple #[.int .i64 (a * b / two64), .int .u64 (a * b % two64)]) ∧ w = w' := by
  obtain ⟨hb1, hb2⟩ := hb
  obtain ⟨ha1, ha2⟩ := ha
  obtain ⟨y, rfl⟩ := Int.eq_ofNat_of_zero_le (show 0 ≤ b by omega)
  by_cases h : 0 ≤ a
  · obtain ⟨x, rfl⟩ := Int.eq_ofNat_of_zero_le h
    have hc := Try.bits_Mul64 x y (by omega) (by omega) w
    generalize hhi : x * y / 18446744073709551616 = hi at hc
    generalize hlo : x * y % 18446744073709551616 = lo at hc
    obtain ⟨q1, q2, q3⟩ := prod_pos x y hi lo hhi.symm hlo.symm ha2 hb2
    rw [q2, q3]
    clear hhi hlo q2 q3
    go_enter Try.func22, Try.ntmps22
    go_wp2_with fail
    refine hc.mono ?_
    rintro e w1 ⟨rfl, rfl⟩
    clear hc
    go_wp2_with fail
    go_ret2
    exact ⟨rfl, rfl⟩
  · obtain ⟨x, hx⟩ : ∃ x : Nat, IntKind.u64.wrap a = x := ⟨(IntKind.u64.wrap a).toNat, by rw [IntKind.wrap_u64]; omega⟩
    have hxl : x < 18446744073709551616 := by rw [IntKind.wrap_u64] at hx; omega
    have hc := Try.bits_Mul64 x y hxl (by omega) w
    generalize hhi : x * y / 18446744073709551616 = hi at hc
    generalize hlo : x * y % 18446744073709551616 = lo at hc
    obtain ⟨q1, q2, q3⟩ := prod_neg a x y hi lo hx hhi.symm hlo.symm ha1 (by omega) hb1 hb2
    rw [q2, q3]
    have HB := Lib.hid (u64_back q1 (by omega) hb2)
    clear hhi hlo q2 q3 hxl
    go_enter Try.func22, Try.ntmps22
    go_wp2_with fail
    refine hc.mono ?_
    rintro e w1 ⟨rfl, rfl⟩
    clear hc
    go_wp2_with fail
    go_ret2
    refine ⟨?_, rfl⟩
    show Ending.returned (.tuple #[.int .i64 _, .int .u64 _]) = _
    rw [HB.out]
end Go.Proofs.Ytmaikkanfhbiaaa
