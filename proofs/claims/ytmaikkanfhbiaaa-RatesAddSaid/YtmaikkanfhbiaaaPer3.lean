/- Less: of the program, by 128 bits; of the reference, by whole parts and rests. -/
import Derived.Test.YtmaikkanfhbiaaaPer2
namespace Go.Proofs.Ytmaikkanfhbiaaa
open Go.RowKit

theorem two64_lt (n m : Int) : (n / two64 < m / two64) ∨ (n / two64 = m / two64 ∧ n % two64 < m % two64) ↔ n < m := by unfold two64; omega
theorem parts_lt {a b c d p q x y : Int} (hb : 1 ≤ b) (hd : 1 ≤ d) (ha : b * p + x = a) (hc : d * q + y = c) (hx : 0 ≤ x ∧ x < b) (hy : 0 ≤ y ∧ y < d) :
    (p < q ∨ (p = q ∧ x * d < y * b)) ↔ a * d < c * b := by
  have e1 : a * d = b * d * p + x * d := by rw [← ha, Int.add_mul, mul_swap]
  have e2 : c * b = b * d * q + y * b := by rw [← hc, Int.add_mul, mul_swap, Int.mul_comm d b]
  have bd : 1 ≤ b * d := by have := Int.mul_pos (a := b) (b := d) (by omega) (by omega); omega
  have x1 : 0 ≤ x * d := Int.mul_nonneg hx.1 (by omega)
  have x2 : x * d < b * d := Int.mul_lt_mul_of_pos_right hx.2 (by omega)
  have y1 : 0 ≤ y * b := Int.mul_nonneg hy.1 (by omega)
  have y2 : y * b < d * b := Int.mul_lt_mul_of_pos_right hy.2 (by omega)
  rw [Int.mul_comm d b] at y2
  rw [e1, e2]
  have up : ∀ {s t : Int}, s < t → b * d * s + b * d ≤ b * d * t := fun {s t} h => by
    have : b * d * (s + 1) ≤ b * d * t := Int.mul_le_mul_of_nonneg_left (by omega) (by omega)
    rw [Int.mul_add, Int.mul_one] at this; exact this
  rcases Int.lt_trichotomy p q with h | h | h
  · have := up h
    exact ⟨fun _ => by omega, fun _ => .inl h⟩
  · subst h
    exact ⟨fun h => by rcases h with h | h <;> omega, fun h => .inr ⟨rfl, by omega⟩⟩
  · have := up h
    exact ⟨fun h' => by rcases h' with h' | h' <;> omega, fun h' => by omega⟩
theorem fineB_iff {a b : Int} (h : fineB a b = true) : (1 ≤ b ∧ b ≤ 1073741824) ∧ (-1152921504606846976 ≤ a ∧ a ≤ 1152921504606846976) := by
  have := of_decide_eq_true h; omega

set_option maxHeartbeats 2000000 in
theorem less_p (a b c d : Int) (w : World) :
    Calls Try.prog 18 #[ratioV a b, ratioV c d] w fun e w' => e = .returned (.bool (lessS a b c d)) ∧ Pu w w' := by
  unfold ratioV
  have HF0 : Pu w ((w.alloc (.cells #[.int .i64 a, .int .i64 b] 31)).alloc (.cells #[.int .i64 c, .int .i64 d] 31)) := ((Fr.refl _ w).alloc _).alloc _
  have HB0 : Blk ((w.alloc (.cells #[.int .i64 a, .int .i64 b] 31)).alloc (.cells #[.int .i64 c, .int .i64 d] 31)) w.heap.size 31 #[.int .i64 a, .int .i64 b] := (Blk.new _ _ _).alloc _
  have HB1 : Blk ((w.alloc (.cells #[.int .i64 a, .int .i64 b] 31)).alloc (.cells #[.int .i64 c, .int .i64 d] 31)) (w.heap.size + 1) 31 #[.int .i64 c, .int .i64 d] := by
    have := Blk.new (w.alloc (.cells #[.int .i64 a, .int .i64 b] 31)) 31 #[.int .i64 c, .int .i64 d]; simpa using this
  have h1 := fine_p a b ((w.alloc (.cells #[.int .i64 a, .int .i64 b] 31)).alloc (.cells #[.int .i64 c, .int .i64 d] 31))
  cases hf1 : fineB a b with
  | false =>
    have hL : lessS a b c d = false := by simp [lessS, hf1]
    rw [hL]
    rw [hf1] at h1
    clear hL hf1
    go_enter Try.func18, Try.ntmps18
    go_wp2_with fail
    refine h1.mono ?_
    rintro e w1 ⟨rfl, hp1⟩
    go_wp2_with fail
    go_ret
    exact ⟨rfl, HF0.pu hp1⟩
  | true =>
    rw [hf1] at h1
    have h2 := fun u => fine_p c d u
    cases hf2 : fineB c d with
    | false =>
      have hL : lessS a b c d = false := by simp [lessS, hf2]
      rw [hL]
      rw [hf2] at h2
      clear hL hf1 hf2
      go_enter Try.func18, Try.ntmps18
      go_wp2_with fail
      refine h1.mono ?_
      rintro e w1 ⟨rfl, hp1⟩
      have B0 := hp1.blk HB0 (fun t => t)
      have B1 := hp1.blk HB1 (fun t => t)
      have a0 : w1.cell? ⟨w.heap.size, 0, none⟩ = some (.int .i64 a) := B0.cell 0
      have a1 : w1.cell? ⟨w.heap.size, 1, none⟩ = some (.int .i64 b) := B0.cell 1
      have a2 : w1.cell? ⟨w.heap.size + 1, 0, none⟩ = some (.int .i64 c) := B1.cell 0
      have a3 : w1.cell? ⟨w.heap.size + 1, 1, none⟩ = some (.int .i64 d) := B1.cell 1
      go_wp2_with fail
      refine (h2 _).mono ?_
      rintro e w2 ⟨rfl, hp2⟩
      go_wp2_with fail
      go_ret
      exact ⟨rfl, (HF0.pu hp1).pu hp2⟩
    | true =>
      rw [hf2] at h2
      obtain ⟨hb, ha⟩ := fineB_iff hf1
      obtain ⟨hd, hc⟩ := fineB_iff hf2
      have hL : lessS a b c d = decide (a * d < c * b) := by simp [lessS, hf1, hf2, lessF]
      rw [hL]
      have m1 := fun u => product_any a d u hd ha
      have m2 := fun u => product_any c b u hb hc
      have HC := Lib.hid (two64_lt (a * d) (c * b))
      have HEQ : Hid (a = c → b = d → decide (a * d < c * b) = false) := fun e1 e2 => by subst e1; subst e2; simp
      clear hL hf1 hf2 hb ha hd hc
      generalize a * d = X at *
      generalize c * b = Y at *
      have W1 : ∀ w1, Pu ((w.alloc (.cells #[.int .i64 a, .int .i64 b] 31)).alloc (.cells #[.int .i64 c, .int .i64 d] 31)) w1 → w1.cell? ⟨w.heap.size, 0, none⟩ = some (.int .i64 a) ∧ w1.cell? ⟨w.heap.size, 1, none⟩ = some (.int .i64 b) ∧ w1.cell? ⟨w.heap.size + 1, 0, none⟩ = some (.int .i64 c) ∧ w1.cell? ⟨w.heap.size + 1, 1, none⟩ = some (.int .i64 d) := fun w1 hp =>
        ⟨(hp.blk HB0 (fun t => t)).cell 0, (hp.blk HB0 (fun t => t)).cell 1, (hp.blk HB1 (fun t => t)).cell 0, (hp.blk HB1 (fun t => t)).cell 1⟩
      have HW1 := Lib.hid W1
      clear W1 HB0 HB1
      by_cases he : a = c ∧ b = d
      · obtain ⟨rfl, rfl⟩ := he
        rw [HEQ.out rfl rfl]
        clear HC HEQ
        go_enter Try.func18, Try.ntmps18
        go_wp2_with fail
        refine h1.mono ?_
        rintro e w1 ⟨rfl, hp1⟩
        obtain ⟨a0, a1, a2, a3⟩ := HW1.out w1 hp1
        go_wp2_with fail
        refine (h2 _).mono ?_
        rintro e w2 ⟨rfl, hp2⟩
        obtain ⟨b0, b1, b2, b3⟩ := HW1.out w2 (hp1.pu hp2)
        go_wp2_with fail
        go_ret
        exact ⟨rfl, (HF0.pu hp1).pu hp2⟩
      · have heq : (a == c) = false ∨ ((a == c) = true ∧ (b == d) = false) := by
          by_cases h : a = c
          · exact .inr ⟨by simp [h], by simp; exact fun h' => he ⟨h, h'⟩⟩
          · exact .inl (by simpa using h)
        clear he HEQ
        rcases heq with q1 | ⟨q1, q2⟩
        all_goals
          by_cases c1 : X / two64 < Y / two64
          · have HR := Lib.hid (show true = decide (X < Y) from dt (HC.out.1 (.inl c1)))
            clear HC
            go_enter Try.func18, Try.ntmps18
            go_wp2_with fail
            refine h1.mono ?_
            rintro e w1 ⟨rfl, hp1⟩
            obtain ⟨a0, a1, a2, a3⟩ := HW1.out w1 hp1
            go_wp2_with fail
            refine (h2 _).mono ?_
            rintro e w2 ⟨rfl, hp2⟩
            obtain ⟨b0, b1, b2, b3⟩ := HW1.out w2 (hp1.pu hp2)
            go_wp2_with fail
            refine (m1 _).mono ?_
            rintro e w' ⟨rfl, rfl⟩
            go_wp2_with fail
            refine (m2 _).mono ?_
            rintro e w' ⟨rfl, rfl⟩
            go_wp2_with fail
            go_ret
            exact ⟨ret_b HR.out, (HF0.pu hp1).pu hp2⟩
          · by_cases c2 : X / two64 = Y / two64
            · have c2' : (X / two64 == Y / two64) = true := by simpa using c2
              have HR := Lib.hid (show (decide (X / two64 < Y / two64) || decide (X % two64 < Y % two64)) = decide (X < Y) by rw [decide_eq_false c1, Bool.false_or]; exact bq ⟨fun h => HC.out.1 (.inr ⟨c2, h⟩), fun h => by rcases HC.out.2 h with h | h <;> omega⟩)
              clear HC c2
              go_enter Try.func18, Try.ntmps18
              go_wp2_with fail
              refine h1.mono ?_
              rintro e w1 ⟨rfl, hp1⟩
              obtain ⟨a0, a1, a2, a3⟩ := HW1.out w1 hp1
              go_wp2_with fail
              refine (h2 _).mono ?_
              rintro e w2 ⟨rfl, hp2⟩
              obtain ⟨b0, b1, b2, b3⟩ := HW1.out w2 (hp1.pu hp2)
              go_wp2_with fail
              refine (m1 _).mono ?_
              rintro e w' ⟨rfl, rfl⟩
              go_wp2_with fail
              refine (m2 _).mono ?_
              rintro e w' ⟨rfl, rfl⟩
              go_wp2_with fail
              go_ret
              exact ⟨ret_b HR.out, (HF0.pu hp1).pu hp2⟩
            · have c2' : (X / two64 == Y / two64) = false := by simpa using c2
              have HR := Lib.hid (show decide (X / two64 < Y / two64) = decide (X < Y) by rw [decide_eq_false c1]; exact df (fun h => by rcases HC.out.2 h with h | h <;> omega))
              clear HC c2
              go_enter Try.func18, Try.ntmps18
              go_wp2_with fail
              refine h1.mono ?_
              rintro e w1 ⟨rfl, hp1⟩
              obtain ⟨a0, a1, a2, a3⟩ := HW1.out w1 hp1
              go_wp2_with fail
              refine (h2 _).mono ?_
              rintro e w2 ⟨rfl, hp2⟩
              obtain ⟨b0, b1, b2, b3⟩ := HW1.out w2 (hp1.pu hp2)
              go_wp2_with fail
              refine (m1 _).mono ?_
              rintro e w' ⟨rfl, rfl⟩
              go_wp2_with fail
              refine (m2 _).mono ?_
              rintro e w' ⟨rfl, rfl⟩
              go_wp2_with fail
              go_ret
              exact ⟨ret_b HR.out, (HF0.pu hp1).pu hp2⟩

end Go.Proofs.Ytmaikkanfhbiaaa
