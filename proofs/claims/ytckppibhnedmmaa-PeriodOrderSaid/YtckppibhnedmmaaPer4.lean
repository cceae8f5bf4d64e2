/- Less of the reference; the best period of both. -/
import Derived.Test.YtckppibhnedmmaaPer3
namespace Go.Proofs.Ytckppibhnedmmaa
open Go.RowKit

set_option maxHeartbeats 2000000 in
theorem less_r (a b c d : Int) (w : World) :
    Calls Try.prog 14 #[ratioV a b, ratioV c d] w fun e w' => e = .returned (.bool (lessS a b c d)) ∧ Pu w w' := by
  unfold ratioV
  have HF0 : Pu w ((w.alloc (.cells #[.int .i64 a, .int .i64 b] 24)).alloc (.cells #[.int .i64 c, .int .i64 d] 24)) := ((Fr.refl _ w).alloc _).alloc _
  have HB0 : Blk ((w.alloc (.cells #[.int .i64 a, .int .i64 b] 24)).alloc (.cells #[.int .i64 c, .int .i64 d] 24)) w.heap.size 24 #[.int .i64 a, .int .i64 b] := (Blk.new _ _ _).alloc _
  have HB1 : Blk ((w.alloc (.cells #[.int .i64 a, .int .i64 b] 24)).alloc (.cells #[.int .i64 c, .int .i64 d] 24)) (w.heap.size + 1) 24 #[.int .i64 c, .int .i64 d] := by
    have := Blk.new (w.alloc (.cells #[.int .i64 a, .int .i64 b] 24)) 24 #[.int .i64 c, .int .i64 d]; simpa using this
  have h1 := fine_r a b ((w.alloc (.cells #[.int .i64 a, .int .i64 b] 24)).alloc (.cells #[.int .i64 c, .int .i64 d] 24))
  cases hf1 : fineB a b with
  | false =>
    have hL : lessS a b c d = false := by simp [lessS, hf1]
    rw [hL]
    rw [hf1] at h1
    clear hL hf1
    go_enter Try.func14, Try.ntmps14
    go_wp2_with fail
    refine h1.mono ?_
    rintro e w1 ⟨rfl, hp1⟩
    go_wp2_with fail
    go_ret
    exact ⟨rfl, HF0.pu hp1⟩
  | true =>
    rw [hf1] at h1
    have h2 := fun u => fine_r c d u
    have W1 : ∀ w1, Pu ((w.alloc (.cells #[.int .i64 a, .int .i64 b] 24)).alloc (.cells #[.int .i64 c, .int .i64 d] 24)) w1 → w1.cell? ⟨w.heap.size, 0, none⟩ = some (.int .i64 a) ∧ w1.cell? ⟨w.heap.size, 1, none⟩ = some (.int .i64 b) ∧ w1.cell? ⟨w.heap.size + 1, 0, none⟩ = some (.int .i64 c) ∧ w1.cell? ⟨w.heap.size + 1, 1, none⟩ = some (.int .i64 d) := fun w1 hp =>
      ⟨(hp.blk HB0 (fun t => t)).cell 0, (hp.blk HB0 (fun t => t)).cell 1, (hp.blk HB1 (fun t => t)).cell 0, (hp.blk HB1 (fun t => t)).cell 1⟩
    have HW1 := Lib.hid W1
    clear W1 HB0 HB1
    cases hf2 : fineB c d with
    | false =>
      have hL : lessS a b c d = false := by simp [lessS, hf2]
      rw [hL]
      rw [hf2] at h2
      clear hL hf1 hf2
      go_enter Try.func14, Try.ntmps14
      go_wp2_with fail
      refine h1.mono ?_
      rintro e w1 ⟨rfl, hp1⟩
      obtain ⟨a0, a1, a2, a3⟩ := HW1.out w1 hp1
      go_wp2_with fail
      refine (h2 _).mono ?_
      rintro e w2 ⟨rfl, hp2⟩
      go_wp2_with fail
      go_ret
      exact ⟨rfl, (HF0.pu hp1).pu hp2⟩
    | true =>
      rw [hf2] at h2
      obtain ⟨hb, ha⟩ := fineB_iff hf1
      obtain ⟨hd, hc⟩ := fineB_iff hf2
      have hL : lessS a b c d = decide (a * d < c * b) := by simp [lessS, hf1, hf2, lessF]
      rw [hL]
      have m1 := fun u => parts_any a b u hb ha
      have m2 := fun u => parts_any c d u hd hc
      have x0 := Int.emod_nonneg a (b := b) (by omega)
      have x1 := Int.emod_lt_of_pos a (b := b) (by omega)
      have y0 := Int.emod_nonneg c (b := d) (by omega)
      have y1 := Int.emod_lt_of_pos c (b := d) (by omega)
      have HC := Lib.hid (parts_lt hb.1 hd.1 (Int.mul_ediv_add_emod a b) (Int.mul_ediv_add_emod c d) ⟨x0, x1⟩ ⟨y0, y1⟩)
      generalize a / b = p at *
      generalize a % b = x at *
      generalize c / d = q at *
      generalize c % d = y at *
      have p1 : 0 ≤ x * d := Int.mul_nonneg x0 (by omega)
      have p2 : x * d ≤ 1073741824 * 1073741824 := Int.mul_le_mul (by omega) hd.2 (by omega) (by omega)
      have p3 : 0 ≤ y * b := Int.mul_nonneg y0 (by omega)
      have p4 : y * b ≤ 1073741824 * 1073741824 := Int.mul_le_mul (by omega) hb.2 (by omega) (by omega)
      have p2 : x * d ≤ 1152921504606846976 := by omega
      have p4 : y * b ≤ 1152921504606846976 := by omega
      generalize a * d = X at *
      generalize c * b = Y at *
      clear hL hf1 hf2 hb ha hd hc x0 x1 y0 y1
      by_cases c1 : p < q
      · have HR := Lib.hid (show true = decide (X < Y) from dt (HC.out.1 (.inl c1)))
        clear HC
        go_enter Try.func14, Try.ntmps14
        go_wp2_with fail
        refine h1.mono ?_
        rintro e w1 ⟨rfl, hp1⟩
        obtain ⟨a0, a1, a2, a3⟩ := HW1.out w1 hp1
        go_wp2_with fail
        refine (h2 _).mono ?_
        rintro e w2 ⟨rfl, hp2⟩
        obtain ⟨b0, b1, b2, b3⟩ := HW1.out w2 (hp1.pu hp2)
        go_wp2_with fail
        refine (m1 _).mono ?_
        rintro e w3 ⟨rfl, hp3⟩
        obtain ⟨b0, b1, b2, b3⟩ := HW1.out w3 ((hp1.pu hp2).pu hp3)
        go_wp2_with fail
        refine (m2 _).mono ?_
        rintro e w4 ⟨rfl, hp4⟩
        obtain ⟨b0, b1, b2, b3⟩ := HW1.out w4 (((hp1.pu hp2).pu hp3).pu hp4)
        go_wp2_with fail
        go_ret
        exact ⟨ret_b HR.out, (((HF0.pu hp1).pu hp2).pu hp3).pu hp4⟩
      · by_cases c2 : p = q
        · have c2' : (p == q) = true := by simpa using c2
          have HR := Lib.hid (show (decide (p < q) || decide (x * d < y * b)) = decide (X < Y) by rw [decide_eq_false c1, Bool.false_or]; exact bq ⟨fun h => HC.out.1 (.inr ⟨c2, h⟩), fun h => by rcases HC.out.2 h with h | h <;> omega⟩)
          clear HC c2
          go_enter Try.func14, Try.ntmps14
          go_wp2_with fail
          refine h1.mono ?_
          rintro e w1 ⟨rfl, hp1⟩
          obtain ⟨a0, a1, a2, a3⟩ := HW1.out w1 hp1
          go_wp2_with fail
          refine (h2 _).mono ?_
          rintro e w2 ⟨rfl, hp2⟩
          obtain ⟨b0, b1, b2, b3⟩ := HW1.out w2 (hp1.pu hp2)
          go_wp2_with fail
          refine (m1 _).mono ?_
          rintro e w3 ⟨rfl, hp3⟩
          obtain ⟨b0, b1, b2, b3⟩ := HW1.out w3 ((hp1.pu hp2).pu hp3)
          go_wp2_with fail
          refine (m2 _).mono ?_
          rintro e w4 ⟨rfl, hp4⟩
          obtain ⟨b0, b1, b2, b3⟩ := HW1.out w4 (((hp1.pu hp2).pu hp3).pu hp4)
          go_wp2_with fail
          go_ret
          exact ⟨ret_b HR.out, (((HF0.pu hp1).pu hp2).pu hp3).pu hp4⟩
        · have c2' : (p == q) = false := by simpa using c2
          have HR := Lib.hid (show decide (p < q) = decide (X < Y) by rw [decide_eq_false c1]; exact df (fun h => by rcases HC.out.2 h with h | h <;> omega))
          clear HC c2
          go_enter Try.func14, Try.ntmps14
          go_wp2_with fail
          refine h1.mono ?_
          rintro e w1 ⟨rfl, hp1⟩
          obtain ⟨a0, a1, a2, a3⟩ := HW1.out w1 hp1
          go_wp2_with fail
          refine (h2 _).mono ?_
          rintro e w2 ⟨rfl, hp2⟩
          obtain ⟨b0, b1, b2, b3⟩ := HW1.out w2 (hp1.pu hp2)
          go_wp2_with fail
          refine (m1 _).mono ?_
          rintro e w3 ⟨rfl, hp3⟩
          obtain ⟨b0, b1, b2, b3⟩ := HW1.out w3 ((hp1.pu hp2).pu hp3)
          go_wp2_with fail
          refine (m2 _).mono ?_
          rintro e w4 ⟨rfl, hp4⟩
          obtain ⟨b0, b1, b2, b3⟩ := HW1.out w4 (((hp1.pu hp2).pu hp3).pu hp4)
          go_wp2_with fail
          go_ret
          exact ⟨ret_b HR.out, (((HF0.pu hp1).pu hp2).pu hp3).pu hp4⟩

/-- what Best gives -/
def bestV (D L R : Int) : Int := if okC [D, L, R] then (bestTo (2000000 * D) (R * L) 99 : Nat) else 0
/-- costs of two periods, compared as they are given -/
theorem lessS_red {D L R p q : Int} (hok : okC [D, L, R] = true) (hp : 1 ≤ p ∧ p ≤ 100) (hq : 1 ≤ q ∧ q ≤ 100) :
    lessS (redN (2000000 * D) (R * L) p) (redD (2000000 * D) (R * L) p) (redN (2000000 * D) (R * L) q) (redD (2000000 * D) (R * L) q) = lessP (2000000 * D) (R * L) p q := by
  obtain ⟨hD, hL, hR⟩ := okC_three hok
  obtain ⟨⟨b1, b2⟩, ⟨b3, b4⟩, ⟨b5, b6⟩⟩ := costN_bd (p := p) hL hR hp
  obtain ⟨⟨c1, c2⟩, ⟨c3, c4⟩, ⟨c5, c6⟩⟩ := costN_bd (p := q) hL hR hq
  have f1 := red_bd (K := 2000000 * D) (M := R * L) (p := p) ⟨by omega, by omega⟩ ⟨b1, b6, b5⟩ hp
  have f2 := red_bd (K := 2000000 * D) (M := R * L) (p := q) ⟨by omega, by omega⟩ ⟨b1, c6, c5⟩ hq
  have g1 : fineB (redN (2000000 * D) (R * L) p) (redD (2000000 * D) (R * L) p) = true := decide_eq_true (by omega)
  have g2 : fineB (redN (2000000 * D) (R * L) q) (redD (2000000 * D) (R * L) q) = true := decide_eq_true (by omega)
  unfold lessS
  rw [g1, g2, Bool.true_and, Bool.true_and]
  exact lessF_red hp.1 hq.1
theorem cost_ok {D L R p : Int} (hok : okC [D, L, R] = true) (hp : 1 ≤ p ∧ p ≤ 100) : costV D L R p = ratioV (redN (2000000 * D) (R * L) p) (redD (2000000 * D) (R * L) p) ∧ costE D L R p = 0 := by
  have hkb : knownB p = true := decide_eq_true hp
  exact ⟨by simp [costV, hok, hkb], by simp [costE, hok, hkb]⟩
theorem bestTo_pos {K M : Int} (k : Nat) : 1 ≤ bestTo K M k ∧ bestTo K M k ≤ k + 1 := by
  induction k with
  | zero => exact ⟨Nat.le_refl _, Nat.le_refl _⟩
  | succ k ih => simp only [bestTo]; split <;> omega
end Go.Proofs.Ytckppibhnedmmaa
