/- The small functions of the statements of layer 37. -/
import Derived.Test.YtckppibhnedmmaaPer5
import Derived.Deep.RegionHeld3
namespace Go.Proofs.Ytckppibhnedmmaa
open Go.RowKit

def worstS (p : Int) : Int := if knownB p then p - 1 else 0
set_option maxHeartbeats 400000 in
theorem worst_p (p : Int) (w : World) (hp : I64 p) :
    Calls Try.prog 17 #[.int .i64 p] w fun e w' => e = .returned (.int .i64 (worstS p)) ∧ w = w' := by
  obtain ⟨h1, h2⟩ := hp
  have hk := fun u => known_any p u
  cases h : knownB p with
  | true =>
    have hW := Lib.hid (show p - 1 = worstS p by simp [worstS, h])
    have := of_decide_eq_true h
    rw [h] at hk
    clear h
    go_enter Try.func17, Try.ntmps17
    go_wp2_with (go_at_call 22; refine (hk _).mono ?_; rintro e w' ⟨rfl, rfl⟩)
    go_ret
    exact ⟨ret_i hW.out, rfl⟩
  | false =>
    have hW := Lib.hid (show 0 = worstS p by simp [worstS, h])
    rw [h] at hk
    clear h
    go_enter Try.func17, Try.ntmps17
    go_wp2_with (go_at_call 22; refine (hk _).mono ?_; rintro e w' ⟨rfl, rfl⟩)
    go_ret
    exact ⟨ret_i hW.out, rfl⟩
set_option maxHeartbeats 400000 in
theorem worst_r (p : Int) (w : World) (hp : I64 p) :
    Calls Try.prog 18 #[.int .i64 p] w fun e w' => e = .returned (.int .i64 (worstS p)) ∧ w = w' := by
  obtain ⟨h1, h2⟩ := hp
  by_cases h3 : p < 1
  · have hW := Lib.hid (show 0 = worstS p by have : knownB p = false := decide_eq_false (by omega); simp [worstS, this])
    go_enter Try.func18, Try.ntmps18
    go_wp2
    go_ret
    exact ⟨ret_i hW.out, rfl⟩
  · by_cases h4 : 100 < p
    · have hW := Lib.hid (show 0 = worstS p by have : knownB p = false := decide_eq_false (by omega); simp [worstS, this])
      go_enter Try.func18, Try.ntmps18
      go_wp2
      go_ret
      exact ⟨ret_i hW.out, rfl⟩
    · have hW := Lib.hid (show p - 1 = worstS p by have : knownB p = true := decide_eq_true (by omega); simp [worstS, this])
      go_enter Try.func18, Try.ntmps18
      go_wp2
      go_ret
      exact ⟨ret_i hW.out, rfl⟩

def denOf (x : Int) : Int := 1 + (if x < 0 then -x else x) % 1000000
theorem denOf_bd (x : Int) : 1 ≤ denOf x ∧ denOf x ≤ 1000000 := by
  unfold denOf
  split
  · have := Int.emod_nonneg (-x) (b := 1000000) (by omega)
    have := Int.emod_lt_of_pos (-x) (b := 1000000) (by omega)
    omega
  · have := Int.emod_nonneg x (b := 1000000) (by omega)
    have := Int.emod_lt_of_pos x (b := 1000000) (by omega)
    omega
set_option maxHeartbeats 400000 in
theorem ratio_any (a b : Int) (w : World) (ha : -2147483648 ≤ a ∧ a ≤ 2147483647) (hb : -2147483648 ≤ b ∧ b ≤ 2147483647) :
    Calls Try.prog 7 #[.agg #[.int .i32 a, .int .i32 b]] w fun e w' => e = .returned (ratioV a (denOf b)) ∧ Pu w w' := by
  obtain ⟨h1, h2⟩ := hb
  obtain ⟨h3, h4⟩ := ha
  have hF : Pu w ((w.alloc (.cells #[.int .i32 a, .int .i32 b] 22)).alloc (.cells #[.int .i64 0, .int .i64 0] 24)) := ((Fr.refl _ w).alloc _).alloc _
  by_cases h : b < 0
  · obtain ⟨m, rfl⟩ : ∃ m : Nat, b = -(m : Int) := ⟨(-b).toNat, by omega⟩
    have HD := Lib.hid (show 1 + (m : Int) % 1000000 = denOf (-(m : Int)) by unfold denOf; rw [if_pos h, Int.neg_neg])
    go_enter Try.func7, Try.ntmps7
    go_wp2
    refine bodyPost_ret (v := ratioV a (1 + (m : Int) % 1000000)) (by simp [results, Try.results7, go_sem, ratioV]) rfl ⟨by rw [HD.out], ?_⟩
    repeat (first | exact Fr.refl _ _ | refine Fr.setCell ?_ (.inr (by simp)) _ | refine Fr.alloc ?_ _)
  · have HD := Lib.hid (show 1 + b % 1000000 = denOf b by simp [denOf, h])
    go_enter Try.func7, Try.ntmps7
    go_wp2
    refine bodyPost_ret (v := ratioV a (1 + b % 1000000)) (by simp [results, Try.results7, go_sem, ratioV]) rfl ⟨by rw [HD.out], ?_⟩
    repeat (first | exact Fr.refl _ _ | refine Fr.setCell ?_ (.inr (by simp)) _ | refine Fr.alloc ?_ _)

set_option maxHeartbeats 400000 in
theorem costs_any (a b c : Int) (w : World) (ha : 0 ≤ a ∧ a ≤ 4294967295) (hb : 0 ≤ b ∧ b ≤ 4294967295) (hc : 0 ≤ c ∧ c ≤ 4294967295) :
    Calls Try.prog 19 #[.int .u32 a, .int .u32 b, .int .u32 c] w fun e w' => e = .returned (.agg #[.int .i64 (a % 1000001), .int .i64 (b % 1000001), .int .i64 (c % 1000001)]) ∧ Pu w w' := by
  obtain ⟨a1, a2⟩ := ha
  obtain ⟨b1, b2⟩ := hb
  obtain ⟨c1, c2⟩ := hc
  go_enter Try.func19, Try.ntmps19
  go_wp2
  refine bodyPost_ret (v := .agg #[.int .i64 (a % 1000001), .int .i64 (b % 1000001), .int .i64 (c % 1000001)]) (by simp [results, Try.results19, go_sem]) rfl ⟨rfl, ?_⟩
  repeat (first | exact Fr.refl _ _ | refine Fr.setCell ?_ (.inr (by simp)) _ | refine Fr.alloc ?_ _)

set_option maxHeartbeats 1000000 in
theorem awake_any (w : World) : Calls Try.prog 9 #[] w fun e w' => e = .returned (.bool true) ∧ Pu w w' := by
  have hc := cost_p 8 1 1000000 4 w ⟨by omega, by omega⟩
  have e1 : costV 8 1 1000000 4 = ratioV 3500000 1 := by
    unfold costV
    rw [show (okC [8, 1, 1000000] && knownB 4) = true by decide]
    have hg : costG (2000000 * 8) (1000000 * 1) 4 = 8 := by unfold costG costN; decide
    unfold redN redD
    rw [hg]
    unfold costN
    rfl
  have e2 : costE 8 1 1000000 4 = 0 := by decide
  rw [e1, e2] at hc
  have hw := fun u => worst_p 4 u ⟨by omega, by omega⟩
  have e3 : worstS 4 = 3 := by decide
  rw [e3] at hw
  have hl := fun u => less_p 1 3 1 2 u
  have e4 : lessS 1 3 1 2 = true := by decide
  rw [e4] at hl
  unfold ratioV at hc hl
  clear e1 e2 e3 e4
  go_enter Try.func9, Try.ntmps9
  go_wp2_with fail
  refine hc.mono ?_
  rintro e w1 ⟨rfl, hf⟩
  go_wp2_with fail
  refine (hw _).mono ?_
  rintro e w2 ⟨rfl, rfl⟩
  go_wp2_with fail
  refine (hl _).mono ?_
  rintro e w2 ⟨rfl, hf2⟩
  go_wp2_with fail
  go_ret
  exact ⟨rfl, (hf.alloc _).pu hf2⟩
end Go.Proofs.Ytckppibhnedmmaa
