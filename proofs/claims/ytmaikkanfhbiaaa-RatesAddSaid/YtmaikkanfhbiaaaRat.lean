/- Package rates: numbers that are right, fractions of them, what is advised. -/
import Derived.Test.YtmaikkanfhbiaaaPer5
import Derived.Deep.RegionHeld3
namespace Go.Proofs.Ytmaikkanfhbiaaa
open Go.RowKit

theorem best_of {D L R : Int} (hok : okC [D, L, R] = true) : ∃ b : Nat, bestV D L R = (b : Int) ∧ IsBest (2000000 * D) (R * L) 100 b := by
  obtain ⟨h1, h2, h3⟩ := okC_three hok
  exact ⟨_, by simp [bestV, hok], best_is (Int.mul_nonneg h3.1 h2.1) 99⟩
theorem okC_mk {D L R : Int} (hD : 0 ≤ D ∧ D ≤ 1000000) (hL : 0 ≤ L ∧ L ≤ 1000000) (hR : 0 ≤ R ∧ R ≤ 1000000) : okC [D, L, R] = true := by simp [okC, hD, hL, hR]
theorem best_le {D L R D' L' R' : Int} (hok : okC [D, L, R] = true) (hok' : okC [D', L', R'] = true) (hD : D' ≤ D) (hL : L ≤ L') (hR : R ≤ R') : bestV D' L' R' ≤ bestV D L R := by
  obtain ⟨b, e, hb⟩ := best_of hok
  obtain ⟨b', e', hb'⟩ := best_of hok'
  obtain ⟨h1, h2, h3⟩ := okC_three hok
  obtain ⟨h4, h5, h6⟩ := okC_three hok'
  have hm : R * L ≤ R' * L' := Int.mul_le_mul hR hL h2.1 h6.1
  have := hb'.mono hb (by omega) hm
  omega
theorem best_c {D L R : Int} (hok : okC [D, L, R] = true) (w : World) :
    Calls Try.prog 14 #[.agg #[.int .i64 D, .int .i64 L, .int .i64 R]] w fun e w' => e = .returned (.tuple #[.int .i64 (bestV D L R), .int .i64 0]) ∧ Pu w w' := by
  have := best_p D L R w
  rwa [← errC_ok hok] at this

/-- numbers that are right: each within bounds, and the four comparisons -/
structure OkS (i f r l la lo ls : Int) : Prop where
  bi : 0 ≤ i ∧ i ≤ 1073741824
  bf : 0 ≤ f ∧ f ≤ 1073741824
  br : 0 ≤ r ∧ r ≤ 1073741824
  bl : 0 ≤ l ∧ l ≤ 1073741824
  bla : 0 ≤ la ∧ la ≤ 1073741824
  blo : 0 ≤ lo ∧ lo ≤ 1073741824
  bls : 0 ≤ ls ∧ ls ≤ 1073741824
  fi : f ≤ i
  rf : r ≤ f
  ll : la ≤ l
  oo : ls ≤ lo
def sV (i f r l la lo ls : Int) : Array Value := #[.int .i64 i, .int .i64 f, .int .i64 r, .int .i64 l, .int .i64 la, .int .i64 lo, .int .i64 ls]
theorem seven_of (W : World) (g : Nat) (T : TypeId) (i f r l la lo ls : Int) (HB : Blk W g T (sV i f r l la lo ls)) (k : Nat) (hk : k < 7) : W.cell? ⟨g, k, none⟩ = some (.int .i64 ([i, f, r, l, la, lo, ls][k]'(by simpa using hk))) := by
  rw [HB.cell]
  rcases (by omega : k = 0 ∨ k = 1 ∨ k = 2 ∨ k = 3 ∨ k = 4 ∨ k = 5 ∨ k = 6) with rfl | rfl | rfl | rfl | rfl | rfl | rfl <;> rfl
theorem OkS.at_ {i f r l la lo ls : Int} (h : OkS i f r l la lo ls) {k : Nat} (hk : k < 7) : 0 ≤ [i, f, r, l, la, lo, ls][k]'(by simpa using hk) ∧ [i, f, r, l, la, lo, ls][k]'(by simpa using hk) ≤ 1073741824 := by
  obtain ⟨h1, h2, h3, h4, h5, h6, h7, _, _, _, _⟩ := h
  rcases (by omega : k = 0 ∨ k = 1 ∨ k = 2 ∨ k = 3 ∨ k = 4 ∨ k = 5 ∨ k = 6) with rfl | rfl | rfl | rfl | rfl | rfl | rfl <;> assumption

set_option maxHeartbeats 1000000 in
theorem right_ok (i f r l la lo ls : Int) (w : World) (h : OkS i f r l la lo ls) :
    Calls Try.prog 11 #[.agg (sV i f r l la lo ls)] w fun e w' => e = .returned (.bool true) ∧ Pu w w' := by
  have HF : Pu w ((w.alloc (.cells (sV i f r l la lo ls) 25)).alloc (.cells (sV i f r l la lo ls) 3)) := ((Fr.refl _ w).alloc _).alloc _
  have HB := seven_of _ _ _ i f r l la lo ls (Blk.new (w.alloc (.cells (sV i f r l la lo ls) 25)) 3 _)
  have HC := seven_of _ _ _ i f r l la lo ls ((Blk.new w 25 (sV i f r l la lo ls)).alloc (.cells (sV i f r l la lo ls) 3))
  have hat := fun k => h.at_ (k := k)
  obtain ⟨hi, hf, hr, hl, hla, hlo, hls, h1, h2, h3, h4⟩ := h
  unfold sV at *
  go_enter Try.func11, Try.ntmps11
  go_wp2
  go_loop [21] (fun i => ∃ k : Nat, k ≤ 7 ∧ i = .int .i64 k) (fun i => 7 - (intOf i).toNat)
  case atStart => exact ⟨0, by omega, rfl⟩
  case round =>
    obtain ⟨k, hk, rfl⟩ := hrel
    by_cases hlt : k < 7
    · have hc := HB k hlt
      obtain ⟨b1, b2⟩ := hat k hlt
      simp only [World.size_alloc] at hc
      generalize [i, f, r, l, la, lo, ls][k] = x at *
      clear HB HC hat hi hf hr hl hla hlo hls h1 h2 h3 h4
      go_wp2
      go_round
      case rel => exact ⟨k + 1, by omega, by go_num⟩
      case measure => simp [intOf]; omega
    · have c0 := HC 0 (by omega)
      have c1 := HC 1 (by omega)
      have c2 := HC 2 (by omega)
      have c3 := HC 3 (by omega)
      have c4 := HC 4 (by omega)
      have c5 := HC 5 (by omega)
      have c6 := HC 6 (by omega)
      simp only [List.getElem_cons_zero, List.getElem_cons_succ] at c0 c1 c2 c3 c4 c5 c6
      clear HB HC hat
      go_wp2
      go_ret
      exact ⟨rfl, HF⟩

set_option maxHeartbeats 1000000 in
theorem advise_c (i f r l la lo ls n D L R : Int) (w : World) (h : OkS i f r l la lo ls) (hn : 1 ≤ n ∧ n ≤ 1073741824) (hok : okC [D, L, R] = true) (hR : R = (if 1000000 * i / n ≤ 1000000 then 1000000 * i / n else 1000000)) :
    Calls Try.prog 10 #[.agg (sV i f r l la lo ls), .int .i64 n, .int .i64 D, .int .i64 L] w fun e w' => e = .returned (.tuple #[.int .i64 (bestV D L R), .int .i64 0]) ∧ Pu w w' := by
  have hr := fun u => right_ok i f r l la lo ls u h
  have hb := fun u => best_c hok u
  have HF : Pu w (w.alloc (.cells (sV i f r l la lo ls) 25)) := (Fr.refl _ w).alloc _
  have HB := Blk.new w 25 (sV i f r l la lo ls)
  obtain ⟨hi1, hi2⟩ := h.bi
  obtain ⟨hn1, hn2⟩ := hn
  have q1 : 0 ≤ 1000000 * i / n := Int.ediv_nonneg (by omega) (by omega)
  have q2 : 1000000 * i / n ≤ 1000000 * i := Int.ediv_le_self _ (by omega)
  clear h hok
  generalize bestV D L R = V at *
  unfold sV at *
  by_cases hc : 1000000 * i / n ≤ 1000000
  · rw [if_pos hc] at hR
    subst hR
    go_enter Try.func10, Try.ntmps10
    go_wp2_with fail
    refine (hr _).mono ?_
    rintro e w1 ⟨rfl, hf⟩
    have c0 : w1.cell? ⟨w.heap.size, 0, none⟩ = some (.int .i64 i) := (hf.blk HB (fun t => t)).cell 0
    go_wp2_with fail
    refine (hb _).mono ?_
    rintro e w2 ⟨rfl, hf2⟩
    go_wp2_with fail
    go_ret2
    exact ⟨rfl, (HF.pu hf).pu hf2⟩
  · rw [if_neg hc] at hR
    subst hR
    go_enter Try.func10, Try.ntmps10
    go_wp2_with fail
    refine (hr _).mono ?_
    rintro e w1 ⟨rfl, hf⟩
    have c0 : w1.cell? ⟨w.heap.size, 0, none⟩ = some (.int .i64 i) := (hf.blk HB (fun t => t)).cell 0
    go_wp2_with fail
    refine (hb _).mono ?_
    rintro e w2 ⟨rfl, hf2⟩
    go_wp2_with fail
    go_ret2
    exact ⟨rfl, (HF.pu hf).pu hf2⟩

set_option maxHeartbeats 1000000 in
theorem shorten_c (m n : Nat) (w : World) (hm : (m : Int) ≤ 9223372036854775807) (hn : (n : Int) ≤ 9223372036854775807) (h0 : 0 < n) :
    Calls Try.prog 15 #[.int .i64 m, .int .i64 n] w fun e w' => e = .returned (.tuple #[.int .i64 ((m : Int) / (Nat.gcd m n : Nat)), .int .i64 ((n : Int) / (Nat.gcd m n : Nat))]) ∧ Pu w w' := by
  have hg : 0 < Nat.gcd m n := Nat.gcd_pos_of_pos_right _ h0
  go_enter Try.func15, Try.ntmps15
  go_wp2
  go_loopw [6, 7] (fun a b wr => ∃ x y : Nat, a = .int .i64 x ∧ b = .int .i64 y ∧ (x : Int) ≤ 9223372036854775807 ∧ (y : Int) ≤ 9223372036854775807 ∧ Hid (Nat.gcd x y = Nat.gcd m n) ∧ Pu w wr) (fun _ b _ => (intOf b).toNat)
  case atStart => exact ⟨m, n, rfl, rfl, hm, hn, rfl, Fr.refl _ _⟩
  case round =>
    obtain ⟨x, y, rfl, rfl, hx, hy, HG, hF⟩ := hrel
    by_cases h0 : 0 < y
    · have h1 : ((y : Int) != 0) = true := by simp; omega
      have hlt := Nat.mod_lt x h0
      have hcast : (x : Int) % (y : Int) = ((x % y : Nat) : Int) := by simp
      have HC := Lib.hid hcast
      have q1 := Int.emod_nonneg x (b := (y : Int)) (by omega)
      have q2 := Int.emod_lt_of_pos x (b := (y : Int)) (by omega)
      clear hcast
      go_wp2
      go_region
      all_goals
        go_wp2
        go_roundw
        case rel => exact ⟨y, x % y, rfl, by rw [HC.out], hy, by omega, (gcd_step x y).trans HG.out, hF.drew⟩
        case measure => simp only [intOf]; rw [HC.out]; simp; omega
    · have hy0 : y = 0 := by omega
      subst hy0
      have h1 : (((0 : Nat) : Int) != 0) = false := rfl
      have hx0 : x = Nat.gcd m n := by have := HG.out; rwa [Nat.gcd_zero_right] at this
      subst hx0
      clear HG
      have q1 : 0 ≤ (m : Int) / ((Nat.gcd m n : Nat) : Int) := Int.ediv_nonneg (by omega) (by omega)
      have q2 : (m : Int) / ((Nat.gcd m n : Nat) : Int) ≤ m := Int.ediv_le_self _ (by omega)
      have q3 : 0 ≤ (n : Int) / ((Nat.gcd m n : Nat) : Int) := Int.ediv_nonneg (by omega) (by omega)
      have q4 : (n : Int) / ((Nat.gcd m n : Nat) : Int) ≤ n := Int.ediv_le_self _ (by omega)
      go_wp2
      go_quiet (fail)
      go_wp2
      go_ret2
      exact ⟨rfl, hF.drewN _⟩
end Go.Proofs.Ytmaikkanfhbiaaa
