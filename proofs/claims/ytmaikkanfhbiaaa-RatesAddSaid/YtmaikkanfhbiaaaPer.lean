/- Package period and its reference: costs, fractions, the best period. -/
import Derived.Test.YtmaikkanfhbiaaaRows
import Derived.Test.YtmaikkanfhbiaaaPerLaw
namespace Go.Proofs.Ytmaikkanfhbiaaa
open Go.RowKit

/-- costs that are right -/
def okC (xs : List Int) : Bool := xs.all fun x => decide (0 ≤ x ∧ x ≤ 1000000)
def errC (xs : List Int) : Int := if okC xs then 0 else 1
theorem errC_bad {xs : List Int} (h : okC xs = false) : 1 = errC xs := by simp [errC, h]
theorem errC_ok {xs : List Int} (h : okC xs = true) : 0 = errC xs := by simp [errC, h]
theorem take_snoc' {α : Type} (xs : List α) (k : Nat) (h : k < xs.length) : xs.take (k + 1) = xs.take k ++ [xs[k]] := by
  rw [List.take_succ_eq_append_getElem h]
theorem okC_bad {xs : List Int} {k : Nat} (h : k < xs.length) (hb : xs[k] < 0 ∨ 1000000 < xs[k]) : okC xs = false := by
  rw [Bool.eq_false_iff]
  intro ht
  have := of_decide_eq_true (List.all_eq_true.1 ht _ (List.getElem_mem h))
  omega
theorem okC_take {xs : List Int} {k : Nat} (h : k < xs.length) (ht : okC (xs.take k) = true) (hb : ¬ xs[k] < 0 ∧ ¬ 1000000 < xs[k]) : okC (xs.take (k + 1)) = true := by
  rw [take_snoc' xs k h]
  unfold okC at *
  rw [List.all_append, ht]
  simp; omega
theorem okC_three {D L R : Int} (h : okC [D, L, R] = true) : (0 ≤ D ∧ D ≤ 1000000) ∧ (0 ≤ L ∧ L ≤ 1000000) ∧ (0 ≤ R ∧ R ≤ 1000000) := by
  simp [okC] at h; exact h
theorem three_of (W : World) (g : Nat) (T : TypeId) (D L R : Int) (HB : Blk W g T #[.int .i64 D, .int .i64 L, .int .i64 R]) (k : Nat) (hk : k < 3) : W.cell? ⟨g, k, none⟩ = some (.int .i64 ([D, L, R][k]'(by simpa using hk))) := by
  rw [HB.cell]
  rcases (by omega : k = 0 ∨ k = 1 ∨ k = 2) with rfl | rfl | rfl <;> rfl

set_option maxHeartbeats 1000000 in
theorem check_p (D L R : Int) (w : World) :
    Calls Try.prog 16 #[.agg #[.int .i64 D, .int .i64 L, .int .i64 R]] w fun e w' => e = .returned (.int .i64 (errC [D, L, R])) ∧ Pu w w' := by
  have HF : Pu w ((w.alloc (.cells #[.int .i64 D, .int .i64 L, .int .i64 R] 44)).alloc (.cells #[.int .i64 D, .int .i64 L, .int .i64 R] 3)) := ((Fr.refl _ w).alloc _).alloc _
  have HB := three_of _ _ _ D L R (Blk.new (w.alloc (.cells #[.int .i64 D, .int .i64 L, .int .i64 R] 44)) 3 _)
  go_enter Try.func16, Try.ntmps16
  go_wp2
  go_loop [13] (fun i => ∃ k : Nat, k ≤ 3 ∧ i = .int .i64 k ∧ okC ([D, L, R].take k) = true) (fun i => 3 - (intOf i).toNat)
  case atStart => exact ⟨0, by omega, rfl, rfl⟩
  case round =>
    obtain ⟨k, hk, rfl, hok⟩ := hrel
    have HO := Lib.hid hok
    clear hok
    by_cases hlt : k < 3
    · have hc := HB k hlt
      have hl3 : k < [D, L, R].length := by simpa using hlt
      have hbad := fun h => okC_bad (xs := [D, L, R]) hl3 h
      have hgood := fun h => okC_take (xs := [D, L, R]) hl3 HO.out h
      simp only [World.size_alloc] at hc
      generalize [D, L, R][k] = x at *
      have HBad := Lib.hid hbad
      have HGood := Lib.hid hgood
      clear hbad hgood HB
      by_cases h1 : x < 0
      · go_wp2
        go_ret
        exact ⟨ret_i (errC_bad (HBad.out (.inl h1))), HF⟩
      · by_cases h2 : 1000000 < x
        · go_wp2
          go_ret
          exact ⟨ret_i (errC_bad (HBad.out (.inr h2))), HF⟩
        · go_wp2
          go_round
          case rel => exact ⟨k + 1, by omega, by go_num, HGood.out ⟨h1, h2⟩⟩
          case measure => simp [intOf]; omega
    · have hv : okC [D, L, R] = true := by have := HO.out; rwa [List.take_of_length_le (by simp; omega)] at this
      have HV := Lib.hid hv
      clear hv
      go_wp2
      go_ret
      exact ⟨ret_i (errC_ok HV.out), HF⟩


def knownB (p : Int) : Bool := decide (1 ≤ p ∧ p ≤ 100)
set_option maxHeartbeats 400000 in
theorem known_any (p : Int) (w : World) :
    Calls Try.prog 19 #[.int .i64 p] w fun e w' => e = .returned (.bool (knownB p)) ∧ w = w' := by
  by_cases h1 : 1 ≤ p
  · go_enter Try.func19, Try.ntmps19
    go_wp2
    go_ret
    exact ⟨ret_b (bq (by omega)), rfl⟩
  · have h1' : decide (1 ≤ p) = false := by simpa using h1
    go_enter Try.func19, Try.ntmps19
    go_wp2
    go_ret
    exact ⟨ret_b (df (by omega)), rfl⟩

theorem gcd_step (m n : Nat) : Nat.gcd n (m % n) = Nat.gcd m n := by
  rw [Nat.gcd_comm n, ← Nat.gcd_rec, Nat.gcd_comm]

set_option maxHeartbeats 800000 in
theorem gcd_p (m n : Nat) (w : World) (hm : (m : Int) ≤ 9223372036854775807) (hn : (n : Int) ≤ 9223372036854775807) :
    Calls Try.prog 20 #[.int .i64 m, .int .i64 n] w fun e w' => e = .returned (.int .i64 (Nat.gcd m n : Nat)) ∧ Pu w w' := by
  go_enter Try.func20, Try.ntmps20
  go_wp2
  go_loopw [0, 1] (fun a b wr => ∃ x y : Nat, a = .int .i64 x ∧ b = .int .i64 y ∧ (x : Int) ≤ 9223372036854775807 ∧ (y : Int) ≤ 9223372036854775807 ∧ Hid (Nat.gcd x y = Nat.gcd m n) ∧ Pu w wr) (fun _ b _ => (intOf b).toNat)
  case atStart => exact ⟨m, n, rfl, rfl, hm, hn, rfl, Fr.refl _ _⟩
  case round =>
    obtain ⟨x, y, rfl, rfl, hx, hy, HG, hF⟩ := hrel
    by_cases h0 : 0 < y
    · have h1 : ((y : Int) != 0) = true := by simp; omega
      have hlt := Nat.mod_lt x h0
      have hcast : (x : Int) % (y : Int) = ((x % y : Nat) : Int) := by simp
      have HC := Lib.hid hcast
      have q1 := Int.emod_nonneg x (b := (y : Int)) (by omega)
      have q2 := Int.emod_lt_of_pos x (b := (y : Int)) (by omega)
      clear hcast
      go_wp2
      go_region
      all_goals
        go_wp2
        go_roundw
        case rel => exact ⟨y, x % y, rfl, by rw [HC.out], hy, by omega, (gcd_step x y).trans HG.out, hF.drew⟩
        case measure => simp only [intOf]; rw [HC.out]; simp; omega
    · have hy0 : y = 0 := by omega
      subst hy0
      have h1 : (((0 : Nat) : Int) != 0) = false := rfl
      go_wp2
      go_ret
      refine ⟨ret_i ?_, hF⟩
      rw [← HG.out, Nat.gcd_zero_right]

theorem gcdI_p (a b : Int) (w : World) (ha : 0 ≤ a) (hb : 0 ≤ b) (hm : a ≤ 9223372036854775807) (hn : b ≤ 9223372036854775807) :
    Calls Try.prog 20 #[.int .i64 a, .int .i64 b] w fun e w' => e = .returned (.int .i64 (Int.gcd a b)) ∧ Pu w w' := by
  obtain ⟨m, rfl⟩ := Int.eq_ofNat_of_zero_le ha
  obtain ⟨n, rfl⟩ := Int.eq_ofNat_of_zero_le hb
  exact gcd_p m n w hm hn

/-- a period's cost in lowest terms -/
def costG (K M p : Int) : Int := (Int.gcd (costN K M p) (2 * p) : Nat)
def redN (K M p : Int) : Int := costN K M p / costG K M p
def redD (K M p : Int) : Int := (2 * p) / costG K M p
theorem costG_pos {K M p : Int} (hp : 1 ≤ p) : 1 ≤ costG K M p := by
  unfold costG
  have : 0 < Int.gcd (costN K M p) (2 * p) := Int.gcd_pos_of_ne_zero_right _ (by omega)
  omega
theorem red_mul {K M p : Int} : redN K M p * costG K M p = costN K M p ∧ redD K M p * costG K M p = 2 * p := by
  unfold redN redD costG
  exact ⟨Int.ediv_mul_cancel (Int.gcd_dvd_left ..), Int.ediv_mul_cancel (Int.gcd_dvd_right ..)⟩
/-- the bounds by which no number wraps -/
theorem costN_bd {L R p : Int} (hL : 0 ≤ L ∧ L ≤ 1000000) (hR : 0 ≤ R ∧ R ≤ 1000000) (hp : 1 ≤ p ∧ p ≤ 100) :
    (0 ≤ R * L ∧ R * L ≤ 1000000000000) ∧ (0 ≤ R * L * (p - 1) ∧ R * L * (p - 1) ≤ 99000000000000) ∧ (0 ≤ R * L * (p - 1) * p ∧ R * L * (p - 1) * p ≤ 9900000000000000) := by
  have h1 : 0 ≤ R * L := Int.mul_nonneg hR.1 hL.1
  have h2 : R * L ≤ 1000000 * 1000000 := Int.mul_le_mul hR.2 hL.2 hL.1 (by omega)
  have h3 : 0 ≤ R * L * (p - 1) := Int.mul_nonneg h1 (by omega)
  have h4 : R * L * (p - 1) ≤ 1000000000000 * 99 := Int.mul_le_mul (by omega) (by omega) (by omega) (by omega)
  have h5 : 0 ≤ R * L * (p - 1) * p := Int.mul_nonneg h3 (by omega)
  have h6 : R * L * (p - 1) * p ≤ 99000000000000 * 100 := Int.mul_le_mul (by omega) hp.2 (by omega) (by omega)
  omega
theorem red_bd {K M p : Int} (hK : 0 ≤ K ∧ K ≤ 2000000000000) (hM : 0 ≤ M ∧ M * (p - 1) * p ≤ 9900000000000000 ∧ 0 ≤ M * (p - 1) * p) (hp : 1 ≤ p ∧ p ≤ 100) :
    0 ≤ redN K M p ∧ redN K M p ≤ 1000000000000000000 ∧ 1 ≤ redD K M p ∧ redD K M p ≤ 200 := by
  have hg := costG_pos (K := K) (M := M) hp.1
  obtain ⟨e1, e2⟩ := red_mul (K := K) (M := M) (p := p)
  have hN : 0 ≤ costN K M p ∧ costN K M p ≤ 10000000000000000 := by unfold costN; omega
  have h1 : 0 ≤ redN K M p := Int.ediv_nonneg hN.1 (by omega)
  have h2 : redN K M p ≤ costN K M p := Int.ediv_le_self _ hN.1
  have h3 : redD K M p ≤ 2 * p := Int.ediv_le_self _ (by omega)
  have h4 : 0 ≤ redD K M p := Int.ediv_nonneg (by omega) (by omega)
  have h5 : redD K M p ≠ 0 := fun h => by rw [h] at e2; omega
  omega
/-- fractions in lowest terms compare as they did before -/
theorem lessF_red {K M p q : Int} (hp : 1 ≤ p) (hq : 1 ≤ q) : lessF (redN K M p) (redD K M p) (redN K M q) (redD K M q) = lessP K M p q := by
  have h1 := costG_pos (K := K) (M := M) hp
  have h2 := costG_pos (K := K) (M := M) hq
  obtain ⟨a1, a2⟩ := red_mul (K := K) (M := M) (p := p)
  obtain ⟨b1, b2⟩ := red_mul (K := K) (M := M) (p := q)
  rw [← lessF_scale (k := costG K M p) (by omega), a1, a2, ← lessF_scale' (k := costG K M q) (by omega), b1, b2]
  unfold lessF lessP
  refine decide_eq_decide.2 ?_
  have e1 : costN K M p * (2 * q) = 2 * (costN K M p * q) := by rw [← Int.mul_assoc, Int.mul_comm _ 2, Int.mul_assoc]
  have e2 : costN K M q * (2 * p) = 2 * (costN K M q * p) := by rw [← Int.mul_assoc, Int.mul_comm _ 2, Int.mul_assoc]
  rw [e1, e2]
  omega

def ratioV (a b : Int) : Value := .agg #[.int .i64 a, .int .i64 b]
/-- what Cost gives -/
def costV (D L R p : Int) : Value := if okC [D, L, R] && knownB p then ratioV (redN (2000000 * D) (R * L) p) (redD (2000000 * D) (R * L) p) else ratioV 0 0
def costE (D L R p : Int) : Int := if okC [D, L, R] then (if knownB p then 0 else 6) else 1

set_option maxHeartbeats 2000000 in
theorem cost_p (D L R p : Int) (w : World) (hp64 : I64 p) :
    Calls Try.prog 17 #[.agg #[.int .i64 D, .int .i64 L, .int .i64 R], .int .i64 p] w fun e w' => e = .returned (.tuple #[costV D L R p, .int .i64 (costE D L R p)]) ∧ Pu w w' := by
  obtain ⟨hp1, hp2⟩ := hp64
  have hc := check_p D L R ((w.alloc (.cells #[.int .i64 D, .int .i64 L, .int .i64 R] 44)).alloc (.cells #[.int .i64 0, .int .i64 0] 31))
  have HB1 : Blk ((w.alloc (.cells #[.int .i64 D, .int .i64 L, .int .i64 R] 44)).alloc (.cells #[.int .i64 0, .int .i64 0] 31)) (w.heap.size + 1) 31 #[.int .i64 0, .int .i64 0] := by
    have := Blk.new (w.alloc (.cells #[.int .i64 D, .int .i64 L, .int .i64 R] 44)) 31 #[.int .i64 0, .int .i64 0]; simpa using this
  have HB0 : Blk ((w.alloc (.cells #[.int .i64 D, .int .i64 L, .int .i64 R] 44)).alloc (.cells #[.int .i64 0, .int .i64 0] 31)) w.heap.size 44 #[.int .i64 D, .int .i64 L, .int .i64 R] := (Blk.new _ _ _).alloc _
  have HF0 : Pu w ((w.alloc (.cells #[.int .i64 D, .int .i64 L, .int .i64 R] 44)).alloc (.cells #[.int .i64 0, .int .i64 0] 31)) := ((Fr.refl _ w).alloc _).alloc _
  cases hok : okC [D, L, R] with
  | false =>
    have h1 : errC [D, L, R] = 1 := (errC_bad hok).symm
    have hV : costV D L R p = ratioV 0 0 := by simp [costV, hok]
    have hE : costE D L R p = 1 := by simp [costE, hok]
    rw [hV, hE]
    rw [h1] at hc
    clear h1 hV hE hok
    go_enter Try.func17, Try.ntmps17
    go_wp2_with fail
    refine hc.mono ?_
    rintro e w1 ⟨rfl, hf⟩
    clear hc
    have hB := hf.blk HB1 (fun t => t)
    have hF : Pu w w1 := HF0.pu hf
    have c0 := hB.cell 0
    have c1 := hB.cell 1
    have f0 := hB.frozen 0
    have f1 := hB.frozen 1
    go_wp2_with fail
    refine bodyPost_ret (v := .tuple #[ratioV 0 0, .int .i64 1]) (by simp [results, Try.results17, go_sem, c0, c1, ratioV]) rfl ⟨rfl, ?_⟩
    repeat (first | exact hF | refine Fr.setCell ?_ (.inr (by simp)) _ | refine Fr.alloc ?_ _)
  | true =>
    have h1 : errC [D, L, R] = 0 := (errC_ok hok).symm
    obtain ⟨hD, hL, hR⟩ := okC_three hok
    rw [h1] at hc
    clear h1
    by_cases hk : 1 ≤ p ∧ p ≤ 100
    · have hkb : knownB p = true := decide_eq_true hk
      have hV : costV D L R p = ratioV (redN (2000000 * D) (R * L) p) (redD (2000000 * D) (R * L) p) := by simp [costV, hok, hkb]
      have hE : costE D L R p = 0 := by simp [costE, hok, hkb]
      rw [hV, hE]
      obtain ⟨⟨b1, b2⟩, ⟨b3, b4⟩, ⟨b5, b6⟩⟩ := costN_bd (p := p) hL hR hk
      have hg := costG_pos (K := 2000000 * D) (M := R * L) hk.1
      obtain ⟨hD1, hD2⟩ := hD
      obtain ⟨hk1, hk2⟩ := hk
      have hkn := fun u => known_any p u
      rw [hkb] at hkn
      clear hV hE hok hkb
      go_enter Try.func17, Try.ntmps17
      go_wp2_with fail
      refine hc.mono ?_
      rintro e w1 ⟨rfl, hf⟩
      clear hc
      have hB := hf.blk HB1 (fun t => t)
      have hC := hf.blk HB0 (fun t => t)
      have hF : Pu w w1 := HF0.pu hf
      have c0 : w1.cell? ⟨w.heap.size, 0, none⟩ = some (.int .i64 D) := hC.cell 0
      have c1 : w1.cell? ⟨w.heap.size, 1, none⟩ = some (.int .i64 L) := hC.cell 1
      have c2 : w1.cell? ⟨w.heap.size, 2, none⟩ = some (.int .i64 R) := hC.cell 2
      go_wp2_with (go_at_call 19; refine (hkn _).mono ?_; rintro e w' ⟨rfl, rfl⟩)
      refine (gcdI_p (costN (2000000 * D) (R * L) p) (2 * p) _ (by unfold costN; omega) (by omega) (by unfold costN; omega) (by omega)).mono ?_
      rintro e w2 ⟨rfl, hf2⟩
      have hN : 2000000 * D + R * L * (p - 1) * p = costN (2000000 * D) (R * L) p := rfl
      have hG : (Int.gcd (costN (2000000 * D) (R * L) p) (2 * p) : Int) = costG (2000000 * D) (R * L) p := rfl
      rw [hN, hG]
      try rw [hN] at hf2
      have hN0 : 0 ≤ costN (2000000 * D) (R * L) p := by unfold costN; omega
      have hN1 : costN (2000000 * D) (R * L) p ≤ 9223372036854775807 := by unfold costN; omega
      have HE1 := Lib.hid (show costN (2000000 * D) (R * L) p / costG (2000000 * D) (R * L) p = redN (2000000 * D) (R * L) p from rfl)
      have HE2 := Lib.hid (show (2 * p) / costG (2000000 * D) (R * L) p = redD (2000000 * D) (R * L) p from rfl)
      clear hN hG
      generalize costN (2000000 * D) (R * L) p = N at *
      generalize costG (2000000 * D) (R * L) p = G at *
      have hB2 := hf2.blk hB (fun t => t)
      have hF2 : Pu w w2 := hF.pu hf2
      clear hF hB hC c0 c1 c2 b1 b2 b3 b4 b5 b6 hf HB0 HB1 HF0
      have c0 : w2.cell? ⟨w.heap.size + 1, 0, none⟩ = some (.int .i64 0) := hB2.cell 0
      have c1 : w2.cell? ⟨w.heap.size + 1, 1, none⟩ = some (.int .i64 0) := hB2.cell 1
      have f0 := hB2.frozen 0
      have f1 := hB2.frozen 1
      go_wp2_with fail
      go_region
      all_goals
        go_wp2_with fail
        refine bodyPost_ret (v := .tuple #[ratioV (N / G) ((2 * p) / G), .int .i64 0]) (by simp [results, Try.results17, go_sem, c0, c1, ratioV]) rfl ⟨by rw [HE1.out, HE2.out], ?_⟩
        repeat (first | exact hF2 | refine Fr.drew ?_ | refine Fr.setCell ?_ (.inr (by simp)) _ | refine Fr.alloc ?_ _)
    · have hkb : knownB p = false := decide_eq_false hk
      have hV : costV D L R p = ratioV 0 0 := by simp [costV, hkb]
      have hE : costE D L R p = 6 := by simp [costE, hok, hkb]
      rw [hV, hE]
      have hkn := fun u => known_any p u
      rw [hkb] at hkn
      clear hV hE hok hkb
      go_enter Try.func17, Try.ntmps17
      go_wp2_with fail
      refine hc.mono ?_
      rintro e w1 ⟨rfl, hf⟩
      clear hc
      have hB := hf.blk HB1 (fun t => t)
      have hF : Pu w w1 := HF0.pu hf
      have c0 := hB.cell 0
      have c1 := hB.cell 1
      have f0 := hB.frozen 0
      have f1 := hB.frozen 1
      go_wp2_with (go_at_call 19; refine (hkn _).mono ?_; rintro e w' ⟨rfl, rfl⟩)
      refine bodyPost_ret (v := .tuple #[ratioV 0 0, .int .i64 6]) (by simp [results, Try.results17, go_sem, c0, c1, ratioV]) rfl ⟨rfl, ?_⟩
      repeat (first | exact hF | refine Fr.setCell ?_ (.inr (by simp)) _ | refine Fr.alloc ?_ _)


end Go.Proofs.Ytmaikkanfhbiaaa
