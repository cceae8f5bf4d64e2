/- Plain laws on costs, periods and fractions: no program in sight. -/
import Derived.Test.YtmaikkanfhbiaaaLib
namespace Go.Proofs.Ytmaikkanfhbiaaa

/-- the numerator of a period's cost, the denominator being 2p -/
def costN (K M p : Int) : Int := K + M * (p - 1) * p
/-- period p costs less than period q -/
def lessP (K M p q : Int) : Bool := decide (costN K M p * q < costN K M q * p)
theorem costN_cross (K M p q : Int) : costN K M p * q - costN K M q * p = (q - p) * (K - M * p * q) := by
  unfold costN
  have a1 : M * p * p * q = p * (M * p * q) := by rw [Int.mul_comm p, Int.mul_assoc (M * p), Int.mul_assoc (M * p), Int.mul_comm p q]
  have a2 : M * q * q * p = q * (M * p * q) := by rw [Int.mul_comm q (M * p * q), Int.mul_assoc M p q, Int.mul_comm p q, ← Int.mul_assoc, Int.mul_assoc (M * q), Int.mul_comm q p, ← Int.mul_assoc]
  have a4 : M * q * p = M * p * q := by rw [Int.mul_assoc, Int.mul_comm q, ← Int.mul_assoc]
  simp only [Int.mul_sub, Int.sub_mul, Int.add_mul, Int.mul_one]
  rw [a1, a2, a4, Int.mul_comm K q, Int.mul_comm K p]
  omega
theorem lessP_iff (K M p q : Int) : lessP K M p q = true ↔ (q - p) * (K - M * p * q) < 0 := by
  have := costN_cross K M p q
  unfold lessP
  rw [decide_eq_true_iff]
  constructor <;> intro h <;> omega
theorem lt_or_ge' (a b : Int) : a < b ∨ b ≤ a := by omega

theorem mul_nonneg' {a b : Int} (ha : 0 ≤ a) (hb : 0 ≤ b) : 0 ≤ a * b := Int.mul_nonneg ha hb
theorem less_lo {K M p q : Int} (h : p < q) : lessP K M p q = decide (K < M * p * q) := by
  rw [Bool.eq_iff_iff, lessP_iff, decide_eq_true_iff]
  constructor
  · intro hh
    rcases lt_or_ge' K (M * p * q) with h1 | h1
    · exact h1
    · have := Int.mul_nonneg (a := q - p) (b := K - M * p * q) (by omega) (by omega); omega
  · intro hh
    have := Int.mul_pos (a := q - p) (b := M * p * q - K) (by omega) (by omega)
    rw [Int.mul_sub] at this ⊢; omega
theorem less_hi {K M p q : Int} (h : q < p) : lessP K M p q = decide (M * p * q < K) := by
  rw [Bool.eq_iff_iff, lessP_iff, decide_eq_true_iff]
  constructor
  · intro hh
    rcases lt_or_ge' (M * p * q) K with h1 | h1
    · exact h1
    · have := Int.mul_nonneg (a := p - q) (b := M * p * q - K) (by omega) (by omega)
      have e : (p - q) * (M * p * q - K) = (q - p) * (K - M * p * q) := by
        rw [← Int.neg_mul_neg]; congr 1 <;> omega
      omega
  · intro hh
    have := Int.mul_pos (a := p - q) (b := K - M * p * q) (by omega) (by omega)
    have e : (q - p) * (K - M * p * q) = -((p - q) * (K - M * p * q)) := by
      rw [← Int.neg_mul]; congr 1; omega
    omega
theorem less_eq (K M p : Int) : lessP K M p p = false := by
  rw [Bool.eq_false_iff, ne_eq, lessP_iff]; simp

/-- the best of the first k periods: the first of the cheapest -/
def bestTo (K M : Int) : Nat → Nat
  | 0 => 1
  | k + 1 => if lessP K M (k + 2 : Nat) (bestTo K M k) then k + 2 else bestTo K M k
/-- p is best among 1 .. n -/
def IsBest (K M : Int) (n b : Nat) : Prop := 1 ≤ b ∧ b ≤ n ∧ (b = 1 ∨ M * b * (b - 1) < K) ∧ ∀ p : Nat, b < p → p ≤ n → K ≤ M * p * (p - 1)
theorem mulM {M a b c d : Int} (hM : 0 ≤ M) (ha : 0 ≤ a) (_hb : 0 ≤ b) (hac : a ≤ c) (hbd : b ≤ d) : M * a * b ≤ M * c * d := by
  have h1 : M * a ≤ M * c := Int.mul_le_mul_of_nonneg_left hac hM
  have h2 : M * a * b ≤ M * a * d := Int.mul_le_mul_of_nonneg_left hbd (Int.mul_nonneg hM ha)
  have h3 : M * a * d ≤ M * c * d := Int.mul_le_mul_of_nonneg_right h1 (by omega)
  omega
theorem best_is {K M : Int} (hM : 0 ≤ M) (k : Nat) : IsBest K M (k + 1) (bestTo K M k) := by
  induction k with
  | zero => exact ⟨Nat.le_refl _, Nat.le_refl _, .inl rfl, fun p h1 h2 => by simp [bestTo] at h1; omega⟩
  | succ k ih =>
    obtain ⟨h1, h2, h3, h4⟩ := ih
    simp only [bestTo]
    generalize bestTo K M k = b at *
    have hl : ((b : Nat) : Int) < ((k + 2 : Nat) : Int) := by omega
    rw [less_hi hl]
    by_cases hc : M * ((k + 2 : Nat) : Int) * (b : Int) < K
    · rw [decide_eq_true hc, if_pos rfl]
      have hb : b = k + 1 := by
        rcases Nat.lt_or_ge b (k + 1) with h | h
        · have := h4 (b + 1) (by omega) (by omega)
          have h5 : M * ((b + 1 : Nat) : Int) * (((b + 1 : Nat) : Int) - 1) ≤ M * ((k + 2 : Nat) : Int) * (b : Int) := mulM hM (by omega) (by omega) (by omega) (by omega)
          omega
        · omega
      subst hb
      refine ⟨by omega, by omega, .inr ?_, fun p hp1 hp2 => by omega⟩
      have e : ((k + 2 : Nat) : Int) - 1 = ((k + 1 : Nat) : Int) := by omega
      rw [e]; exact hc
    · rw [decide_eq_false hc, if_neg (by simp)]
      refine ⟨h1, by omega, h3, fun p hp1 hp2 => ?_⟩
      rcases Nat.lt_or_ge p (k + 2) with h | h
      · exact h4 p hp1 (by omega)
      · obtain rfl : p = k + 2 := by omega
        have h5 : M * ((k + 2 : Nat) : Int) * (b : Int) ≤ M * ((k + 2 : Nat) : Int) * (((k + 2 : Nat) : Int) - 1) := mulM hM (by omega) (by omega) (by omega) (by omega)
        omega
theorem IsBest.uniq {K M : Int} {n b b' : Nat} (h : IsBest K M n b) (h' : IsBest K M n b') : b = b' := by
  rcases Nat.lt_trichotomy b b' with hl | hl | hl
  · have := h.2.2.2 b' hl h'.2.1
    rcases h'.2.2.1 with e | e
    · have := h.1; omega
    · omega
  · exact hl
  · have := h'.2.2.2 b hl h.2.1
    rcases h.2.2.1 with e | e
    · have := h'.1; omega
    · omega
/-- nothing costs less than the best; what is less than it costs more; the cost falls up to it and rises behind it -/
theorem IsBest.laws {K M : Int} (hM : 0 ≤ M) {n b : Nat} (h : IsBest K M n b) {p : Nat} (hp1 : 1 ≤ p) (hpn : p ≤ n) :
    lessP K M p b = false ∧ (p < b → lessP K M b p = true) ∧ (2 ≤ p → p ≤ b → lessP K M (p - 1 : Nat) p = false) ∧ (b < p → lessP K M p (p - 1 : Nat) = false) := by
  obtain ⟨h1, h2, h3, h4⟩ := h
  refine ⟨?_, ?_, ?_, ?_⟩
  · rcases Nat.lt_trichotomy p b with hl | hl | hl
    · rw [less_lo (by omega)]
      rcases h3 with e | e
      · omega
      · have h5 : M * (p : Int) * (b : Int) ≤ M * (b : Int) * ((b : Int) - 1) := by
          have e1 : M * (p : Int) * (b : Int) = M * (b : Int) * (p : Int) := by rw [Int.mul_assoc, Int.mul_comm (p : Int), ← Int.mul_assoc]
          rw [e1]; exact mulM hM (by omega) (by omega) (by omega) (by omega)
        rw [decide_eq_false]; omega
    · subst hl; exact less_eq _ _ _
    · rw [less_hi (by omega)]
      have := h4 (b + 1) (by omega) (by omega)
      have h5 : M * ((b + 1 : Nat) : Int) * (((b + 1 : Nat) : Int) - 1) ≤ M * (p : Int) * (b : Int) := mulM hM (by omega) (by omega) (by omega) (by omega)
      rw [decide_eq_false]; omega
  · intro hl
    rw [less_hi (by omega)]
    rcases h3 with e | e
    · omega
    · have h5 : M * (b : Int) * (p : Int) ≤ M * (b : Int) * ((b : Int) - 1) := mulM hM (by omega) (by omega) (by omega) (by omega)
      rw [decide_eq_true]; omega
  · intro h5 h6
    rw [less_lo (by omega)]
    rcases h3 with e | e
    · omega
    · have h7 : M * ((p - 1 : Nat) : Int) * (p : Int) ≤ M * (b : Int) * ((b : Int) - 1) := by
        have e1 : M * ((p - 1 : Nat) : Int) * (p : Int) = M * (p : Int) * ((p - 1 : Nat) : Int) := by rw [Int.mul_assoc, Int.mul_comm ((p - 1 : Nat) : Int), ← Int.mul_assoc]
        rw [e1]; exact mulM hM (by omega) (by omega) (by omega) (by omega)
      rw [decide_eq_false]; omega
  · intro hl
    rw [less_hi (by omega)]
    have := h4 p hl hpn
    have e1 : ((p - 1 : Nat) : Int) = (p : Int) - 1 := by omega
    rw [e1, decide_eq_false]; omega
/-- greater costs of a digest do not shorten the best period, greater costs of a late find do not make it longer -/
theorem IsBest.mono {K M K' M' : Int} {n b b' : Nat} (h : IsBest K M n b) (h' : IsBest K' M' n b') (hK : K ≤ K') (hM : M' ≤ M) : b ≤ b' := by
  rcases Nat.lt_or_ge b' b with hl | hl
  · have h1 := h'.2.2.2 b hl h.2.1
    rcases h.2.2.1 with e | e
    · have := h'.1; omega
    · have h2 : M' * (b : Int) ≤ M * (b : Int) := Int.mul_le_mul_of_nonneg_right hM (by omega)
      have h3 : M' * (b : Int) * ((b : Int) - 1) ≤ M * (b : Int) * ((b : Int) - 1) := Int.mul_le_mul_of_nonneg_right h2 (by have := h.1; omega)
      omega
  · exact hl
theorem IsBest.none_ {K : Int} (hK : 0 < K) {n b : Nat} (h : IsBest K 0 n b) : b = n := by
  rcases Nat.lt_or_ge b n with hl | hl
  · have := h.2.2.2 n hl (Nat.le_refl _)
    simp at this; omega
  · have := h.2.1; omega

/-- a fraction is less than another one -/
def lessF (a b c d : Int) : Bool := decide (a * d < c * b)
theorem mul_swap (a b c : Int) : a * b * c = a * c * b := by rw [Int.mul_assoc, Int.mul_comm b, ← Int.mul_assoc]
theorem lessF_trans {a b c d e f : Int} (hb : 0 < b) (hd : 0 < d) (hf : 0 < f) (h1 : lessF a b c d = true) (h2 : lessF c d e f = true) : lessF a b e f = true := by
  unfold lessF at *
  simp only [decide_eq_true_eq] at *
  have i1 : a * d * f < c * b * f := Int.mul_lt_mul_of_pos_right h1 hf
  have i2 : c * f * b < e * d * b := Int.mul_lt_mul_of_pos_right h2 hb
  rw [mul_swap c b f] at i1
  rw [mul_swap e d b] at i2
  rw [mul_swap a d f] at i1
  have i3 : a * f * d < e * b * d := by omega
  exact Int.lt_of_mul_lt_mul_right i3 (by omega)
/-- a common factor is not looked at -/
theorem lessF_scale {a b c d k : Int} (hk : 0 < k) : lessF (a * k) (b * k) c d = lessF a b c d := by
  unfold lessF
  refine decide_eq_decide.2 ?_
  have e1 : a * k * d = a * d * k := mul_swap _ _ _
  have e2 : c * (b * k) = c * b * k := (Int.mul_assoc _ _ _).symm
  rw [e1, e2]
  exact ⟨fun h => Int.lt_of_mul_lt_mul_right h (by omega), fun h => Int.mul_lt_mul_of_pos_right h hk⟩
theorem lessF_scale' {a b c d k : Int} (hk : 0 < k) : lessF c d (a * k) (b * k) = lessF c d a b := by
  unfold lessF
  refine decide_eq_decide.2 ?_
  have e1 : a * k * d = a * d * k := mul_swap _ _ _
  have e2 : c * (b * k) = c * b * k := (Int.mul_assoc _ _ _).symm
  rw [e1, e2]
  exact ⟨fun h => Int.lt_of_mul_lt_mul_right h (by omega), fun h => Int.mul_lt_mul_of_pos_right h hk⟩
theorem lessF_irr (a b : Int) : lessF a b a b = false := by simp [lessF]
theorem lessF_asym {a b c d : Int} (h : lessF a b c d = true) : lessF c d a b = false := by
  unfold lessF at *; simp only [decide_eq_true_eq] at h; rw [decide_eq_false]; omega
end Go.Proofs.Ytmaikkanfhbiaaa
