/- Less of the reference; the best period of both. -/
import Derived.Test.YtmaikkanfhbiaaaPer3
namespace Go.Proofs.Ytmaikkanfhbiaaa
open Go.RowKit


/-- what Best gives -/
def bestV (D L R : Int) : Int := if okC [D, L, R] then (bestTo (2000000 * D) (R * L) 99 : Nat) else 0
/-- costs of two periods, compared as they are given -/
theorem lessS_red {D L R p q : Int} (hok : okC [D, L, R] = true) (hp : 1 ≤ p ∧ p ≤ 100) (hq : 1 ≤ q ∧ q ≤ 100) :
    lessS (redN (2000000 * D) (R * L) p) (redD (2000000 * D) (R * L) p) (redN (2000000 * D) (R * L) q) (redD (2000000 * D) (R * L) q) = lessP (2000000 * D) (R * L) p q := by
  obtain ⟨hD, hL, hR⟩ := okC_three hok
  obtain ⟨⟨b1, b2⟩, ⟨b3, b4⟩, ⟨b5, b6⟩⟩ := costN_bd (p := p) hL hR hp
  obtain ⟨⟨c1, c2⟩, ⟨c3, c4⟩, ⟨c5, c6⟩⟩ := costN_bd (p := q) hL hR hq
  have f1 := red_bd (K := 2000000 * D) (M := R * L) (p := p) ⟨by omega, by omega⟩ ⟨b1, b6, b5⟩ hp
  have f2 := red_bd (K := 2000000 * D) (M := R * L) (p := q) ⟨by omega, by omega⟩ ⟨b1, c6, c5⟩ hq
  have g1 : fineB (redN (2000000 * D) (R * L) p) (redD (2000000 * D) (R * L) p) = true := decide_eq_true (by omega)
  have g2 : fineB (redN (2000000 * D) (R * L) q) (redD (2000000 * D) (R * L) q) = true := decide_eq_true (by omega)
  unfold lessS
  rw [g1, g2, Bool.true_and, Bool.true_and]
  exact lessF_red hp.1 hq.1
theorem cost_ok {D L R p : Int} (hok : okC [D, L, R] = true) (hp : 1 ≤ p ∧ p ≤ 100) : costV D L R p = ratioV (redN (2000000 * D) (R * L) p) (redD (2000000 * D) (R * L) p) ∧ costE D L R p = 0 := by
  have hkb : knownB p = true := decide_eq_true hp
  exact ⟨by simp [costV, hok, hkb], by simp [costE, hok, hkb]⟩
theorem bestTo_pos {K M : Int} (k : Nat) : 1 ≤ bestTo K M k ∧ bestTo K M k ≤ k + 1 := by
  induction k with
  | zero => exact ⟨Nat.le_refl _, Nat.le_refl _⟩
  | succ k ih => simp only [bestTo]; split <;> omega
end Go.Proofs.Ytmaikkanfhbiaaa
