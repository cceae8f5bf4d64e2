/- RatesAdd: the plain law on what lies between two fractions; the walk with its contracts. -/
import Derived.Test.YtmaikkanfhbiaaaRatAdd
namespace Go.Proofs.Ytmaikkanfhbiaaa
open Go.RowKit

theorem cov_red {f i : Int} (hi : 0 < i) (hf : 0 ≤ f) : ∃ g : Int, 0 < g ∧ cN f i * g = f ∧ cD f i * g = i ∧ cE i = 0 ∧ 1 ≤ cD f i ∧ cD f i ≤ i ∧ 0 ≤ cN f i ∧ cN f i ≤ f ∧ Int.gcd (cN f i) (cD f i) = 1 := by
  have h0 : ¬ i = 0 := by omega
  have hg : 0 < Int.gcd f i := Int.gcd_pos_of_ne_zero_right _ h0
  unfold cN cD cE
  rw [if_neg h0, if_neg h0, if_neg h0]
  have e1 : f / (Int.gcd f i : Nat) * (Int.gcd f i : Nat) = f := Int.ediv_mul_cancel (Int.gcd_dvd_left ..)
  have e2 : i / (Int.gcd f i : Nat) * (Int.gcd f i : Nat) = i := Int.ediv_mul_cancel (Int.gcd_dvd_right ..)
  have e3 : 0 ≤ i / (Int.gcd f i : Nat) := Int.ediv_nonneg (by omega) (by omega)
  have e4 : i / (Int.gcd f i : Nat) ≠ 0 := fun h => by rw [h] at e2; omega
  refine ⟨(Int.gcd f i : Nat), by omega, e1, e2, rfl, by omega, Int.ediv_le_self _ (by omega), Int.ediv_nonneg hf (by omega), Int.ediv_le_self _ hf, Int.gcd_ediv_gcd_ediv_gcd hg⟩
theorem not_less {a b c d : Int} (h : lessF a b c d = false) : c * b ≤ a * d := by
  have := of_decide_eq_false h; omega
/-- the fraction of both lies between the two -/
theorem between {f1 i1 f2 i2 : Int} (h1 : 0 < i1) (h2 : 0 < i2) (p1 : 0 ≤ f1 ∧ f1 ≤ i1) (p2 : 0 ≤ f2 ∧ f2 ≤ i2) :
    cN (f1 + f2) (i1 + i2) ≤ cD (f1 + f2) (i1 + i2) ∧ Int.gcd (cN (f1 + f2) (i1 + i2)) (cD (f1 + f2) (i1 + i2)) = 1 ∧
    ((cN f1 i1 * cD f2 i2 ≤ cN f2 i2 * cD f1 i1 ∧ cN f1 i1 * cD (f1 + f2) (i1 + i2) ≤ cN (f1 + f2) (i1 + i2) * cD f1 i1 ∧ cN (f1 + f2) (i1 + i2) * cD f2 i2 ≤ cN f2 i2 * cD (f1 + f2) (i1 + i2))
      ∨ (cN f2 i2 * cD f1 i1 < cN f1 i1 * cD f2 i2 ∧ cN f2 i2 * cD (f1 + f2) (i1 + i2) ≤ cN (f1 + f2) (i1 + i2) * cD f2 i2 ∧ cN (f1 + f2) (i1 + i2) * cD f1 i1 ≤ cN f1 i1 * cD (f1 + f2) (i1 + i2))) := by
  obtain ⟨g1, a1, a2, a3, _, a5, _, a7, _, _⟩ := cov_red h1 p1.1
  obtain ⟨g2, b1, b2, b3, _, b5, _, b7, _, _⟩ := cov_red h2 p2.1
  obtain ⟨g3, c1, c2, c3, _, c5, _, c7, _, c9⟩ := cov_red (f := f1 + f2) (i := i1 + i2) (by omega) (by omega)
  have l12 : lessF (cN f2 i2) (cD f2 i2) (cN f1 i1) (cD f1 i1) = lessF f2 i2 f1 i1 := by rw [← lessF_scale b1, b2, b3, ← lessF_scale' a1, a2, a3]
  have l31 : lessF (cN (f1 + f2) (i1 + i2)) (cD (f1 + f2) (i1 + i2)) (cN f1 i1) (cD f1 i1) = lessF (f1 + f2) (i1 + i2) f1 i1 := by rw [← lessF_scale c1, c2, c3, ← lessF_scale' a1, a2, a3]
  have l13 : lessF (cN f1 i1) (cD f1 i1) (cN (f1 + f2) (i1 + i2)) (cD (f1 + f2) (i1 + i2)) = lessF f1 i1 (f1 + f2) (i1 + i2) := by rw [← lessF_scale a1, a2, a3, ← lessF_scale' c1, c2, c3]
  have l23 : lessF (cN f2 i2) (cD f2 i2) (cN (f1 + f2) (i1 + i2)) (cD (f1 + f2) (i1 + i2)) = lessF f2 i2 (f1 + f2) (i1 + i2) := by rw [← lessF_scale b1, b2, b3, ← lessF_scale' c1, c2, c3]
  have l32 : lessF (cN (f1 + f2) (i1 + i2)) (cD (f1 + f2) (i1 + i2)) (cN f2 i2) (cD f2 i2) = lessF (f1 + f2) (i1 + i2) f2 i2 := by rw [← lessF_scale c1, c2, c3, ← lessF_scale' b1, b2, b3]
  have m1 : (f1 + f2) * i1 = f1 * i1 + f2 * i1 := Int.add_mul ..
  have m2 : (f1 + f2) * i2 = f1 * i2 + f2 * i2 := Int.add_mul ..
  have m3 : f1 * (i1 + i2) = f1 * i1 + f1 * i2 := Int.mul_add ..
  have m4 : f2 * (i1 + i2) = f2 * i1 + f2 * i2 := Int.mul_add ..
  refine ⟨?_, c9, ?_⟩
  · have h : (cN (f1 + f2) (i1 + i2)) * g3 ≤ (cD (f1 + f2) (i1 + i2)) * g3 := by rw [c2, c3]; omega
    exact Int.le_of_mul_le_mul_right h c1
  · by_cases hc : f2 * i1 < f1 * i2
    · right
      rw [lessF, lessF, decide_eq_true hc] at l12
      refine ⟨of_decide_eq_true l12, ?_, ?_⟩
      · refine not_less (l32.trans ?_)
        rw [lessF, m2, m4]; exact decide_eq_false (by omega)
      · refine not_less (l13.trans ?_)
        rw [lessF, m1, m3]; exact decide_eq_false (by omega)
    · left
      rw [lessF, lessF, decide_eq_false hc] at l12
      refine ⟨by have := of_decide_eq_false l12; omega, ?_, ?_⟩
      · refine not_less (l31.trans ?_)
        rw [lessF, m1, m3]; exact decide_eq_false (by omega)
      · refine not_less (l23.trans ?_)
        rw [lessF, m2, m4]; exact decide_eq_false (by omega)
theorem u16_bd {x : Int} (h : (Lit.int .u16 x).wf = true) : 0 ≤ x ∧ x ≤ 65535 := by
  simp [Lit.wf] at h; exact h
theorem stats_ok (x0 x1 x2 x3 x4 : Int) (h0 : 0 ≤ x0 ∧ x0 ≤ 65535) (h1 : 0 ≤ x1 ∧ x1 ≤ 65535) (h2 : 0 ≤ x2 ∧ x2 ≤ 65535) (h3 : 0 ≤ x3 ∧ x3 ≤ 65535) (h4 : 0 ≤ x4 ∧ x4 ≤ 65535) :
    ∃ F R la ls : Int, OkS x0 F R x3 la x4 ls ∧ ∀ u, Calls Try.prog 5 #[.agg #[.int .u16 x0, .int .u16 x1, .int .u16 x2, .int .u16 x3, .int .u16 x4]] u fun e w' => e = .returned (.agg (sV x0 F R x3 la x4 ls)) ∧ Pu u w' := by
  have f1 := Int.emod_nonneg x1 (b := x0 + 1) (by omega)
  have f2 := Int.emod_lt_of_pos x1 (b := x0 + 1) (by omega)
  have g1 := Int.emod_nonneg x2 (b := x1 % (x0 + 1) + 1) (by omega)
  have g2 := Int.emod_lt_of_pos x2 (b := x1 % (x0 + 1) + 1) (by omega)
  exact ⟨_, _, _, _, ⟨by omega, by omega, by omega, by omega, by omega, by omega, by omega, by omega, by omega, by omega, by omega⟩, fun u => stats_c x0 x1 x2 x3 x4 u h0 h1 h2 h3 h4⟩
theorem mx_ok {a b c d : Int} (h : a ≤ b) (h' : c ≤ d) (h0 : 0 ≤ a) (h1 : 0 ≤ c) : 0 ≤ mx a c ∧ mx a c ≤ b + d := by unfold mx; split <;> omega
theorem OkS.add {i f r l la lo ls i' f' r' l' la' lo' ls' : Int} (h : OkS i f r l la lo ls) (h' : OkS i' f' r' l' la' lo' ls') (b1 : i + i' ≤ 1073741824) (b2 : l + l' ≤ 1073741824) (b3 : lo + lo' ≤ 1073741824) :
    OkS (i + i') (f + f') (r + r') (l + l') (mx la la') (lo + lo') (mx ls ls') := by
  obtain ⟨⟨q1, _⟩, ⟨q2, _⟩, ⟨q3, _⟩, ⟨q4, _⟩, ⟨q5, _⟩, ⟨q6, _⟩, ⟨q7, _⟩, q8, q9, q10, q11⟩ := h
  obtain ⟨⟨z1, _⟩, ⟨z2, _⟩, ⟨z3, _⟩, ⟨z4, _⟩, ⟨z5, _⟩, ⟨z6, _⟩, ⟨z7, _⟩, z8, z9, z10, z11⟩ := h'
  have m1 := mx_ok q10 z10 q5 z5
  have m2 := mx_ok q11 z11 q7 z7
  exact ⟨by omega, by omega, by omega, by omega, by omega, by omega, by omega, by omega, by omega, by omega, by omega⟩

set_option maxHeartbeats 1000000 in
theorem walk_RatesAdd (A0 A1 A2 A3 A4 B0 B1 B2 B3 B4 C0 C1 C2 C3 C4 : Int) (w : World) (ha : (Lit.int .u16 A0).wf = true ∧ (Lit.int .u16 A1).wf = true ∧ (Lit.int .u16 A2).wf = true ∧ (Lit.int .u16 A3).wf = true ∧ (Lit.int .u16 A4).wf = true) (hb : (Lit.int .u16 B0).wf = true ∧ (Lit.int .u16 B1).wf = true ∧ (Lit.int .u16 B2).wf = true ∧ (Lit.int .u16 B3).wf = true ∧ (Lit.int .u16 B4).wf = true) (hc : (Lit.int .u16 C0).wf = true ∧ (Lit.int .u16 C1).wf = true ∧ (Lit.int .u16 C2).wf = true ∧ (Lit.int .u16 C3).wf = true ∧ (Lit.int .u16 C4).wf = true) :
    Calls Try.prog 3 #[.agg #[.int .u16 A0, .int .u16 A1, .int .u16 A2, .int .u16 A3, .int .u16 A4], .agg #[.int .u16 B0, .int .u16 B1, .int .u16 B2, .int .u16 B3, .int .u16 B4], .agg #[.int .u16 C0, .int .u16 C1, .int .u16 C2, .int .u16 C3, .int .u16 C4]] w fun e w' => e = .returned (.bool true) ∧ Pu w w' := by
  obtain ⟨a0, a1, a2, a3, a4⟩ := ha
  obtain ⟨Fa, Ra, La, Sa, oka, hra⟩ := stats_ok A0 A1 A2 A3 A4 (u16_bd a0) (u16_bd a1) (u16_bd a2) (u16_bd a3) (u16_bd a4)
  have ka0 := u16_bd a0
  have ka3 := u16_bd a3
  have ka4 := u16_bd a4
  obtain ⟨b0, b1, b2, b3, b4⟩ := hb
  obtain ⟨Fb, Rb, Lb, Sb, okb, hrb⟩ := stats_ok B0 B1 B2 B3 B4 (u16_bd b0) (u16_bd b1) (u16_bd b2) (u16_bd b3) (u16_bd b4)
  have kb0 := u16_bd b0
  have kb3 := u16_bd b3
  have kb4 := u16_bd b4
  obtain ⟨c0, c1, c2, c3, c4⟩ := hc
  obtain ⟨Fc, Rc, Lc, Sc, okc, hrc⟩ := stats_ok C0 C1 C2 C3 C4 (u16_bd c0) (u16_bd c1) (u16_bd c2) (u16_bd c3) (u16_bd c4)
  have kc0 := u16_bd c0
  have kc3 := u16_bd c3
  have kc4 := u16_bd c4
  have okp := oka.add okb (by omega) (by omega) (by omega)
  have okq := okb.add okc (by omega) (by omega) (by omega)
  have hxy := fun u => add_c _ _ _ _ _ _ _ _ _ _ _ _ _ _ u oka okb (by omega) (by omega) (by omega)
  have hyx := fun u => add_c _ _ _ _ _ _ _ _ _ _ _ _ _ _ u okb oka (by omega) (by omega) (by omega)
  have hpz := fun u => add_c _ _ _ _ _ _ _ _ _ _ _ _ _ _ u okp okc (by omega) (by omega) (by omega)
  have hyz := fun u => add_c _ _ _ _ _ _ _ _ _ _ _ _ _ _ u okb okc (by omega) (by omega) (by omega)
  have hxr := fun u => add_c _ _ _ _ _ _ _ _ _ _ _ _ _ _ u oka okq (by omega) (by omega) (by omega)
  rw [Int.add_comm B0 A0, Int.add_comm Fb Fa, Int.add_comm Rb Ra, Int.add_comm B3 A3, mx_comm Lb La, Int.add_comm B4 A4, mx_comm Sb Sa] at hyx
  rw [← Int.add_assoc A0, ← Int.add_assoc Fa, ← Int.add_assoc Ra, ← Int.add_assoc A3, ← mx_assoc La, ← Int.add_assoc A4, ← mx_assoc Sa] at hxr
  have hcx := fun u => cov_c _ _ _ _ _ _ _ u oka
  have hcy := fun u => cov_c _ _ _ _ _ _ _ u okb
  have hcp := fun u => cov_c _ _ _ _ _ _ _ u okp
  have bd : ∀ {f i : Int}, 0 ≤ i → i ≤ 200000 → 0 ≤ f → f ≤ i → (0 ≤ cN f i ∧ cN f i ≤ 200000) ∧ (0 ≤ cD f i ∧ cD f i ≤ 200000) := fun {f i} h1 h2 h3 h4 => by
    by_cases h0 : i = 0
    · subst h0; exact ⟨by unfold cN; rw [if_pos rfl]; omega, by unfold cD; rw [if_pos rfl]; omega⟩
    · obtain ⟨g, _, _, _, _, e5, e6, e7, e8, _⟩ := cov_red (f := f) (i := i) (by omega) h3
      omega
  obtain ⟨d1, d2⟩ := bd (f := Fa) (i := A0) (by omega) (by omega) oka.bf.1 oka.fi
  obtain ⟨d3, d4⟩ := bd (f := Fb) (i := B0) (by omega) (by omega) okb.bf.1 okb.fi
  obtain ⟨d5, d6⟩ := bd (f := Fa + Fb) (i := A0 + B0) (by omega) (by omega) okp.bf.1 okp.fi
  refine radd_core _ _ _ _ _ _ _ _ _ _ _ _ _ _ _ _ _ _ _ _ _ _ _ _ _ _ _ _ _ _ _ _ _ _ _ _ _ _ _ _ _ _ _ _ _ _ _ _ _ _ _ _ _ _ _ _ _ _ _ _ _ _ _ _ _ _ w hra hrb hrc hxy hyx hpz hyz hxr hcx hcy hcp d1 d2 d3 d4 d5 d6 ?_
  by_cases x0 : A0 = 0
  · left
    by_cases y0 : B0 = 0
    · left; rw [x0, y0]; exact ⟨rfl, rfl, rfl⟩
    · right; left
      have hb0 : cE B0 = 0 := if_neg y0
      have hp0 : cE (A0 + B0) = 0 := if_neg (by omega)
      exact ⟨by rw [x0]; rfl, hb0, hp0⟩
  · by_cases y0 : B0 = 0
    · left; right; right
      have ha0 : cE A0 = 0 := if_neg x0
      have hp0 : cE (A0 + B0) = 0 := if_neg (by omega)
      exact ⟨ha0, by rw [y0]; rfl, hp0⟩
    · right
      have ha0 : cE A0 = 0 := if_neg x0
      have hb0 : cE B0 = 0 := if_neg y0
      have hp0 : cE (A0 + B0) = 0 := if_neg (by omega)
      exact ⟨⟨ha0, hb0, hp0⟩, between (by omega) (by omega) ⟨oka.bf.1, oka.fi⟩ ⟨okb.bf.1, okb.fi⟩⟩
end Go.Proofs.Ytmaikkanfhbiaaa
