/- RatesAdvise: the walk. -/
import Derived.Test.YtmaikkanfhbiaaaRat2
import Derived.Deep.DeepCutAuto
namespace Go.Proofs.Ytmaikkanfhbiaaa
open Go.RowKit

theorem u16_bd {x : Int} (h : (Lit.int .u16 x).wf = true) : 0 ≤ x ∧ x ≤ 65535 := by
  simp [Lit.wf] at h; exact h
/-- the rate that is advised for -/
def rateR (i n : Int) : Int := if 1000000 * i / n ≤ 1000000 then 1000000 * i / n else 1000000
theorem rateR_bd {i n : Int} (hi : 0 ≤ i) (hn : 1 ≤ n) : 0 ≤ rateR i n ∧ rateR i n ≤ 1000000 := by
  have : 0 ≤ 1000000 * i / n := Int.ediv_nonneg (by omega) (by omega)
  unfold rateR; split <;> omega
theorem rateR_i {i j n : Int} (hij : i ≤ j) (hn : 1 ≤ n) : rateR i n ≤ rateR j n := by
  have : 1000000 * i / n ≤ 1000000 * j / n := Int.ediv_le_ediv (by omega) (by omega)
  unfold rateR; split <;> split <;> omega
theorem div_anti {a n m : Int} (ha : 0 ≤ a) (hn : 1 ≤ n) (hnm : n ≤ m) : a / m ≤ a / n := by
  rw [Int.le_ediv_iff_mul_le (by omega)]
  have h1 : a / m * n ≤ a / m * m := Int.mul_le_mul_of_nonneg_left hnm (Int.ediv_nonneg ha (by omega))
  have h2 := Int.ediv_mul_le a (b := m) (by omega)
  omega
theorem rateR_n {i n m : Int} (hi : 0 ≤ i) (hn : 1 ≤ n) (hnm : n ≤ m) : rateR i m ≤ rateR i n := by
  have : 1000000 * i / m ≤ 1000000 * i / n := div_anti (by omega) hn hnm
  unfold rateR; split <;> split <;> omega

set_option maxRecDepth 100000 in
set_option maxHeartbeats 1600000 in
theorem walk_RatesAdvise (x0 x1 x2 x3 x4 mo en dg lt : Int) (w : World) (h0 : (Lit.int .u16 x0).wf = true ∧ (Lit.int .u16 x1).wf = true ∧ (Lit.int .u16 x2).wf = true ∧ (Lit.int .u16 x3).wf = true ∧ (Lit.int .u16 x4).wf = true)
    (h1 : (Lit.int .u16 mo).wf = true) (h2 : (Lit.int .u16 en).wf = true) (h3 : (Lit.int .u16 dg).wf = true) (h4 : (Lit.int .u16 lt).wf = true) :
    Calls Try.prog 4 #[.agg #[.int .u16 x0, .int .u16 x1, .int .u16 x2, .int .u16 x3, .int .u16 x4], .int .u16 mo, .int .u16 en, .int .u16 dg, .int .u16 lt] w fun e w' => e = .returned (.bool true) ∧ Pu w w' := by
  obtain ⟨a0, a1, a2, a3, a4⟩ := h0
  have hst := fun u => stats_c x0 x1 x2 x3 x4 u (u16_bd a0) (u16_bd a1) (u16_bd a2) (u16_bd a3) (u16_bd a4)
  obtain ⟨p0, q0⟩ := u16_bd a0
  obtain ⟨p1, q1⟩ := u16_bd a1
  obtain ⟨p2, q2⟩ := u16_bd a2
  obtain ⟨p3, q3⟩ := u16_bd a3
  obtain ⟨p4, q4⟩ := u16_bd a4
  obtain ⟨pm, qm⟩ := u16_bd h1
  obtain ⟨pe, qe⟩ := u16_bd h2
  obtain ⟨pd, qd⟩ := u16_bd h3
  obtain ⟨pl, ql⟩ := u16_bd h4
  have f1 := Int.emod_nonneg x1 (b := x0 + 1) (by omega)
  have f2 := Int.emod_lt_of_pos x1 (b := x0 + 1) (by omega)
  have g1 := Int.emod_nonneg x2 (b := x1 % (x0 + 1) + 1) (by omega)
  have g2 := Int.emod_lt_of_pos x2 (b := x1 % (x0 + 1) + 1) (by omega)
  generalize x2 % (x1 % (x0 + 1) + 1) = R at *
  generalize x1 % (x0 + 1) = F at *
  have hOx : OkS x0 F R x3 (x3 / 2) x4 (x4 / 3) := ⟨by omega, by omega, by omega, by omega, by omega, by omega, by omega, by omega, by omega, by omega, by omega⟩
  have hOy : OkS (x0 + mo) F R x3 (x3 / 2) x4 (x4 / 3) := ⟨by omega, by omega, by omega, by omega, by omega, by omega, by omega, by omega, by omega, by omega, by omega⟩
  have r0 := rateR_bd (i := x0) (n := 1 + en) p0 (by omega)
  have r1 := rateR_bd (i := x0 + mo) (n := 1 + en) (by omega) (by omega)
  have r2 := rateR_bd (i := x0) (n := 1 + en + mo) p0 (by omega)
  have k0 : okC [dg, lt, rateR x0 (1 + en)] = true := okC_mk ⟨pd, by omega⟩ ⟨pl, by omega⟩ r0
  have k1 : okC [dg, lt, rateR (x0 + mo) (1 + en)] = true := okC_mk ⟨pd, by omega⟩ ⟨pl, by omega⟩ r1
  have k2 : okC [dg, lt, rateR x0 (1 + en + mo)] = true := okC_mk ⟨pd, by omega⟩ ⟨pl, by omega⟩ r2
  have v1 : bestV dg lt (rateR (x0 + mo) (1 + en)) ≤ bestV dg lt (rateR x0 (1 + en)) := best_le k0 k1 (Int.le_refl _) (Int.le_refl _) (rateR_i (by omega) (by omega))
  have v2 : bestV dg lt (rateR x0 (1 + en)) ≤ bestV dg lt (rateR x0 (1 + en + mo)) := best_le k2 k0 (Int.le_refl _) (Int.le_refl _) (rateR_n (by omega) (by omega) (by omega))
  have c0 := fun u => advise_c x0 F R x3 (x3 / 2) x4 (x4 / 3) (1 + en) dg lt _ u hOx (by omega) k0 rfl
  have c1 := fun u => advise_c (x0 + mo) F R x3 (x3 / 2) x4 (x4 / 3) (1 + en) dg lt _ u hOy (by omega) k1 rfl
  have c2 := fun u => advise_c x0 F R x3 (x3 / 2) x4 (x4 / 3) (1 + en + mo) dg lt _ u hOx (by omega) k2 rfl
  generalize bestV dg lt (rateR x0 (1 + en)) = b0 at *
  generalize bestV dg lt (rateR (x0 + mo) (1 + en)) = b1 at *
  generalize bestV dg lt (rateR x0 (1 + en + mo)) = b2 at *
  clear a0 a1 a2 a3 a4 h1 h2 h3 h4 r0 r1 r2 k0 k1 k2 hOx hOy
  have s1 : 0 ≤ x3 / 2 := by omega
  have s2 : 0 ≤ x4 / 3 := by omega
  generalize x3 / 2 = y3 at *
  generalize x4 / 3 = y4 at *
  unfold sV at *
  have HF : Pu w (w.alloc (.cells #[.int .u16 x0, .int .u16 x1, .int .u16 x2, .int .u16 x3, .int .u16 x4] 23)) := (Fr.refl _ w).alloc _
  go_enter Try.func4, Try.ntmps4
  go_wp2_with fail
  refine (hst _).mono ?_
  rintro e w1 ⟨rfl, hf⟩
  clear hst
  have HF1 := HF.pu hf
  have HB : Hid (∀ u, Pu ((w1.alloc (.cells #[.int .i64 x0, .int .i64 F, .int .i64 R, .int .i64 x3, .int .i64 y3, .int .i64 x4, .int .i64 y4] 25)).alloc (.cells #[.int .i64 (x0 + mo), .int .i64 F, .int .i64 R, .int .i64 x3, .int .i64 y3, .int .i64 x4, .int .i64 y4] 25)) u →
      Blk u w1.heap.size 25 #[.int .i64 x0, .int .i64 F, .int .i64 R, .int .i64 x3, .int .i64 y3, .int .i64 x4, .int .i64 y4] ∧ Blk u (w1.heap.size + 1) 25 #[.int .i64 (x0 + mo), .int .i64 F, .int .i64 R, .int .i64 x3, .int .i64 y3, .int .i64 x4, .int .i64 y4]) := fun u hu =>
    ⟨hu.blk ((Blk.new w1 _ _).alloc _) (fun t => t), hu.blk (by simpa using Blk.new (w1.alloc (.cells #[.int .i64 x0, .int .i64 F, .int .i64 R, .int .i64 x3, .int .i64 y3, .int .i64 x4, .int .i64 y4] 25)) 25 #[.int .i64 (x0 + mo), .int .i64 F, .int .i64 R, .int .i64 x3, .int .i64 y3, .int .i64 x4, .int .i64 y4]) (fun t => t)⟩
  go_wp2_with fail
  refine (c0 _).mono ?_
  rintro e w2 ⟨rfl, hf2⟩
  obtain ⟨B1, B2⟩ := HB.out _ hf2
  have y_0 := B1.cell 0
  have z_0 := B2.cell 0
  have y_1 := B1.cell 1
  have z_1 := B2.cell 1
  have y_2 := B1.cell 2
  have z_2 := B2.cell 2
  have y_3 := B1.cell 3
  have z_3 := B2.cell 3
  have y_4 := B1.cell 4
  have z_4 := B2.cell 4
  have y_5 := B1.cell 5
  have z_5 := B2.cell 5
  have y_6 := B1.cell 6
  have z_6 := B2.cell 6
  simp only [List.getElem?_toArray, List.getElem?_cons_zero, List.getElem?_cons_succ] at y_0 y_1 y_2 y_3 y_4 y_5 y_6 z_0 z_1 z_2 z_3 z_4 z_5 z_6
  clear B1 B2
  go_wp2_with fail
  refine (c1 _).mono ?_
  rintro e w3 ⟨rfl, hf3⟩
  obtain ⟨B1, B2⟩ := HB.out _ (hf2.pu hf3)
  have yy_0 := B1.cell 0
  have zz_0 := B2.cell 0
  have yy_1 := B1.cell 1
  have zz_1 := B2.cell 1
  have yy_2 := B1.cell 2
  have zz_2 := B2.cell 2
  have yy_3 := B1.cell 3
  have zz_3 := B2.cell 3
  have yy_4 := B1.cell 4
  have zz_4 := B2.cell 4
  have yy_5 := B1.cell 5
  have zz_5 := B2.cell 5
  have yy_6 := B1.cell 6
  have zz_6 := B2.cell 6
  simp only [List.getElem?_toArray, List.getElem?_cons_zero, List.getElem?_cons_succ] at yy_0 yy_1 yy_2 yy_3 yy_4 yy_5 yy_6 zz_0 zz_1 zz_2 zz_3 zz_4 zz_5 zz_6
  clear B1 B2
  go_wp2_with fail
  refine (c2 _).mono ?_
  rintro e w4 ⟨rfl, hf4⟩
  go_wp2_with fail
  refine (awake_any _).mono ?_
  rintro e w5 ⟨rfl, hf5⟩
  go_wp2_with fail
  go_ret
  exact ⟨rfl, ((((((HF1.alloc _).alloc _).pu hf2).pu hf3).pu hf4).pu hf5)⟩
end Go.Proofs.Ytmaikkanfhbiaaa
