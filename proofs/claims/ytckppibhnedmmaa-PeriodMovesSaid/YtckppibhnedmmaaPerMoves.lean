/- PeriodMoves: the walk. -/
import Derived.Test.YtckppibhnedmmaaPerBest
import Derived.Deep.DeepCutAuto
namespace Go.Proofs.Ytckppibhnedmmaa
open Go.RowKit

/-- the best period of right costs, and what is known of it beside another one -/
theorem best_of {D L R : Int} (hok : okC [D, L, R] = true) : ∃ b : Nat, bestV D L R = (b : Int) ∧ IsBest (2000000 * D) (R * L) 100 b := by
  obtain ⟨hD, hL, hR⟩ := okC_three hok
  exact ⟨_, by simp [bestV, hok], best_is (K := 2000000 * D) (M := R * L) (Int.mul_nonneg hR.1 hL.1) 99⟩
theorem okC_mk {D L R : Int} (hD : 0 ≤ D ∧ D ≤ 1000000) (hL : 0 ≤ L ∧ L ≤ 1000000) (hR : 0 ≤ R ∧ R ≤ 1000000) : okC [D, L, R] = true := by simp [okC, hD, hL, hR]
theorem best_le {D L R D' L' R' : Int} (hok : okC [D, L, R] = true) (hok' : okC [D', L', R'] = true) (hD : D' ≤ D) (hL : L ≤ L') (hR : R ≤ R') : bestV D' L' R' ≤ bestV D L R := by
  obtain ⟨b, e, hb⟩ := best_of hok
  obtain ⟨b', e', hb'⟩ := best_of hok'
  obtain ⟨h1, h2, h3⟩ := okC_three hok
  obtain ⟨h4, h5, h6⟩ := okC_three hok'
  have hm : R * L ≤ R' * L' := Int.mul_le_mul hR hL h2.1 h6.1
  have := hb'.mono hb (by omega) hm
  omega
theorem best_c {D L R : Int} (hok : okC [D, L, R] = true) (w : World) :
    Calls Try.prog 12 #[.agg #[.int .i64 D, .int .i64 L, .int .i64 R]] w fun e w' => e = .returned (.tuple #[.int .i64 (bestV D L R), .int .i64 0]) ∧ Pu w w' := by
  have := best_p D L R w
  rwa [← errC_ok hok] at this

theorem cell_drew {w : World} {a : Addr} {v : Value} (h : w.cell? a = some v) : w.drew.cell? a = some v := h
theorem cell_set {w : World} {p : Addr} {b o : Nat} {v u : Value} (h : w.cell? ⟨b, o, none⟩ = some v) (hp : b ≠ p.block) : (w.setCell p u).cell? ⟨b, o, none⟩ = some v := by
  rw [World.cell?_of_block (w := w) (Below.heap_setCell w p u b hp)]; exact h

set_option maxRecDepth 100000 in
set_option maxHeartbeats 4000000 in
theorem walk_PeriodMoves (dg lt rt more : Int) (w : World) (h0 : (Lit.int .u32 dg).wf = true) (h1 : (Lit.int .u32 lt).wf = true) (h2 : (Lit.int .u32 rt).wf = true) (h3 : (Lit.int .u32 more).wf = true) :
    Calls Try.prog 6 #[.int .u32 dg, .int .u32 lt, .int .u32 rt, .int .u32 more] w fun e w' => e = .returned (.bool true) ∧ Pu w w' := by
  have hc := costs_any dg lt rt w (u32_bd h0) (u32_bd h1) (u32_bd h2)
  have hok := okC_mod dg lt rt
  obtain ⟨m1, m2⟩ := u32_bd h3
  have hm0 := Int.emod_nonneg more (b := 100000) (by omega)
  have hm1 := Int.emod_lt_of_pos more (b := 100000) (by omega)
  generalize dg % 1000001 = D at *
  generalize lt % 1000001 = L at *
  generalize rt % 1000001 = R at *
  obtain ⟨hD, hL, hR⟩ := okC_three hok
  have hb0 := fun u => best_c hok u
  have hbx : ∀ r u, R ≤ r → r ≤ 1000000 → Calls Try.prog 12 #[.agg #[.int .i64 D, .int .i64 L, .int .i64 r]] u fun e w' => ∃ b : Int, e = .returned (.tuple #[.int .i64 b, .int .i64 0]) ∧ b ≤ bestV D L R ∧ Pu u w' := fun r u a1 a2 =>
    (best_c (okC_mk hD hL ⟨by omega, a2⟩) u).mono fun e w' ⟨h, hf⟩ => ⟨_, h, best_le hok (okC_mk hD hL ⟨by omega, a2⟩) (Int.le_refl _) (Int.le_refl _) a1, hf⟩
  have hby : ∀ r u, L ≤ r → r ≤ 1000000 → Calls Try.prog 12 #[.agg #[.int .i64 D, .int .i64 r, .int .i64 R]] u fun e w' => ∃ b : Int, e = .returned (.tuple #[.int .i64 b, .int .i64 0]) ∧ b ≤ bestV D L R ∧ Pu u w' := fun r u a1 a2 =>
    (best_c (okC_mk hD ⟨by omega, a2⟩ hR) u).mono fun e w' ⟨h, hf⟩ => ⟨_, h, best_le hok (okC_mk hD ⟨by omega, a2⟩ hR) (Int.le_refl _) a1 (Int.le_refl _), hf⟩
  have hbz : ∀ r u, D ≤ r → r ≤ 1000000 → Calls Try.prog 12 #[.agg #[.int .i64 r, .int .i64 L, .int .i64 R]] u fun e w' => ∃ b : Int, e = .returned (.tuple #[.int .i64 b, .int .i64 0]) ∧ bestV D L R ≤ b ∧ Pu u w' := fun r u a1 a2 =>
    (best_c (okC_mk ⟨by omega, a2⟩ hL hR) u).mono fun e w' ⟨h, hf⟩ => ⟨_, h, best_le (okC_mk ⟨by omega, a2⟩ hL hR) hok a1 (Int.le_refl _) (Int.le_refl _), hf⟩
  have hbs : ∀ u, Calls Try.prog 12 #[.agg #[.int .i64 D, .int .i64 L, .int .i64 0]] u fun e w' => ∃ b : Int, e = .returned (.tuple #[.int .i64 b, .int .i64 0]) ∧ Hid (D ≠ 0 → b = 100) ∧ Pu u w' := fun u => by
    have hok0 : okC [D, L, 0] = true := okC_mk hD hL ⟨by omega, by omega⟩
    obtain ⟨b, e, hb⟩ := best_of hok0
    refine (best_c hok0 u).mono fun e' w' ⟨h, hf⟩ => ⟨_, h, fun hne => ?_, hf⟩
    rw [Int.zero_mul] at hb
    have := hb.none_ (by omega)
    omega
  generalize bestV D L R = bv at *
  clear hok h0 h1 h2 h3
  obtain ⟨hD1, hD2⟩ := hD
  obtain ⟨hL1, hL2⟩ := hL
  obtain ⟨hR1, hR2⟩ := hR
  go_enter Try.func6, Try.ntmps6
  go_wp2_with fail
  refine hc.mono ?_
  rintro e w1 ⟨rfl, hf1⟩
  clear hc
  go_wp2_with fail
  refine (hb0 _).mono ?_
  rintro e w2 ⟨rfl, hf2⟩
  clear hb0
  have B9 := hf2.blk (Blk.new w1 30 #[.int .i64 D, .int .i64 L, .int .i64 R]) (fun t => t)
  have HF2 : Pu w w2 := (hf1.alloc _).pu hf2
  have hz9 : w.heap.size ≤ w1.heap.size := hf1.size
  clear hf1 hf2
  have hz := B9.lt
  generalize w1.heap.size = g9 at *
  have a0 : w2.cell? ⟨g9, 0, none⟩ = some (.int .i64 D) := B9.cell 0
  have a1 : w2.cell? ⟨g9, 1, none⟩ = some (.int .i64 L) := B9.cell 1
  have a2 : w2.cell? ⟨g9, 2, none⟩ = some (.int .i64 R) := B9.cell 2
  go_upto_region 3 with fail
  go_cut [12, 13, 14] (fun x y z u => ∃ p q r : Nat, x = .pointer (some ⟨p, 0, none⟩) ∧ y = .pointer (some ⟨q, 0, none⟩) ∧ z = .pointer (some ⟨r, 0, none⟩) ∧ Blk u p 30 #[.int .i64 D, .int .i64 L, .int .i64 R] ∧ Blk u q 30 #[.int .i64 D, .int .i64 L, .int .i64 R] ∧ Blk u r 30 #[.int .i64 D, .int .i64 L, .int .i64 R] ∧ Blk u g9 30 #[.int .i64 D, .int .i64 L, .int .i64 R] ∧ (p ≠ q ∧ p ≠ r ∧ q ≠ r ∧ p ≠ g9 ∧ q ≠ g9 ∧ r ≠ g9) ∧ w2.heap.size ≤ p ∧ w2.heap.size ≤ q ∧ w2.heap.size ≤ r ∧ Pu w u)
  case first =>
    have b01 : ∀ o1, (w2.alloc o1).cell? ⟨g9, 0, none⟩ = some (.int .i64 D) := fun o1 => cell_alloc a0
    have b02 : ∀ o1 o2, ((w2.alloc o1).alloc o2).cell? ⟨g9, 0, none⟩ = some (.int .i64 D) := fun o1 o2 => cell_alloc (cell_alloc a0)
    have b03 : ∀ o1 o2 o3, (((w2.alloc o1).alloc o2).alloc o3).cell? ⟨g9, 0, none⟩ = some (.int .i64 D) := fun o1 o2 o3 => cell_alloc (cell_alloc (cell_alloc a0))
    have b11 : ∀ o1, (w2.alloc o1).cell? ⟨g9, 1, none⟩ = some (.int .i64 L) := fun o1 => cell_alloc a1
    have b12 : ∀ o1 o2, ((w2.alloc o1).alloc o2).cell? ⟨g9, 1, none⟩ = some (.int .i64 L) := fun o1 o2 => cell_alloc (cell_alloc a1)
    have b13 : ∀ o1 o2 o3, (((w2.alloc o1).alloc o2).alloc o3).cell? ⟨g9, 1, none⟩ = some (.int .i64 L) := fun o1 o2 o3 => cell_alloc (cell_alloc (cell_alloc a1))
    have b21 : ∀ o1, (w2.alloc o1).cell? ⟨g9, 2, none⟩ = some (.int .i64 R) := fun o1 => cell_alloc a2
    have b22 : ∀ o1 o2, ((w2.alloc o1).alloc o2).cell? ⟨g9, 2, none⟩ = some (.int .i64 R) := fun o1 o2 => cell_alloc (cell_alloc a2)
    have b23 : ∀ o1 o2 o3, (((w2.alloc o1).alloc o2).alloc o3).cell? ⟨g9, 2, none⟩ = some (.int .i64 R) := fun o1 o2 o3 => cell_alloc (cell_alloc (cell_alloc a2))
    have hK := ((((Kp.nil w2).new 30 #[.int .i64 D, .int .i64 L, .int .i64 R]).new 30 #[.int .i64 D, .int .i64 L, .int .i64 R]).new 30 #[.int .i64 D, .int .i64 L, .int .i64 R]).drew
    have B9W := ((((B9.alloc (.cells #[.int .i64 D, .int .i64 L, .int .i64 R] 30)).alloc (.cells #[.int .i64 D, .int .i64 L, .int .i64 R] 30)).alloc (.cells #[.int .i64 D, .int .i64 L, .int .i64 R] 30)) : Blk (((w2.alloc (.cells #[.int .i64 D, .int .i64 L, .int .i64 R] 30)).alloc (.cells #[.int .i64 D, .int .i64 L, .int .i64 R] 30)).alloc (.cells #[.int .i64 D, .int .i64 L, .int .i64 R] 30)).drew g9 _ _)
    have HFW : Pu w (((w2.alloc (.cells #[.int .i64 D, .int .i64 L, .int .i64 R] 30)).alloc (.cells #[.int .i64 D, .int .i64 L, .int .i64 R] 30)).alloc (.cells #[.int .i64 D, .int .i64 L, .int .i64 R] 30)).drew := (((HF2.alloc _).alloc _).alloc _).drew
    simp only [World.size_alloc] at hK
    have k1 := hK (w2.heap.size, 30, #[.int .i64 D, .int .i64 L, .int .i64 R]) (by simp)
    have k2 := hK (w2.heap.size + 1, 30, #[.int .i64 D, .int .i64 L, .int .i64 R]) (by simp)
    have k3 := hK (w2.heap.size + 1 + 1, 30, #[.int .i64 D, .int .i64 L, .int .i64 R]) (by simp)
    clear hK
    replace k1 := Lib.hid k1
    replace k2 := Lib.hid k2
    replace k3 := Lib.hid k3
    replace B9W := Lib.hid B9W
    replace HFW := Lib.hid HFW
    go_region
    all_goals go_wp2_with fail
    all_goals go_meet
    · exact ⟨_, _, _, rfl, rfl, rfl, k1.out, k2.out, k3.out, B9W.out, by omega, by omega, by omega, by omega, HFW.out⟩
    · exact ⟨_, _, _, rfl, rfl, rfl, k1.out, k3.out, k2.out, B9W.out, by omega, by omega, by omega, by omega, HFW.out⟩
    · exact ⟨_, _, _, rfl, rfl, rfl, k2.out, k1.out, k3.out, B9W.out, by omega, by omega, by omega, by omega, HFW.out⟩
    · exact ⟨_, _, _, rfl, rfl, rfl, k3.out, k1.out, k2.out, B9W.out, by omega, by omega, by omega, by omega, HFW.out⟩
    · exact ⟨_, _, _, rfl, rfl, rfl, k2.out, k3.out, k1.out, B9W.out, by omega, by omega, by omega, by omega, HFW.out⟩
    · exact ⟨_, _, _, rfl, rfl, rfl, k3.out, k2.out, k1.out, B9W.out, by omega, by omega, by omega, by omega, HFW.out⟩
  case rest =>
    obtain ⟨p, q, r, rfl, rfl, rfl, Bp, Bq, Br, B9n, ⟨n1, n2, n3, n4, n5, n6⟩, l1, l2, l3, hf⟩ := hcut
    have hG := HF2.size
    clear B9 HF2 a0 a1 a2 hz
    generalize w2.heap.size = G0 at *
    have a0 : wc.cell? ⟨g9, 0, none⟩ = some (.int .i64 D) := B9n.cell 0
    have a1 : wc.cell? ⟨g9, 1, none⟩ = some (.int .i64 L) := B9n.cell 1
    have a2 : wc.cell? ⟨g9, 2, none⟩ = some (.int .i64 R) := B9n.cell 2
    have p0 : wc.cell? ⟨p, 0, none⟩ = some (.int .i64 D) := Bp.cell 0
    have p1 : wc.cell? ⟨p, 1, none⟩ = some (.int .i64 L) := Bp.cell 1
    have p2 : wc.cell? ⟨p, 2, none⟩ = some (.int .i64 R) := Bp.cell 2
    have q0 : wc.cell? ⟨q, 0, none⟩ = some (.int .i64 D) := Bq.cell 0
    have q1 : wc.cell? ⟨q, 1, none⟩ = some (.int .i64 L) := Bq.cell 1
    have q2 : wc.cell? ⟨q, 2, none⟩ = some (.int .i64 R) := Bq.cell 2
    have r0 : wc.cell? ⟨r, 0, none⟩ = some (.int .i64 D) := Br.cell 0
    have r1 : wc.cell? ⟨r, 1, none⟩ = some (.int .i64 L) := Br.cell 1
    have r2 : wc.cell? ⟨r, 2, none⟩ = some (.int .i64 R) := Br.cell 2
    have zp := Bp.lt
    have zq := Bq.lt
    have zr := Br.lt
    have z9 := B9n.lt
    have fp : ∀ i, wc.frozen? ⟨p, i, none⟩ = false := Bp.frozen
    have fq : ∀ i, wc.frozen? ⟨q, i, none⟩ = false := Bq.frozen
    have fr : ∀ i, wc.frozen? ⟨r, i, none⟩ = false := Br.frozen
    have f9 : ∀ i, wc.frozen? ⟨g9, i, none⟩ = false := B9n.frozen
    go_wp2_with fail
    all_goals
      refine (hbx _ _ (by omega) (by omega)).mono ?_
      rintro e w3 ⟨bx, rfl, hx, hf3⟩
      have Cq := hf3.blk (((Bq.far (p := ⟨p, 2, none⟩) n1.symm _).set_ 1 _).far (p := ⟨r, 0, none⟩) n3 _) (fun t => t)
      have Cr := hf3.blk (((Br.far (p := ⟨p, 2, none⟩) n2.symm _).far (p := ⟨q, 1, none⟩) n3.symm _).set_ 0 _) (fun t => t)
      have C9 := hf3.blk (((B9n.far (p := ⟨p, 2, none⟩) n4.symm _).far (p := ⟨q, 1, none⟩) n5.symm _).far (p := ⟨r, 0, none⟩) n6.symm _) (fun t => t)
      have HF3 := (((hf.setCell (p := ⟨p, 2, none⟩) (.inr (by show _ ≤ p; omega)) _).setCell (p := ⟨q, 1, none⟩) (.inr (by show _ ≤ q; omega)) _).setCell (p := ⟨r, 0, none⟩) (.inr (by show _ ≤ r; omega)) _).pu hf3
      clear Bp Bq Br B9n hf hf3 a0 a1 a2 p0 p1 p2 q0 q1 q2 r0 r1 r2 fp fq fr f9
      simp at Cq Cr
      have q0 := Cq.cell 0
      have q1 := Cq.cell 1
      have q2 := Cq.cell 2
      simp at q0 q1 q2
      go_wp2_with fail
      refine (hby _ _ (by omega) (by omega)).mono ?_
      rintro e w4 ⟨by_, rfl, hy, hf4⟩
      replace Cr := hf4.blk Cr (fun t => t)
      replace C9 := hf4.blk C9 (fun t => t)
      have HF4 := HF3.pu hf4
      clear Cq HF3 hf4 q0 q1 q2
      have r0 := Cr.cell 0
      have r1 := Cr.cell 1
      have r2 := Cr.cell 2
      simp at r0 r1 r2
      go_wp2_with fail
      refine (hbz _ _ (by omega) (by omega)).mono ?_
      rintro e w5 ⟨bz, rfl, hz, hf5⟩
      replace C9 := hf5.blk C9 (fun t => t)
      have HF5 := HF4.pu hf5
      clear Cr HF4 hf5 r0 r1 r2
      have a0 := C9.cell 0
      have a1 := C9.cell 1
      have a2 := C9.cell 2
      have f9 := C9.frozen
      simp at a0 a1 a2
      have z9 := C9.lt
      go_wp2_with fail
      refine (hbs _).mono ?_
      rintro e w6 ⟨bs, rfl, hs, hf6⟩
      have HF6 := (HF5.setCell (p := ⟨g9, 2, none⟩) (.inr (by show _ ≤ g9; omega)) _).pu hf6
      replace C9 := hf6.blk (C9.set_ 2 (.int .i64 0)) (fun t => t)
      clear HF5 hf6 a0 a1 a2 f9 z9
      simp at C9
      have a0 := C9.cell 0
      simp at a0
      have t1 : decide (bx ≤ bv) = true := decide_eq_true hx
      have t2 : decide (by_ ≤ bv) = true := decide_eq_true hy
      have t3 : decide (bv ≤ bz) = true := decide_eq_true hz
      by_cases hd : D = 0
      · have t4 : (D == 0) = true := by simpa using hd
        clear hd
        go_wp2_with fail
        refine (awake_any _).mono ?_
        rintro e w7 ⟨rfl, hf7⟩
        go_wp2_with fail
        go_ret
        exact ⟨rfl, HF6.pu hf7⟩
      · have t4 : (D == 0) = false := by simpa using hd
        obtain rfl := hs.out hd
        clear hd
        go_wp2_with fail
        refine (awake_any _).mono ?_
        rintro e w7 ⟨rfl, hf7⟩
        go_wp2_with fail
        go_ret
        exact ⟨rfl, HF6.pu hf7⟩
end Go.Proofs.Ytckppibhnedmmaa
