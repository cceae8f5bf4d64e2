/- PeriodOrder: the walk. -/
import Derived.Test.YtckppibhnedmmaaPerBest
import Derived.Deep.DeepCutAuto
import Derived.Test.YtckppibhnedmmaaInv
namespace Go.Proofs.Ytckppibhnedmmaa
open Go.RowKit

/-- the denominator out of a number -/
def denO (b : Int) : Int := 1 + (if b < 0 then -b else b) % 1000000
theorem denO_bd (b : Int) : 1 ≤ denO b ∧ denO b ≤ 1000000 := by unfold denO; split <;> omega
theorem i32_bd {a : Int} (h : (Lit.int .i32 a).wf = true) : -2147483648 ≤ a ∧ a ≤ 2147483647 := by
  simp [Lit.wf] at h; exact h

set_option maxRecDepth 100000 in
theorem ratio_c (a b : Int) (w : World) (ha : -2147483648 ≤ a ∧ a ≤ 2147483647) (hb : -2147483648 ≤ b ∧ b ≤ 2147483647) :
    Calls Try.prog 7 #[.agg #[.int .i32 a, .int .i32 b]] w fun e w' => e = .returned (.agg #[.int .i64 a, .int .i64 (denO b)]) ∧ Pu w w' := by
  obtain ⟨b1, b2⟩ := hb
  have hbd := denO_bd b
  have ea : wrap64 a = a := IntWalk.wrap64_in _ ⟨by omega, by omega⟩
  have ed : wrap64 (denO b) = denO b := IntWalk.wrap64_in _ ⟨by omega, by omega⟩
  clear hbd
  go_enter Try.func7, Try.ntmps7
  by_cases hn : b < 0
  · have hd : 1 + -b.tmod 1000000 = denO b := by unfold denO; rw [if_pos hn, ← Int.neg_tmod, Int.tmod_eq_emod_of_nonneg (by omega)]
    go_wp2_with fail
    refine bodyPost_ret (v := .agg #[.int .i64 a, .int .i64 (denO b)]) (by simp [results, Try.results7, go_sem]; first | exact ⟨ea, by rw [hd]; exact ed⟩ | exact ea | (rw [hd]; exact ed) | skip) rfl ⟨rfl, ?_⟩
    exact ((Fr.refl _ w).alloc _).alloc _
  · have hd : 1 + b % 1000000 = denO b := by unfold denO; rw [if_neg hn]
    go_wp2_with fail
    refine bodyPost_ret (v := .agg #[.int .i64 a, .int .i64 (denO b)]) (by simp [results, Try.results7, go_sem]; first | exact ⟨ea, by rw [hd]; exact ed⟩ | exact ea | (rw [hd]; exact ed) | skip) rfl ⟨rfl, ?_⟩
    exact ((Fr.refl _ w).alloc _).alloc _

/-- a cell's contents, one after the other -/
def RB (w : World) (g : Nat) (t : TypeId) (a b : Value) : Prop := Blk w g t #[a, b]

theorem mul_bd2 {a k : Int} (h1 : -2147483648 ≤ a) (h2 : a ≤ 2147483647) (h3 : 1 ≤ k) (h4 : k ≤ 256) : -549755813888 ≤ a * k ∧ a * k ≤ 549755813888 := by
  have i1 : a * k ≤ 2147483648 * k := Int.mul_le_mul_of_nonneg_right (by omega) (by omega)
  have i2 : (-2147483648) * k ≤ a * k := Int.mul_le_mul_of_nonneg_right h1 (by omega)
  omega
theorem mul_bd2' {a d : Int} (h1 : -2147483648 ≤ a) (h2 : a ≤ 2147483647) (h : 1 ≤ d ∧ d ≤ 1000000) : -2147483648000000 ≤ a * d ∧ a * d ≤ 2147483648000000 := by
  have i1 : a * d ≤ 2147483648 * d := Int.mul_le_mul_of_nonneg_right (by omega) (by omega)
  have i2 : (-2147483648) * d ≤ a * d := Int.mul_le_mul_of_nonneg_right h1 (by omega)
  omega
theorem mul_bd3 {d k : Int} (h : 1 ≤ d ∧ d ≤ 1000000) (h3 : 1 ≤ k) (h4 : k ≤ 256) : 1 ≤ d * k ∧ d * k ≤ 256000000 := by
  have i1 : d * k ≤ 1000000 * k := Int.mul_le_mul_of_nonneg_right h.2 (by omega)
  have i2 : 1 * k ≤ d * k := Int.mul_le_mul_of_nonneg_right h.1 (by omega)
  omega
theorem lessS_fine {a b c d : Int} (h1 : 1 ≤ b ∧ b ≤ 1073741824 ∧ -1152921504606846976 ≤ a ∧ a ≤ 1152921504606846976) (h2 : 1 ≤ d ∧ d ≤ 1073741824 ∧ -1152921504606846976 ≤ c ∧ c ≤ 1152921504606846976) : lessS a b c d = lessF a b c d := by
  simp [lessS, fineB, h1, h2]

/-- what is known in the midst of the first statement -/
def OrdF (a0 a1 b0 b1 c0 c1 xd yd zd : Int) (W0 : World) (L : Nat → Bool) (x9 x10 x11 x13 x14 x15 x16 x17 x18 : Value) (p q r : Nat) (u : World) : Prop :=
  Pu W0 u
      ∧ (L 0 = true → x13 = .agg #[.int .i32 a0, .int .i32 a1]) ∧ (L 2 = true → x15 = .agg #[.int .i32 b0, .int .i32 b1]) ∧ (L 4 = true → x17 = .agg #[.int .i32 c0, .int .i32 c1])
      ∧ (L 1 = true → x14 = .agg #[.int .i64 a0, .int .i64 xd]) ∧ (L 3 = true → x16 = .agg #[.int .i64 b0, .int .i64 yd]) ∧ (L 5 = true → x18 = .agg #[.int .i64 c0, .int .i64 zd])
      ∧ (L 6 = true → x9 = .pointer (some ⟨p, 0, none⟩) ∧ Blk u p 24 (if L 9 = true then #[.int .i64 a0, .int .i64 xd] else #[.int .i64 0, .int .i64 0]) ∧ W0.heap.size ≤ p)
      ∧ (L 7 = true → x10 = .pointer (some ⟨q, 0, none⟩) ∧ Blk u q 24 (if L 10 = true then #[.int .i64 b0, .int .i64 yd] else #[.int .i64 0, .int .i64 0]) ∧ W0.heap.size ≤ q)
      ∧ (L 8 = true → x11 = .pointer (some ⟨r, 0, none⟩) ∧ Blk u r 24 (if L 11 = true then #[.int .i64 c0, .int .i64 zd] else #[.int .i64 0, .int .i64 0]) ∧ W0.heap.size ≤ r)
      ∧ (L 6 = true → L 7 = true → p ≠ q) ∧ (L 6 = true → L 8 = true → p ≠ r) ∧ (L 7 = true → L 8 = true → q ≠ r) ∧ (L 9 = true → L 6 = true) ∧ (L 10 = true → L 7 = true) ∧ (L 11 = true → L 8 = true)
def OrdI (a0 a1 b0 b1 c0 c1 xd yd zd : Int) (W0 : World) (a : Act) (L : Nat → Bool) (b : Act) (u : World) : Prop :=
  ∃ (x9 x10 x11 x13 x14 x15 x16 x17 x18 : Value) (p q r : Nat), b = ((((((((a.put (some 9) x9).put (some 10) x10).put (some 11) x11).put (some 13) x13).put (some 14) x14).put (some 15) x15).put (some 16) x16).put (some 17) x17).put (some 18) x18 ∧ OrdF a0 a1 b0 b1 c0 c1 xd yd zd W0 L x9 x10 x11 x13 x14 x15 x16 x17 x18 p q r u

set_option maxRecDepth 100000 in
set_option maxHeartbeats 8000000 in
theorem walk_PeriodOrder (a0 a1 b0 b1 c0 c1 k : Int) (w : World) (ha : (Lit.int .i32 a0).wf = true ∧ (Lit.int .i32 a1).wf = true) (hb : (Lit.int .i32 b0).wf = true ∧ (Lit.int .i32 b1).wf = true) (hc : (Lit.int .i32 c0).wf = true ∧ (Lit.int .i32 c1).wf = true) (hk : (Lit.int .u8 k).wf = true) :
    Calls Try.prog 3 #[.agg #[.int .i32 a0, .int .i32 a1], .agg #[.int .i32 b0, .int .i32 b1], .agg #[.int .i32 c0, .int .i32 c1], .int .u8 k] w fun e w' => e = .returned (.bool true) ∧ Pu w w' := by
  have hra := fun u => ratio_c a0 a1 u (i32_bd ha.1) (i32_bd ha.2)
  have hrb := fun u => ratio_c b0 b1 u (i32_bd hb.1) (i32_bd hb.2)
  have hrc := fun u => ratio_c c0 c1 u (i32_bd hc.1) (i32_bd hc.2)
  have hxd := denO_bd a1
  have hyd := denO_bd b1
  have hzd := denO_bd c1
  generalize denO a1 = xd at *
  generalize denO b1 = yd at *
  generalize denO c1 = zd at *
  obtain ⟨hx1, hx2⟩ := i32_bd ha.1
  obtain ⟨hy1, hy2⟩ := i32_bd hb.1
  obtain ⟨hz1, hz2⟩ := i32_bd hc.1
  clear ha hb hc
  have HK : Kp [(w.heap.size + 2, 22, #[.int .i32 c0, .int .i32 c1]), (w.heap.size + 1, 22, #[.int .i32 b0, .int .i32 b1]), (w.heap.size, 22, #[.int .i32 a0, .int .i32 a1])] (((w.alloc (.cells #[.int .i32 a0, .int .i32 a1] 22)).alloc (.cells #[.int .i32 b0, .int .i32 b1] 22)).alloc (.cells #[.int .i32 c0, .int .i32 c1] 22)) := by
    have := (((Kp.nil w).new 22 #[.int .i32 a0, .int .i32 a1]).new 22 #[.int .i32 b0, .int .i32 b1]).new 22 #[.int .i32 c0, .int .i32 c1]
    simpa [Nat.add_assoc] using this
  have HF : Pu w (((w.alloc (.cells #[.int .i32 a0, .int .i32 a1] 22)).alloc (.cells #[.int .i32 b0, .int .i32 b1] 22)).alloc (.cells #[.int .i32 c0, .int .i32 c1] 22)) := (((Fr.refl _ w).alloc _).alloc _).alloc _
  go_enter Try.func3, Try.ntmps3
  go_upto_region 1 with fail
  generalize hW0 : ((w.alloc (.cells #[.int .i32 a0, .int .i32 a1] 22)).alloc (.cells #[.int .i32 b0, .int .i32 b1] 22)).alloc (.cells #[.int .i32 c0, .int .i32 c1] 22) = W0 at *
  go_cut [9, 10, 11] (fun x y z u => ∃ p q r : Nat, x = .pointer (some ⟨p, 0, none⟩) ∧ y = .pointer (some ⟨q, 0, none⟩) ∧ z = .pointer (some ⟨r, 0, none⟩) ∧ Blk u p 24 #[.int .i64 a0, .int .i64 xd] ∧ Blk u q 24 #[.int .i64 b0, .int .i64 yd] ∧ Blk u r 24 #[.int .i64 c0, .int .i64 zd] ∧ Pu w u)
  case first =>
    refine wp_region_inv (OrdI a0 a1 b0 b1 c0 c1 xd yd zd W0) (by kernel_rfl) (by kernel_rfl) ?_ ?_ ?_
    · refine ⟨undef, undef, undef, undef, undef, undef, undef, undef, undef, 0, 0, 0, by go_simp, (Fr.refl _ W0).drew, ?_⟩
      simp
    · intro L b u i ⟨x9, x10, x11, x13, x14, x15, x16, x17, x18, p, q, r, hb, hF0⟩ hi h0 hl
      subst hb
      replace hi : i < 12 := hi
      rcases (by omega : i = 0 ∨ i = 1 ∨ i = 2 ∨ i = 3 ∨ i = 4 ∨ i = 5 ∨ i = 6 ∨ i = 7 ∨ i = 8 ∨ i = 9 ∨ i = 10 ∨ i = 11) with rfl | rfl | rfl | rfl | rfl | rfl | rfl | rfl | rfl | rfl | rfl | rfl
      · -- step 0
        clear hl hi
        replace hF0 := Lib.hid hF0; replace hra := Lib.hid hra; replace hrb := Lib.hid hrb; replace hrc := Lib.hid hrc
        refine wpOp_step (by simp only [List.getElem?_toArray, List.getElem?_cons_zero]; rfl) (fun K hK => ?_)
        replace hK := Lib.hid hK
        have q0 : u.cell? ⟨w.heap.size, 0, none⟩ = some (.int .i32 a0) := (HK.pu hF0.out.1).at_ (t := 22) (cs := #[.int .i32 a0, .int .i32 a1]) (by simp) 0
        have q1 : u.cell? ⟨w.heap.size, 1, none⟩ = some (.int .i32 a1) := (HK.pu hF0.out.1).at_ (t := 22) (cs := #[.int .i32 a0, .int .i32 a1]) (by simp) 1
        clear HK hW0 HF
        go_simp
        obtain ⟨hu, e0, e2, e4, e1, e3, e5, e6, e7, e8, n1, n2, n3, m1, m2, m3⟩ := hF0.out
        exact hK.out _ _ ⟨x9, x10, x11, _, x14, x15, x16, x17, x18, p, q, r, by go_simp, hu, fun _ => rfl, e2, e4, e1, e3, e5, e6, e7, e8, n1, n2, n3, m1, m2, m3⟩
      · -- step 1
        have hlo := fun e he => hl _ (by simp only [List.getElem?_toArray, List.getElem?_cons_succ, List.getElem?_cons_zero]; rfl) e he
        have l0 : L 0 = true := hlo ⟨0, .data⟩ (by simp) rfl
        clear hlo
        clear hl hi
        replace hF0 := Lib.hid hF0; replace hra := Lib.hid hra; replace hrb := Lib.hid hrb; replace hrc := Lib.hid hrc
        have ex : x13 = .agg #[.int .i32 a0, .int .i32 a1] := by obtain ⟨hu, e0, e2, e4, e1, e3, e5, e6, e7, e8, n1, n2, n3, m1, m2, m3⟩ := hF0.out; exact e0 l0
        subst ex
        refine wpOp_step (by simp only [List.getElem?_toArray, List.getElem?_cons_succ, List.getElem?_cons_zero]; rfl) (fun K hK => ?_)
        replace hK := Lib.hid hK
        clear HK hW0 HF
        go_wp2_with fail
        refine (hra.out _).mono ?_
        rintro e u' ⟨rfl, hf⟩
        obtain ⟨hu, e0, e2, e4, e1, e3, e5, e6, e7, e8, n1, n2, n3, m1, m2, m3⟩ := hF0.out
        go_wp2_with fail
        exact hK.out _ _ ⟨x9, x10, x11, _, _, x15, x16, x17, x18, p, q, r, by go_simp, hu.pu hf, fun _ => rfl, e2, e4, fun _ => rfl, e3, e5, fun l => ⟨(e6 l).1, hf.blk (e6 l).2.1 (fun t => t), (e6 l).2.2⟩, fun l => ⟨(e7 l).1, hf.blk (e7 l).2.1 (fun t => t), (e7 l).2.2⟩, fun l => ⟨(e8 l).1, hf.blk (e8 l).2.1 (fun t => t), (e8 l).2.2⟩, n1, n2, n3, m1, m2, m3⟩
      · -- step 2
        clear hl hi
        replace hF0 := Lib.hid hF0; replace hra := Lib.hid hra; replace hrb := Lib.hid hrb; replace hrc := Lib.hid hrc
        refine wpOp_step (by simp only [List.getElem?_toArray, List.getElem?_cons_succ, List.getElem?_cons_zero]; rfl) (fun K hK => ?_)
        replace hK := Lib.hid hK
        have q0 : u.cell? ⟨w.heap.size + 1, 0, none⟩ = some (.int .i32 b0) := (HK.pu hF0.out.1).at_ (t := 22) (cs := #[.int .i32 b0, .int .i32 b1]) (by simp) 0
        have q1 : u.cell? ⟨w.heap.size + 1, 1, none⟩ = some (.int .i32 b1) := (HK.pu hF0.out.1).at_ (t := 22) (cs := #[.int .i32 b0, .int .i32 b1]) (by simp) 1
        clear HK hW0 HF
        go_simp
        obtain ⟨hu, e0, e2, e4, e1, e3, e5, e6, e7, e8, n1, n2, n3, m1, m2, m3⟩ := hF0.out
        exact hK.out _ _ ⟨x9, x10, x11, x13, x14, _, x16, x17, x18, p, q, r, by go_simp, hu, e0, fun _ => rfl, e4, e1, e3, e5, e6, e7, e8, n1, n2, n3, m1, m2, m3⟩
      · -- step 3
        have hlo := fun e he => hl _ (by simp only [List.getElem?_toArray, List.getElem?_cons_succ, List.getElem?_cons_zero]; rfl) e he
        have l2 : L 2 = true := hlo ⟨2, .data⟩ (by simp) rfl
        clear hlo
        clear hl hi
        replace hF0 := Lib.hid hF0; replace hra := Lib.hid hra; replace hrb := Lib.hid hrb; replace hrc := Lib.hid hrc
        have ex : x15 = .agg #[.int .i32 b0, .int .i32 b1] := by obtain ⟨hu, e0, e2, e4, e1, e3, e5, e6, e7, e8, n1, n2, n3, m1, m2, m3⟩ := hF0.out; exact e2 l2
        subst ex
        refine wpOp_step (by simp only [List.getElem?_toArray, List.getElem?_cons_succ, List.getElem?_cons_zero]; rfl) (fun K hK => ?_)
        replace hK := Lib.hid hK
        clear HK hW0 HF
        go_wp2_with fail
        refine (hrb.out _).mono ?_
        rintro e u' ⟨rfl, hf⟩
        obtain ⟨hu, e0, e2, e4, e1, e3, e5, e6, e7, e8, n1, n2, n3, m1, m2, m3⟩ := hF0.out
        go_wp2_with fail
        exact hK.out _ _ ⟨x9, x10, x11, x13, x14, _, _, x17, x18, p, q, r, by go_simp, hu.pu hf, e0, fun _ => rfl, e4, e1, fun _ => rfl, e5, fun l => ⟨(e6 l).1, hf.blk (e6 l).2.1 (fun t => t), (e6 l).2.2⟩, fun l => ⟨(e7 l).1, hf.blk (e7 l).2.1 (fun t => t), (e7 l).2.2⟩, fun l => ⟨(e8 l).1, hf.blk (e8 l).2.1 (fun t => t), (e8 l).2.2⟩, n1, n2, n3, m1, m2, m3⟩
      · -- step 4
        clear hl hi
        replace hF0 := Lib.hid hF0; replace hra := Lib.hid hra; replace hrb := Lib.hid hrb; replace hrc := Lib.hid hrc
        refine wpOp_step (by simp only [List.getElem?_toArray, List.getElem?_cons_succ, List.getElem?_cons_zero]; rfl) (fun K hK => ?_)
        replace hK := Lib.hid hK
        have q0 : u.cell? ⟨w.heap.size + 1 + 1, 0, none⟩ = some (.int .i32 c0) := (HK.pu hF0.out.1).at_ (t := 22) (cs := #[.int .i32 c0, .int .i32 c1]) (by simp) 0
        have q1 : u.cell? ⟨w.heap.size + 1 + 1, 1, none⟩ = some (.int .i32 c1) := (HK.pu hF0.out.1).at_ (t := 22) (cs := #[.int .i32 c0, .int .i32 c1]) (by simp) 1
        clear HK hW0 HF
        go_simp
        obtain ⟨hu, e0, e2, e4, e1, e3, e5, e6, e7, e8, n1, n2, n3, m1, m2, m3⟩ := hF0.out
        exact hK.out _ _ ⟨x9, x10, x11, x13, x14, x15, x16, _, x18, p, q, r, by go_simp, hu, e0, e2, fun _ => rfl, e1, e3, e5, e6, e7, e8, n1, n2, n3, m1, m2, m3⟩
      · -- step 5
        have hlo := fun e he => hl _ (by simp only [List.getElem?_toArray, List.getElem?_cons_succ, List.getElem?_cons_zero]; rfl) e he
        have l4 : L 4 = true := hlo ⟨4, .data⟩ (by simp) rfl
        clear hlo
        clear hl hi
        replace hF0 := Lib.hid hF0; replace hra := Lib.hid hra; replace hrb := Lib.hid hrb; replace hrc := Lib.hid hrc
        have ex : x17 = .agg #[.int .i32 c0, .int .i32 c1] := by obtain ⟨hu, e0, e2, e4, e1, e3, e5, e6, e7, e8, n1, n2, n3, m1, m2, m3⟩ := hF0.out; exact e4 l4
        subst ex
        refine wpOp_step (by simp only [List.getElem?_toArray, List.getElem?_cons_succ, List.getElem?_cons_zero]; rfl) (fun K hK => ?_)
        replace hK := Lib.hid hK
        clear HK hW0 HF
        go_wp2_with fail
        refine (hrc.out _).mono ?_
        rintro e u' ⟨rfl, hf⟩
        obtain ⟨hu, e0, e2, e4, e1, e3, e5, e6, e7, e8, n1, n2, n3, m1, m2, m3⟩ := hF0.out
        go_wp2_with fail
        exact hK.out _ _ ⟨x9, x10, x11, x13, x14, x15, x16, _, _, p, q, r, by go_simp, hu.pu hf, e0, e2, fun _ => rfl, e1, e3, fun _ => rfl, fun l => ⟨(e6 l).1, hf.blk (e6 l).2.1 (fun t => t), (e6 l).2.2⟩, fun l => ⟨(e7 l).1, hf.blk (e7 l).2.1 (fun t => t), (e7 l).2.2⟩, fun l => ⟨(e8 l).1, hf.blk (e8 l).2.1 (fun t => t), (e8 l).2.2⟩, n1, n2, n3, m1, m2, m3⟩
      · -- step 6
        clear hl hi
        replace hF0 := Lib.hid hF0; replace hra := Lib.hid hra; replace hrb := Lib.hid hrb; replace hrc := Lib.hid hrc
        refine wpOp_step (by simp only [List.getElem?_toArray, List.getElem?_cons_succ, List.getElem?_cons_zero]; rfl) (fun K hK => ?_)
        replace hK := Lib.hid hK
        clear HK hW0 HF
        go_simp
        obtain ⟨hu, e0, e2, e4, e1, e3, e5, e6, e7, e8, n1, n2, n3, m1, m2, m3⟩ := hF0.out
        have h9 : L 9 = false := by rw [Bool.eq_false_iff]; intro h; rw [m1 h] at h0; cases h0
        exact hK.out _ _ ⟨_, x10, x11, x13, x14, x15, x16, x17, x18, u.heap.size, q, r, by go_simp, hu.alloc _, e0, e2, e4, e1, e3, e5, fun _ => ⟨rfl, by rw [if_neg (by show ¬ L 9 = true; rw [h9]; decide)]; exact Blk.new u _ _, hu.size⟩, fun l => ⟨(e7 l).1, (e7 l).2.1.alloc _, (e7 l).2.2⟩, fun l => ⟨(e8 l).1, (e8 l).2.1.alloc _, (e8 l).2.2⟩, fun _ l => by have := (e7 l).2.1.lt; omega, fun _ l => by have := (e8 l).2.1.lt; omega, n3, fun _ => rfl, m2, m3⟩
      · -- step 7
        clear hl hi
        replace hF0 := Lib.hid hF0; replace hra := Lib.hid hra; replace hrb := Lib.hid hrb; replace hrc := Lib.hid hrc
        refine wpOp_step (by simp only [List.getElem?_toArray, List.getElem?_cons_succ, List.getElem?_cons_zero]; rfl) (fun K hK => ?_)
        replace hK := Lib.hid hK
        clear HK hW0 HF
        go_simp
        obtain ⟨hu, e0, e2, e4, e1, e3, e5, e6, e7, e8, n1, n2, n3, m1, m2, m3⟩ := hF0.out
        have h9 : L 10 = false := by rw [Bool.eq_false_iff]; intro h; rw [m2 h] at h0; cases h0
        exact hK.out _ _ ⟨x9, _, x11, x13, x14, x15, x16, x17, x18, p, u.heap.size, r, by go_simp, hu.alloc _, e0, e2, e4, e1, e3, e5, fun l => ⟨(e6 l).1, (e6 l).2.1.alloc _, (e6 l).2.2⟩, fun _ => ⟨rfl, by rw [if_neg (by show ¬ L 10 = true; rw [h9]; decide)]; exact Blk.new u _ _, hu.size⟩, fun l => ⟨(e8 l).1, (e8 l).2.1.alloc _, (e8 l).2.2⟩, fun l _ => by have := (e6 l).2.1.lt; omega, n2, fun _ l => by have := (e8 l).2.1.lt; omega, m1, fun _ => rfl, m3⟩
      · -- step 8
        clear hl hi
        replace hF0 := Lib.hid hF0; replace hra := Lib.hid hra; replace hrb := Lib.hid hrb; replace hrc := Lib.hid hrc
        refine wpOp_step (by simp only [List.getElem?_toArray, List.getElem?_cons_succ, List.getElem?_cons_zero]; rfl) (fun K hK => ?_)
        replace hK := Lib.hid hK
        clear HK hW0 HF
        go_simp
        obtain ⟨hu, e0, e2, e4, e1, e3, e5, e6, e7, e8, n1, n2, n3, m1, m2, m3⟩ := hF0.out
        have h9 : L 11 = false := by rw [Bool.eq_false_iff]; intro h; rw [m3 h] at h0; cases h0
        exact hK.out _ _ ⟨x9, x10, _, x13, x14, x15, x16, x17, x18, p, q, u.heap.size, by go_simp, hu.alloc _, e0, e2, e4, e1, e3, e5, fun l => ⟨(e6 l).1, (e6 l).2.1.alloc _, (e6 l).2.2⟩, fun l => ⟨(e7 l).1, (e7 l).2.1.alloc _, (e7 l).2.2⟩, fun _ => ⟨rfl, by rw [if_neg (by show ¬ L 11 = true; rw [h9]; decide)]; exact Blk.new u _ _, hu.size⟩, n1, fun l _ => by have := (e6 l).2.1.lt; omega, fun l _ => by have := (e7 l).2.1.lt; omega, m1, m2, fun _ => rfl⟩
      · -- step 9
        have hlo := fun e he => hl _ (by simp only [List.getElem?_toArray, List.getElem?_cons_succ, List.getElem?_cons_zero]; rfl) e he
        have l6 : L 6 = true := hlo ⟨6, .data⟩ (by simp) rfl
        have l1 : L 1 = true := hlo ⟨1, .data⟩ (by simp) rfl
        clear hlo
        clear hl hi
        replace hF0 := Lib.hid hF0; replace hra := Lib.hid hra; replace hrb := Lib.hid hrb; replace hrc := Lib.hid hrc
        obtain ⟨hu, e0, e2, e4, e1, e3, e5, e6, e7, e8, n1, n2, n3, m1, m2, m3⟩ := hF0.out
        obtain ⟨ep, Bp, zp⟩ := e6 l6
        have ex := e1 l1
        subst ep; subst ex
        rw [if_neg (by rw [h0]; decide)] at Bp
        have q8 : u.cell? ⟨p, 0, none⟩ = some (.int .i64 0) := Bp.cell 0
        have q9 : u.cell? ⟨p, 1, none⟩ = some (.int .i64 0) := Bp.cell 1
        have f0 : u.frozen? ⟨p, 0, none⟩ = false := Bp.frozen 0
        have f1 : u.frozen? ⟨p, 1, none⟩ = false := Bp.frozen 1
        clear hF0 HK hW0 HF
        replace hu := Lib.hid hu
        replace e0 := Lib.hid e0
        replace e2 := Lib.hid e2
        replace e4 := Lib.hid e4
        replace e1 := Lib.hid e1
        replace e3 := Lib.hid e3
        replace e5 := Lib.hid e5
        replace e6 := Lib.hid e6
        replace e7 := Lib.hid e7
        replace e8 := Lib.hid e8
        replace n1 := Lib.hid n1
        replace n2 := Lib.hid n2
        replace n3 := Lib.hid n3
        replace m1 := Lib.hid m1
        replace m2 := Lib.hid m2
        replace m3 := Lib.hid m3
        replace Bp := Lib.hid Bp
        replace zp := Lib.hid zp
        refine wpOp_step (by simp only [List.getElem?_toArray, List.getElem?_cons_succ, List.getElem?_cons_zero]; rfl) (fun K hK => ?_)
        replace hK := Lib.hid hK
        go_simp
        exact hK.out _ _ ⟨_, x10, x11, x13, _, x15, x16, x17, x18, p, q, r, by go_simp, (hu.out.setCell (p := ⟨p, 0, none⟩) (.inr zp.out) _).setCell (p := ⟨p, 1, none⟩) (.inr zp.out) _, e0.out, e2.out, e4.out, fun _ => rfl, e3.out, e5.out, fun _ => ⟨rfl, by rw [if_pos (by show (if (9 : Nat) = 9 then true else L 9) = true; rfl)]; have h := (Bp.out.set_ 0 (.int .i64 a0)).set_ 1 (.int .i64 xd); simpa using h, zp.out⟩, fun l => ⟨(e7.out l).1, ((e7.out l).2.1.far (p := ⟨p, 0, none⟩) (fun e => (n1.out l6 l) e.symm) _).far (p := ⟨p, 1, none⟩) (fun e => (n1.out l6 l) e.symm) _, (e7.out l).2.2⟩, fun l => ⟨(e8.out l).1, ((e8.out l).2.1.far (p := ⟨p, 0, none⟩) (fun e => (n2.out l6 l) e.symm) _).far (p := ⟨p, 1, none⟩) (fun e => (n2.out l6 l) e.symm) _, (e8.out l).2.2⟩, n1.out, n2.out, n3.out, fun _ => l6, m2.out, m3.out⟩
      · -- step 10
        have hlo := fun e he => hl _ (by simp only [List.getElem?_toArray, List.getElem?_cons_succ, List.getElem?_cons_zero]; rfl) e he
        have l7 : L 7 = true := hlo ⟨7, .data⟩ (by simp) rfl
        have l3 : L 3 = true := hlo ⟨3, .data⟩ (by simp) rfl
        clear hlo
        clear hl hi
        replace hF0 := Lib.hid hF0; replace hra := Lib.hid hra; replace hrb := Lib.hid hrb; replace hrc := Lib.hid hrc
        obtain ⟨hu, e0, e2, e4, e1, e3, e5, e6, e7, e8, n1, n2, n3, m1, m2, m3⟩ := hF0.out
        obtain ⟨ep, Bp, zp⟩ := e7 l7
        have ex := e3 l3
        subst ep; subst ex
        rw [if_neg (by rw [h0]; decide)] at Bp
        have q8 : u.cell? ⟨q, 0, none⟩ = some (.int .i64 0) := Bp.cell 0
        have q9 : u.cell? ⟨q, 1, none⟩ = some (.int .i64 0) := Bp.cell 1
        have f0 : u.frozen? ⟨q, 0, none⟩ = false := Bp.frozen 0
        have f1 : u.frozen? ⟨q, 1, none⟩ = false := Bp.frozen 1
        clear hF0 HK hW0 HF
        replace hu := Lib.hid hu
        replace e0 := Lib.hid e0
        replace e2 := Lib.hid e2
        replace e4 := Lib.hid e4
        replace e1 := Lib.hid e1
        replace e3 := Lib.hid e3
        replace e5 := Lib.hid e5
        replace e6 := Lib.hid e6
        replace e7 := Lib.hid e7
        replace e8 := Lib.hid e8
        replace n1 := Lib.hid n1
        replace n2 := Lib.hid n2
        replace n3 := Lib.hid n3
        replace m1 := Lib.hid m1
        replace m2 := Lib.hid m2
        replace m3 := Lib.hid m3
        replace Bp := Lib.hid Bp
        replace zp := Lib.hid zp
        refine wpOp_step (by simp only [List.getElem?_toArray, List.getElem?_cons_succ, List.getElem?_cons_zero]; rfl) (fun K hK => ?_)
        replace hK := Lib.hid hK
        go_simp
        exact hK.out _ _ ⟨x9, _, x11, x13, x14, x15, _, x17, x18, p, q, r, by go_simp, (hu.out.setCell (p := ⟨q, 0, none⟩) (.inr zp.out) _).setCell (p := ⟨q, 1, none⟩) (.inr zp.out) _, e0.out, e2.out, e4.out, e1.out, fun _ => rfl, e5.out, fun l => ⟨(e6.out l).1, ((e6.out l).2.1.far (p := ⟨q, 0, none⟩) (fun e => (n1.out l l7) e) _).far (p := ⟨q, 1, none⟩) (fun e => (n1.out l l7) e) _, (e6.out l).2.2⟩, fun _ => ⟨rfl, by rw [if_pos (by show (if (10 : Nat) = 10 then true else L 10) = true; rfl)]; have h := (Bp.out.set_ 0 (.int .i64 b0)).set_ 1 (.int .i64 yd); simpa using h, zp.out⟩, fun l => ⟨(e8.out l).1, ((e8.out l).2.1.far (p := ⟨q, 0, none⟩) (fun e => (n3.out l7 l) e.symm) _).far (p := ⟨q, 1, none⟩) (fun e => (n3.out l7 l) e.symm) _, (e8.out l).2.2⟩, n1.out, n2.out, n3.out, m1.out, fun _ => l7, m3.out⟩
      · -- step 11
        have hlo := fun e he => hl _ (by simp only [List.getElem?_toArray, List.getElem?_cons_succ, List.getElem?_cons_zero]; rfl) e he
        have l8 : L 8 = true := hlo ⟨8, .data⟩ (by simp) rfl
        have l5 : L 5 = true := hlo ⟨5, .data⟩ (by simp) rfl
        clear hlo
        clear hl hi
        replace hF0 := Lib.hid hF0; replace hra := Lib.hid hra; replace hrb := Lib.hid hrb; replace hrc := Lib.hid hrc
        obtain ⟨hu, e0, e2, e4, e1, e3, e5, e6, e7, e8, n1, n2, n3, m1, m2, m3⟩ := hF0.out
        obtain ⟨ep, Bp, zp⟩ := e8 l8
        have ex := e5 l5
        subst ep; subst ex
        rw [if_neg (by rw [h0]; decide)] at Bp
        have q8 : u.cell? ⟨r, 0, none⟩ = some (.int .i64 0) := Bp.cell 0
        have q9 : u.cell? ⟨r, 1, none⟩ = some (.int .i64 0) := Bp.cell 1
        have f0 : u.frozen? ⟨r, 0, none⟩ = false := Bp.frozen 0
        have f1 : u.frozen? ⟨r, 1, none⟩ = false := Bp.frozen 1
        clear hF0 HK hW0 HF
        replace hu := Lib.hid hu
        replace e0 := Lib.hid e0
        replace e2 := Lib.hid e2
        replace e4 := Lib.hid e4
        replace e1 := Lib.hid e1
        replace e3 := Lib.hid e3
        replace e5 := Lib.hid e5
        replace e6 := Lib.hid e6
        replace e7 := Lib.hid e7
        replace e8 := Lib.hid e8
        replace n1 := Lib.hid n1
        replace n2 := Lib.hid n2
        replace n3 := Lib.hid n3
        replace m1 := Lib.hid m1
        replace m2 := Lib.hid m2
        replace m3 := Lib.hid m3
        replace Bp := Lib.hid Bp
        replace zp := Lib.hid zp
        refine wpOp_step (by simp only [List.getElem?_toArray, List.getElem?_cons_succ, List.getElem?_cons_zero]; rfl) (fun K hK => ?_)
        replace hK := Lib.hid hK
        go_simp
        exact hK.out _ _ ⟨x9, x10, _, x13, x14, x15, x16, x17, _, p, q, r, by go_simp, (hu.out.setCell (p := ⟨r, 0, none⟩) (.inr zp.out) _).setCell (p := ⟨r, 1, none⟩) (.inr zp.out) _, e0.out, e2.out, e4.out, e1.out, e3.out, fun _ => rfl, fun l => ⟨(e6.out l).1, ((e6.out l).2.1.far (p := ⟨r, 0, none⟩) (fun e => (n2.out l l8) e) _).far (p := ⟨r, 1, none⟩) (fun e => (n2.out l l8) e) _, (e6.out l).2.2⟩, fun l => ⟨(e7.out l).1, ((e7.out l).2.1.far (p := ⟨r, 0, none⟩) (fun e => (n3.out l l8) e) _).far (p := ⟨r, 1, none⟩) (fun e => (n3.out l l8) e) _, (e7.out l).2.2⟩, fun _ => ⟨rfl, by rw [if_pos (by show (if (11 : Nat) = 11 then true else L 11) = true; rfl)]; have h := (Bp.out.set_ 0 (.int .i64 c0)).set_ 1 (.int .i64 zd); simpa using h, zp.out⟩, n1.out, n2.out, n3.out, m1.out, m2.out, fun _ => l8⟩
    · intro L b u hL ⟨x9, x10, x11, x13, x14, x15, x16, x17, x18, p, q, r, hb, hu, e0, e2, e4, e1, e3, e5, e6, e7, e8, n1, n2, n3, m1, m2, m3⟩
      subst hb
      obtain ⟨rfl, Bp, zp⟩ := e6 (hL 6 (by decide))
      obtain ⟨rfl, Bq, zq⟩ := e7 (hL 7 (by decide))
      obtain ⟨rfl, Br, zr⟩ := e8 (hL 8 (by decide))
      rw [if_pos (hL 9 (by decide))] at Bp
      rw [if_pos (hL 10 (by decide))] at Bq
      rw [if_pos (hL 11 (by decide))] at Br
      clear e0 e2 e4 e1 e3 e5 e6 e7 e8 n1 n2 n3 m1 m2 m3 hL HK hW0 hra hrb hrc
      go_simp
      go_wp2_with fail
      go_meet
      exact ⟨p, q, r, rfl, rfl, rfl, Bp, Bq, Br, HF.pu hu⟩
  case rest =>
    obtain ⟨p, q, r, rfl, rfl, rfl, Bp, Bq, Br, hf⟩ := hcut
    clear hra hrb hrc HK HF
    obtain ⟨k1, k2⟩ : 0 ≤ k ∧ k ≤ 255 := by simp [Lit.wf] at hk; exact hk
    have hs0 : -549755813888 ≤ a0 * (1 + k) ∧ a0 * (1 + k) ≤ 549755813888 := mul_bd2 hx1 hx2 (by omega) (by omega)
    have hs1 : 1 ≤ xd * (1 + k) ∧ xd * (1 + k) ≤ 256000000 := mul_bd3 hxd (by omega) (by omega)
    have hc1 : lessF (a0 * (1 + k)) (xd * (1 + k)) b0 yd = lessF a0 xd b0 yd := lessF_scale (by omega)
    have hc2 : lessF b0 yd (a0 * (1 + k)) (xd * (1 + k)) = lessF b0 yd a0 xd := lessF_scale' (by omega)
    have hc3 : lessF a0 xd (a0 * (1 + k)) (xd * (1 + k)) = false := by rw [lessF_scale' (by omega), lessF_irr]
    have e1 : wrap64 (a0 * (1 + k)) = a0 * (1 + k) := IntWalk.wrap64_in _ ⟨by omega, by omega⟩
    have e2 : wrap64 (xd * (1 + k)) = xd * (1 + k) := IntWalk.wrap64_in _ ⟨by omega, by omega⟩
    have hxx : ∀ u, Calls Try.prog 8 #[.agg #[.int .i64 a0, .int .i64 xd], .agg #[.int .i64 a0, .int .i64 xd]] u fun e w' => e = .returned (.bool (false)) ∧ Pu u w' := fun u => by
      have := less_a a0 xd a0 xd u
      rwa [lessS_fine (by omega) (by omega), lessF_irr] at this
    have hxy : ∀ u, Calls Try.prog 8 #[.agg #[.int .i64 a0, .int .i64 xd], .agg #[.int .i64 b0, .int .i64 yd]] u fun e w' => e = .returned (.bool (lessF a0 xd b0 yd)) ∧ Pu u w' := fun u => by
      have := less_a a0 xd b0 yd u
      rwa [lessS_fine (by omega) (by omega)] at this
    have hyx : ∀ u, Calls Try.prog 8 #[.agg #[.int .i64 b0, .int .i64 yd], .agg #[.int .i64 a0, .int .i64 xd]] u fun e w' => e = .returned (.bool (lessF b0 yd a0 xd)) ∧ Pu u w' := fun u => by
      have := less_a b0 yd a0 xd u
      rwa [lessS_fine (by omega) (by omega)] at this
    have hyz : ∀ u, Calls Try.prog 8 #[.agg #[.int .i64 b0, .int .i64 yd], .agg #[.int .i64 c0, .int .i64 zd]] u fun e w' => e = .returned (.bool (lessF b0 yd c0 zd)) ∧ Pu u w' := fun u => by
      have := less_a b0 yd c0 zd u
      rwa [lessS_fine (by omega) (by omega)] at this
    have hxz : ∀ u, Calls Try.prog 8 #[.agg #[.int .i64 a0, .int .i64 xd], .agg #[.int .i64 c0, .int .i64 zd]] u fun e w' => e = .returned (.bool (lessF a0 xd c0 zd)) ∧ Pu u w' := fun u => by
      have := less_a a0 xd c0 zd u
      rwa [lessS_fine (by omega) (by omega)] at this
    have hsy : ∀ u, Calls Try.prog 8 #[.agg #[.int .i64 (a0 * (1 + k)), .int .i64 (xd * (1 + k))], .agg #[.int .i64 b0, .int .i64 yd]] u fun e w' => e = .returned (.bool (lessF a0 xd b0 yd)) ∧ Pu u w' := fun u => by
      have := less_a (a0 * (1 + k)) (xd * (1 + k)) b0 yd u
      rwa [lessS_fine (by omega) (by omega), hc1] at this
    have hys : ∀ u, Calls Try.prog 8 #[.agg #[.int .i64 b0, .int .i64 yd], .agg #[.int .i64 (a0 * (1 + k)), .int .i64 (xd * (1 + k))]] u fun e w' => e = .returned (.bool (lessF b0 yd a0 xd)) ∧ Pu u w' := fun u => by
      have := less_a b0 yd (a0 * (1 + k)) (xd * (1 + k)) u
      rwa [lessS_fine (by omega) (by omega), hc2] at this
    have hxs : ∀ u, Calls Try.prog 8 #[.agg #[.int .i64 a0, .int .i64 xd], .agg #[.int .i64 (a0 * (1 + k)), .int .i64 (xd * (1 + k))]] u fun e w' => e = .returned (.bool (false)) ∧ Pu u w' := fun u => by
      have := less_a a0 xd (a0 * (1 + k)) (xd * (1 + k)) u
      rwa [lessS_fine (by omega) (by omega), hc3] at this
    have hm1 := mul_bd2' hx1 hx2 hyd
    have hm2 := mul_bd2' hy1 hy2 hxd
    have e3 : wrap64 (a0 * yd) = a0 * yd := IntWalk.wrap64_in _ ⟨by omega, by omega⟩
    have e4 : wrap64 (b0 * xd) = b0 * xd := IntWalk.wrap64_in _ ⟨by omega, by omega⟩
    have e5 : decide (a0 * yd < b0 * xd) = lessF a0 xd b0 yd := rfl
    have has : lessF a0 xd b0 yd = true → lessF b0 yd a0 xd = false := lessF_asym
    have htr : lessF a0 xd b0 yd = true → lessF b0 yd c0 zd = true → lessF a0 xd c0 zd = true := lessF_trans (by omega) (by omega) (by omega)
    generalize lessF a0 xd b0 yd = xy at *
    generalize lessF b0 yd a0 xd = yx at *
    generalize lessF b0 yd c0 zd = yz at *
    generalize lessF a0 xd c0 zd = xz at *
    clear hc1 hc2 hc3
    have HS : Hid (∀ u, Pu (wc.alloc (.cells #[.int .i64 (a0 * (1 + k)), .int .i64 (xd * (1 + k))] 24)) u → (u.cell? ⟨p, 0, none⟩ = some (.int .i64 a0) ∧ u.cell? ⟨p, 1, none⟩ = some (.int .i64 xd) ∧ u.cell? ⟨q, 0, none⟩ = some (.int .i64 b0) ∧ u.cell? ⟨q, 1, none⟩ = some (.int .i64 yd) ∧ u.cell? ⟨r, 0, none⟩ = some (.int .i64 c0) ∧ u.cell? ⟨r, 1, none⟩ = some (.int .i64 zd) ∧ u.cell? ⟨wc.heap.size, 0, none⟩ = some (.int .i64 (a0 * (1 + k))) ∧ u.cell? ⟨wc.heap.size, 1, none⟩ = some (.int .i64 (xd * (1 + k))))) := fun u hu => ⟨(hu.blk (Bp.alloc _) (fun t => t)).cell 0, (hu.blk (Bp.alloc _) (fun t => t)).cell 1, (hu.blk (Bq.alloc _) (fun t => t)).cell 0, (hu.blk (Bq.alloc _) (fun t => t)).cell 1, (hu.blk (Br.alloc _) (fun t => t)).cell 0, (hu.blk (Br.alloc _) (fun t => t)).cell 1, (hu.blk (Blk.new wc 24 #[.int .i64 (a0 * (1 + k)), .int .i64 (xd * (1 + k))]) (fun t => t)).cell 0, (hu.blk (Blk.new wc 24 #[.int .i64 (a0 * (1 + k)), .int .i64 (xd * (1 + k))]) (fun t => t)).cell 1⟩
    have HF1 : Pu w (wc.alloc (.cells #[.int .i64 (a0 * (1 + k)), .int .i64 (xd * (1 + k))] 24)) := hf.alloc _
    have p0 : wc.cell? ⟨p, 0, none⟩ = some (.int .i64 a0) := Bp.cell 0
    have p1 : wc.cell? ⟨p, 1, none⟩ = some (.int .i64 xd) := Bp.cell 1
    clear Bp Bq Br hf
    go_upto_region 3 with fail
    have H : Pu (wc.alloc (.cells #[.int .i64 (a0 * (1 + k)), .int .i64 (xd * (1 + k))] 24)) (wc.alloc (.cells #[.int .i64 (a0 * (1 + k)), .int .i64 (xd * (1 + k))] 24)) := Fr.refl _ _
    clear p0 p1 e1 e2
    generalize wc.heap.size = g at *
    generalize (wc.alloc (.cells #[.int .i64 (a0 * (1 + k)), .int .i64 (xd * (1 + k))] 24)) = W1 at *
    generalize a0 * (1 + k) = sx at *
    generalize xd * (1 + k) = sd at *
    obtain ⟨y0, y1, y2, y3, y4, y5, y6, y7⟩ := HS.out _ H
    have hcs : xy = false ∨ (xy = true ∧ yx = false ∧ (yz = false ∨ (yz = true ∧ xz = true))) := by
      revert has htr; cases xy <;> cases yx <;> cases yz <;> cases xz <;> decide
    clear has htr
    rcases hcs with rfl | ⟨rfl, rfl, rfl | ⟨rfl, rfl⟩⟩
    all_goals
      first | (have e6 : a0 * yd < b0 * xd := of_decide_eq_true e5) | (have e6 : ¬ a0 * yd < b0 * xd := of_decide_eq_false e5)
      clear e5
      have e3w : IntKind.i64.wrap (a0 * yd) = a0 * yd := (IntWalk.i64_left _).trans e3
      have e4w : IntKind.i64.wrap (b0 * xd) = b0 * xd := (IntWalk.i64_left _).trans e4
      go_wp2_with ((go_at_call 8; (first | with_reducible refine (hxx _).mono ?_ | with_reducible refine (hxy _).mono ?_ | with_reducible refine (hyx _).mono ?_ | with_reducible refine (hyz _).mono ?_ | with_reducible refine (hxz _).mono ?_ | with_reducible refine (hsy _).mono ?_ | with_reducible refine (hys _).mono ?_ | with_reducible refine (hxs _).mono ?_); rintro e u ⟨rfl, hf⟩; have H := H.pu hf; obtain ⟨y0, y1, y2, y3, y4, y5, y6, y7⟩ := HS.out _ H))
      replace H := H.drew
      go_region_held3 (fun u => u.cell? ⟨p, 0, none⟩ = some (.int .i64 a0) ∧ u.cell? ⟨p, 1, none⟩ = some (.int .i64 xd) ∧ u.cell? ⟨q, 0, none⟩ = some (.int .i64 b0) ∧ u.cell? ⟨q, 1, none⟩ = some (.int .i64 yd) ∧ u.cell? ⟨r, 0, none⟩ = some (.int .i64 c0) ∧ u.cell? ⟨r, 1, none⟩ = some (.int .i64 zd) ∧ u.cell? ⟨g, 0, none⟩ = some (.int .i64 sx) ∧ u.cell? ⟨g, 1, none⟩ = some (.int .i64 sd)) (exact HS.out _ H) ((first | (go_at_call 8; (first | with_reducible refine (hxx _).mono ?_ | with_reducible refine (hxy _).mono ?_ | with_reducible refine (hyx _).mono ?_ | with_reducible refine (hyz _).mono ?_ | with_reducible refine (hxz _).mono ?_ | with_reducible refine (hsy _).mono ?_ | with_reducible refine (hys _).mono ?_ | with_reducible refine (hxs _).mono ?_); rintro e u ⟨rfl, hf⟩; have H := H.pu hf; obtain ⟨y0, y1, y2, y3, y4, y5, y6, y7⟩ := HS.out _ H) | (go_at_call 9; refine (awake_any _).mono ?_; rintro e u ⟨rfl, hf⟩; have H := H.pu hf)))
      clear y0 y1 y2 y3 y4 y5 y6 y7
      go_wp2_with fail
      go_ret
      exact ⟨by simp [e6], HF1.pu H⟩
end Go.Proofs.Ytckppibhnedmmaa
