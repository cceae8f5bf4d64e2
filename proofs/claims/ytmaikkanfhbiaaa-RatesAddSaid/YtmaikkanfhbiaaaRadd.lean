/- RatesAdd: the walk, over contracts that are given. -/
import Derived.Test.YtmaikkanfhbiaaaRat3
import Derived.Deep.DeepCutAuto
import Derived.Test.YtmaikkanfhbiaaaInv
namespace Go.Proofs.Ytmaikkanfhbiaaa
open Go.RowKit

/-- what is known in the midst of the first statement -/
def RadF (A0 A1 A2 A3 A4 B0 B1 B2 B3 B4 C0 C1 C2 C3 C4 X0 X1 X2 X3 X4 X5 X6 Y0 Y1 Y2 Y3 Y4 Y5 Y6 Z0 Z1 Z2 Z3 Z4 Z5 Z6 : Int) (W0 : World) (L : Nat → Bool) (x7 x8 x9 x26 x27 x28 x29 x30 x31 : Value) (p q r : Nat) (u : World) : Prop :=
  Pu W0 u
      ∧ (L 0 = true → x26 = .agg #[.int .u16 A0, .int .u16 A1, .int .u16 A2, .int .u16 A3, .int .u16 A4]) ∧ (L 2 = true → x28 = .agg #[.int .u16 B0, .int .u16 B1, .int .u16 B2, .int .u16 B3, .int .u16 B4]) ∧ (L 4 = true → x30 = .agg #[.int .u16 C0, .int .u16 C1, .int .u16 C2, .int .u16 C3, .int .u16 C4])
      ∧ (L 1 = true → x27 = .agg #[.int .i64 X0, .int .i64 X1, .int .i64 X2, .int .i64 X3, .int .i64 X4, .int .i64 X5, .int .i64 X6]) ∧ (L 3 = true → x29 = .agg #[.int .i64 Y0, .int .i64 Y1, .int .i64 Y2, .int .i64 Y3, .int .i64 Y4, .int .i64 Y5, .int .i64 Y6]) ∧ (L 5 = true → x31 = .agg #[.int .i64 Z0, .int .i64 Z1, .int .i64 Z2, .int .i64 Z3, .int .i64 Z4, .int .i64 Z5, .int .i64 Z6])
      ∧ (L 6 = true → x7 = .pointer (some ⟨p, 0, none⟩) ∧ Blk u p 25 (if L 9 = true then #[.int .i64 X0, .int .i64 X1, .int .i64 X2, .int .i64 X3, .int .i64 X4, .int .i64 X5, .int .i64 X6] else #[.int .i64 0, .int .i64 0, .int .i64 0, .int .i64 0, .int .i64 0, .int .i64 0, .int .i64 0]) ∧ W0.heap.size ≤ p)
      ∧ (L 7 = true → x8 = .pointer (some ⟨q, 0, none⟩) ∧ Blk u q 25 (if L 10 = true then #[.int .i64 Y0, .int .i64 Y1, .int .i64 Y2, .int .i64 Y3, .int .i64 Y4, .int .i64 Y5, .int .i64 Y6] else #[.int .i64 0, .int .i64 0, .int .i64 0, .int .i64 0, .int .i64 0, .int .i64 0, .int .i64 0]) ∧ W0.heap.size ≤ q)
      ∧ (L 8 = true → x9 = .pointer (some ⟨r, 0, none⟩) ∧ Blk u r 25 (if L 11 = true then #[.int .i64 Z0, .int .i64 Z1, .int .i64 Z2, .int .i64 Z3, .int .i64 Z4, .int .i64 Z5, .int .i64 Z6] else #[.int .i64 0, .int .i64 0, .int .i64 0, .int .i64 0, .int .i64 0, .int .i64 0, .int .i64 0]) ∧ W0.heap.size ≤ r)
      ∧ (L 6 = true → L 7 = true → p ≠ q) ∧ (L 6 = true → L 8 = true → p ≠ r) ∧ (L 7 = true → L 8 = true → q ≠ r) ∧ (L 9 = true → L 6 = true) ∧ (L 10 = true → L 7 = true) ∧ (L 11 = true → L 8 = true)
def RadI (A0 A1 A2 A3 A4 B0 B1 B2 B3 B4 C0 C1 C2 C3 C4 X0 X1 X2 X3 X4 X5 X6 Y0 Y1 Y2 Y3 Y4 Y5 Y6 Z0 Z1 Z2 Z3 Z4 Z5 Z6 : Int) (W0 : World) (a : Act) (L : Nat → Bool) (b : Act) (u : World) : Prop :=
  ∃ (x7 x8 x9 x26 x27 x28 x29 x30 x31 : Value) (p q r : Nat), b = ((((((((a.put (some 7) x7).put (some 8) x8).put (some 9) x9).put (some 26) x26).put (some 27) x27).put (some 28) x28).put (some 29) x29).put (some 30) x30).put (some 31) x31 ∧ RadF A0 A1 A2 A3 A4 B0 B1 B2 B3 B4 C0 C1 C2 C3 C4 X0 X1 X2 X3 X4 X5 X6 Y0 Y1 Y2 Y3 Y4 Y5 Y6 Z0 Z1 Z2 Z3 Z4 Z5 Z6 W0 L x7 x8 x9 x26 x27 x28 x29 x30 x31 p q r u

set_option maxRecDepth 100000 in
set_option maxHeartbeats 4000000 in
theorem radd_core (A0 A1 A2 A3 A4 B0 B1 B2 B3 B4 C0 C1 C2 C3 C4 X0 X1 X2 X3 X4 X5 X6 Y0 Y1 Y2 Y3 Y4 Y5 Y6 Z0 Z1 Z2 Z3 Z4 Z5 Z6 P0 P1 P2 P3 P4 P5 P6 Q0 Q1 Q2 Q3 Q4 Q5 Q6 T0 T1 T2 T3 T4 T5 T6 a b jc c d kc m n nc : Int) (w : World)
    (hra : ∀ u, Calls Try.prog 5 #[.agg #[.int .u16 A0, .int .u16 A1, .int .u16 A2, .int .u16 A3, .int .u16 A4]] u fun e w' => e = .returned (.agg #[.int .i64 X0, .int .i64 X1, .int .i64 X2, .int .i64 X3, .int .i64 X4, .int .i64 X5, .int .i64 X6]) ∧ Pu u w')
    (hrb : ∀ u, Calls Try.prog 5 #[.agg #[.int .u16 B0, .int .u16 B1, .int .u16 B2, .int .u16 B3, .int .u16 B4]] u fun e w' => e = .returned (.agg #[.int .i64 Y0, .int .i64 Y1, .int .i64 Y2, .int .i64 Y3, .int .i64 Y4, .int .i64 Y5, .int .i64 Y6]) ∧ Pu u w')
    (hrc : ∀ u, Calls Try.prog 5 #[.agg #[.int .u16 C0, .int .u16 C1, .int .u16 C2, .int .u16 C3, .int .u16 C4]] u fun e w' => e = .returned (.agg #[.int .i64 Z0, .int .i64 Z1, .int .i64 Z2, .int .i64 Z3, .int .i64 Z4, .int .i64 Z5, .int .i64 Z6]) ∧ Pu u w')
    (hxy : ∀ u, Calls Try.prog 6 #[.agg #[.int .i64 X0, .int .i64 X1, .int .i64 X2, .int .i64 X3, .int .i64 X4, .int .i64 X5, .int .i64 X6], .agg #[.int .i64 Y0, .int .i64 Y1, .int .i64 Y2, .int .i64 Y3, .int .i64 Y4, .int .i64 Y5, .int .i64 Y6]] u fun e w' => e = .returned (.tuple #[.agg #[.int .i64 P0, .int .i64 P1, .int .i64 P2, .int .i64 P3, .int .i64 P4, .int .i64 P5, .int .i64 P6], .int .i64 0]) ∧ Pu u w')
    (hyx : ∀ u, Calls Try.prog 6 #[.agg #[.int .i64 Y0, .int .i64 Y1, .int .i64 Y2, .int .i64 Y3, .int .i64 Y4, .int .i64 Y5, .int .i64 Y6], .agg #[.int .i64 X0, .int .i64 X1, .int .i64 X2, .int .i64 X3, .int .i64 X4, .int .i64 X5, .int .i64 X6]] u fun e w' => e = .returned (.tuple #[.agg #[.int .i64 P0, .int .i64 P1, .int .i64 P2, .int .i64 P3, .int .i64 P4, .int .i64 P5, .int .i64 P6], .int .i64 0]) ∧ Pu u w')
    (hpz : ∀ u, Calls Try.prog 6 #[.agg #[.int .i64 P0, .int .i64 P1, .int .i64 P2, .int .i64 P3, .int .i64 P4, .int .i64 P5, .int .i64 P6], .agg #[.int .i64 Z0, .int .i64 Z1, .int .i64 Z2, .int .i64 Z3, .int .i64 Z4, .int .i64 Z5, .int .i64 Z6]] u fun e w' => e = .returned (.tuple #[.agg #[.int .i64 T0, .int .i64 T1, .int .i64 T2, .int .i64 T3, .int .i64 T4, .int .i64 T5, .int .i64 T6], .int .i64 0]) ∧ Pu u w')
    (hyz : ∀ u, Calls Try.prog 6 #[.agg #[.int .i64 Y0, .int .i64 Y1, .int .i64 Y2, .int .i64 Y3, .int .i64 Y4, .int .i64 Y5, .int .i64 Y6], .agg #[.int .i64 Z0, .int .i64 Z1, .int .i64 Z2, .int .i64 Z3, .int .i64 Z4, .int .i64 Z5, .int .i64 Z6]] u fun e w' => e = .returned (.tuple #[.agg #[.int .i64 Q0, .int .i64 Q1, .int .i64 Q2, .int .i64 Q3, .int .i64 Q4, .int .i64 Q5, .int .i64 Q6], .int .i64 0]) ∧ Pu u w')
    (hxr : ∀ u, Calls Try.prog 6 #[.agg #[.int .i64 X0, .int .i64 X1, .int .i64 X2, .int .i64 X3, .int .i64 X4, .int .i64 X5, .int .i64 X6], .agg #[.int .i64 Q0, .int .i64 Q1, .int .i64 Q2, .int .i64 Q3, .int .i64 Q4, .int .i64 Q5, .int .i64 Q6]] u fun e w' => e = .returned (.tuple #[.agg #[.int .i64 T0, .int .i64 T1, .int .i64 T2, .int .i64 T3, .int .i64 T4, .int .i64 T5, .int .i64 T6], .int .i64 0]) ∧ Pu u w')
    (hcx : ∀ u, Calls Try.prog 7 #[.agg #[.int .i64 X0, .int .i64 X1, .int .i64 X2, .int .i64 X3, .int .i64 X4, .int .i64 X5, .int .i64 X6]] u fun e w' => e = .returned (.tuple #[.agg #[.int .i64 a, .int .i64 b], .int .i64 jc]) ∧ Pu u w')
    (hcy : ∀ u, Calls Try.prog 7 #[.agg #[.int .i64 Y0, .int .i64 Y1, .int .i64 Y2, .int .i64 Y3, .int .i64 Y4, .int .i64 Y5, .int .i64 Y6]] u fun e w' => e = .returned (.tuple #[.agg #[.int .i64 c, .int .i64 d], .int .i64 kc]) ∧ Pu u w')
    (hcp : ∀ u, Calls Try.prog 7 #[.agg #[.int .i64 P0, .int .i64 P1, .int .i64 P2, .int .i64 P3, .int .i64 P4, .int .i64 P5, .int .i64 P6]] u fun e w' => e = .returned (.tuple #[.agg #[.int .i64 m, .int .i64 n], .int .i64 nc]) ∧ Pu u w')
    (ha : 0 ≤ a ∧ a ≤ 200000) (hb : 0 ≤ b ∧ b ≤ 200000) (hc : 0 ≤ c ∧ c ≤ 200000) (hd : 0 ≤ d ∧ d ≤ 200000) (hm : 0 ≤ m ∧ m ≤ 200000) (hn : 0 ≤ n ∧ n ≤ 200000)
    (hcs : ((jc = 9 ∧ kc = 9 ∧ nc = 9) ∨ (jc = 9 ∧ kc = 0 ∧ nc = 0) ∨ (jc = 0 ∧ kc = 9 ∧ nc = 0)) ∨ ((jc = 0 ∧ kc = 0 ∧ nc = 0) ∧ m ≤ n ∧ Int.gcd m n = 1 ∧ ((a * d ≤ c * b ∧ a * n ≤ m * b ∧ m * d ≤ c * n) ∨ (c * b < a * d ∧ c * n ≤ m * d ∧ m * b ≤ a * n)))) :
    Calls Try.prog 3 #[.agg #[.int .u16 A0, .int .u16 A1, .int .u16 A2, .int .u16 A3, .int .u16 A4], .agg #[.int .u16 B0, .int .u16 B1, .int .u16 B2, .int .u16 B3, .int .u16 B4], .agg #[.int .u16 C0, .int .u16 C1, .int .u16 C2, .int .u16 C3, .int .u16 C4]] w fun e w' => e = .returned (.bool true) ∧ Pu w w' := by
  have HK : Kp [(w.heap.size + 2, 23, #[.int .u16 C0, .int .u16 C1, .int .u16 C2, .int .u16 C3, .int .u16 C4]), (w.heap.size + 1, 23, #[.int .u16 B0, .int .u16 B1, .int .u16 B2, .int .u16 B3, .int .u16 B4]), (w.heap.size, 23, #[.int .u16 A0, .int .u16 A1, .int .u16 A2, .int .u16 A3, .int .u16 A4])] (((w.alloc (.cells #[.int .u16 A0, .int .u16 A1, .int .u16 A2, .int .u16 A3, .int .u16 A4] 23)).alloc (.cells #[.int .u16 B0, .int .u16 B1, .int .u16 B2, .int .u16 B3, .int .u16 B4] 23)).alloc (.cells #[.int .u16 C0, .int .u16 C1, .int .u16 C2, .int .u16 C3, .int .u16 C4] 23)) := by
    have := (((Kp.nil w).new 23 #[.int .u16 A0, .int .u16 A1, .int .u16 A2, .int .u16 A3, .int .u16 A4]).new 23 #[.int .u16 B0, .int .u16 B1, .int .u16 B2, .int .u16 B3, .int .u16 B4]).new 23 #[.int .u16 C0, .int .u16 C1, .int .u16 C2, .int .u16 C3, .int .u16 C4]
    simpa [Nat.add_assoc] using this
  have HF : Pu w (((w.alloc (.cells #[.int .u16 A0, .int .u16 A1, .int .u16 A2, .int .u16 A3, .int .u16 A4] 23)).alloc (.cells #[.int .u16 B0, .int .u16 B1, .int .u16 B2, .int .u16 B3, .int .u16 B4] 23)).alloc (.cells #[.int .u16 C0, .int .u16 C1, .int .u16 C2, .int .u16 C3, .int .u16 C4] 23)) := (((Fr.refl _ w).alloc _).alloc _).alloc _
  replace hxy := Lib.hid hxy
  replace hyx := Lib.hid hyx
  replace hpz := Lib.hid hpz
  replace hyz := Lib.hid hyz
  replace hxr := Lib.hid hxr
  replace hcx := Lib.hid hcx
  replace hcy := Lib.hid hcy
  replace hcp := Lib.hid hcp
  replace hcs := Lib.hid hcs
  go_enter Try.func3, Try.ntmps3
  go_upto_region 1 with fail
  generalize hW0 : (((w.alloc (.cells #[.int .u16 A0, .int .u16 A1, .int .u16 A2, .int .u16 A3, .int .u16 A4] 23)).alloc (.cells #[.int .u16 B0, .int .u16 B1, .int .u16 B2, .int .u16 B3, .int .u16 B4] 23)).alloc (.cells #[.int .u16 C0, .int .u16 C1, .int .u16 C2, .int .u16 C3, .int .u16 C4] 23)) = W0 at *
  go_cut [7, 8, 9] (fun x y z u => ∃ p q r : Nat, x = .pointer (some ⟨p, 0, none⟩) ∧ y = .pointer (some ⟨q, 0, none⟩) ∧ z = .pointer (some ⟨r, 0, none⟩) ∧ Blk u p 25 #[.int .i64 X0, .int .i64 X1, .int .i64 X2, .int .i64 X3, .int .i64 X4, .int .i64 X5, .int .i64 X6] ∧ Blk u q 25 #[.int .i64 Y0, .int .i64 Y1, .int .i64 Y2, .int .i64 Y3, .int .i64 Y4, .int .i64 Y5, .int .i64 Y6] ∧ Blk u r 25 #[.int .i64 Z0, .int .i64 Z1, .int .i64 Z2, .int .i64 Z3, .int .i64 Z4, .int .i64 Z5, .int .i64 Z6] ∧ Pu w u)
  case first =>
    refine wp_region_inv (RadI A0 A1 A2 A3 A4 B0 B1 B2 B3 B4 C0 C1 C2 C3 C4 X0 X1 X2 X3 X4 X5 X6 Y0 Y1 Y2 Y3 Y4 Y5 Y6 Z0 Z1 Z2 Z3 Z4 Z5 Z6 W0) (by kernel_rfl) (by kernel_rfl) ?_ ?_ ?_
    · refine ⟨undef, undef, undef, undef, undef, undef, undef, undef, undef, 0, 0, 0, by go_simp, (Fr.refl _ W0).drew, ?_⟩
      simp
    · intro L b u i ⟨x7, x8, x9, x26, x27, x28, x29, x30, x31, p, q, r, hb, hF0⟩ hi h0 hl
      subst hb
      replace hi : i < 12 := hi
      rcases (by omega : i = 0 ∨ i = 1 ∨ i = 2 ∨ i = 3 ∨ i = 4 ∨ i = 5 ∨ i = 6 ∨ i = 7 ∨ i = 8 ∨ i = 9 ∨ i = 10 ∨ i = 11) with rfl | rfl | rfl | rfl | rfl | rfl | rfl | rfl | rfl | rfl | rfl | rfl
      · -- step 0
        clear hl hi ha hb hc hd hm hn
        replace hF0 := Lib.hid hF0; replace hra := Lib.hid hra; replace hrb := Lib.hid hrb; replace hrc := Lib.hid hrc
        refine wpOp_step (by simp only [List.getElem?_toArray, List.getElem?_cons_zero]; rfl) (fun K hK => ?_)
        replace hK := Lib.hid hK
        have q0 : u.cell? ⟨w.heap.size, 0, none⟩ = some (.int .u16 A0) := (HK.pu hF0.out.1).at_ (t := 23) (cs := #[.int .u16 A0, .int .u16 A1, .int .u16 A2, .int .u16 A3, .int .u16 A4]) (by simp) 0
        have q1 : u.cell? ⟨w.heap.size, 1, none⟩ = some (.int .u16 A1) := (HK.pu hF0.out.1).at_ (t := 23) (cs := #[.int .u16 A0, .int .u16 A1, .int .u16 A2, .int .u16 A3, .int .u16 A4]) (by simp) 1
        have q2 : u.cell? ⟨w.heap.size, 2, none⟩ = some (.int .u16 A2) := (HK.pu hF0.out.1).at_ (t := 23) (cs := #[.int .u16 A0, .int .u16 A1, .int .u16 A2, .int .u16 A3, .int .u16 A4]) (by simp) 2
        have q3 : u.cell? ⟨w.heap.size, 3, none⟩ = some (.int .u16 A3) := (HK.pu hF0.out.1).at_ (t := 23) (cs := #[.int .u16 A0, .int .u16 A1, .int .u16 A2, .int .u16 A3, .int .u16 A4]) (by simp) 3
        have q4 : u.cell? ⟨w.heap.size, 4, none⟩ = some (.int .u16 A4) := (HK.pu hF0.out.1).at_ (t := 23) (cs := #[.int .u16 A0, .int .u16 A1, .int .u16 A2, .int .u16 A3, .int .u16 A4]) (by simp) 4
        clear HK hW0 HF
        go_simp
        obtain ⟨hu, e0, e2, e4, e1, e3, e5, e6, e7, e8, n1, n2, n3, m1, m2, m3⟩ := hF0.out
        exact hK.out _ _ ⟨x7, x8, x9, _, x27, x28, x29, x30, x31, p, q, r, by go_simp, hu, fun _ => rfl, e2, e4, e1, e3, e5, e6, e7, e8, n1, n2, n3, m1, m2, m3⟩
      · -- step 1
        have hlo := fun e he => hl _ (by simp only [List.getElem?_toArray, List.getElem?_cons_succ, List.getElem?_cons_zero]; rfl) e he
        have l0 : L 0 = true := hlo ⟨0, .data⟩ (by simp) rfl
        clear hlo
        clear hl hi ha hb hc hd hm hn
        replace hF0 := Lib.hid hF0; replace hra := Lib.hid hra; replace hrb := Lib.hid hrb; replace hrc := Lib.hid hrc
        have ex : x26 = .agg #[.int .u16 A0, .int .u16 A1, .int .u16 A2, .int .u16 A3, .int .u16 A4] := by obtain ⟨hu, e0, e2, e4, e1, e3, e5, e6, e7, e8, n1, n2, n3, m1, m2, m3⟩ := hF0.out; exact e0 l0
        subst ex
        refine wpOp_step (by simp only [List.getElem?_toArray, List.getElem?_cons_succ, List.getElem?_cons_zero]; rfl) (fun K hK => ?_)
        replace hK := Lib.hid hK
        clear HK hW0 HF
        go_wp2_with fail
        refine (hra.out _).mono ?_
        rintro e u' ⟨rfl, hf⟩
        obtain ⟨hu, e0, e2, e4, e1, e3, e5, e6, e7, e8, n1, n2, n3, m1, m2, m3⟩ := hF0.out
        go_wp2_with fail
        exact hK.out _ _ ⟨x7, x8, x9, _, _, x28, x29, x30, x31, p, q, r, by go_simp, hu.pu hf, fun _ => rfl, e2, e4, fun _ => rfl, e3, e5, fun l => ⟨(e6 l).1, hf.blk (e6 l).2.1 (fun t => t), (e6 l).2.2⟩, fun l => ⟨(e7 l).1, hf.blk (e7 l).2.1 (fun t => t), (e7 l).2.2⟩, fun l => ⟨(e8 l).1, hf.blk (e8 l).2.1 (fun t => t), (e8 l).2.2⟩, n1, n2, n3, m1, m2, m3⟩
      · -- step 2
        clear hl hi ha hb hc hd hm hn
        replace hF0 := Lib.hid hF0; replace hra := Lib.hid hra; replace hrb := Lib.hid hrb; replace hrc := Lib.hid hrc
        refine wpOp_step (by simp only [List.getElem?_toArray, List.getElem?_cons_succ, List.getElem?_cons_zero]; rfl) (fun K hK => ?_)
        replace hK := Lib.hid hK
        have q0 : u.cell? ⟨w.heap.size + 1, 0, none⟩ = some (.int .u16 B0) := (HK.pu hF0.out.1).at_ (t := 23) (cs := #[.int .u16 B0, .int .u16 B1, .int .u16 B2, .int .u16 B3, .int .u16 B4]) (by simp) 0
        have q1 : u.cell? ⟨w.heap.size + 1, 1, none⟩ = some (.int .u16 B1) := (HK.pu hF0.out.1).at_ (t := 23) (cs := #[.int .u16 B0, .int .u16 B1, .int .u16 B2, .int .u16 B3, .int .u16 B4]) (by simp) 1
        have q2 : u.cell? ⟨w.heap.size + 1, 2, none⟩ = some (.int .u16 B2) := (HK.pu hF0.out.1).at_ (t := 23) (cs := #[.int .u16 B0, .int .u16 B1, .int .u16 B2, .int .u16 B3, .int .u16 B4]) (by simp) 2
        have q3 : u.cell? ⟨w.heap.size + 1, 3, none⟩ = some (.int .u16 B3) := (HK.pu hF0.out.1).at_ (t := 23) (cs := #[.int .u16 B0, .int .u16 B1, .int .u16 B2, .int .u16 B3, .int .u16 B4]) (by simp) 3
        have q4 : u.cell? ⟨w.heap.size + 1, 4, none⟩ = some (.int .u16 B4) := (HK.pu hF0.out.1).at_ (t := 23) (cs := #[.int .u16 B0, .int .u16 B1, .int .u16 B2, .int .u16 B3, .int .u16 B4]) (by simp) 4
        clear HK hW0 HF
        go_simp
        obtain ⟨hu, e0, e2, e4, e1, e3, e5, e6, e7, e8, n1, n2, n3, m1, m2, m3⟩ := hF0.out
        exact hK.out _ _ ⟨x7, x8, x9, x26, x27, _, x29, x30, x31, p, q, r, by go_simp, hu, e0, fun _ => rfl, e4, e1, e3, e5, e6, e7, e8, n1, n2, n3, m1, m2, m3⟩
      · -- step 3
        have hlo := fun e he => hl _ (by simp only [List.getElem?_toArray, List.getElem?_cons_succ, List.getElem?_cons_zero]; rfl) e he
        have l2 : L 2 = true := hlo ⟨2, .data⟩ (by simp) rfl
        clear hlo
        clear hl hi ha hb hc hd hm hn
        replace hF0 := Lib.hid hF0; replace hra := Lib.hid hra; replace hrb := Lib.hid hrb; replace hrc := Lib.hid hrc
        have ex : x28 = .agg #[.int .u16 B0, .int .u16 B1, .int .u16 B2, .int .u16 B3, .int .u16 B4] := by obtain ⟨hu, e0, e2, e4, e1, e3, e5, e6, e7, e8, n1, n2, n3, m1, m2, m3⟩ := hF0.out; exact e2 l2
        subst ex
        refine wpOp_step (by simp only [List.getElem?_toArray, List.getElem?_cons_succ, List.getElem?_cons_zero]; rfl) (fun K hK => ?_)
        replace hK := Lib.hid hK
        clear HK hW0 HF
        go_wp2_with fail
        refine (hrb.out _).mono ?_
        rintro e u' ⟨rfl, hf⟩
        obtain ⟨hu, e0, e2, e4, e1, e3, e5, e6, e7, e8, n1, n2, n3, m1, m2, m3⟩ := hF0.out
        go_wp2_with fail
        exact hK.out _ _ ⟨x7, x8, x9, x26, x27, _, _, x30, x31, p, q, r, by go_simp, hu.pu hf, e0, fun _ => rfl, e4, e1, fun _ => rfl, e5, fun l => ⟨(e6 l).1, hf.blk (e6 l).2.1 (fun t => t), (e6 l).2.2⟩, fun l => ⟨(e7 l).1, hf.blk (e7 l).2.1 (fun t => t), (e7 l).2.2⟩, fun l => ⟨(e8 l).1, hf.blk (e8 l).2.1 (fun t => t), (e8 l).2.2⟩, n1, n2, n3, m1, m2, m3⟩
      · -- step 4
        clear hl hi ha hb hc hd hm hn
        replace hF0 := Lib.hid hF0; replace hra := Lib.hid hra; replace hrb := Lib.hid hrb; replace hrc := Lib.hid hrc
        refine wpOp_step (by simp only [List.getElem?_toArray, List.getElem?_cons_succ, List.getElem?_cons_zero]; rfl) (fun K hK => ?_)
        replace hK := Lib.hid hK
        have q0 : u.cell? ⟨w.heap.size + 1 + 1, 0, none⟩ = some (.int .u16 C0) := (HK.pu hF0.out.1).at_ (t := 23) (cs := #[.int .u16 C0, .int .u16 C1, .int .u16 C2, .int .u16 C3, .int .u16 C4]) (by simp) 0
        have q1 : u.cell? ⟨w.heap.size + 1 + 1, 1, none⟩ = some (.int .u16 C1) := (HK.pu hF0.out.1).at_ (t := 23) (cs := #[.int .u16 C0, .int .u16 C1, .int .u16 C2, .int .u16 C3, .int .u16 C4]) (by simp) 1
        have q2 : u.cell? ⟨w.heap.size + 1 + 1, 2, none⟩ = some (.int .u16 C2) := (HK.pu hF0.out.1).at_ (t := 23) (cs := #[.int .u16 C0, .int .u16 C1, .int .u16 C2, .int .u16 C3, .int .u16 C4]) (by simp) 2
        have q3 : u.cell? ⟨w.heap.size + 1 + 1, 3, none⟩ = some (.int .u16 C3) := (HK.pu hF0.out.1).at_ (t := 23) (cs := #[.int .u16 C0, .int .u16 C1, .int .u16 C2, .int .u16 C3, .int .u16 C4]) (by simp) 3
        have q4 : u.cell? ⟨w.heap.size + 1 + 1, 4, none⟩ = some (.int .u16 C4) := (HK.pu hF0.out.1).at_ (t := 23) (cs := #[.int .u16 C0, .int .u16 C1, .int .u16 C2, .int .u16 C3, .int .u16 C4]) (by simp) 4
        clear HK hW0 HF
        go_simp
        obtain ⟨hu, e0, e2, e4, e1, e3, e5, e6, e7, e8, n1, n2, n3, m1, m2, m3⟩ := hF0.out
        exact hK.out _ _ ⟨x7, x8, x9, x26, x27, x28, x29, _, x31, p, q, r, by go_simp, hu, e0, e2, fun _ => rfl, e1, e3, e5, e6, e7, e8, n1, n2, n3, m1, m2, m3⟩
      · -- step 5
        have hlo := fun e he => hl _ (by simp only [List.getElem?_toArray, List.getElem?_cons_succ, List.getElem?_cons_zero]; rfl) e he
        have l4 : L 4 = true := hlo ⟨4, .data⟩ (by simp) rfl
        clear hlo
        clear hl hi ha hb hc hd hm hn
        replace hF0 := Lib.hid hF0; replace hra := Lib.hid hra; replace hrb := Lib.hid hrb; replace hrc := Lib.hid hrc
        have ex : x30 = .agg #[.int .u16 C0, .int .u16 C1, .int .u16 C2, .int .u16 C3, .int .u16 C4] := by obtain ⟨hu, e0, e2, e4, e1, e3, e5, e6, e7, e8, n1, n2, n3, m1, m2, m3⟩ := hF0.out; exact e4 l4
        subst ex
        refine wpOp_step (by simp only [List.getElem?_toArray, List.getElem?_cons_succ, List.getElem?_cons_zero]; rfl) (fun K hK => ?_)
        replace hK := Lib.hid hK
        clear HK hW0 HF
        go_wp2_with fail
        refine (hrc.out _).mono ?_
        rintro e u' ⟨rfl, hf⟩
        obtain ⟨hu, e0, e2, e4, e1, e3, e5, e6, e7, e8, n1, n2, n3, m1, m2, m3⟩ := hF0.out
        go_wp2_with fail
        exact hK.out _ _ ⟨x7, x8, x9, x26, x27, x28, x29, _, _, p, q, r, by go_simp, hu.pu hf, e0, e2, fun _ => rfl, e1, e3, fun _ => rfl, fun l => ⟨(e6 l).1, hf.blk (e6 l).2.1 (fun t => t), (e6 l).2.2⟩, fun l => ⟨(e7 l).1, hf.blk (e7 l).2.1 (fun t => t), (e7 l).2.2⟩, fun l => ⟨(e8 l).1, hf.blk (e8 l).2.1 (fun t => t), (e8 l).2.2⟩, n1, n2, n3, m1, m2, m3⟩
      · -- step 6
        clear hl hi ha hb hc hd hm hn
        replace hF0 := Lib.hid hF0; replace hra := Lib.hid hra; replace hrb := Lib.hid hrb; replace hrc := Lib.hid hrc
        refine wpOp_step (by simp only [List.getElem?_toArray, List.getElem?_cons_succ, List.getElem?_cons_zero]; rfl) (fun K hK => ?_)
        replace hK := Lib.hid hK
        clear HK hW0 HF
        go_simp
        obtain ⟨hu, e0, e2, e4, e1, e3, e5, e6, e7, e8, n1, n2, n3, m1, m2, m3⟩ := hF0.out
        have h9 : L 9 = false := by rw [Bool.eq_false_iff]; intro h; rw [m1 h] at h0; cases h0
        exact hK.out _ _ ⟨_, x8, x9, x26, x27, x28, x29, x30, x31, u.heap.size, q, r, by go_simp, hu.alloc _, e0, e2, e4, e1, e3, e5, fun _ => ⟨rfl, by rw [if_neg (by show ¬ L 9 = true; rw [h9]; decide)]; exact Blk.new u _ _, hu.size⟩, fun l => ⟨(e7 l).1, (e7 l).2.1.alloc _, (e7 l).2.2⟩, fun l => ⟨(e8 l).1, (e8 l).2.1.alloc _, (e8 l).2.2⟩, fun _ l => by have := (e7 l).2.1.lt; omega, fun _ l => by have := (e8 l).2.1.lt; omega, n3, fun _ => rfl, m2, m3⟩
      · -- step 7
        clear hl hi ha hb hc hd hm hn
        replace hF0 := Lib.hid hF0; replace hra := Lib.hid hra; replace hrb := Lib.hid hrb; replace hrc := Lib.hid hrc
        refine wpOp_step (by simp only [List.getElem?_toArray, List.getElem?_cons_succ, List.getElem?_cons_zero]; rfl) (fun K hK => ?_)
        replace hK := Lib.hid hK
        clear HK hW0 HF
        go_simp
        obtain ⟨hu, e0, e2, e4, e1, e3, e5, e6, e7, e8, n1, n2, n3, m1, m2, m3⟩ := hF0.out
        have h9 : L 10 = false := by rw [Bool.eq_false_iff]; intro h; rw [m2 h] at h0; cases h0
        exact hK.out _ _ ⟨x7, _, x9, x26, x27, x28, x29, x30, x31, p, u.heap.size, r, by go_simp, hu.alloc _, e0, e2, e4, e1, e3, e5, fun l => ⟨(e6 l).1, (e6 l).2.1.alloc _, (e6 l).2.2⟩, fun _ => ⟨rfl, by rw [if_neg (by show ¬ L 10 = true; rw [h9]; decide)]; exact Blk.new u _ _, hu.size⟩, fun l => ⟨(e8 l).1, (e8 l).2.1.alloc _, (e8 l).2.2⟩, fun l _ => by have := (e6 l).2.1.lt; omega, n2, fun _ l => by have := (e8 l).2.1.lt; omega, m1, fun _ => rfl, m3⟩
      · -- step 8
        clear hl hi ha hb hc hd hm hn
        replace hF0 := Lib.hid hF0; replace hra := Lib.hid hra; replace hrb := Lib.hid hrb; replace hrc := Lib.hid hrc
        refine wpOp_step (by simp only [List.getElem?_toArray, List.getElem?_cons_succ, List.getElem?_cons_zero]; rfl) (fun K hK => ?_)
        replace hK := Lib.hid hK
        clear HK hW0 HF
        go_simp
        obtain ⟨hu, e0, e2, e4, e1, e3, e5, e6, e7, e8, n1, n2, n3, m1, m2, m3⟩ := hF0.out
        have h9 : L 11 = false := by rw [Bool.eq_false_iff]; intro h; rw [m3 h] at h0; cases h0
        exact hK.out _ _ ⟨x7, x8, _, x26, x27, x28, x29, x30, x31, p, q, u.heap.size, by go_simp, hu.alloc _, e0, e2, e4, e1, e3, e5, fun l => ⟨(e6 l).1, (e6 l).2.1.alloc _, (e6 l).2.2⟩, fun l => ⟨(e7 l).1, (e7 l).2.1.alloc _, (e7 l).2.2⟩, fun _ => ⟨rfl, by rw [if_neg (by show ¬ L 11 = true; rw [h9]; decide)]; exact Blk.new u _ _, hu.size⟩, n1, fun l _ => by have := (e6 l).2.1.lt; omega, fun l _ => by have := (e7 l).2.1.lt; omega, m1, m2, fun _ => rfl⟩
      · -- step 9
        have hlo := fun e he => hl _ (by simp only [List.getElem?_toArray, List.getElem?_cons_succ, List.getElem?_cons_zero]; rfl) e he
        have l6 : L 6 = true := hlo ⟨6, .data⟩ (by simp) rfl
        have l1 : L 1 = true := hlo ⟨1, .data⟩ (by simp) rfl
        clear hlo
        clear hl hi ha hb hc hd hm hn
        replace hF0 := Lib.hid hF0; replace hra := Lib.hid hra; replace hrb := Lib.hid hrb; replace hrc := Lib.hid hrc
        obtain ⟨hu, e0, e2, e4, e1, e3, e5, e6, e7, e8, n1, n2, n3, m1, m2, m3⟩ := hF0.out
        obtain ⟨ep, Bp, zp⟩ := e6 l6
        have ex := e1 l1
        subst ep; subst ex
        rw [if_neg (by rw [h0]; decide)] at Bp
        have q0 : u.cell? ⟨p, 0, none⟩ = some (.int .i64 0) := Bp.cell 0
        have f0 : u.frozen? ⟨p, 0, none⟩ = false := Bp.frozen 0
        have q1 : u.cell? ⟨p, 1, none⟩ = some (.int .i64 0) := Bp.cell 1
        have f1 : u.frozen? ⟨p, 1, none⟩ = false := Bp.frozen 1
        have q2 : u.cell? ⟨p, 2, none⟩ = some (.int .i64 0) := Bp.cell 2
        have f2 : u.frozen? ⟨p, 2, none⟩ = false := Bp.frozen 2
        have q3 : u.cell? ⟨p, 3, none⟩ = some (.int .i64 0) := Bp.cell 3
        have f3 : u.frozen? ⟨p, 3, none⟩ = false := Bp.frozen 3
        have q4 : u.cell? ⟨p, 4, none⟩ = some (.int .i64 0) := Bp.cell 4
        have f4 : u.frozen? ⟨p, 4, none⟩ = false := Bp.frozen 4
        have q5 : u.cell? ⟨p, 5, none⟩ = some (.int .i64 0) := Bp.cell 5
        have f5 : u.frozen? ⟨p, 5, none⟩ = false := Bp.frozen 5
        have q6 : u.cell? ⟨p, 6, none⟩ = some (.int .i64 0) := Bp.cell 6
        have f6 : u.frozen? ⟨p, 6, none⟩ = false := Bp.frozen 6
        clear hF0 HK hW0 HF
        replace hu := Lib.hid hu
        replace e0 := Lib.hid e0
        replace e2 := Lib.hid e2
        replace e4 := Lib.hid e4
        replace e1 := Lib.hid e1
        replace e3 := Lib.hid e3
        replace e5 := Lib.hid e5
        replace e6 := Lib.hid e6
        replace e7 := Lib.hid e7
        replace e8 := Lib.hid e8
        replace n1 := Lib.hid n1
        replace n2 := Lib.hid n2
        replace n3 := Lib.hid n3
        replace m1 := Lib.hid m1
        replace m2 := Lib.hid m2
        replace m3 := Lib.hid m3
        replace Bp := Lib.hid Bp
        replace zp := Lib.hid zp
        refine wpOp_step (by simp only [List.getElem?_toArray, List.getElem?_cons_succ, List.getElem?_cons_zero]; rfl) (fun K hK => ?_)
        replace hK := Lib.hid hK
        go_simp
        exact hK.out _ _ ⟨_, x8, x9, x26, _, x28, x29, x30, x31, p, q, r, by go_simp, (((((((hu.out.setCell (p := ⟨p, 0, none⟩) (.inr zp.out) _).setCell (p := ⟨p, 1, none⟩) (.inr zp.out) _).setCell (p := ⟨p, 2, none⟩) (.inr zp.out) _).setCell (p := ⟨p, 3, none⟩) (.inr zp.out) _).setCell (p := ⟨p, 4, none⟩) (.inr zp.out) _).setCell (p := ⟨p, 5, none⟩) (.inr zp.out) _).setCell (p := ⟨p, 6, none⟩) (.inr zp.out) _), e0.out, e2.out, e4.out, fun _ => rfl, e3.out, e5.out, fun _ => ⟨rfl, by rw [if_pos (by show (if (9 : Nat) = 9 then true else L 9) = true; rfl)]; have h := (((((((Bp.out.set_ 0 (.int .i64 X0)).set_ 1 (.int .i64 X1)).set_ 2 (.int .i64 X2)).set_ 3 (.int .i64 X3)).set_ 4 (.int .i64 X4)).set_ 5 (.int .i64 X5)).set_ 6 (.int .i64 X6)); simpa using h, zp.out⟩, fun l => ⟨(e7.out l).1, ((((((((e7.out l).2.1.far (p := ⟨p, 0, none⟩) (fun e => (n1.out l6 l) e.symm) _).far (p := ⟨p, 1, none⟩) (fun e => (n1.out l6 l) e.symm) _).far (p := ⟨p, 2, none⟩) (fun e => (n1.out l6 l) e.symm) _).far (p := ⟨p, 3, none⟩) (fun e => (n1.out l6 l) e.symm) _).far (p := ⟨p, 4, none⟩) (fun e => (n1.out l6 l) e.symm) _).far (p := ⟨p, 5, none⟩) (fun e => (n1.out l6 l) e.symm) _).far (p := ⟨p, 6, none⟩) (fun e => (n1.out l6 l) e.symm) _), (e7.out l).2.2⟩, fun l => ⟨(e8.out l).1, ((((((((e8.out l).2.1.far (p := ⟨p, 0, none⟩) (fun e => (n2.out l6 l) e.symm) _).far (p := ⟨p, 1, none⟩) (fun e => (n2.out l6 l) e.symm) _).far (p := ⟨p, 2, none⟩) (fun e => (n2.out l6 l) e.symm) _).far (p := ⟨p, 3, none⟩) (fun e => (n2.out l6 l) e.symm) _).far (p := ⟨p, 4, none⟩) (fun e => (n2.out l6 l) e.symm) _).far (p := ⟨p, 5, none⟩) (fun e => (n2.out l6 l) e.symm) _).far (p := ⟨p, 6, none⟩) (fun e => (n2.out l6 l) e.symm) _), (e8.out l).2.2⟩, n1.out, n2.out, n3.out, fun _ => l6, m2.out, m3.out⟩
      · -- step 10
        have hlo := fun e he => hl _ (by simp only [List.getElem?_toArray, List.getElem?_cons_succ, List.getElem?_cons_zero]; rfl) e he
        have l7 : L 7 = true := hlo ⟨7, .data⟩ (by simp) rfl
        have l3 : L 3 = true := hlo ⟨3, .data⟩ (by simp) rfl
        clear hlo
        clear hl hi ha hb hc hd hm hn
        replace hF0 := Lib.hid hF0; replace hra := Lib.hid hra; replace hrb := Lib.hid hrb; replace hrc := Lib.hid hrc
        obtain ⟨hu, e0, e2, e4, e1, e3, e5, e6, e7, e8, n1, n2, n3, m1, m2, m3⟩ := hF0.out
        obtain ⟨ep, Bp, zp⟩ := e7 l7
        have ex := e3 l3
        subst ep; subst ex
        rw [if_neg (by rw [h0]; decide)] at Bp
        have q0 : u.cell? ⟨q, 0, none⟩ = some (.int .i64 0) := Bp.cell 0
        have f0 : u.frozen? ⟨q, 0, none⟩ = false := Bp.frozen 0
        have q1 : u.cell? ⟨q, 1, none⟩ = some (.int .i64 0) := Bp.cell 1
        have f1 : u.frozen? ⟨q, 1, none⟩ = false := Bp.frozen 1
        have q2 : u.cell? ⟨q, 2, none⟩ = some (.int .i64 0) := Bp.cell 2
        have f2 : u.frozen? ⟨q, 2, none⟩ = false := Bp.frozen 2
        have q3 : u.cell? ⟨q, 3, none⟩ = some (.int .i64 0) := Bp.cell 3
        have f3 : u.frozen? ⟨q, 3, none⟩ = false := Bp.frozen 3
        have q4 : u.cell? ⟨q, 4, none⟩ = some (.int .i64 0) := Bp.cell 4
        have f4 : u.frozen? ⟨q, 4, none⟩ = false := Bp.frozen 4
        have q5 : u.cell? ⟨q, 5, none⟩ = some (.int .i64 0) := Bp.cell 5
        have f5 : u.frozen? ⟨q, 5, none⟩ = false := Bp.frozen 5
        have q6 : u.cell? ⟨q, 6, none⟩ = some (.int .i64 0) := Bp.cell 6
        have f6 : u.frozen? ⟨q, 6, none⟩ = false := Bp.frozen 6
        clear hF0 HK hW0 HF
        replace hu := Lib.hid hu
        replace e0 := Lib.hid e0
        replace e2 := Lib.hid e2
        replace e4 := Lib.hid e4
        replace e1 := Lib.hid e1
        replace e3 := Lib.hid e3
        replace e5 := Lib.hid e5
        replace e6 := Lib.hid e6
        replace e7 := Lib.hid e7
        replace e8 := Lib.hid e8
        replace n1 := Lib.hid n1
        replace n2 := Lib.hid n2
        replace n3 := Lib.hid n3
        replace m1 := Lib.hid m1
        replace m2 := Lib.hid m2
        replace m3 := Lib.hid m3
        replace Bp := Lib.hid Bp
        replace zp := Lib.hid zp
        refine wpOp_step (by simp only [List.getElem?_toArray, List.getElem?_cons_succ, List.getElem?_cons_zero]; rfl) (fun K hK => ?_)
        replace hK := Lib.hid hK
        go_simp
        exact hK.out _ _ ⟨x7, _, x9, x26, x27, x28, _, x30, x31, p, q, r, by go_simp, (((((((hu.out.setCell (p := ⟨q, 0, none⟩) (.inr zp.out) _).setCell (p := ⟨q, 1, none⟩) (.inr zp.out) _).setCell (p := ⟨q, 2, none⟩) (.inr zp.out) _).setCell (p := ⟨q, 3, none⟩) (.inr zp.out) _).setCell (p := ⟨q, 4, none⟩) (.inr zp.out) _).setCell (p := ⟨q, 5, none⟩) (.inr zp.out) _).setCell (p := ⟨q, 6, none⟩) (.inr zp.out) _), e0.out, e2.out, e4.out, e1.out, fun _ => rfl, e5.out, fun l => ⟨(e6.out l).1, ((((((((e6.out l).2.1.far (p := ⟨q, 0, none⟩) (fun e => (n1.out l l7) e) _).far (p := ⟨q, 1, none⟩) (fun e => (n1.out l l7) e) _).far (p := ⟨q, 2, none⟩) (fun e => (n1.out l l7) e) _).far (p := ⟨q, 3, none⟩) (fun e => (n1.out l l7) e) _).far (p := ⟨q, 4, none⟩) (fun e => (n1.out l l7) e) _).far (p := ⟨q, 5, none⟩) (fun e => (n1.out l l7) e) _).far (p := ⟨q, 6, none⟩) (fun e => (n1.out l l7) e) _), (e6.out l).2.2⟩, fun _ => ⟨rfl, by rw [if_pos (by show (if (10 : Nat) = 10 then true else L 10) = true; rfl)]; have h := (((((((Bp.out.set_ 0 (.int .i64 Y0)).set_ 1 (.int .i64 Y1)).set_ 2 (.int .i64 Y2)).set_ 3 (.int .i64 Y3)).set_ 4 (.int .i64 Y4)).set_ 5 (.int .i64 Y5)).set_ 6 (.int .i64 Y6)); simpa using h, zp.out⟩, fun l => ⟨(e8.out l).1, ((((((((e8.out l).2.1.far (p := ⟨q, 0, none⟩) (fun e => (n3.out l7 l) e.symm) _).far (p := ⟨q, 1, none⟩) (fun e => (n3.out l7 l) e.symm) _).far (p := ⟨q, 2, none⟩) (fun e => (n3.out l7 l) e.symm) _).far (p := ⟨q, 3, none⟩) (fun e => (n3.out l7 l) e.symm) _).far (p := ⟨q, 4, none⟩) (fun e => (n3.out l7 l) e.symm) _).far (p := ⟨q, 5, none⟩) (fun e => (n3.out l7 l) e.symm) _).far (p := ⟨q, 6, none⟩) (fun e => (n3.out l7 l) e.symm) _), (e8.out l).2.2⟩, n1.out, n2.out, n3.out, m1.out, fun _ => l7, m3.out⟩
      · -- step 11
        have hlo := fun e he => hl _ (by simp only [List.getElem?_toArray, List.getElem?_cons_succ, List.getElem?_cons_zero]; rfl) e he
        have l8 : L 8 = true := hlo ⟨8, .data⟩ (by simp) rfl
        have l5 : L 5 = true := hlo ⟨5, .data⟩ (by simp) rfl
        clear hlo
        clear hl hi ha hb hc hd hm hn
        replace hF0 := Lib.hid hF0; replace hra := Lib.hid hra; replace hrb := Lib.hid hrb; replace hrc := Lib.hid hrc
        obtain ⟨hu, e0, e2, e4, e1, e3, e5, e6, e7, e8, n1, n2, n3, m1, m2, m3⟩ := hF0.out
        obtain ⟨ep, Bp, zp⟩ := e8 l8
        have ex := e5 l5
        subst ep; subst ex
        rw [if_neg (by rw [h0]; decide)] at Bp
        have q0 : u.cell? ⟨r, 0, none⟩ = some (.int .i64 0) := Bp.cell 0
        have f0 : u.frozen? ⟨r, 0, none⟩ = false := Bp.frozen 0
        have q1 : u.cell? ⟨r, 1, none⟩ = some (.int .i64 0) := Bp.cell 1
        have f1 : u.frozen? ⟨r, 1, none⟩ = false := Bp.frozen 1
        have q2 : u.cell? ⟨r, 2, none⟩ = some (.int .i64 0) := Bp.cell 2
        have f2 : u.frozen? ⟨r, 2, none⟩ = false := Bp.frozen 2
        have q3 : u.cell? ⟨r, 3, none⟩ = some (.int .i64 0) := Bp.cell 3
        have f3 : u.frozen? ⟨r, 3, none⟩ = false := Bp.frozen 3
        have q4 : u.cell? ⟨r, 4, none⟩ = some (.int .i64 0) := Bp.cell 4
        have f4 : u.frozen? ⟨r, 4, none⟩ = false := Bp.frozen 4
        have q5 : u.cell? ⟨r, 5, none⟩ = some (.int .i64 0) := Bp.cell 5
        have f5 : u.frozen? ⟨r, 5, none⟩ = false := Bp.frozen 5
        have q6 : u.cell? ⟨r, 6, none⟩ = some (.int .i64 0) := Bp.cell 6
        have f6 : u.frozen? ⟨r, 6, none⟩ = false := Bp.frozen 6
        clear hF0 HK hW0 HF
        replace hu := Lib.hid hu
        replace e0 := Lib.hid e0
        replace e2 := Lib.hid e2
        replace e4 := Lib.hid e4
        replace e1 := Lib.hid e1
        replace e3 := Lib.hid e3
        replace e5 := Lib.hid e5
        replace e6 := Lib.hid e6
        replace e7 := Lib.hid e7
        replace e8 := Lib.hid e8
        replace n1 := Lib.hid n1
        replace n2 := Lib.hid n2
        replace n3 := Lib.hid n3
        replace m1 := Lib.hid m1
        replace m2 := Lib.hid m2
        replace m3 := Lib.hid m3
        replace Bp := Lib.hid Bp
        replace zp := Lib.hid zp
        refine wpOp_step (by simp only [List.getElem?_toArray, List.getElem?_cons_succ, List.getElem?_cons_zero]; rfl) (fun K hK => ?_)
        replace hK := Lib.hid hK
        go_simp
        exact hK.out _ _ ⟨x7, x8, _, x26, x27, x28, x29, x30, _, p, q, r, by go_simp, (((((((hu.out.setCell (p := ⟨r, 0, none⟩) (.inr zp.out) _).setCell (p := ⟨r, 1, none⟩) (.inr zp.out) _).setCell (p := ⟨r, 2, none⟩) (.inr zp.out) _).setCell (p := ⟨r, 3, none⟩) (.inr zp.out) _).setCell (p := ⟨r, 4, none⟩) (.inr zp.out) _).setCell (p := ⟨r, 5, none⟩) (.inr zp.out) _).setCell (p := ⟨r, 6, none⟩) (.inr zp.out) _), e0.out, e2.out, e4.out, e1.out, e3.out, fun _ => rfl, fun l => ⟨(e6.out l).1, ((((((((e6.out l).2.1.far (p := ⟨r, 0, none⟩) (fun e => (n2.out l l8) e) _).far (p := ⟨r, 1, none⟩) (fun e => (n2.out l l8) e) _).far (p := ⟨r, 2, none⟩) (fun e => (n2.out l l8) e) _).far (p := ⟨r, 3, none⟩) (fun e => (n2.out l l8) e) _).far (p := ⟨r, 4, none⟩) (fun e => (n2.out l l8) e) _).far (p := ⟨r, 5, none⟩) (fun e => (n2.out l l8) e) _).far (p := ⟨r, 6, none⟩) (fun e => (n2.out l l8) e) _), (e6.out l).2.2⟩, fun l => ⟨(e7.out l).1, ((((((((e7.out l).2.1.far (p := ⟨r, 0, none⟩) (fun e => (n3.out l l8) e) _).far (p := ⟨r, 1, none⟩) (fun e => (n3.out l l8) e) _).far (p := ⟨r, 2, none⟩) (fun e => (n3.out l l8) e) _).far (p := ⟨r, 3, none⟩) (fun e => (n3.out l l8) e) _).far (p := ⟨r, 4, none⟩) (fun e => (n3.out l l8) e) _).far (p := ⟨r, 5, none⟩) (fun e => (n3.out l l8) e) _).far (p := ⟨r, 6, none⟩) (fun e => (n3.out l l8) e) _), (e7.out l).2.2⟩, fun _ => ⟨rfl, by rw [if_pos (by show (if (11 : Nat) = 11 then true else L 11) = true; rfl)]; have h := (((((((Bp.out.set_ 0 (.int .i64 Z0)).set_ 1 (.int .i64 Z1)).set_ 2 (.int .i64 Z2)).set_ 3 (.int .i64 Z3)).set_ 4 (.int .i64 Z4)).set_ 5 (.int .i64 Z5)).set_ 6 (.int .i64 Z6)); simpa using h, zp.out⟩, n1.out, n2.out, n3.out, m1.out, m2.out, fun _ => l8⟩
    · intro L b u hL ⟨x7, x8, x9, x26, x27, x28, x29, x30, x31, p, q, r, hb, hu, e0, e2, e4, e1, e3, e5, e6, e7, e8, n1, n2, n3, m1, m2, m3⟩
      subst hb
      obtain ⟨rfl, Bp, zp⟩ := e6 (hL 6 (by decide))
      obtain ⟨rfl, Bq, zq⟩ := e7 (hL 7 (by decide))
      obtain ⟨rfl, Br, zr⟩ := e8 (hL 8 (by decide))
      rw [if_pos (hL 9 (by decide))] at Bp
      rw [if_pos (hL 10 (by decide))] at Bq
      rw [if_pos (hL 11 (by decide))] at Br
      clear e0 e2 e4 e1 e3 e5 e6 e7 e8 n1 n2 n3 m1 m2 m3 hL HK hW0 hra hrb hrc ha hb hc hd hm hn
      go_simp
      go_wp2_with fail
      go_meet
      exact ⟨p, q, r, rfl, rfl, rfl, Bp, Bq, Br, HF.pu hu⟩
  case rest =>
    obtain ⟨p, q, r, rfl, rfl, rfl, Bp, Bq, Br, hf⟩ := hcut
    clear hra hrb hrc HK HF
    have K0 : Kp [(r, 25, #[.int .i64 Z0, .int .i64 Z1, .int .i64 Z2, .int .i64 Z3, .int .i64 Z4, .int .i64 Z5, .int .i64 Z6]), (q, 25, #[.int .i64 Y0, .int .i64 Y1, .int .i64 Y2, .int .i64 Y3, .int .i64 Y4, .int .i64 Y5, .int .i64 Y6]), (p, 25, #[.int .i64 X0, .int .i64 X1, .int .i64 X2, .int .i64 X3, .int .i64 X4, .int .i64 X5, .int .i64 X6])] wc := by
      intro x hx
      simp only [List.mem_cons, List.not_mem_nil, or_false] at hx
      rcases hx with rfl | rfl | rfl <;> assumption
    clear Bp Bq Br
    have c10_0 : (wc).cell? ⟨p, 0, none⟩ = some (.int .i64 X0) := K0.at_ (g := p) (t := 25) (cs := #[.int .i64 X0, .int .i64 X1, .int .i64 X2, .int .i64 X3, .int .i64 X4, .int .i64 X5, .int .i64 X6]) (by simp) 0
    have c10_1 : (wc).cell? ⟨p, 1, none⟩ = some (.int .i64 X1) := K0.at_ (g := p) (t := 25) (cs := #[.int .i64 X0, .int .i64 X1, .int .i64 X2, .int .i64 X3, .int .i64 X4, .int .i64 X5, .int .i64 X6]) (by simp) 1
    have c10_2 : (wc).cell? ⟨p, 2, none⟩ = some (.int .i64 X2) := K0.at_ (g := p) (t := 25) (cs := #[.int .i64 X0, .int .i64 X1, .int .i64 X2, .int .i64 X3, .int .i64 X4, .int .i64 X5, .int .i64 X6]) (by simp) 2
    have c10_3 : (wc).cell? ⟨p, 3, none⟩ = some (.int .i64 X3) := K0.at_ (g := p) (t := 25) (cs := #[.int .i64 X0, .int .i64 X1, .int .i64 X2, .int .i64 X3, .int .i64 X4, .int .i64 X5, .int .i64 X6]) (by simp) 3
    have c10_4 : (wc).cell? ⟨p, 4, none⟩ = some (.int .i64 X4) := K0.at_ (g := p) (t := 25) (cs := #[.int .i64 X0, .int .i64 X1, .int .i64 X2, .int .i64 X3, .int .i64 X4, .int .i64 X5, .int .i64 X6]) (by simp) 4
    have c10_5 : (wc).cell? ⟨p, 5, none⟩ = some (.int .i64 X5) := K0.at_ (g := p) (t := 25) (cs := #[.int .i64 X0, .int .i64 X1, .int .i64 X2, .int .i64 X3, .int .i64 X4, .int .i64 X5, .int .i64 X6]) (by simp) 5
    have c10_6 : (wc).cell? ⟨p, 6, none⟩ = some (.int .i64 X6) := K0.at_ (g := p) (t := 25) (cs := #[.int .i64 X0, .int .i64 X1, .int .i64 X2, .int .i64 X3, .int .i64 X4, .int .i64 X5, .int .i64 X6]) (by simp) 6
    have c11_0 : (wc).cell? ⟨q, 0, none⟩ = some (.int .i64 Y0) := K0.at_ (g := q) (t := 25) (cs := #[.int .i64 Y0, .int .i64 Y1, .int .i64 Y2, .int .i64 Y3, .int .i64 Y4, .int .i64 Y5, .int .i64 Y6]) (by simp) 0
    have c11_1 : (wc).cell? ⟨q, 1, none⟩ = some (.int .i64 Y1) := K0.at_ (g := q) (t := 25) (cs := #[.int .i64 Y0, .int .i64 Y1, .int .i64 Y2, .int .i64 Y3, .int .i64 Y4, .int .i64 Y5, .int .i64 Y6]) (by simp) 1
    have c11_2 : (wc).cell? ⟨q, 2, none⟩ = some (.int .i64 Y2) := K0.at_ (g := q) (t := 25) (cs := #[.int .i64 Y0, .int .i64 Y1, .int .i64 Y2, .int .i64 Y3, .int .i64 Y4, .int .i64 Y5, .int .i64 Y6]) (by simp) 2
    have c11_3 : (wc).cell? ⟨q, 3, none⟩ = some (.int .i64 Y3) := K0.at_ (g := q) (t := 25) (cs := #[.int .i64 Y0, .int .i64 Y1, .int .i64 Y2, .int .i64 Y3, .int .i64 Y4, .int .i64 Y5, .int .i64 Y6]) (by simp) 3
    have c11_4 : (wc).cell? ⟨q, 4, none⟩ = some (.int .i64 Y4) := K0.at_ (g := q) (t := 25) (cs := #[.int .i64 Y0, .int .i64 Y1, .int .i64 Y2, .int .i64 Y3, .int .i64 Y4, .int .i64 Y5, .int .i64 Y6]) (by simp) 4
    have c11_5 : (wc).cell? ⟨q, 5, none⟩ = some (.int .i64 Y5) := K0.at_ (g := q) (t := 25) (cs := #[.int .i64 Y0, .int .i64 Y1, .int .i64 Y2, .int .i64 Y3, .int .i64 Y4, .int .i64 Y5, .int .i64 Y6]) (by simp) 5
    have c11_6 : (wc).cell? ⟨q, 6, none⟩ = some (.int .i64 Y6) := K0.at_ (g := q) (t := 25) (cs := #[.int .i64 Y0, .int .i64 Y1, .int .i64 Y2, .int .i64 Y3, .int .i64 Y4, .int .i64 Y5, .int .i64 Y6]) (by simp) 6
    have KK := Lib.hid K0
    clear K0
    go_wp2_with fail
    refine (hxy.out _).mono ?_
    rintro e w1 ⟨rfl, h1⟩
    have K1 : Kp [(w1.heap.size, 25, #[.int .i64 P0, .int .i64 P1, .int .i64 P2, .int .i64 P3, .int .i64 P4, .int .i64 P5, .int .i64 P6]), (r, 25, #[.int .i64 Z0, .int .i64 Z1, .int .i64 Z2, .int .i64 Z3, .int .i64 Z4, .int .i64 Z5, .int .i64 Z6]), (q, 25, #[.int .i64 Y0, .int .i64 Y1, .int .i64 Y2, .int .i64 Y3, .int .i64 Y4, .int .i64 Y5, .int .i64 Y6]), (p, 25, #[.int .i64 X0, .int .i64 X1, .int .i64 X2, .int .i64 X3, .int .i64 X4, .int .i64 X5, .int .i64 X6])] (w1.alloc (.cells #[.int .i64 P0, .int .i64 P1, .int .i64 P2, .int .i64 P3, .int .i64 P4, .int .i64 P5, .int .i64 P6] 25)) := (KK.out.pu h1).new _ _
    clear KK c10_0 c10_1 c10_2 c10_3 c10_4 c10_5 c10_6 c11_0 c11_1 c11_2 c11_3 c11_4 c11_5 c11_6 hxy
    have hf1 : Pu w (w1.alloc (.cells #[.int .i64 P0, .int .i64 P1, .int .i64 P2, .int .i64 P3, .int .i64 P4, .int .i64 P5, .int .i64 P6] 25)) := (hf.pu h1).alloc _
    clear hf h1
    have c20_0 : ((w1.alloc (.cells #[.int .i64 P0, .int .i64 P1, .int .i64 P2, .int .i64 P3, .int .i64 P4, .int .i64 P5, .int .i64 P6] 25))).cell? ⟨q, 0, none⟩ = some (.int .i64 Y0) := K1.at_ (g := q) (t := 25) (cs := #[.int .i64 Y0, .int .i64 Y1, .int .i64 Y2, .int .i64 Y3, .int .i64 Y4, .int .i64 Y5, .int .i64 Y6]) (by simp) 0
    have c20_1 : ((w1.alloc (.cells #[.int .i64 P0, .int .i64 P1, .int .i64 P2, .int .i64 P3, .int .i64 P4, .int .i64 P5, .int .i64 P6] 25))).cell? ⟨q, 1, none⟩ = some (.int .i64 Y1) := K1.at_ (g := q) (t := 25) (cs := #[.int .i64 Y0, .int .i64 Y1, .int .i64 Y2, .int .i64 Y3, .int .i64 Y4, .int .i64 Y5, .int .i64 Y6]) (by simp) 1
    have c20_2 : ((w1.alloc (.cells #[.int .i64 P0, .int .i64 P1, .int .i64 P2, .int .i64 P3, .int .i64 P4, .int .i64 P5, .int .i64 P6] 25))).cell? ⟨q, 2, none⟩ = some (.int .i64 Y2) := K1.at_ (g := q) (t := 25) (cs := #[.int .i64 Y0, .int .i64 Y1, .int .i64 Y2, .int .i64 Y3, .int .i64 Y4, .int .i64 Y5, .int .i64 Y6]) (by simp) 2
    have c20_3 : ((w1.alloc (.cells #[.int .i64 P0, .int .i64 P1, .int .i64 P2, .int .i64 P3, .int .i64 P4, .int .i64 P5, .int .i64 P6] 25))).cell? ⟨q, 3, none⟩ = some (.int .i64 Y3) := K1.at_ (g := q) (t := 25) (cs := #[.int .i64 Y0, .int .i64 Y1, .int .i64 Y2, .int .i64 Y3, .int .i64 Y4, .int .i64 Y5, .int .i64 Y6]) (by simp) 3
    have c20_4 : ((w1.alloc (.cells #[.int .i64 P0, .int .i64 P1, .int .i64 P2, .int .i64 P3, .int .i64 P4, .int .i64 P5, .int .i64 P6] 25))).cell? ⟨q, 4, none⟩ = some (.int .i64 Y4) := K1.at_ (g := q) (t := 25) (cs := #[.int .i64 Y0, .int .i64 Y1, .int .i64 Y2, .int .i64 Y3, .int .i64 Y4, .int .i64 Y5, .int .i64 Y6]) (by simp) 4
    have c20_5 : ((w1.alloc (.cells #[.int .i64 P0, .int .i64 P1, .int .i64 P2, .int .i64 P3, .int .i64 P4, .int .i64 P5, .int .i64 P6] 25))).cell? ⟨q, 5, none⟩ = some (.int .i64 Y5) := K1.at_ (g := q) (t := 25) (cs := #[.int .i64 Y0, .int .i64 Y1, .int .i64 Y2, .int .i64 Y3, .int .i64 Y4, .int .i64 Y5, .int .i64 Y6]) (by simp) 5
    have c20_6 : ((w1.alloc (.cells #[.int .i64 P0, .int .i64 P1, .int .i64 P2, .int .i64 P3, .int .i64 P4, .int .i64 P5, .int .i64 P6] 25))).cell? ⟨q, 6, none⟩ = some (.int .i64 Y6) := K1.at_ (g := q) (t := 25) (cs := #[.int .i64 Y0, .int .i64 Y1, .int .i64 Y2, .int .i64 Y3, .int .i64 Y4, .int .i64 Y5, .int .i64 Y6]) (by simp) 6
    have c21_0 : ((w1.alloc (.cells #[.int .i64 P0, .int .i64 P1, .int .i64 P2, .int .i64 P3, .int .i64 P4, .int .i64 P5, .int .i64 P6] 25))).cell? ⟨p, 0, none⟩ = some (.int .i64 X0) := K1.at_ (g := p) (t := 25) (cs := #[.int .i64 X0, .int .i64 X1, .int .i64 X2, .int .i64 X3, .int .i64 X4, .int .i64 X5, .int .i64 X6]) (by simp) 0
    have c21_1 : ((w1.alloc (.cells #[.int .i64 P0, .int .i64 P1, .int .i64 P2, .int .i64 P3, .int .i64 P4, .int .i64 P5, .int .i64 P6] 25))).cell? ⟨p, 1, none⟩ = some (.int .i64 X1) := K1.at_ (g := p) (t := 25) (cs := #[.int .i64 X0, .int .i64 X1, .int .i64 X2, .int .i64 X3, .int .i64 X4, .int .i64 X5, .int .i64 X6]) (by simp) 1
    have c21_2 : ((w1.alloc (.cells #[.int .i64 P0, .int .i64 P1, .int .i64 P2, .int .i64 P3, .int .i64 P4, .int .i64 P5, .int .i64 P6] 25))).cell? ⟨p, 2, none⟩ = some (.int .i64 X2) := K1.at_ (g := p) (t := 25) (cs := #[.int .i64 X0, .int .i64 X1, .int .i64 X2, .int .i64 X3, .int .i64 X4, .int .i64 X5, .int .i64 X6]) (by simp) 2
    have c21_3 : ((w1.alloc (.cells #[.int .i64 P0, .int .i64 P1, .int .i64 P2, .int .i64 P3, .int .i64 P4, .int .i64 P5, .int .i64 P6] 25))).cell? ⟨p, 3, none⟩ = some (.int .i64 X3) := K1.at_ (g := p) (t := 25) (cs := #[.int .i64 X0, .int .i64 X1, .int .i64 X2, .int .i64 X3, .int .i64 X4, .int .i64 X5, .int .i64 X6]) (by simp) 3
    have c21_4 : ((w1.alloc (.cells #[.int .i64 P0, .int .i64 P1, .int .i64 P2, .int .i64 P3, .int .i64 P4, .int .i64 P5, .int .i64 P6] 25))).cell? ⟨p, 4, none⟩ = some (.int .i64 X4) := K1.at_ (g := p) (t := 25) (cs := #[.int .i64 X0, .int .i64 X1, .int .i64 X2, .int .i64 X3, .int .i64 X4, .int .i64 X5, .int .i64 X6]) (by simp) 4
    have c21_5 : ((w1.alloc (.cells #[.int .i64 P0, .int .i64 P1, .int .i64 P2, .int .i64 P3, .int .i64 P4, .int .i64 P5, .int .i64 P6] 25))).cell? ⟨p, 5, none⟩ = some (.int .i64 X5) := K1.at_ (g := p) (t := 25) (cs := #[.int .i64 X0, .int .i64 X1, .int .i64 X2, .int .i64 X3, .int .i64 X4, .int .i64 X5, .int .i64 X6]) (by simp) 5
    have c21_6 : ((w1.alloc (.cells #[.int .i64 P0, .int .i64 P1, .int .i64 P2, .int .i64 P3, .int .i64 P4, .int .i64 P5, .int .i64 P6] 25))).cell? ⟨p, 6, none⟩ = some (.int .i64 X6) := K1.at_ (g := p) (t := 25) (cs := #[.int .i64 X0, .int .i64 X1, .int .i64 X2, .int .i64 X3, .int .i64 X4, .int .i64 X5, .int .i64 X6]) (by simp) 6
    have KK := Lib.hid K1
    clear K1
    go_wp2_with fail
    refine (hyx.out _).mono ?_
    rintro e w2 ⟨rfl, h2⟩
    have K2 : Kp [(w2.heap.size, 25, #[.int .i64 P0, .int .i64 P1, .int .i64 P2, .int .i64 P3, .int .i64 P4, .int .i64 P5, .int .i64 P6]), (w1.heap.size, 25, #[.int .i64 P0, .int .i64 P1, .int .i64 P2, .int .i64 P3, .int .i64 P4, .int .i64 P5, .int .i64 P6]), (r, 25, #[.int .i64 Z0, .int .i64 Z1, .int .i64 Z2, .int .i64 Z3, .int .i64 Z4, .int .i64 Z5, .int .i64 Z6]), (q, 25, #[.int .i64 Y0, .int .i64 Y1, .int .i64 Y2, .int .i64 Y3, .int .i64 Y4, .int .i64 Y5, .int .i64 Y6]), (p, 25, #[.int .i64 X0, .int .i64 X1, .int .i64 X2, .int .i64 X3, .int .i64 X4, .int .i64 X5, .int .i64 X6])] (w2.alloc (.cells #[.int .i64 P0, .int .i64 P1, .int .i64 P2, .int .i64 P3, .int .i64 P4, .int .i64 P5, .int .i64 P6] 25)) := (KK.out.pu h2).new _ _
    clear KK c20_0 c20_1 c20_2 c20_3 c20_4 c20_5 c20_6 c21_0 c21_1 c21_2 c21_3 c21_4 c21_5 c21_6 hyx
    have hf2 : Pu w (w2.alloc (.cells #[.int .i64 P0, .int .i64 P1, .int .i64 P2, .int .i64 P3, .int .i64 P4, .int .i64 P5, .int .i64 P6] 25)) := (hf1.pu h2).alloc _
    clear hf1 h2
    have c30_0 : ((w2.alloc (.cells #[.int .i64 P0, .int .i64 P1, .int .i64 P2, .int .i64 P3, .int .i64 P4, .int .i64 P5, .int .i64 P6] 25))).cell? ⟨w1.heap.size, 0, none⟩ = some (.int .i64 P0) := K2.at_ (g := w1.heap.size) (t := 25) (cs := #[.int .i64 P0, .int .i64 P1, .int .i64 P2, .int .i64 P3, .int .i64 P4, .int .i64 P5, .int .i64 P6]) (by simp) 0
    have c30_1 : ((w2.alloc (.cells #[.int .i64 P0, .int .i64 P1, .int .i64 P2, .int .i64 P3, .int .i64 P4, .int .i64 P5, .int .i64 P6] 25))).cell? ⟨w1.heap.size, 1, none⟩ = some (.int .i64 P1) := K2.at_ (g := w1.heap.size) (t := 25) (cs := #[.int .i64 P0, .int .i64 P1, .int .i64 P2, .int .i64 P3, .int .i64 P4, .int .i64 P5, .int .i64 P6]) (by simp) 1
    have c30_2 : ((w2.alloc (.cells #[.int .i64 P0, .int .i64 P1, .int .i64 P2, .int .i64 P3, .int .i64 P4, .int .i64 P5, .int .i64 P6] 25))).cell? ⟨w1.heap.size, 2, none⟩ = some (.int .i64 P2) := K2.at_ (g := w1.heap.size) (t := 25) (cs := #[.int .i64 P0, .int .i64 P1, .int .i64 P2, .int .i64 P3, .int .i64 P4, .int .i64 P5, .int .i64 P6]) (by simp) 2
    have c30_3 : ((w2.alloc (.cells #[.int .i64 P0, .int .i64 P1, .int .i64 P2, .int .i64 P3, .int .i64 P4, .int .i64 P5, .int .i64 P6] 25))).cell? ⟨w1.heap.size, 3, none⟩ = some (.int .i64 P3) := K2.at_ (g := w1.heap.size) (t := 25) (cs := #[.int .i64 P0, .int .i64 P1, .int .i64 P2, .int .i64 P3, .int .i64 P4, .int .i64 P5, .int .i64 P6]) (by simp) 3
    have c30_4 : ((w2.alloc (.cells #[.int .i64 P0, .int .i64 P1, .int .i64 P2, .int .i64 P3, .int .i64 P4, .int .i64 P5, .int .i64 P6] 25))).cell? ⟨w1.heap.size, 4, none⟩ = some (.int .i64 P4) := K2.at_ (g := w1.heap.size) (t := 25) (cs := #[.int .i64 P0, .int .i64 P1, .int .i64 P2, .int .i64 P3, .int .i64 P4, .int .i64 P5, .int .i64 P6]) (by simp) 4
    have c30_5 : ((w2.alloc (.cells #[.int .i64 P0, .int .i64 P1, .int .i64 P2, .int .i64 P3, .int .i64 P4, .int .i64 P5, .int .i64 P6] 25))).cell? ⟨w1.heap.size, 5, none⟩ = some (.int .i64 P5) := K2.at_ (g := w1.heap.size) (t := 25) (cs := #[.int .i64 P0, .int .i64 P1, .int .i64 P2, .int .i64 P3, .int .i64 P4, .int .i64 P5, .int .i64 P6]) (by simp) 5
    have c30_6 : ((w2.alloc (.cells #[.int .i64 P0, .int .i64 P1, .int .i64 P2, .int .i64 P3, .int .i64 P4, .int .i64 P5, .int .i64 P6] 25))).cell? ⟨w1.heap.size, 6, none⟩ = some (.int .i64 P6) := K2.at_ (g := w1.heap.size) (t := 25) (cs := #[.int .i64 P0, .int .i64 P1, .int .i64 P2, .int .i64 P3, .int .i64 P4, .int .i64 P5, .int .i64 P6]) (by simp) 6
    have c31_0 : ((w2.alloc (.cells #[.int .i64 P0, .int .i64 P1, .int .i64 P2, .int .i64 P3, .int .i64 P4, .int .i64 P5, .int .i64 P6] 25))).cell? ⟨r, 0, none⟩ = some (.int .i64 Z0) := K2.at_ (g := r) (t := 25) (cs := #[.int .i64 Z0, .int .i64 Z1, .int .i64 Z2, .int .i64 Z3, .int .i64 Z4, .int .i64 Z5, .int .i64 Z6]) (by simp) 0
    have c31_1 : ((w2.alloc (.cells #[.int .i64 P0, .int .i64 P1, .int .i64 P2, .int .i64 P3, .int .i64 P4, .int .i64 P5, .int .i64 P6] 25))).cell? ⟨r, 1, none⟩ = some (.int .i64 Z1) := K2.at_ (g := r) (t := 25) (cs := #[.int .i64 Z0, .int .i64 Z1, .int .i64 Z2, .int .i64 Z3, .int .i64 Z4, .int .i64 Z5, .int .i64 Z6]) (by simp) 1
    have c31_2 : ((w2.alloc (.cells #[.int .i64 P0, .int .i64 P1, .int .i64 P2, .int .i64 P3, .int .i64 P4, .int .i64 P5, .int .i64 P6] 25))).cell? ⟨r, 2, none⟩ = some (.int .i64 Z2) := K2.at_ (g := r) (t := 25) (cs := #[.int .i64 Z0, .int .i64 Z1, .int .i64 Z2, .int .i64 Z3, .int .i64 Z4, .int .i64 Z5, .int .i64 Z6]) (by simp) 2
    have c31_3 : ((w2.alloc (.cells #[.int .i64 P0, .int .i64 P1, .int .i64 P2, .int .i64 P3, .int .i64 P4, .int .i64 P5, .int .i64 P6] 25))).cell? ⟨r, 3, none⟩ = some (.int .i64 Z3) := K2.at_ (g := r) (t := 25) (cs := #[.int .i64 Z0, .int .i64 Z1, .int .i64 Z2, .int .i64 Z3, .int .i64 Z4, .int .i64 Z5, .int .i64 Z6]) (by simp) 3
    have c31_4 : ((w2.alloc (.cells #[.int .i64 P0, .int .i64 P1, .int .i64 P2, .int .i64 P3, .int .i64 P4, .int .i64 P5, .int .i64 P6] 25))).cell? ⟨r, 4, none⟩ = some (.int .i64 Z4) := K2.at_ (g := r) (t := 25) (cs := #[.int .i64 Z0, .int .i64 Z1, .int .i64 Z2, .int .i64 Z3, .int .i64 Z4, .int .i64 Z5, .int .i64 Z6]) (by simp) 4
    have c31_5 : ((w2.alloc (.cells #[.int .i64 P0, .int .i64 P1, .int .i64 P2, .int .i64 P3, .int .i64 P4, .int .i64 P5, .int .i64 P6] 25))).cell? ⟨r, 5, none⟩ = some (.int .i64 Z5) := K2.at_ (g := r) (t := 25) (cs := #[.int .i64 Z0, .int .i64 Z1, .int .i64 Z2, .int .i64 Z3, .int .i64 Z4, .int .i64 Z5, .int .i64 Z6]) (by simp) 5
    have c31_6 : ((w2.alloc (.cells #[.int .i64 P0, .int .i64 P1, .int .i64 P2, .int .i64 P3, .int .i64 P4, .int .i64 P5, .int .i64 P6] 25))).cell? ⟨r, 6, none⟩ = some (.int .i64 Z6) := K2.at_ (g := r) (t := 25) (cs := #[.int .i64 Z0, .int .i64 Z1, .int .i64 Z2, .int .i64 Z3, .int .i64 Z4, .int .i64 Z5, .int .i64 Z6]) (by simp) 6
    have KK := Lib.hid K2
    clear K2
    go_wp2_with fail
    refine (hpz.out _).mono ?_
    rintro e w3 ⟨rfl, h3⟩
    have K3 : Kp [(w3.heap.size, 25, #[.int .i64 T0, .int .i64 T1, .int .i64 T2, .int .i64 T3, .int .i64 T4, .int .i64 T5, .int .i64 T6]), (w2.heap.size, 25, #[.int .i64 P0, .int .i64 P1, .int .i64 P2, .int .i64 P3, .int .i64 P4, .int .i64 P5, .int .i64 P6]), (w1.heap.size, 25, #[.int .i64 P0, .int .i64 P1, .int .i64 P2, .int .i64 P3, .int .i64 P4, .int .i64 P5, .int .i64 P6]), (r, 25, #[.int .i64 Z0, .int .i64 Z1, .int .i64 Z2, .int .i64 Z3, .int .i64 Z4, .int .i64 Z5, .int .i64 Z6]), (q, 25, #[.int .i64 Y0, .int .i64 Y1, .int .i64 Y2, .int .i64 Y3, .int .i64 Y4, .int .i64 Y5, .int .i64 Y6]), (p, 25, #[.int .i64 X0, .int .i64 X1, .int .i64 X2, .int .i64 X3, .int .i64 X4, .int .i64 X5, .int .i64 X6])] (w3.alloc (.cells #[.int .i64 T0, .int .i64 T1, .int .i64 T2, .int .i64 T3, .int .i64 T4, .int .i64 T5, .int .i64 T6] 25)) := (KK.out.pu h3).new _ _
    clear KK c30_0 c30_1 c30_2 c30_3 c30_4 c30_5 c30_6 c31_0 c31_1 c31_2 c31_3 c31_4 c31_5 c31_6 hpz
    have hf3 : Pu w (w3.alloc (.cells #[.int .i64 T0, .int .i64 T1, .int .i64 T2, .int .i64 T3, .int .i64 T4, .int .i64 T5, .int .i64 T6] 25)) := (hf2.pu h3).alloc _
    clear hf2 h3
    have c40_0 : ((w3.alloc (.cells #[.int .i64 T0, .int .i64 T1, .int .i64 T2, .int .i64 T3, .int .i64 T4, .int .i64 T5, .int .i64 T6] 25))).cell? ⟨q, 0, none⟩ = some (.int .i64 Y0) := K3.at_ (g := q) (t := 25) (cs := #[.int .i64 Y0, .int .i64 Y1, .int .i64 Y2, .int .i64 Y3, .int .i64 Y4, .int .i64 Y5, .int .i64 Y6]) (by simp) 0
    have c40_1 : ((w3.alloc (.cells #[.int .i64 T0, .int .i64 T1, .int .i64 T2, .int .i64 T3, .int .i64 T4, .int .i64 T5, .int .i64 T6] 25))).cell? ⟨q, 1, none⟩ = some (.int .i64 Y1) := K3.at_ (g := q) (t := 25) (cs := #[.int .i64 Y0, .int .i64 Y1, .int .i64 Y2, .int .i64 Y3, .int .i64 Y4, .int .i64 Y5, .int .i64 Y6]) (by simp) 1
    have c40_2 : ((w3.alloc (.cells #[.int .i64 T0, .int .i64 T1, .int .i64 T2, .int .i64 T3, .int .i64 T4, .int .i64 T5, .int .i64 T6] 25))).cell? ⟨q, 2, none⟩ = some (.int .i64 Y2) := K3.at_ (g := q) (t := 25) (cs := #[.int .i64 Y0, .int .i64 Y1, .int .i64 Y2, .int .i64 Y3, .int .i64 Y4, .int .i64 Y5, .int .i64 Y6]) (by simp) 2
    have c40_3 : ((w3.alloc (.cells #[.int .i64 T0, .int .i64 T1, .int .i64 T2, .int .i64 T3, .int .i64 T4, .int .i64 T5, .int .i64 T6] 25))).cell? ⟨q, 3, none⟩ = some (.int .i64 Y3) := K3.at_ (g := q) (t := 25) (cs := #[.int .i64 Y0, .int .i64 Y1, .int .i64 Y2, .int .i64 Y3, .int .i64 Y4, .int .i64 Y5, .int .i64 Y6]) (by simp) 3
    have c40_4 : ((w3.alloc (.cells #[.int .i64 T0, .int .i64 T1, .int .i64 T2, .int .i64 T3, .int .i64 T4, .int .i64 T5, .int .i64 T6] 25))).cell? ⟨q, 4, none⟩ = some (.int .i64 Y4) := K3.at_ (g := q) (t := 25) (cs := #[.int .i64 Y0, .int .i64 Y1, .int .i64 Y2, .int .i64 Y3, .int .i64 Y4, .int .i64 Y5, .int .i64 Y6]) (by simp) 4
    have c40_5 : ((w3.alloc (.cells #[.int .i64 T0, .int .i64 T1, .int .i64 T2, .int .i64 T3, .int .i64 T4, .int .i64 T5, .int .i64 T6] 25))).cell? ⟨q, 5, none⟩ = some (.int .i64 Y5) := K3.at_ (g := q) (t := 25) (cs := #[.int .i64 Y0, .int .i64 Y1, .int .i64 Y2, .int .i64 Y3, .int .i64 Y4, .int .i64 Y5, .int .i64 Y6]) (by simp) 5
    have c40_6 : ((w3.alloc (.cells #[.int .i64 T0, .int .i64 T1, .int .i64 T2, .int .i64 T3, .int .i64 T4, .int .i64 T5, .int .i64 T6] 25))).cell? ⟨q, 6, none⟩ = some (.int .i64 Y6) := K3.at_ (g := q) (t := 25) (cs := #[.int .i64 Y0, .int .i64 Y1, .int .i64 Y2, .int .i64 Y3, .int .i64 Y4, .int .i64 Y5, .int .i64 Y6]) (by simp) 6
    have c41_0 : ((w3.alloc (.cells #[.int .i64 T0, .int .i64 T1, .int .i64 T2, .int .i64 T3, .int .i64 T4, .int .i64 T5, .int .i64 T6] 25))).cell? ⟨r, 0, none⟩ = some (.int .i64 Z0) := K3.at_ (g := r) (t := 25) (cs := #[.int .i64 Z0, .int .i64 Z1, .int .i64 Z2, .int .i64 Z3, .int .i64 Z4, .int .i64 Z5, .int .i64 Z6]) (by simp) 0
    have c41_1 : ((w3.alloc (.cells #[.int .i64 T0, .int .i64 T1, .int .i64 T2, .int .i64 T3, .int .i64 T4, .int .i64 T5, .int .i64 T6] 25))).cell? ⟨r, 1, none⟩ = some (.int .i64 Z1) := K3.at_ (g := r) (t := 25) (cs := #[.int .i64 Z0, .int .i64 Z1, .int .i64 Z2, .int .i64 Z3, .int .i64 Z4, .int .i64 Z5, .int .i64 Z6]) (by simp) 1
    have c41_2 : ((w3.alloc (.cells #[.int .i64 T0, .int .i64 T1, .int .i64 T2, .int .i64 T3, .int .i64 T4, .int .i64 T5, .int .i64 T6] 25))).cell? ⟨r, 2, none⟩ = some (.int .i64 Z2) := K3.at_ (g := r) (t := 25) (cs := #[.int .i64 Z0, .int .i64 Z1, .int .i64 Z2, .int .i64 Z3, .int .i64 Z4, .int .i64 Z5, .int .i64 Z6]) (by simp) 2
    have c41_3 : ((w3.alloc (.cells #[.int .i64 T0, .int .i64 T1, .int .i64 T2, .int .i64 T3, .int .i64 T4, .int .i64 T5, .int .i64 T6] 25))).cell? ⟨r, 3, none⟩ = some (.int .i64 Z3) := K3.at_ (g := r) (t := 25) (cs := #[.int .i64 Z0, .int .i64 Z1, .int .i64 Z2, .int .i64 Z3, .int .i64 Z4, .int .i64 Z5, .int .i64 Z6]) (by simp) 3
    have c41_4 : ((w3.alloc (.cells #[.int .i64 T0, .int .i64 T1, .int .i64 T2, .int .i64 T3, .int .i64 T4, .int .i64 T5, .int .i64 T6] 25))).cell? ⟨r, 4, none⟩ = some (.int .i64 Z4) := K3.at_ (g := r) (t := 25) (cs := #[.int .i64 Z0, .int .i64 Z1, .int .i64 Z2, .int .i64 Z3, .int .i64 Z4, .int .i64 Z5, .int .i64 Z6]) (by simp) 4
    have c41_5 : ((w3.alloc (.cells #[.int .i64 T0, .int .i64 T1, .int .i64 T2, .int .i64 T3, .int .i64 T4, .int .i64 T5, .int .i64 T6] 25))).cell? ⟨r, 5, none⟩ = some (.int .i64 Z5) := K3.at_ (g := r) (t := 25) (cs := #[.int .i64 Z0, .int .i64 Z1, .int .i64 Z2, .int .i64 Z3, .int .i64 Z4, .int .i64 Z5, .int .i64 Z6]) (by simp) 5
    have c41_6 : ((w3.alloc (.cells #[.int .i64 T0, .int .i64 T1, .int .i64 T2, .int .i64 T3, .int .i64 T4, .int .i64 T5, .int .i64 T6] 25))).cell? ⟨r, 6, none⟩ = some (.int .i64 Z6) := K3.at_ (g := r) (t := 25) (cs := #[.int .i64 Z0, .int .i64 Z1, .int .i64 Z2, .int .i64 Z3, .int .i64 Z4, .int .i64 Z5, .int .i64 Z6]) (by simp) 6
    have KK := Lib.hid K3
    clear K3
    go_wp2_with fail
    refine (hyz.out _).mono ?_
    rintro e w4 ⟨rfl, h4⟩
    have K4 : Kp [(w4.heap.size, 25, #[.int .i64 Q0, .int .i64 Q1, .int .i64 Q2, .int .i64 Q3, .int .i64 Q4, .int .i64 Q5, .int .i64 Q6]), (w3.heap.size, 25, #[.int .i64 T0, .int .i64 T1, .int .i64 T2, .int .i64 T3, .int .i64 T4, .int .i64 T5, .int .i64 T6]), (w2.heap.size, 25, #[.int .i64 P0, .int .i64 P1, .int .i64 P2, .int .i64 P3, .int .i64 P4, .int .i64 P5, .int .i64 P6]), (w1.heap.size, 25, #[.int .i64 P0, .int .i64 P1, .int .i64 P2, .int .i64 P3, .int .i64 P4, .int .i64 P5, .int .i64 P6]), (r, 25, #[.int .i64 Z0, .int .i64 Z1, .int .i64 Z2, .int .i64 Z3, .int .i64 Z4, .int .i64 Z5, .int .i64 Z6]), (q, 25, #[.int .i64 Y0, .int .i64 Y1, .int .i64 Y2, .int .i64 Y3, .int .i64 Y4, .int .i64 Y5, .int .i64 Y6]), (p, 25, #[.int .i64 X0, .int .i64 X1, .int .i64 X2, .int .i64 X3, .int .i64 X4, .int .i64 X5, .int .i64 X6])] (w4.alloc (.cells #[.int .i64 Q0, .int .i64 Q1, .int .i64 Q2, .int .i64 Q3, .int .i64 Q4, .int .i64 Q5, .int .i64 Q6] 25)) := (KK.out.pu h4).new _ _
    clear KK c40_0 c40_1 c40_2 c40_3 c40_4 c40_5 c40_6 c41_0 c41_1 c41_2 c41_3 c41_4 c41_5 c41_6 hyz
    have hf4 : Pu w (w4.alloc (.cells #[.int .i64 Q0, .int .i64 Q1, .int .i64 Q2, .int .i64 Q3, .int .i64 Q4, .int .i64 Q5, .int .i64 Q6] 25)) := (hf3.pu h4).alloc _
    clear hf3 h4
    have c50_0 : ((w4.alloc (.cells #[.int .i64 Q0, .int .i64 Q1, .int .i64 Q2, .int .i64 Q3, .int .i64 Q4, .int .i64 Q5, .int .i64 Q6] 25))).cell? ⟨p, 0, none⟩ = some (.int .i64 X0) := K4.at_ (g := p) (t := 25) (cs := #[.int .i64 X0, .int .i64 X1, .int .i64 X2, .int .i64 X3, .int .i64 X4, .int .i64 X5, .int .i64 X6]) (by simp) 0
    have c50_1 : ((w4.alloc (.cells #[.int .i64 Q0, .int .i64 Q1, .int .i64 Q2, .int .i64 Q3, .int .i64 Q4, .int .i64 Q5, .int .i64 Q6] 25))).cell? ⟨p, 1, none⟩ = some (.int .i64 X1) := K4.at_ (g := p) (t := 25) (cs := #[.int .i64 X0, .int .i64 X1, .int .i64 X2, .int .i64 X3, .int .i64 X4, .int .i64 X5, .int .i64 X6]) (by simp) 1
    have c50_2 : ((w4.alloc (.cells #[.int .i64 Q0, .int .i64 Q1, .int .i64 Q2, .int .i64 Q3, .int .i64 Q4, .int .i64 Q5, .int .i64 Q6] 25))).cell? ⟨p, 2, none⟩ = some (.int .i64 X2) := K4.at_ (g := p) (t := 25) (cs := #[.int .i64 X0, .int .i64 X1, .int .i64 X2, .int .i64 X3, .int .i64 X4, .int .i64 X5, .int .i64 X6]) (by simp) 2
    have c50_3 : ((w4.alloc (.cells #[.int .i64 Q0, .int .i64 Q1, .int .i64 Q2, .int .i64 Q3, .int .i64 Q4, .int .i64 Q5, .int .i64 Q6] 25))).cell? ⟨p, 3, none⟩ = some (.int .i64 X3) := K4.at_ (g := p) (t := 25) (cs := #[.int .i64 X0, .int .i64 X1, .int .i64 X2, .int .i64 X3, .int .i64 X4, .int .i64 X5, .int .i64 X6]) (by simp) 3
    have c50_4 : ((w4.alloc (.cells #[.int .i64 Q0, .int .i64 Q1, .int .i64 Q2, .int .i64 Q3, .int .i64 Q4, .int .i64 Q5, .int .i64 Q6] 25))).cell? ⟨p, 4, none⟩ = some (.int .i64 X4) := K4.at_ (g := p) (t := 25) (cs := #[.int .i64 X0, .int .i64 X1, .int .i64 X2, .int .i64 X3, .int .i64 X4, .int .i64 X5, .int .i64 X6]) (by simp) 4
    have c50_5 : ((w4.alloc (.cells #[.int .i64 Q0, .int .i64 Q1, .int .i64 Q2, .int .i64 Q3, .int .i64 Q4, .int .i64 Q5, .int .i64 Q6] 25))).cell? ⟨p, 5, none⟩ = some (.int .i64 X5) := K4.at_ (g := p) (t := 25) (cs := #[.int .i64 X0, .int .i64 X1, .int .i64 X2, .int .i64 X3, .int .i64 X4, .int .i64 X5, .int .i64 X6]) (by simp) 5
    have c50_6 : ((w4.alloc (.cells #[.int .i64 Q0, .int .i64 Q1, .int .i64 Q2, .int .i64 Q3, .int .i64 Q4, .int .i64 Q5, .int .i64 Q6] 25))).cell? ⟨p, 6, none⟩ = some (.int .i64 X6) := K4.at_ (g := p) (t := 25) (cs := #[.int .i64 X0, .int .i64 X1, .int .i64 X2, .int .i64 X3, .int .i64 X4, .int .i64 X5, .int .i64 X6]) (by simp) 6
    have c51_0 : ((w4.alloc (.cells #[.int .i64 Q0, .int .i64 Q1, .int .i64 Q2, .int .i64 Q3, .int .i64 Q4, .int .i64 Q5, .int .i64 Q6] 25))).cell? ⟨w4.heap.size, 0, none⟩ = some (.int .i64 Q0) := K4.at_ (g := w4.heap.size) (t := 25) (cs := #[.int .i64 Q0, .int .i64 Q1, .int .i64 Q2, .int .i64 Q3, .int .i64 Q4, .int .i64 Q5, .int .i64 Q6]) (by simp) 0
    have c51_1 : ((w4.alloc (.cells #[.int .i64 Q0, .int .i64 Q1, .int .i64 Q2, .int .i64 Q3, .int .i64 Q4, .int .i64 Q5, .int .i64 Q6] 25))).cell? ⟨w4.heap.size, 1, none⟩ = some (.int .i64 Q1) := K4.at_ (g := w4.heap.size) (t := 25) (cs := #[.int .i64 Q0, .int .i64 Q1, .int .i64 Q2, .int .i64 Q3, .int .i64 Q4, .int .i64 Q5, .int .i64 Q6]) (by simp) 1
    have c51_2 : ((w4.alloc (.cells #[.int .i64 Q0, .int .i64 Q1, .int .i64 Q2, .int .i64 Q3, .int .i64 Q4, .int .i64 Q5, .int .i64 Q6] 25))).cell? ⟨w4.heap.size, 2, none⟩ = some (.int .i64 Q2) := K4.at_ (g := w4.heap.size) (t := 25) (cs := #[.int .i64 Q0, .int .i64 Q1, .int .i64 Q2, .int .i64 Q3, .int .i64 Q4, .int .i64 Q5, .int .i64 Q6]) (by simp) 2
    have c51_3 : ((w4.alloc (.cells #[.int .i64 Q0, .int .i64 Q1, .int .i64 Q2, .int .i64 Q3, .int .i64 Q4, .int .i64 Q5, .int .i64 Q6] 25))).cell? ⟨w4.heap.size, 3, none⟩ = some (.int .i64 Q3) := K4.at_ (g := w4.heap.size) (t := 25) (cs := #[.int .i64 Q0, .int .i64 Q1, .int .i64 Q2, .int .i64 Q3, .int .i64 Q4, .int .i64 Q5, .int .i64 Q6]) (by simp) 3
    have c51_4 : ((w4.alloc (.cells #[.int .i64 Q0, .int .i64 Q1, .int .i64 Q2, .int .i64 Q3, .int .i64 Q4, .int .i64 Q5, .int .i64 Q6] 25))).cell? ⟨w4.heap.size, 4, none⟩ = some (.int .i64 Q4) := K4.at_ (g := w4.heap.size) (t := 25) (cs := #[.int .i64 Q0, .int .i64 Q1, .int .i64 Q2, .int .i64 Q3, .int .i64 Q4, .int .i64 Q5, .int .i64 Q6]) (by simp) 4
    have c51_5 : ((w4.alloc (.cells #[.int .i64 Q0, .int .i64 Q1, .int .i64 Q2, .int .i64 Q3, .int .i64 Q4, .int .i64 Q5, .int .i64 Q6] 25))).cell? ⟨w4.heap.size, 5, none⟩ = some (.int .i64 Q5) := K4.at_ (g := w4.heap.size) (t := 25) (cs := #[.int .i64 Q0, .int .i64 Q1, .int .i64 Q2, .int .i64 Q3, .int .i64 Q4, .int .i64 Q5, .int .i64 Q6]) (by simp) 5
    have c51_6 : ((w4.alloc (.cells #[.int .i64 Q0, .int .i64 Q1, .int .i64 Q2, .int .i64 Q3, .int .i64 Q4, .int .i64 Q5, .int .i64 Q6] 25))).cell? ⟨w4.heap.size, 6, none⟩ = some (.int .i64 Q6) := K4.at_ (g := w4.heap.size) (t := 25) (cs := #[.int .i64 Q0, .int .i64 Q1, .int .i64 Q2, .int .i64 Q3, .int .i64 Q4, .int .i64 Q5, .int .i64 Q6]) (by simp) 6
    have KK := Lib.hid K4
    clear K4
    go_wp2_with fail
    refine (hxr.out _).mono ?_
    rintro e w5 ⟨rfl, h5⟩
    have K5 : Kp [(w5.heap.size, 25, #[.int .i64 T0, .int .i64 T1, .int .i64 T2, .int .i64 T3, .int .i64 T4, .int .i64 T5, .int .i64 T6]), (w4.heap.size, 25, #[.int .i64 Q0, .int .i64 Q1, .int .i64 Q2, .int .i64 Q3, .int .i64 Q4, .int .i64 Q5, .int .i64 Q6]), (w3.heap.size, 25, #[.int .i64 T0, .int .i64 T1, .int .i64 T2, .int .i64 T3, .int .i64 T4, .int .i64 T5, .int .i64 T6]), (w2.heap.size, 25, #[.int .i64 P0, .int .i64 P1, .int .i64 P2, .int .i64 P3, .int .i64 P4, .int .i64 P5, .int .i64 P6]), (w1.heap.size, 25, #[.int .i64 P0, .int .i64 P1, .int .i64 P2, .int .i64 P3, .int .i64 P4, .int .i64 P5, .int .i64 P6]), (r, 25, #[.int .i64 Z0, .int .i64 Z1, .int .i64 Z2, .int .i64 Z3, .int .i64 Z4, .int .i64 Z5, .int .i64 Z6]), (q, 25, #[.int .i64 Y0, .int .i64 Y1, .int .i64 Y2, .int .i64 Y3, .int .i64 Y4, .int .i64 Y5, .int .i64 Y6]), (p, 25, #[.int .i64 X0, .int .i64 X1, .int .i64 X2, .int .i64 X3, .int .i64 X4, .int .i64 X5, .int .i64 X6])] (w5.alloc (.cells #[.int .i64 T0, .int .i64 T1, .int .i64 T2, .int .i64 T3, .int .i64 T4, .int .i64 T5, .int .i64 T6] 25)) := (KK.out.pu h5).new _ _
    clear KK c50_0 c50_1 c50_2 c50_3 c50_4 c50_5 c50_6 c51_0 c51_1 c51_2 c51_3 c51_4 c51_5 c51_6 hxr
    have hf5 : Pu w (w5.alloc (.cells #[.int .i64 T0, .int .i64 T1, .int .i64 T2, .int .i64 T3, .int .i64 T4, .int .i64 T5, .int .i64 T6] 25)) := (hf4.pu h5).alloc _
    clear hf4 h5
    have c60_0 : ((w5.alloc (.cells #[.int .i64 T0, .int .i64 T1, .int .i64 T2, .int .i64 T3, .int .i64 T4, .int .i64 T5, .int .i64 T6] 25))).cell? ⟨w1.heap.size, 0, none⟩ = some (.int .i64 P0) := K5.at_ (g := w1.heap.size) (t := 25) (cs := #[.int .i64 P0, .int .i64 P1, .int .i64 P2, .int .i64 P3, .int .i64 P4, .int .i64 P5, .int .i64 P6]) (by simp) 0
    have c60_1 : ((w5.alloc (.cells #[.int .i64 T0, .int .i64 T1, .int .i64 T2, .int .i64 T3, .int .i64 T4, .int .i64 T5, .int .i64 T6] 25))).cell? ⟨w1.heap.size, 1, none⟩ = some (.int .i64 P1) := K5.at_ (g := w1.heap.size) (t := 25) (cs := #[.int .i64 P0, .int .i64 P1, .int .i64 P2, .int .i64 P3, .int .i64 P4, .int .i64 P5, .int .i64 P6]) (by simp) 1
    have c60_2 : ((w5.alloc (.cells #[.int .i64 T0, .int .i64 T1, .int .i64 T2, .int .i64 T3, .int .i64 T4, .int .i64 T5, .int .i64 T6] 25))).cell? ⟨w1.heap.size, 2, none⟩ = some (.int .i64 P2) := K5.at_ (g := w1.heap.size) (t := 25) (cs := #[.int .i64 P0, .int .i64 P1, .int .i64 P2, .int .i64 P3, .int .i64 P4, .int .i64 P5, .int .i64 P6]) (by simp) 2
    have c60_3 : ((w5.alloc (.cells #[.int .i64 T0, .int .i64 T1, .int .i64 T2, .int .i64 T3, .int .i64 T4, .int .i64 T5, .int .i64 T6] 25))).cell? ⟨w1.heap.size, 3, none⟩ = some (.int .i64 P3) := K5.at_ (g := w1.heap.size) (t := 25) (cs := #[.int .i64 P0, .int .i64 P1, .int .i64 P2, .int .i64 P3, .int .i64 P4, .int .i64 P5, .int .i64 P6]) (by simp) 3
    have c60_4 : ((w5.alloc (.cells #[.int .i64 T0, .int .i64 T1, .int .i64 T2, .int .i64 T3, .int .i64 T4, .int .i64 T5, .int .i64 T6] 25))).cell? ⟨w1.heap.size, 4, none⟩ = some (.int .i64 P4) := K5.at_ (g := w1.heap.size) (t := 25) (cs := #[.int .i64 P0, .int .i64 P1, .int .i64 P2, .int .i64 P3, .int .i64 P4, .int .i64 P5, .int .i64 P6]) (by simp) 4
    have c60_5 : ((w5.alloc (.cells #[.int .i64 T0, .int .i64 T1, .int .i64 T2, .int .i64 T3, .int .i64 T4, .int .i64 T5, .int .i64 T6] 25))).cell? ⟨w1.heap.size, 5, none⟩ = some (.int .i64 P5) := K5.at_ (g := w1.heap.size) (t := 25) (cs := #[.int .i64 P0, .int .i64 P1, .int .i64 P2, .int .i64 P3, .int .i64 P4, .int .i64 P5, .int .i64 P6]) (by simp) 5
    have c60_6 : ((w5.alloc (.cells #[.int .i64 T0, .int .i64 T1, .int .i64 T2, .int .i64 T3, .int .i64 T4, .int .i64 T5, .int .i64 T6] 25))).cell? ⟨w1.heap.size, 6, none⟩ = some (.int .i64 P6) := K5.at_ (g := w1.heap.size) (t := 25) (cs := #[.int .i64 P0, .int .i64 P1, .int .i64 P2, .int .i64 P3, .int .i64 P4, .int .i64 P5, .int .i64 P6]) (by simp) 6
    have c61_0 : ((w5.alloc (.cells #[.int .i64 T0, .int .i64 T1, .int .i64 T2, .int .i64 T3, .int .i64 T4, .int .i64 T5, .int .i64 T6] 25))).cell? ⟨w2.heap.size, 0, none⟩ = some (.int .i64 P0) := K5.at_ (g := w2.heap.size) (t := 25) (cs := #[.int .i64 P0, .int .i64 P1, .int .i64 P2, .int .i64 P3, .int .i64 P4, .int .i64 P5, .int .i64 P6]) (by simp) 0
    have c61_1 : ((w5.alloc (.cells #[.int .i64 T0, .int .i64 T1, .int .i64 T2, .int .i64 T3, .int .i64 T4, .int .i64 T5, .int .i64 T6] 25))).cell? ⟨w2.heap.size, 1, none⟩ = some (.int .i64 P1) := K5.at_ (g := w2.heap.size) (t := 25) (cs := #[.int .i64 P0, .int .i64 P1, .int .i64 P2, .int .i64 P3, .int .i64 P4, .int .i64 P5, .int .i64 P6]) (by simp) 1
    have c61_2 : ((w5.alloc (.cells #[.int .i64 T0, .int .i64 T1, .int .i64 T2, .int .i64 T3, .int .i64 T4, .int .i64 T5, .int .i64 T6] 25))).cell? ⟨w2.heap.size, 2, none⟩ = some (.int .i64 P2) := K5.at_ (g := w2.heap.size) (t := 25) (cs := #[.int .i64 P0, .int .i64 P1, .int .i64 P2, .int .i64 P3, .int .i64 P4, .int .i64 P5, .int .i64 P6]) (by simp) 2
    have c61_3 : ((w5.alloc (.cells #[.int .i64 T0, .int .i64 T1, .int .i64 T2, .int .i64 T3, .int .i64 T4, .int .i64 T5, .int .i64 T6] 25))).cell? ⟨w2.heap.size, 3, none⟩ = some (.int .i64 P3) := K5.at_ (g := w2.heap.size) (t := 25) (cs := #[.int .i64 P0, .int .i64 P1, .int .i64 P2, .int .i64 P3, .int .i64 P4, .int .i64 P5, .int .i64 P6]) (by simp) 3
    have c61_4 : ((w5.alloc (.cells #[.int .i64 T0, .int .i64 T1, .int .i64 T2, .int .i64 T3, .int .i64 T4, .int .i64 T5, .int .i64 T6] 25))).cell? ⟨w2.heap.size, 4, none⟩ = some (.int .i64 P4) := K5.at_ (g := w2.heap.size) (t := 25) (cs := #[.int .i64 P0, .int .i64 P1, .int .i64 P2, .int .i64 P3, .int .i64 P4, .int .i64 P5, .int .i64 P6]) (by simp) 4
    have c61_5 : ((w5.alloc (.cells #[.int .i64 T0, .int .i64 T1, .int .i64 T2, .int .i64 T3, .int .i64 T4, .int .i64 T5, .int .i64 T6] 25))).cell? ⟨w2.heap.size, 5, none⟩ = some (.int .i64 P5) := K5.at_ (g := w2.heap.size) (t := 25) (cs := #[.int .i64 P0, .int .i64 P1, .int .i64 P2, .int .i64 P3, .int .i64 P4, .int .i64 P5, .int .i64 P6]) (by simp) 5
    have c61_6 : ((w5.alloc (.cells #[.int .i64 T0, .int .i64 T1, .int .i64 T2, .int .i64 T3, .int .i64 T4, .int .i64 T5, .int .i64 T6] 25))).cell? ⟨w2.heap.size, 6, none⟩ = some (.int .i64 P6) := K5.at_ (g := w2.heap.size) (t := 25) (cs := #[.int .i64 P0, .int .i64 P1, .int .i64 P2, .int .i64 P3, .int .i64 P4, .int .i64 P5, .int .i64 P6]) (by simp) 6
    have c62_0 : ((w5.alloc (.cells #[.int .i64 T0, .int .i64 T1, .int .i64 T2, .int .i64 T3, .int .i64 T4, .int .i64 T5, .int .i64 T6] 25))).cell? ⟨w3.heap.size, 0, none⟩ = some (.int .i64 T0) := K5.at_ (g := w3.heap.size) (t := 25) (cs := #[.int .i64 T0, .int .i64 T1, .int .i64 T2, .int .i64 T3, .int .i64 T4, .int .i64 T5, .int .i64 T6]) (by simp) 0
    have c62_1 : ((w5.alloc (.cells #[.int .i64 T0, .int .i64 T1, .int .i64 T2, .int .i64 T3, .int .i64 T4, .int .i64 T5, .int .i64 T6] 25))).cell? ⟨w3.heap.size, 1, none⟩ = some (.int .i64 T1) := K5.at_ (g := w3.heap.size) (t := 25) (cs := #[.int .i64 T0, .int .i64 T1, .int .i64 T2, .int .i64 T3, .int .i64 T4, .int .i64 T5, .int .i64 T6]) (by simp) 1
    have c62_2 : ((w5.alloc (.cells #[.int .i64 T0, .int .i64 T1, .int .i64 T2, .int .i64 T3, .int .i64 T4, .int .i64 T5, .int .i64 T6] 25))).cell? ⟨w3.heap.size, 2, none⟩ = some (.int .i64 T2) := K5.at_ (g := w3.heap.size) (t := 25) (cs := #[.int .i64 T0, .int .i64 T1, .int .i64 T2, .int .i64 T3, .int .i64 T4, .int .i64 T5, .int .i64 T6]) (by simp) 2
    have c62_3 : ((w5.alloc (.cells #[.int .i64 T0, .int .i64 T1, .int .i64 T2, .int .i64 T3, .int .i64 T4, .int .i64 T5, .int .i64 T6] 25))).cell? ⟨w3.heap.size, 3, none⟩ = some (.int .i64 T3) := K5.at_ (g := w3.heap.size) (t := 25) (cs := #[.int .i64 T0, .int .i64 T1, .int .i64 T2, .int .i64 T3, .int .i64 T4, .int .i64 T5, .int .i64 T6]) (by simp) 3
    have c62_4 : ((w5.alloc (.cells #[.int .i64 T0, .int .i64 T1, .int .i64 T2, .int .i64 T3, .int .i64 T4, .int .i64 T5, .int .i64 T6] 25))).cell? ⟨w3.heap.size, 4, none⟩ = some (.int .i64 T4) := K5.at_ (g := w3.heap.size) (t := 25) (cs := #[.int .i64 T0, .int .i64 T1, .int .i64 T2, .int .i64 T3, .int .i64 T4, .int .i64 T5, .int .i64 T6]) (by simp) 4
    have c62_5 : ((w5.alloc (.cells #[.int .i64 T0, .int .i64 T1, .int .i64 T2, .int .i64 T3, .int .i64 T4, .int .i64 T5, .int .i64 T6] 25))).cell? ⟨w3.heap.size, 5, none⟩ = some (.int .i64 T5) := K5.at_ (g := w3.heap.size) (t := 25) (cs := #[.int .i64 T0, .int .i64 T1, .int .i64 T2, .int .i64 T3, .int .i64 T4, .int .i64 T5, .int .i64 T6]) (by simp) 5
    have c62_6 : ((w5.alloc (.cells #[.int .i64 T0, .int .i64 T1, .int .i64 T2, .int .i64 T3, .int .i64 T4, .int .i64 T5, .int .i64 T6] 25))).cell? ⟨w3.heap.size, 6, none⟩ = some (.int .i64 T6) := K5.at_ (g := w3.heap.size) (t := 25) (cs := #[.int .i64 T0, .int .i64 T1, .int .i64 T2, .int .i64 T3, .int .i64 T4, .int .i64 T5, .int .i64 T6]) (by simp) 6
    have c63_0 : ((w5.alloc (.cells #[.int .i64 T0, .int .i64 T1, .int .i64 T2, .int .i64 T3, .int .i64 T4, .int .i64 T5, .int .i64 T6] 25))).cell? ⟨w5.heap.size, 0, none⟩ = some (.int .i64 T0) := K5.at_ (g := w5.heap.size) (t := 25) (cs := #[.int .i64 T0, .int .i64 T1, .int .i64 T2, .int .i64 T3, .int .i64 T4, .int .i64 T5, .int .i64 T6]) (by simp) 0
    have c63_1 : ((w5.alloc (.cells #[.int .i64 T0, .int .i64 T1, .int .i64 T2, .int .i64 T3, .int .i64 T4, .int .i64 T5, .int .i64 T6] 25))).cell? ⟨w5.heap.size, 1, none⟩ = some (.int .i64 T1) := K5.at_ (g := w5.heap.size) (t := 25) (cs := #[.int .i64 T0, .int .i64 T1, .int .i64 T2, .int .i64 T3, .int .i64 T4, .int .i64 T5, .int .i64 T6]) (by simp) 1
    have c63_2 : ((w5.alloc (.cells #[.int .i64 T0, .int .i64 T1, .int .i64 T2, .int .i64 T3, .int .i64 T4, .int .i64 T5, .int .i64 T6] 25))).cell? ⟨w5.heap.size, 2, none⟩ = some (.int .i64 T2) := K5.at_ (g := w5.heap.size) (t := 25) (cs := #[.int .i64 T0, .int .i64 T1, .int .i64 T2, .int .i64 T3, .int .i64 T4, .int .i64 T5, .int .i64 T6]) (by simp) 2
    have c63_3 : ((w5.alloc (.cells #[.int .i64 T0, .int .i64 T1, .int .i64 T2, .int .i64 T3, .int .i64 T4, .int .i64 T5, .int .i64 T6] 25))).cell? ⟨w5.heap.size, 3, none⟩ = some (.int .i64 T3) := K5.at_ (g := w5.heap.size) (t := 25) (cs := #[.int .i64 T0, .int .i64 T1, .int .i64 T2, .int .i64 T3, .int .i64 T4, .int .i64 T5, .int .i64 T6]) (by simp) 3
    have c63_4 : ((w5.alloc (.cells #[.int .i64 T0, .int .i64 T1, .int .i64 T2, .int .i64 T3, .int .i64 T4, .int .i64 T5, .int .i64 T6] 25))).cell? ⟨w5.heap.size, 4, none⟩ = some (.int .i64 T4) := K5.at_ (g := w5.heap.size) (t := 25) (cs := #[.int .i64 T0, .int .i64 T1, .int .i64 T2, .int .i64 T3, .int .i64 T4, .int .i64 T5, .int .i64 T6]) (by simp) 4
    have c63_5 : ((w5.alloc (.cells #[.int .i64 T0, .int .i64 T1, .int .i64 T2, .int .i64 T3, .int .i64 T4, .int .i64 T5, .int .i64 T6] 25))).cell? ⟨w5.heap.size, 5, none⟩ = some (.int .i64 T5) := K5.at_ (g := w5.heap.size) (t := 25) (cs := #[.int .i64 T0, .int .i64 T1, .int .i64 T2, .int .i64 T3, .int .i64 T4, .int .i64 T5, .int .i64 T6]) (by simp) 5
    have c63_6 : ((w5.alloc (.cells #[.int .i64 T0, .int .i64 T1, .int .i64 T2, .int .i64 T3, .int .i64 T4, .int .i64 T5, .int .i64 T6] 25))).cell? ⟨w5.heap.size, 6, none⟩ = some (.int .i64 T6) := K5.at_ (g := w5.heap.size) (t := 25) (cs := #[.int .i64 T0, .int .i64 T1, .int .i64 T2, .int .i64 T3, .int .i64 T4, .int .i64 T5, .int .i64 T6]) (by simp) 6
    have c64_0 : ((w5.alloc (.cells #[.int .i64 T0, .int .i64 T1, .int .i64 T2, .int .i64 T3, .int .i64 T4, .int .i64 T5, .int .i64 T6] 25))).cell? ⟨p, 0, none⟩ = some (.int .i64 X0) := K5.at_ (g := p) (t := 25) (cs := #[.int .i64 X0, .int .i64 X1, .int .i64 X2, .int .i64 X3, .int .i64 X4, .int .i64 X5, .int .i64 X6]) (by simp) 0
    have c64_1 : ((w5.alloc (.cells #[.int .i64 T0, .int .i64 T1, .int .i64 T2, .int .i64 T3, .int .i64 T4, .int .i64 T5, .int .i64 T6] 25))).cell? ⟨p, 1, none⟩ = some (.int .i64 X1) := K5.at_ (g := p) (t := 25) (cs := #[.int .i64 X0, .int .i64 X1, .int .i64 X2, .int .i64 X3, .int .i64 X4, .int .i64 X5, .int .i64 X6]) (by simp) 1
    have c64_2 : ((w5.alloc (.cells #[.int .i64 T0, .int .i64 T1, .int .i64 T2, .int .i64 T3, .int .i64 T4, .int .i64 T5, .int .i64 T6] 25))).cell? ⟨p, 2, none⟩ = some (.int .i64 X2) := K5.at_ (g := p) (t := 25) (cs := #[.int .i64 X0, .int .i64 X1, .int .i64 X2, .int .i64 X3, .int .i64 X4, .int .i64 X5, .int .i64 X6]) (by simp) 2
    have c64_3 : ((w5.alloc (.cells #[.int .i64 T0, .int .i64 T1, .int .i64 T2, .int .i64 T3, .int .i64 T4, .int .i64 T5, .int .i64 T6] 25))).cell? ⟨p, 3, none⟩ = some (.int .i64 X3) := K5.at_ (g := p) (t := 25) (cs := #[.int .i64 X0, .int .i64 X1, .int .i64 X2, .int .i64 X3, .int .i64 X4, .int .i64 X5, .int .i64 X6]) (by simp) 3
    have c64_4 : ((w5.alloc (.cells #[.int .i64 T0, .int .i64 T1, .int .i64 T2, .int .i64 T3, .int .i64 T4, .int .i64 T5, .int .i64 T6] 25))).cell? ⟨p, 4, none⟩ = some (.int .i64 X4) := K5.at_ (g := p) (t := 25) (cs := #[.int .i64 X0, .int .i64 X1, .int .i64 X2, .int .i64 X3, .int .i64 X4, .int .i64 X5, .int .i64 X6]) (by simp) 4
    have c64_5 : ((w5.alloc (.cells #[.int .i64 T0, .int .i64 T1, .int .i64 T2, .int .i64 T3, .int .i64 T4, .int .i64 T5, .int .i64 T6] 25))).cell? ⟨p, 5, none⟩ = some (.int .i64 X5) := K5.at_ (g := p) (t := 25) (cs := #[.int .i64 X0, .int .i64 X1, .int .i64 X2, .int .i64 X3, .int .i64 X4, .int .i64 X5, .int .i64 X6]) (by simp) 5
    have c64_6 : ((w5.alloc (.cells #[.int .i64 T0, .int .i64 T1, .int .i64 T2, .int .i64 T3, .int .i64 T4, .int .i64 T5, .int .i64 T6] 25))).cell? ⟨p, 6, none⟩ = some (.int .i64 X6) := K5.at_ (g := p) (t := 25) (cs := #[.int .i64 X0, .int .i64 X1, .int .i64 X2, .int .i64 X3, .int .i64 X4, .int .i64 X5, .int .i64 X6]) (by simp) 6
    have KK := Lib.hid K5
    clear K5
    go_wp2_with fail
    refine (hcx.out _).mono ?_
    rintro e w6 ⟨rfl, h6⟩
    have K6 : Kp [(w6.heap.size, 31, #[.int .i64 a, .int .i64 b]), (w5.heap.size, 25, #[.int .i64 T0, .int .i64 T1, .int .i64 T2, .int .i64 T3, .int .i64 T4, .int .i64 T5, .int .i64 T6]), (w4.heap.size, 25, #[.int .i64 Q0, .int .i64 Q1, .int .i64 Q2, .int .i64 Q3, .int .i64 Q4, .int .i64 Q5, .int .i64 Q6]), (w3.heap.size, 25, #[.int .i64 T0, .int .i64 T1, .int .i64 T2, .int .i64 T3, .int .i64 T4, .int .i64 T5, .int .i64 T6]), (w2.heap.size, 25, #[.int .i64 P0, .int .i64 P1, .int .i64 P2, .int .i64 P3, .int .i64 P4, .int .i64 P5, .int .i64 P6]), (w1.heap.size, 25, #[.int .i64 P0, .int .i64 P1, .int .i64 P2, .int .i64 P3, .int .i64 P4, .int .i64 P5, .int .i64 P6]), (r, 25, #[.int .i64 Z0, .int .i64 Z1, .int .i64 Z2, .int .i64 Z3, .int .i64 Z4, .int .i64 Z5, .int .i64 Z6]), (q, 25, #[.int .i64 Y0, .int .i64 Y1, .int .i64 Y2, .int .i64 Y3, .int .i64 Y4, .int .i64 Y5, .int .i64 Y6]), (p, 25, #[.int .i64 X0, .int .i64 X1, .int .i64 X2, .int .i64 X3, .int .i64 X4, .int .i64 X5, .int .i64 X6])] (w6.alloc (.cells #[.int .i64 a, .int .i64 b] 31)) := (KK.out.pu h6).new _ _
    clear KK c60_0 c60_1 c60_2 c60_3 c60_4 c60_5 c60_6 c61_0 c61_1 c61_2 c61_3 c61_4 c61_5 c61_6 c62_0 c62_1 c62_2 c62_3 c62_4 c62_5 c62_6 c63_0 c63_1 c63_2 c63_3 c63_4 c63_5 c63_6 c64_0 c64_1 c64_2 c64_3 c64_4 c64_5 c64_6 hcx
    have Lw6 : w.heap.size ≤ w6.heap.size := (hf5.pu h6).size
    have hf6 : Pu w (w6.alloc (.cells #[.int .i64 a, .int .i64 b] 31)) := (hf5.pu h6).alloc _
    clear hf5 h6
    have c70_0 : ((w6.alloc (.cells #[.int .i64 a, .int .i64 b] 31))).cell? ⟨q, 0, none⟩ = some (.int .i64 Y0) := K6.at_ (g := q) (t := 25) (cs := #[.int .i64 Y0, .int .i64 Y1, .int .i64 Y2, .int .i64 Y3, .int .i64 Y4, .int .i64 Y5, .int .i64 Y6]) (by simp) 0
    have c70_1 : ((w6.alloc (.cells #[.int .i64 a, .int .i64 b] 31))).cell? ⟨q, 1, none⟩ = some (.int .i64 Y1) := K6.at_ (g := q) (t := 25) (cs := #[.int .i64 Y0, .int .i64 Y1, .int .i64 Y2, .int .i64 Y3, .int .i64 Y4, .int .i64 Y5, .int .i64 Y6]) (by simp) 1
    have c70_2 : ((w6.alloc (.cells #[.int .i64 a, .int .i64 b] 31))).cell? ⟨q, 2, none⟩ = some (.int .i64 Y2) := K6.at_ (g := q) (t := 25) (cs := #[.int .i64 Y0, .int .i64 Y1, .int .i64 Y2, .int .i64 Y3, .int .i64 Y4, .int .i64 Y5, .int .i64 Y6]) (by simp) 2
    have c70_3 : ((w6.alloc (.cells #[.int .i64 a, .int .i64 b] 31))).cell? ⟨q, 3, none⟩ = some (.int .i64 Y3) := K6.at_ (g := q) (t := 25) (cs := #[.int .i64 Y0, .int .i64 Y1, .int .i64 Y2, .int .i64 Y3, .int .i64 Y4, .int .i64 Y5, .int .i64 Y6]) (by simp) 3
    have c70_4 : ((w6.alloc (.cells #[.int .i64 a, .int .i64 b] 31))).cell? ⟨q, 4, none⟩ = some (.int .i64 Y4) := K6.at_ (g := q) (t := 25) (cs := #[.int .i64 Y0, .int .i64 Y1, .int .i64 Y2, .int .i64 Y3, .int .i64 Y4, .int .i64 Y5, .int .i64 Y6]) (by simp) 4
    have c70_5 : ((w6.alloc (.cells #[.int .i64 a, .int .i64 b] 31))).cell? ⟨q, 5, none⟩ = some (.int .i64 Y5) := K6.at_ (g := q) (t := 25) (cs := #[.int .i64 Y0, .int .i64 Y1, .int .i64 Y2, .int .i64 Y3, .int .i64 Y4, .int .i64 Y5, .int .i64 Y6]) (by simp) 5
    have c70_6 : ((w6.alloc (.cells #[.int .i64 a, .int .i64 b] 31))).cell? ⟨q, 6, none⟩ = some (.int .i64 Y6) := K6.at_ (g := q) (t := 25) (cs := #[.int .i64 Y0, .int .i64 Y1, .int .i64 Y2, .int .i64 Y3, .int .i64 Y4, .int .i64 Y5, .int .i64 Y6]) (by simp) 6
    have KK := Lib.hid K6
    clear K6
    go_wp2_with fail
    refine (hcy.out _).mono ?_
    rintro e w7 ⟨rfl, h7⟩
    have L67 : w6.heap.size < w7.heap.size := (KK.out.pu h7).lt_ (g := w6.heap.size) (t := 31) (cs := #[.int .i64 a, .int .i64 b]) (by simp)
    have K7 : Kp [(w7.heap.size, 31, #[.int .i64 c, .int .i64 d]), (w6.heap.size, 31, #[.int .i64 a, .int .i64 b]), (w5.heap.size, 25, #[.int .i64 T0, .int .i64 T1, .int .i64 T2, .int .i64 T3, .int .i64 T4, .int .i64 T5, .int .i64 T6]), (w4.heap.size, 25, #[.int .i64 Q0, .int .i64 Q1, .int .i64 Q2, .int .i64 Q3, .int .i64 Q4, .int .i64 Q5, .int .i64 Q6]), (w3.heap.size, 25, #[.int .i64 T0, .int .i64 T1, .int .i64 T2, .int .i64 T3, .int .i64 T4, .int .i64 T5, .int .i64 T6]), (w2.heap.size, 25, #[.int .i64 P0, .int .i64 P1, .int .i64 P2, .int .i64 P3, .int .i64 P4, .int .i64 P5, .int .i64 P6]), (w1.heap.size, 25, #[.int .i64 P0, .int .i64 P1, .int .i64 P2, .int .i64 P3, .int .i64 P4, .int .i64 P5, .int .i64 P6]), (r, 25, #[.int .i64 Z0, .int .i64 Z1, .int .i64 Z2, .int .i64 Z3, .int .i64 Z4, .int .i64 Z5, .int .i64 Z6]), (q, 25, #[.int .i64 Y0, .int .i64 Y1, .int .i64 Y2, .int .i64 Y3, .int .i64 Y4, .int .i64 Y5, .int .i64 Y6]), (p, 25, #[.int .i64 X0, .int .i64 X1, .int .i64 X2, .int .i64 X3, .int .i64 X4, .int .i64 X5, .int .i64 X6])] (w7.alloc (.cells #[.int .i64 c, .int .i64 d] 31)) := (KK.out.pu h7).new _ _
    clear KK c70_0 c70_1 c70_2 c70_3 c70_4 c70_5 c70_6 hcy
    have hf7 : Pu w (w7.alloc (.cells #[.int .i64 c, .int .i64 d] 31)) := (hf6.pu h7).alloc _
    clear hf6 h7
    have c80_0 : ((w7.alloc (.cells #[.int .i64 c, .int .i64 d] 31))).cell? ⟨w1.heap.size, 0, none⟩ = some (.int .i64 P0) := K7.at_ (g := w1.heap.size) (t := 25) (cs := #[.int .i64 P0, .int .i64 P1, .int .i64 P2, .int .i64 P3, .int .i64 P4, .int .i64 P5, .int .i64 P6]) (by simp) 0
    have c80_1 : ((w7.alloc (.cells #[.int .i64 c, .int .i64 d] 31))).cell? ⟨w1.heap.size, 1, none⟩ = some (.int .i64 P1) := K7.at_ (g := w1.heap.size) (t := 25) (cs := #[.int .i64 P0, .int .i64 P1, .int .i64 P2, .int .i64 P3, .int .i64 P4, .int .i64 P5, .int .i64 P6]) (by simp) 1
    have c80_2 : ((w7.alloc (.cells #[.int .i64 c, .int .i64 d] 31))).cell? ⟨w1.heap.size, 2, none⟩ = some (.int .i64 P2) := K7.at_ (g := w1.heap.size) (t := 25) (cs := #[.int .i64 P0, .int .i64 P1, .int .i64 P2, .int .i64 P3, .int .i64 P4, .int .i64 P5, .int .i64 P6]) (by simp) 2
    have c80_3 : ((w7.alloc (.cells #[.int .i64 c, .int .i64 d] 31))).cell? ⟨w1.heap.size, 3, none⟩ = some (.int .i64 P3) := K7.at_ (g := w1.heap.size) (t := 25) (cs := #[.int .i64 P0, .int .i64 P1, .int .i64 P2, .int .i64 P3, .int .i64 P4, .int .i64 P5, .int .i64 P6]) (by simp) 3
    have c80_4 : ((w7.alloc (.cells #[.int .i64 c, .int .i64 d] 31))).cell? ⟨w1.heap.size, 4, none⟩ = some (.int .i64 P4) := K7.at_ (g := w1.heap.size) (t := 25) (cs := #[.int .i64 P0, .int .i64 P1, .int .i64 P2, .int .i64 P3, .int .i64 P4, .int .i64 P5, .int .i64 P6]) (by simp) 4
    have c80_5 : ((w7.alloc (.cells #[.int .i64 c, .int .i64 d] 31))).cell? ⟨w1.heap.size, 5, none⟩ = some (.int .i64 P5) := K7.at_ (g := w1.heap.size) (t := 25) (cs := #[.int .i64 P0, .int .i64 P1, .int .i64 P2, .int .i64 P3, .int .i64 P4, .int .i64 P5, .int .i64 P6]) (by simp) 5
    have c80_6 : ((w7.alloc (.cells #[.int .i64 c, .int .i64 d] 31))).cell? ⟨w1.heap.size, 6, none⟩ = some (.int .i64 P6) := K7.at_ (g := w1.heap.size) (t := 25) (cs := #[.int .i64 P0, .int .i64 P1, .int .i64 P2, .int .i64 P3, .int .i64 P4, .int .i64 P5, .int .i64 P6]) (by simp) 6
    have KK := Lib.hid K7
    clear K7
    go_wp2_with fail
    refine (hcp.out _).mono ?_
    rintro e w8 ⟨rfl, h8⟩
    have L68 : w6.heap.size < w8.heap.size := (KK.out.pu h8).lt_ (g := w6.heap.size) (t := 31) (cs := #[.int .i64 a, .int .i64 b]) (by simp)
    have L78 : w7.heap.size < w8.heap.size := (KK.out.pu h8).lt_ (g := w7.heap.size) (t := 31) (cs := #[.int .i64 c, .int .i64 d]) (by simp)
    have K8 : Kp [(w8.heap.size, 31, #[.int .i64 m, .int .i64 n]), (w7.heap.size, 31, #[.int .i64 c, .int .i64 d]), (w6.heap.size, 31, #[.int .i64 a, .int .i64 b]), (w5.heap.size, 25, #[.int .i64 T0, .int .i64 T1, .int .i64 T2, .int .i64 T3, .int .i64 T4, .int .i64 T5, .int .i64 T6]), (w4.heap.size, 25, #[.int .i64 Q0, .int .i64 Q1, .int .i64 Q2, .int .i64 Q3, .int .i64 Q4, .int .i64 Q5, .int .i64 Q6]), (w3.heap.size, 25, #[.int .i64 T0, .int .i64 T1, .int .i64 T2, .int .i64 T3, .int .i64 T4, .int .i64 T5, .int .i64 T6]), (w2.heap.size, 25, #[.int .i64 P0, .int .i64 P1, .int .i64 P2, .int .i64 P3, .int .i64 P4, .int .i64 P5, .int .i64 P6]), (w1.heap.size, 25, #[.int .i64 P0, .int .i64 P1, .int .i64 P2, .int .i64 P3, .int .i64 P4, .int .i64 P5, .int .i64 P6]), (r, 25, #[.int .i64 Z0, .int .i64 Z1, .int .i64 Z2, .int .i64 Z3, .int .i64 Z4, .int .i64 Z5, .int .i64 Z6]), (q, 25, #[.int .i64 Y0, .int .i64 Y1, .int .i64 Y2, .int .i64 Y3, .int .i64 Y4, .int .i64 Y5, .int .i64 Y6]), (p, 25, #[.int .i64 X0, .int .i64 X1, .int .i64 X2, .int .i64 X3, .int .i64 X4, .int .i64 X5, .int .i64 X6])] (w8.alloc (.cells #[.int .i64 m, .int .i64 n] 31)) := (KK.out.pu h8).new _ _
    clear KK c80_0 c80_1 c80_2 c80_3 c80_4 c80_5 c80_6 hcp
    have hf8 : Pu w (w8.alloc (.cells #[.int .i64 m, .int .i64 n] 31)) := (hf7.pu h8).alloc _
    clear hf7 h8
    have c90_0 : ((w8.alloc (.cells #[.int .i64 m, .int .i64 n] 31))).cell? ⟨w6.heap.size, 0, none⟩ = some (.int .i64 a) := K8.at_ (g := w6.heap.size) (t := 31) (cs := #[.int .i64 a, .int .i64 b]) (by simp) 0
    have c90_1 : ((w8.alloc (.cells #[.int .i64 m, .int .i64 n] 31))).cell? ⟨w6.heap.size, 1, none⟩ = some (.int .i64 b) := K8.at_ (g := w6.heap.size) (t := 31) (cs := #[.int .i64 a, .int .i64 b]) (by simp) 1
    have c91_0 : ((w8.alloc (.cells #[.int .i64 m, .int .i64 n] 31))).cell? ⟨w7.heap.size, 0, none⟩ = some (.int .i64 c) := K8.at_ (g := w7.heap.size) (t := 31) (cs := #[.int .i64 c, .int .i64 d]) (by simp) 0
    have c91_1 : ((w8.alloc (.cells #[.int .i64 m, .int .i64 n] 31))).cell? ⟨w7.heap.size, 1, none⟩ = some (.int .i64 d) := K8.at_ (g := w7.heap.size) (t := 31) (cs := #[.int .i64 c, .int .i64 d]) (by simp) 1
    have c92_0 : ((w8.alloc (.cells #[.int .i64 m, .int .i64 n] 31))).cell? ⟨w8.heap.size, 0, none⟩ = some (.int .i64 m) := K8.at_ (g := w8.heap.size) (t := 31) (cs := #[.int .i64 m, .int .i64 n]) (by simp) 0
    have c92_1 : ((w8.alloc (.cells #[.int .i64 m, .int .i64 n] 31))).cell? ⟨w8.heap.size, 1, none⟩ = some (.int .i64 n) := K8.at_ (g := w8.heap.size) (t := 31) (cs := #[.int .i64 m, .int .i64 n]) (by simp) 1
    have KK := Lib.hid K8
    clear K8
    have haw := fun u => awake_any u
    have B6 : Blk (w8.alloc (.cells #[.int .i64 m, .int .i64 n] 31)) w6.heap.size 31 #[.int .i64 a, .int .i64 b] := KK.out (_, _, _) (by simp)
    have B7 : Blk (w8.alloc (.cells #[.int .i64 m, .int .i64 n] 31)) w7.heap.size 31 #[.int .i64 c, .int .i64 d] := KK.out (_, _, _) (by simp)
    clear KK
    rcases hcs.out with (⟨rfl, rfl, rfl⟩ | ⟨rfl, rfl, rfl⟩ | ⟨rfl, rfl, rfl⟩) | ⟨⟨rfl, rfl, rfl⟩, hmn, hgc, hlt⟩
    iterate 3
      · clear hcs B6 B7
        go_wp2_with fail
        refine (haw _).mono ?_
        rintro e w9 ⟨rfl, h9⟩
        go_wp2_with fail
        go_ret
        exact ⟨rfl, hf8.pu h9⟩
    · have hco := fun u => common_c m n u hm hn
      rw [hgc] at hco
      clear hcs hgc
      obtain ⟨ha1, ha2⟩ := ha
      obtain ⟨hb1, hb2⟩ := hb
      obtain ⟨hc1, hc2⟩ := hc
      obtain ⟨hd1, hd2⟩ := hd
      obtain ⟨hm1, hm2⟩ := hm
      obtain ⟨hn1, hn2⟩ := hn
      have e1 : wrap64 (a * d) = a * d := pr_bd ha1 ha2 hd1 hd2
      have e2 : wrap64 (c * b) = c * b := pr_bd hc1 hc2 hb1 hb2
      have e3 : wrap64 (a * n) = a * n := pr_bd ha1 ha2 hn1 hn2
      have e4 : wrap64 (m * b) = m * b := pr_bd hm1 hm2 hb1 hb2
      have e5 : wrap64 (m * d) = m * d := pr_bd hm1 hm2 hd1 hd2
      have e6 : wrap64 (c * n) = c * n := pr_bd hc1 hc2 hn1 hn2
      rcases hlt with ⟨l1, l2, l3⟩ | ⟨l1, l2, l3⟩
      · have l1' : ¬ c * b < a * d := by omega
        clear B6 B7
        go_wp2_with fail
        refine (hco _).mono ?_
        rintro e w9 ⟨rfl, h9⟩
        go_wp2_with fail
        refine (haw _).mono ?_
        rintro e w10 ⟨rfl, h10⟩
        go_wp2_with fail
        go_ret
        exact ⟨rfl, (hf8.pu h9).pu h10⟩
      · have f60 := B6.frozen 0
        have f61 := B6.frozen 1
        have f70 := B7.frozen 0
        have f71 := B7.frozen 1
        clear B6 B7
        go_upto_region 14 with fail
        have Lsz := hf8.size
        have L8 : w8.heap.size < (w8.alloc (.cells #[.int .i64 m, .int .i64 n] 31)).heap.size := by simp
        have L7' : w7.heap.size ≠ w6.heap.size := by omega
        generalize (w8.alloc (.cells #[.int .i64 m, .int .i64 n] 31)) = W8 at *
        go_wp2_with fail
        refine (hco _).mono ?_
        rintro e w9 ⟨rfl, h9⟩
        go_wp2_with fail
        refine (haw _).mono ?_
        rintro e w10 ⟨rfl, h10⟩
        go_wp2_with fail
        go_ret
        refine ⟨rfl, (Fr.pu ?_ h9).pu h10⟩
        exact ((((hf8.setCell (p := ⟨w6.heap.size, 0, none⟩) (.inr Lw6) _).setCell (p := ⟨w6.heap.size, 1, none⟩) (.inr Lw6) _).setCell (p := ⟨w7.heap.size, 0, none⟩) (.inr (Nat.le_trans Lw6 (Nat.le_of_lt L67))) _).setCell (p := ⟨w7.heap.size, 1, none⟩) (.inr (Nat.le_trans Lw6 (Nat.le_of_lt L67))) _)
end Go.Proofs.Ytmaikkanfhbiaaa
