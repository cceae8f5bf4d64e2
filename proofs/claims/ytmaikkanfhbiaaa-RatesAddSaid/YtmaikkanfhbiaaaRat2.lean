/- Fractions of right numbers; the numbers of the statements of layer 43; the check of sanity. -/
import Derived.Test.YtmaikkanfhbiaaaRat
namespace Go.Proofs.Ytmaikkanfhbiaaa
open Go.RowKit

theorem shorten_i (a b : Int) (w : World) (ha : 0 ≤ a ∧ a ≤ 1073741824) (hb : 1 ≤ b ∧ b ≤ 1073741824) :
    Calls Try.prog 15 #[.int .i64 a, .int .i64 b] w fun e w' => e = .returned (.tuple #[.int .i64 (a / (Int.gcd a b : Nat)), .int .i64 (b / (Int.gcd a b : Nat))]) ∧ Pu w w' := by
  obtain ⟨m, rfl⟩ := Int.eq_ofNat_of_zero_le ha.1
  obtain ⟨n, rfl⟩ := Int.eq_ofNat_of_zero_le (show 0 ≤ b by omega)
  exact shorten_c m n w (by omega) (by omega) (by omega)

set_option maxHeartbeats 1000000 in
theorem part_c (i f r l la lo ls a b : Int) (w : World) (h : OkS i f r l la lo ls) (ha : 0 ≤ a ∧ a ≤ 1073741824) (hb : 1 ≤ b ∧ b ≤ 1073741824) :
    Calls Try.prog 12 #[.agg (sV i f r l la lo ls), .int .i64 a, .int .i64 b] w fun e w' => e = .returned (.tuple #[ratioV (a / (Int.gcd a b : Nat)) (b / (Int.gcd a b : Nat)), .int .i64 0]) ∧ Pu w w' := by
  have hr := fun u => right_ok i f r l la lo ls u h
  have hs := fun u => shorten_i a b u ha hb
  have HB1 : Blk ((w.alloc (.cells (sV i f r l la lo ls) 25)).alloc (.cells #[.int .i64 0, .int .i64 0] 31)) (w.heap.size + 1) 31 #[.int .i64 0, .int .i64 0] := by
    have := Blk.new (w.alloc (.cells (sV i f r l la lo ls) 25)) 31 #[.int .i64 0, .int .i64 0]; simpa using this
  have HF0 : Pu w ((w.alloc (.cells (sV i f r l la lo ls) 25)).alloc (.cells #[.int .i64 0, .int .i64 0] 31)) := ((Fr.refl _ w).alloc _).alloc _
  have h0 : (b == 0) = false := by simp; omega
  clear h
  unfold sV at *
  generalize a / (Int.gcd a b : Nat) = x at *
  generalize b / (Int.gcd a b : Nat) = y at *
  obtain ⟨ha1, ha2⟩ := ha
  obtain ⟨hb1, hb2⟩ := hb
  go_enter Try.func12, Try.ntmps12
  go_wp2_with fail
  refine (hr _).mono ?_
  rintro e w1 ⟨rfl, hf⟩
  have hB := hf.blk HB1 (fun t => t)
  have hF : Pu w w1 := HF0.pu hf
  clear hr HB1 HF0
  go_wp2_with fail
  refine (hs _).mono ?_
  rintro e w2 ⟨rfl, hf2⟩
  have hB2 := hf2.blk hB (fun t => t)
  have hF2 : Pu w w2 := hF.pu hf2
  have c0 : w2.cell? ⟨w.heap.size + 1, 0, none⟩ = some (.int .i64 0) := hB2.cell 0
  have c1 : w2.cell? ⟨w.heap.size + 1, 1, none⟩ = some (.int .i64 0) := hB2.cell 1
  have f0 := hB2.frozen 0
  have f1 := hB2.frozen 1
  clear hf hf2 hB hF hs
  go_wp2_with fail
  refine bodyPost_ret (v := .tuple #[ratioV x y, .int .i64 0]) (by simp [results, Try.results12, go_sem, c0, c1, ratioV]) rfl ⟨rfl, ?_⟩
  repeat (first | exact hF2 | refine Fr.setCell ?_ (.inr (by simp)) _ | refine Fr.alloc ?_ _)

set_option maxHeartbeats 1000000 in
theorem part_0 (i f r l la lo ls a : Int) (w : World) (h : OkS i f r l la lo ls) :
    Calls Try.prog 12 #[.agg (sV i f r l la lo ls), .int .i64 a, .int .i64 0] w fun e w' => e = .returned (.tuple #[ratioV 0 0, .int .i64 9]) ∧ Pu w w' := by
  have hr := fun u => right_ok i f r l la lo ls u h
  have HB1 : Blk ((w.alloc (.cells (sV i f r l la lo ls) 25)).alloc (.cells #[.int .i64 0, .int .i64 0] 31)) (w.heap.size + 1) 31 #[.int .i64 0, .int .i64 0] := by
    have := Blk.new (w.alloc (.cells (sV i f r l la lo ls) 25)) 31 #[.int .i64 0, .int .i64 0]; simpa using this
  have HF0 : Pu w ((w.alloc (.cells (sV i f r l la lo ls) 25)).alloc (.cells #[.int .i64 0, .int .i64 0] 31)) := ((Fr.refl _ w).alloc _).alloc _
  clear h
  unfold sV at *
  go_enter Try.func12, Try.ntmps12
  go_wp2_with fail
  refine (hr _).mono ?_
  rintro e w1 ⟨rfl, hf⟩
  have hB := hf.blk HB1 (fun t => t)
  have hF : Pu w w1 := HF0.pu hf
  have c0 : w1.cell? ⟨w.heap.size + 1, 0, none⟩ = some (.int .i64 0) := hB.cell 0
  have c1 : w1.cell? ⟨w.heap.size + 1, 1, none⟩ = some (.int .i64 0) := hB.cell 1
  have f0 := hB.frozen 0
  have f1 := hB.frozen 1
  clear hr HB1 HF0 hf
  go_wp2_with fail
  refine bodyPost_ret (v := .tuple #[ratioV 0 0, .int .i64 9]) (by simp [results, Try.results12, go_sem, c0, c1, ratioV]) rfl ⟨rfl, ?_⟩
  repeat (first | exact hF | refine Fr.setCell ?_ (.inr (by simp)) _ | refine Fr.alloc ?_ _)

set_option maxHeartbeats 1000000 in
theorem cov_any (i f r l la lo ls a b c : Int) (w : World) (hp : ∀ u, Calls Try.prog 12 #[.agg (sV i f r l la lo ls), .int .i64 f, .int .i64 i] u fun e w' => e = .returned (.tuple #[ratioV a b, .int .i64 c]) ∧ Pu u w') :
    Calls Try.prog 7 #[.agg (sV i f r l la lo ls)] w fun e w' => e = .returned (.tuple #[ratioV a b, .int .i64 c]) ∧ Pu w w' := by
  have HB1 : Blk ((w.alloc (.cells (sV i f r l la lo ls) 25)).alloc (.cells #[.int .i64 0, .int .i64 0] 31)) (w.heap.size + 1) 31 #[.int .i64 0, .int .i64 0] := by
    have := Blk.new (w.alloc (.cells (sV i f r l la lo ls) 25)) 31 #[.int .i64 0, .int .i64 0]; simpa using this
  have HF0 : Pu w ((w.alloc (.cells (sV i f r l la lo ls) 25)).alloc (.cells #[.int .i64 0, .int .i64 0] 31)) := ((Fr.refl _ w).alloc _).alloc _
  unfold sV ratioV at *
  go_enter Try.func7, Try.ntmps7
  go_wp2_with fail
  refine (hp _).mono ?_
  rintro e w1 ⟨rfl, hf⟩
  have hB := hf.blk HB1 (fun t => t)
  have hF : Pu w w1 := HF0.pu hf
  have c0 : w1.cell? ⟨w.heap.size + 1, 0, none⟩ = some (.int .i64 0) := hB.cell 0
  have c1 : w1.cell? ⟨w.heap.size + 1, 1, none⟩ = some (.int .i64 0) := hB.cell 1
  have f0 := hB.frozen 0
  have f1 := hB.frozen 1
  clear hp HB1 HF0 hf
  go_wp2_with fail
  refine bodyPost_ret (v := .tuple #[ratioV a b, .int .i64 c]) (by simp [results, Try.results7, go_sem, c0, c1, ratioV]) rfl ⟨rfl, ?_⟩
  repeat (first | exact hF | refine Fr.setCell ?_ (.inr (by simp)) _ | refine Fr.alloc ?_ _)
set_option maxHeartbeats 1000000 in
theorem del_any (i f r l la lo ls a b c : Int) (w : World) (hp : ∀ u, Calls Try.prog 12 #[.agg (sV i f r l la lo ls), .int .i64 l, .int .i64 f] u fun e w' => e = .returned (.tuple #[ratioV a b, .int .i64 c]) ∧ Pu u w') :
    Calls Try.prog 13 #[.agg (sV i f r l la lo ls)] w fun e w' => e = .returned (.tuple #[ratioV a b, .int .i64 c]) ∧ Pu w w' := by
  have HB1 : Blk ((w.alloc (.cells (sV i f r l la lo ls) 25)).alloc (.cells #[.int .i64 0, .int .i64 0] 31)) (w.heap.size + 1) 31 #[.int .i64 0, .int .i64 0] := by
    have := Blk.new (w.alloc (.cells (sV i f r l la lo ls) 25)) 31 #[.int .i64 0, .int .i64 0]; simpa using this
  have HF0 : Pu w ((w.alloc (.cells (sV i f r l la lo ls) 25)).alloc (.cells #[.int .i64 0, .int .i64 0] 31)) := ((Fr.refl _ w).alloc _).alloc _
  unfold sV ratioV at *
  go_enter Try.func13, Try.ntmps13
  go_wp2_with fail
  refine (hp _).mono ?_
  rintro e w1 ⟨rfl, hf⟩
  have hB := hf.blk HB1 (fun t => t)
  have hF : Pu w w1 := HF0.pu hf
  have c0 : w1.cell? ⟨w.heap.size + 1, 0, none⟩ = some (.int .i64 0) := hB.cell 0
  have c1 : w1.cell? ⟨w.heap.size + 1, 1, none⟩ = some (.int .i64 0) := hB.cell 1
  have f0 := hB.frozen 0
  have f1 := hB.frozen 1
  clear hp HB1 HF0 hf
  go_wp2_with fail
  refine bodyPost_ret (v := .tuple #[ratioV a b, .int .i64 c]) (by simp [results, Try.results13, go_sem, c0, c1, ratioV]) rfl ⟨rfl, ?_⟩
  repeat (first | exact hF | refine Fr.setCell ?_ (.inr (by simp)) _ | refine Fr.alloc ?_ _)

/-- what Coverage gives -/
def cN (f i : Int) : Int := if i = 0 then 0 else f / (Int.gcd f i : Nat)
def cD (f i : Int) : Int := if i = 0 then 0 else i / (Int.gcd f i : Nat)
def cE (i : Int) : Int := if i = 0 then 9 else 0
theorem cov_c (i f r l la lo ls : Int) (w : World) (h : OkS i f r l la lo ls) :
    Calls Try.prog 7 #[.agg (sV i f r l la lo ls)] w fun e w' => e = .returned (.tuple #[ratioV (cN f i) (cD f i), .int .i64 (cE i)]) ∧ Pu w w' := by
  refine cov_any i f r l la lo ls _ _ _ w fun u => ?_
  unfold cN cD cE
  by_cases h0 : i = 0
  · subst h0
    exact part_0 _ _ _ _ _ _ _ _ u h
  · rw [if_neg h0, if_neg h0, if_neg h0]
    exact part_c _ _ _ _ _ _ _ _ _ u h h.bf ⟨by have := h.bi; omega, h.bi.2⟩

set_option maxHeartbeats 1000000 in
theorem awake_any (w : World) : Calls Try.prog 8 #[] w fun e w' => e = .returned (.bool true) ∧ Pu w w' := by
  have hc := fun u => cov_c 8 6 0 0 0 0 0 u ⟨by omega, by omega, by omega, by omega, by omega, by omega, by omega, by omega, by omega, by omega, by omega⟩
  have e1 : cN 6 8 = 3 := by decide
  have e2 : cD 6 8 = 4 := by decide
  have e3 : cE 8 = 0 := by decide
  rw [e1, e2, e3] at hc
  have hd := fun u => del_any 0 0 0 0 0 0 0 _ _ _ u (fun u => part_0 0 0 0 0 0 0 0 0 u ⟨by omega, by omega, by omega, by omega, by omega, by omega, by omega, by omega, by omega, by omega, by omega⟩)
  clear e1 e2 e3
  unfold sV ratioV at *
  go_enter Try.func8, Try.ntmps8
  go_wp2_with fail
  refine (hc _).mono ?_
  rintro e w1 ⟨rfl, hf⟩
  have hB := Blk.new w1 31 #[.int .i64 3, .int .i64 4]
  go_wp2_with fail
  refine (hd _).mono ?_
  rintro e w2 ⟨rfl, hf2⟩
  have c0 : w2.cell? ⟨w1.heap.size, 0, none⟩ = some (.int .i64 3) := (hf2.blk hB (fun t => t)).cell 0
  have c1 : w2.cell? ⟨w1.heap.size, 1, none⟩ = some (.int .i64 4) := (hf2.blk hB (fun t => t)).cell 1
  have d0 := cell_alloc (o := .cells #[.int .i64 0, .int .i64 0] 31) c0
  have d1 := cell_alloc (o := .cells #[.int .i64 0, .int .i64 0] 31) c1
  go_wp2_with fail
  go_ret
  exact ⟨rfl, ((hf.alloc _).pu hf2).alloc _⟩

set_option maxHeartbeats 1000000 in
theorem stats_c (x0 x1 x2 x3 x4 : Int) (w : World) (h0 : 0 ≤ x0 ∧ x0 ≤ 65535) (h1 : 0 ≤ x1 ∧ x1 ≤ 65535) (h2 : 0 ≤ x2 ∧ x2 ≤ 65535) (h3 : 0 ≤ x3 ∧ x3 ≤ 65535) (h4 : 0 ≤ x4 ∧ x4 ≤ 65535) :
    Calls Try.prog 5 #[.agg #[.int .u16 x0, .int .u16 x1, .int .u16 x2, .int .u16 x3, .int .u16 x4]] w fun e w' => e = .returned (.agg (sV x0 (x1 % (x0 + 1)) (x2 % (x1 % (x0 + 1) + 1)) x3 (x3 / 2) x4 (x4 / 3))) ∧ Pu w w' := by
  obtain ⟨p0, q0⟩ := h0
  obtain ⟨p1, q1⟩ := h1
  obtain ⟨p2, q2⟩ := h2
  obtain ⟨p3, q3⟩ := h3
  obtain ⟨p4, q4⟩ := h4
  have a1 := Int.emod_nonneg x1 (b := x0 + 1) (by omega)
  have a2 := Int.emod_lt_of_pos x1 (b := x0 + 1) (by omega)
  have b1 := Int.emod_nonneg x2 (b := x1 % (x0 + 1) + 1) (by omega)
  have b2 := Int.emod_lt_of_pos x2 (b := x1 % (x0 + 1) + 1) (by omega)
  unfold sV
  go_enter Try.func5, Try.ntmps5
  go_wp2_with fail
  refine bodyPost_ret (v := .agg #[.int .i64 x0, .int .i64 (x1 % (x0 + 1)), .int .i64 (x2 % (x1 % (x0 + 1) + 1)), .int .i64 x3, .int .i64 (x3 / 2), .int .i64 x4, .int .i64 (x4 / 3)]) ?_ ?_ ⟨rfl, ?_⟩
  · simp [results, Try.results5, go_sem]
  · rfl
  repeat (first | exact Fr.refl _ _ | refine Fr.setCell ?_ (.inr (by simp)) _ | refine Fr.alloc ?_ _)
end Go.Proofs.Ytmaikkanfhbiaaa
