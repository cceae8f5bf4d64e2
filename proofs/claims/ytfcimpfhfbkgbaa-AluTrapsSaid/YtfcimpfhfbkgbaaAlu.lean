/- Operations on cells: numbers. -/
import Derived.Test.YtfcimpfhfbkgbaaRows
import Derived.Test.YtfcimpfhfbkgbaaAluLaw
import Derived.Deep.RegionHeld3
namespace Go.Proofs.Ytfcimpfhfbkgbaa
open Go.RowKit

def cV (t v : Int) : Value := .agg #[.int .u8 t, .int .u16 v]

set_option maxHeartbeats 400000 in
theorem number_c (v : Int) (w : World) :
    Calls Try.prog 30 #[.int .u16 v] w fun e w' => e = .returned (cV 0 v) ∧ Pu w w' := by
  go_enter Try.func30, Try.ntmps30
  go_wp2
  refine bodyPost_ret (v := cV 0 v) (by simp [results, Try.results30, go_sem, cV]) rfl ⟨rfl, ?_⟩
  exact (Fr.refl _ w).alloc _

set_option maxHeartbeats 1000000 in
theorem num_add (b c r : Int) (w : World) (hr : IntKind.u16.wrap (b + c) = r) :
    Calls Try.prog 28 #[.int .i64 3, .int .u16 b, .int .u16 c] w fun e w' => e = .returned (.tuple #[cV 0 r, .int .i64 0]) ∧ Pu w w' := by
  have HB1 := Blk.new w 24 #[.int .u8 0, .int .u16 0]
  have HF0 : Pu w (w.alloc (.cells #[.int .u8 0, .int .u16 0] 24)) := (Fr.refl _ w).alloc _
  have hn := fun u => number_c r u
  unfold cV at *
  have hcb : ∃ z, (c == 0) = z := ⟨_, rfl⟩
  obtain ⟨z, hz⟩ := hcb
  cases z <;> go_enter Try.func28, Try.ntmps28
  all_goals
    go_wp2_with fail
    refine (hn _).mono ?_
    rintro e w1 ⟨rfl, hf⟩
    have hB := hf.blk HB1 (fun t => t)
    have hF : Pu w w1 := HF0.pu hf
    have c0 : w1.cell? ⟨w.heap.size, 0, none⟩ = some (.int .u8 0) := hB.cell 0
    have c1 : w1.cell? ⟨w.heap.size, 1, none⟩ = some (.int .u16 0) := hB.cell 1
    have f0 := hB.frozen 0
    have f1 := hB.frozen 1
    clear HB1 HF0 hf hr hn
    go_wp2_with fail
    refine bodyPost_ret (v := .tuple #[cV 0 r, .int .i64 0]) (by simp [results, Try.results28, go_sem, c0, c1, cV]) rfl ⟨rfl, ?_⟩
    exact (hF.setCell (p := ⟨w.heap.size, 0, none⟩) (.inr (Nat.le_refl _)) _).setCell (p := ⟨w.heap.size, 1, none⟩) (.inr (Nat.le_refl _)) _
set_option maxHeartbeats 1000000 in
theorem num_sub (b c r : Int) (w : World) (hr : IntKind.u16.wrap (b - c) = r) :
    Calls Try.prog 28 #[.int .i64 4, .int .u16 b, .int .u16 c] w fun e w' => e = .returned (.tuple #[cV 0 r, .int .i64 0]) ∧ Pu w w' := by
  have HB1 := Blk.new w 24 #[.int .u8 0, .int .u16 0]
  have HF0 : Pu w (w.alloc (.cells #[.int .u8 0, .int .u16 0] 24)) := (Fr.refl _ w).alloc _
  have hn := fun u => number_c r u
  unfold cV at *
  have hcb : ∃ z, (c == 0) = z := ⟨_, rfl⟩
  obtain ⟨z, hz⟩ := hcb
  cases z <;> go_enter Try.func28, Try.ntmps28
  all_goals
    go_wp2_with fail
    refine (hn _).mono ?_
    rintro e w1 ⟨rfl, hf⟩
    have hB := hf.blk HB1 (fun t => t)
    have hF : Pu w w1 := HF0.pu hf
    have c0 : w1.cell? ⟨w.heap.size, 0, none⟩ = some (.int .u8 0) := hB.cell 0
    have c1 : w1.cell? ⟨w.heap.size, 1, none⟩ = some (.int .u16 0) := hB.cell 1
    have f0 := hB.frozen 0
    have f1 := hB.frozen 1
    clear HB1 HF0 hf hr hn
    go_wp2_with fail
    refine bodyPost_ret (v := .tuple #[cV 0 r, .int .i64 0]) (by simp [results, Try.results28, go_sem, c0, c1, cV]) rfl ⟨rfl, ?_⟩
    exact (hF.setCell (p := ⟨w.heap.size, 0, none⟩) (.inr (Nat.le_refl _)) _).setCell (p := ⟨w.heap.size, 1, none⟩) (.inr (Nat.le_refl _)) _
set_option maxHeartbeats 1000000 in
theorem num_mul (b c r : Int) (w : World) (hr : IntKind.u16.wrap (b * c) = r) :
    Calls Try.prog 28 #[.int .i64 5, .int .u16 b, .int .u16 c] w fun e w' => e = .returned (.tuple #[cV 0 r, .int .i64 0]) ∧ Pu w w' := by
  have HB1 := Blk.new w 24 #[.int .u8 0, .int .u16 0]
  have HF0 : Pu w (w.alloc (.cells #[.int .u8 0, .int .u16 0] 24)) := (Fr.refl _ w).alloc _
  have hn := fun u => number_c r u
  unfold cV at *
  have hcb : ∃ z, (c == 0) = z := ⟨_, rfl⟩
  obtain ⟨z, hz⟩ := hcb
  cases z <;> go_enter Try.func28, Try.ntmps28
  all_goals
    go_wp2_with fail
    refine (hn _).mono ?_
    rintro e w1 ⟨rfl, hf⟩
    have hB := hf.blk HB1 (fun t => t)
    have hF : Pu w w1 := HF0.pu hf
    have c0 : w1.cell? ⟨w.heap.size, 0, none⟩ = some (.int .u8 0) := hB.cell 0
    have c1 : w1.cell? ⟨w.heap.size, 1, none⟩ = some (.int .u16 0) := hB.cell 1
    have f0 := hB.frozen 0
    have f1 := hB.frozen 1
    clear HB1 HF0 hf hr hn
    go_wp2_with fail
    refine bodyPost_ret (v := .tuple #[cV 0 r, .int .i64 0]) (by simp [results, Try.results28, go_sem, c0, c1, cV]) rfl ⟨rfl, ?_⟩
    exact (hF.setCell (p := ⟨w.heap.size, 0, none⟩) (.inr (Nat.le_refl _)) _).setCell (p := ⟨w.heap.size, 1, none⟩) (.inr (Nat.le_refl _)) _
set_option maxHeartbeats 1000000 in
theorem num_xor (b c r : Int) (w : World) (hr : bits BinOp.xor IntKind.u16 b c = r) :
    Calls Try.prog 28 #[.int .i64 10, .int .u16 b, .int .u16 c] w fun e w' => e = .returned (.tuple #[cV 0 r, .int .i64 0]) ∧ Pu w w' := by
  have HB1 := Blk.new w 24 #[.int .u8 0, .int .u16 0]
  have HF0 : Pu w (w.alloc (.cells #[.int .u8 0, .int .u16 0] 24)) := (Fr.refl _ w).alloc _
  have hn := fun u => number_c r u
  unfold cV at *
  have hcb : ∃ z, (c == 0) = z := ⟨_, rfl⟩
  obtain ⟨z, hz⟩ := hcb
  cases z <;> go_enter Try.func28, Try.ntmps28
  all_goals
    go_wp2_with fail
    refine (hn _).mono ?_
    rintro e w1 ⟨rfl, hf⟩
    have hB := hf.blk HB1 (fun t => t)
    have hF : Pu w w1 := HF0.pu hf
    have c0 : w1.cell? ⟨w.heap.size, 0, none⟩ = some (.int .u8 0) := hB.cell 0
    have c1 : w1.cell? ⟨w.heap.size, 1, none⟩ = some (.int .u16 0) := hB.cell 1
    have f0 := hB.frozen 0
    have f1 := hB.frozen 1
    clear HB1 HF0 hf hr hn
    go_wp2_with fail
    refine bodyPost_ret (v := .tuple #[cV 0 r, .int .i64 0]) (by simp [results, Try.results28, go_sem, c0, c1, cV]) rfl ⟨rfl, ?_⟩
    exact (hF.setCell (p := ⟨w.heap.size, 0, none⟩) (.inr (Nat.le_refl _)) _).setCell (p := ⟨w.heap.size, 1, none⟩) (.inr (Nat.le_refl _)) _

set_option maxHeartbeats 1000000 in
theorem num_div (b c : Int) (w : World) (hb : 0 ≤ b ∧ b ≤ 65535) (hc : 1 ≤ c ∧ c ≤ 65535) (hq : 0 ≤ b / c ∧ b / c ≤ 65535) :
    Calls Try.prog 28 #[.int .i64 6, .int .u16 b, .int .u16 c] w fun e w' => e = .returned (.tuple #[cV 0 (b / c), .int .i64 0]) ∧ Pu w w' := by
  have HB1 := Blk.new w 24 #[.int .u8 0, .int .u16 0]
  have HF0 : Pu w (w.alloc (.cells #[.int .u8 0, .int .u16 0] 24)) := (Fr.refl _ w).alloc _
  have hn := fun u => number_c (b / c) u
  obtain ⟨b1, b2⟩ := hb
  obtain ⟨d1, d2⟩ := hc
  obtain ⟨q1, q2⟩ := hq
  have hz : (c == 0) = false := by simp; omega
  have hd : IntKind.u16.wrap (b.tdiv c) = b / c := by (rw [Int.tdiv_eq_ediv_of_nonneg b1]; rw [wrap16]; omega)
  unfold cV at *
  go_enter Try.func28, Try.ntmps28
  go_wp2_with fail
  refine (hn _).mono ?_
  rintro e w1 ⟨rfl, hf⟩
  have hB := hf.blk HB1 (fun t => t)
  have hF : Pu w w1 := HF0.pu hf
  have c0 : w1.cell? ⟨w.heap.size, 0, none⟩ = some (.int .u8 0) := hB.cell 0
  have c1 : w1.cell? ⟨w.heap.size, 1, none⟩ = some (.int .u16 0) := hB.cell 1
  have f0 := hB.frozen 0
  have f1 := hB.frozen 1
  clear HB1 HF0 hf hn
  go_wp2_with fail
  refine bodyPost_ret (v := .tuple #[cV 0 (b / c), .int .i64 0]) (by simp [results, Try.results28, go_sem, c0, c1, cV]) rfl ⟨rfl, ?_⟩
  exact (hF.setCell (p := ⟨w.heap.size, 0, none⟩) (.inr (Nat.le_refl _)) _).setCell (p := ⟨w.heap.size, 1, none⟩) (.inr (Nat.le_refl _)) _

set_option maxHeartbeats 1000000 in
theorem num_div0 (b : Int) (w : World) :
    Calls Try.prog 28 #[.int .i64 6, .int .u16 b, .int .u16 0] w fun e w' => e = .returned (.tuple #[cV 0 0, .int .i64 5]) ∧ Pu w w' := by
  go_enter Try.func28, Try.ntmps28
  go_wp2_with fail
  refine bodyPost_ret (v := .tuple #[cV 0 0, .int .i64 5]) (by simp [results, Try.results28, go_sem, cV]) rfl ⟨rfl, ?_⟩
  exact (Fr.refl _ w).alloc _
set_option maxHeartbeats 1000000 in
theorem num_rem (b c : Int) (w : World) (hb : 0 ≤ b ∧ b ≤ 65535) (hc : 1 ≤ c ∧ c ≤ 65535) (hq : 0 ≤ b % c ∧ b % c ≤ 65535) :
    Calls Try.prog 28 #[.int .i64 7, .int .u16 b, .int .u16 c] w fun e w' => e = .returned (.tuple #[cV 0 (b % c), .int .i64 0]) ∧ Pu w w' := by
  have HB1 := Blk.new w 24 #[.int .u8 0, .int .u16 0]
  have HF0 : Pu w (w.alloc (.cells #[.int .u8 0, .int .u16 0] 24)) := (Fr.refl _ w).alloc _
  have hn := fun u => number_c (b % c) u
  obtain ⟨b1, b2⟩ := hb
  obtain ⟨d1, d2⟩ := hc
  obtain ⟨q1, q2⟩ := hq
  have hz : (c == 0) = false := by simp; omega
  skip
  unfold cV at *
  go_enter Try.func28, Try.ntmps28
  go_wp2_with fail
  refine (hn _).mono ?_
  rintro e w1 ⟨rfl, hf⟩
  have hB := hf.blk HB1 (fun t => t)
  have hF : Pu w w1 := HF0.pu hf
  have c0 : w1.cell? ⟨w.heap.size, 0, none⟩ = some (.int .u8 0) := hB.cell 0
  have c1 : w1.cell? ⟨w.heap.size, 1, none⟩ = some (.int .u16 0) := hB.cell 1
  have f0 := hB.frozen 0
  have f1 := hB.frozen 1
  clear HB1 HF0 hf hn
  go_wp2_with fail
  refine bodyPost_ret (v := .tuple #[cV 0 (b % c), .int .i64 0]) (by simp [results, Try.results28, go_sem, c0, c1, cV]) rfl ⟨rfl, ?_⟩
  exact (hF.setCell (p := ⟨w.heap.size, 0, none⟩) (.inr (Nat.le_refl _)) _).setCell (p := ⟨w.heap.size, 1, none⟩) (.inr (Nat.le_refl _)) _

set_option maxHeartbeats 1000000 in
theorem num_rem0 (b : Int) (w : World) :
    Calls Try.prog 28 #[.int .i64 7, .int .u16 b, .int .u16 0] w fun e w' => e = .returned (.tuple #[cV 0 0, .int .i64 5]) ∧ Pu w w' := by
  go_enter Try.func28, Try.ntmps28
  go_wp2_with fail
  refine bodyPost_ret (v := .tuple #[cV 0 0, .int .i64 5]) (by simp [results, Try.results28, go_sem, cV]) rfl ⟨rfl, ?_⟩
  exact (Fr.refl _ w).alloc _

set_option maxHeartbeats 1000000 in
theorem do_num (L : Value) (bs : Value) (key op b c r t : Int) (S : Value) (w : World) (hL : L = .agg #[bs, .int .u16 key]) (hop : 3 ≤ op ∧ op ≤ 13) (hn : ∀ u, Calls Try.prog 28 #[.int .i64 op, .int .u16 b, .int .u16 c] u fun e w' => e = .returned (.tuple #[cV 0 r, .int .i64 t]) ∧ Pu u w') :
    Calls Try.prog 13 #[L, S, .int .i64 op, cV 0 b, cV 0 c] w fun e w' => e = .returned (.tuple #[cV 0 r, .int .i64 t]) ∧ Pu w w' := by
  subst hL
  obtain ⟨o1, o2⟩ := hop
  have e14 : (op == 14) = false := by simp; omega
  have HB1 : Blk ((((w.alloc (.cells #[bs, .int .u16 key] 30)).alloc (.cells #[.int .u8 0, .int .u16 b] 24)).alloc (.cells #[.int .u8 0, .int .u16 c] 24)).alloc (.cells #[.int .u8 0, .int .u16 0] 24)) (w.heap.size + 1 + 1 + 1) 24 #[.int .u8 0, .int .u16 0] := by
    have := Blk.new (((w.alloc (.cells #[bs, .int .u16 key] 30)).alloc (.cells #[.int .u8 0, .int .u16 b] 24)).alloc (.cells #[.int .u8 0, .int .u16 c] 24)) 24 #[.int .u8 0, .int .u16 0]
    simpa using this
  have HF0 : Pu w ((((w.alloc (.cells #[bs, .int .u16 key] 30)).alloc (.cells #[.int .u8 0, .int .u16 b] 24)).alloc (.cells #[.int .u8 0, .int .u16 c] 24)).alloc (.cells #[.int .u8 0, .int .u16 0] 24)) := ((((Fr.refl _ w).alloc _).alloc _).alloc _).alloc _
  unfold cV at *
  go_enter Try.func13, Try.ntmps13
  go_wp2_with fail
  refine (hn _).mono ?_
  rintro e w1 ⟨rfl, hf⟩
  have hB := hf.blk HB1 (fun t => t)
  have hF : Pu w w1 := HF0.pu hf
  have c0 : w1.cell? ⟨w.heap.size + 1 + 1 + 1, 0, none⟩ = some (.int .u8 0) := hB.cell 0
  have c1 : w1.cell? ⟨w.heap.size + 1 + 1 + 1, 1, none⟩ = some (.int .u16 0) := hB.cell 1
  have f0 := hB.frozen 0
  have f1 := hB.frozen 1
  clear HB1 HF0 hf hn
  go_wp2_with fail
  refine bodyPost_ret (v := .tuple #[cV 0 r, .int .i64 t]) (by simp [results, Try.results13, go_sem, c0, c1, cV]) rfl ⟨rfl, ?_⟩
  have hle : w.heap.size ≤ w.heap.size + 1 + 1 + 1 := by omega
  exact (hF.setCell (p := ⟨w.heap.size + 1 + 1 + 1, 0, none⟩) (.inr hle) _).setCell (p := ⟨w.heap.size + 1 + 1 + 1, 1, none⟩) (.inr hle) _
end Go.Proofs.Ytfcimpfhfbkgbaa
