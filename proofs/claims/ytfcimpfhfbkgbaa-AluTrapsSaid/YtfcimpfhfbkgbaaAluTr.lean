/- Operations on two numbers, whatever they are; equality; handles trap. -/
import Derived.Test.YtfcimpfhfbkgbaaAluMk
namespace Go.Proofs.Ytfcimpfhfbkgbaa
open Go.RowKit

set_option maxHeartbeats 1000000 in
theorem truth_c (b : Bool) (w : World) :
    Calls Try.prog 27 #[.bool b] w fun e w' => e = .returned (cV 0 (if b then 1 else 0)) ∧ Pu w w' := by
  have HB1 := Blk.new w 24 #[.int .u8 0, .int .u16 0]
  have HF0 : Pu w (w.alloc (.cells #[.int .u8 0, .int .u16 0] 24)) := (Fr.refl _ w).alloc _
  have hn := fun v u => number_c v u
  unfold cV at *
  cases b <;> go_enter Try.func27, Try.ntmps27
  all_goals
    go_wp2_with fail
    refine (hn _ _).mono ?_
    rintro e w1 ⟨rfl, hf⟩
    have hB := hf.blk HB1 (fun t => t)
    have hF : Pu w w1 := HF0.pu hf
    have c0 : w1.cell? ⟨w.heap.size, 0, none⟩ = some (.int .u8 0) := hB.cell 0
    have c1 : w1.cell? ⟨w.heap.size, 1, none⟩ = some (.int .u16 0) := hB.cell 1
    have f0 := hB.frozen 0
    have f1 := hB.frozen 1
    clear HB1 HF0 hf hn
    go_wp2_with fail
    refine bodyPost_ret (v := cV 0 _) (by simp [results, Try.results27, go_sem, c0, c1, cV]) rfl ⟨rfl, ?_⟩
    exact (hF.setCell (p := ⟨w.heap.size, 0, none⟩) (.inr (Nat.le_refl _)) _).setCell (p := ⟨w.heap.size, 1, none⟩) (.inr (Nat.le_refl _)) _

set_option maxHeartbeats 1000000 in
theorem num_and (b c : Int) (w : World) (hb : 0 ≤ b ∧ b ≤ 65535) (hc : 0 ≤ c ∧ c ≤ 65535) :
    Calls Try.prog 28 #[.int .i64 8, .int .u16 b, .int .u16 c] w fun e w' => ∃ r : Int, e = .returned (.tuple #[cV 0 r, .int .i64 0]) ∧ Pu w w' := by
  have HB1 := Blk.new w 24 #[.int .u8 0, .int .u16 0]
  have HF0 : Pu w (w.alloc (.cells #[.int .u8 0, .int .u16 0] 24)) := (Fr.refl _ w).alloc _
  have hn := fun v u => number_c v u
  have ht := fun v u => truth_c v u
  obtain ⟨b1, b2⟩ := hb
  obtain ⟨c1, c2⟩ := hc
  unfold cV at *
  have hcb : ∃ z, (c == 0) = z := ⟨_, rfl⟩
  obtain ⟨z, hz⟩ := hcb
  cases z <;> go_enter Try.func28, Try.ntmps28
  all_goals
    go_wp2_with fail
    first | (refine (hn _ _).mono ?_) | (refine (ht _ _).mono ?_)
    rintro e w1 ⟨rfl, hf⟩
    have hB := hf.blk HB1 (fun t => t)
    have hF : Pu w w1 := HF0.pu hf
    have c0 : w1.cell? ⟨w.heap.size, 0, none⟩ = some (.int .u8 0) := hB.cell 0
    have c1 : w1.cell? ⟨w.heap.size, 1, none⟩ = some (.int .u16 0) := hB.cell 1
    have f0 := hB.frozen 0
    have f1 := hB.frozen 1
    clear HB1 HF0 hf hn ht
    go_wp2_with fail
    all_goals
      first
      | refine bodyPost_ret (v := .tuple #[cV 0 _, .int .i64 0]) (by simp [results, Try.results28, go_sem, c0, c1, cV]; rfl) rfl ⟨_, rfl, ?_⟩
      | refine bodyPost_ret (v := .tuple #[cV 0 _, .int .i64 0]) (by simp [results, Try.results28, go_sem, c0, c1, cV]; rfl) rfl ⟨⟨_, rfl⟩, ?_⟩
      exact (hF.setCell (p := ⟨w.heap.size, 0, none⟩) (.inr (Nat.le_refl _)) _).setCell (p := ⟨w.heap.size, 1, none⟩) (.inr (Nat.le_refl _)) _
set_option maxHeartbeats 1000000 in
theorem num_or (b c : Int) (w : World) (hb : 0 ≤ b ∧ b ≤ 65535) (hc : 0 ≤ c ∧ c ≤ 65535) :
    Calls Try.prog 28 #[.int .i64 9, .int .u16 b, .int .u16 c] w fun e w' => ∃ r : Int, e = .returned (.tuple #[cV 0 r, .int .i64 0]) ∧ Pu w w' := by
  have HB1 := Blk.new w 24 #[.int .u8 0, .int .u16 0]
  have HF0 : Pu w (w.alloc (.cells #[.int .u8 0, .int .u16 0] 24)) := (Fr.refl _ w).alloc _
  have hn := fun v u => number_c v u
  have ht := fun v u => truth_c v u
  obtain ⟨b1, b2⟩ := hb
  obtain ⟨c1, c2⟩ := hc
  unfold cV at *
  have hcb : ∃ z, (c == 0) = z := ⟨_, rfl⟩
  obtain ⟨z, hz⟩ := hcb
  cases z <;> go_enter Try.func28, Try.ntmps28
  all_goals
    go_wp2_with fail
    first | (refine (hn _ _).mono ?_) | (refine (ht _ _).mono ?_)
    rintro e w1 ⟨rfl, hf⟩
    have hB := hf.blk HB1 (fun t => t)
    have hF : Pu w w1 := HF0.pu hf
    have c0 : w1.cell? ⟨w.heap.size, 0, none⟩ = some (.int .u8 0) := hB.cell 0
    have c1 : w1.cell? ⟨w.heap.size, 1, none⟩ = some (.int .u16 0) := hB.cell 1
    have f0 := hB.frozen 0
    have f1 := hB.frozen 1
    clear HB1 HF0 hf hn ht
    go_wp2_with fail
    all_goals
      first
      | refine bodyPost_ret (v := .tuple #[cV 0 _, .int .i64 0]) (by simp [results, Try.results28, go_sem, c0, c1, cV]; rfl) rfl ⟨_, rfl, ?_⟩
      | refine bodyPost_ret (v := .tuple #[cV 0 _, .int .i64 0]) (by simp [results, Try.results28, go_sem, c0, c1, cV]; rfl) rfl ⟨⟨_, rfl⟩, ?_⟩
      exact (hF.setCell (p := ⟨w.heap.size, 0, none⟩) (.inr (Nat.le_refl _)) _).setCell (p := ⟨w.heap.size, 1, none⟩) (.inr (Nat.le_refl _)) _
set_option maxHeartbeats 1000000 in
theorem num_shl (b c : Int) (w : World) (hb : 0 ≤ b ∧ b ≤ 65535) (hc : 0 ≤ c ∧ c ≤ 65535) :
    Calls Try.prog 28 #[.int .i64 11, .int .u16 b, .int .u16 c] w fun e w' => ∃ r : Int, e = .returned (.tuple #[cV 0 r, .int .i64 0]) ∧ Pu w w' := by
  have HB1 := Blk.new w 24 #[.int .u8 0, .int .u16 0]
  have HF0 : Pu w (w.alloc (.cells #[.int .u8 0, .int .u16 0] 24)) := (Fr.refl _ w).alloc _
  have hn := fun v u => number_c v u
  have ht := fun v u => truth_c v u
  obtain ⟨b1, b2⟩ := hb
  obtain ⟨c1, c2⟩ := hc
  unfold cV at *
  have hcb : ∃ z, (c == 0) = z := ⟨_, rfl⟩
  obtain ⟨z, hz⟩ := hcb
  cases z <;> go_enter Try.func28, Try.ntmps28
  all_goals
    go_wp2_with fail
    first | (refine (hn _ _).mono ?_) | (refine (ht _ _).mono ?_)
    rintro e w1 ⟨rfl, hf⟩
    have hB := hf.blk HB1 (fun t => t)
    have hF : Pu w w1 := HF0.pu hf
    have c0 : w1.cell? ⟨w.heap.size, 0, none⟩ = some (.int .u8 0) := hB.cell 0
    have c1 : w1.cell? ⟨w.heap.size, 1, none⟩ = some (.int .u16 0) := hB.cell 1
    have f0 := hB.frozen 0
    have f1 := hB.frozen 1
    clear HB1 HF0 hf hn ht
    go_wp2_with fail
    all_goals
      first
      | refine bodyPost_ret (v := .tuple #[cV 0 _, .int .i64 0]) (by simp [results, Try.results28, go_sem, c0, c1, cV]; rfl) rfl ⟨_, rfl, ?_⟩
      | refine bodyPost_ret (v := .tuple #[cV 0 _, .int .i64 0]) (by simp [results, Try.results28, go_sem, c0, c1, cV]; rfl) rfl ⟨⟨_, rfl⟩, ?_⟩
      exact (hF.setCell (p := ⟨w.heap.size, 0, none⟩) (.inr (Nat.le_refl _)) _).setCell (p := ⟨w.heap.size, 1, none⟩) (.inr (Nat.le_refl _)) _
set_option maxHeartbeats 1000000 in
theorem num_shr (b c : Int) (w : World) (hb : 0 ≤ b ∧ b ≤ 65535) (hc : 0 ≤ c ∧ c ≤ 65535) :
    Calls Try.prog 28 #[.int .i64 12, .int .u16 b, .int .u16 c] w fun e w' => ∃ r : Int, e = .returned (.tuple #[cV 0 r, .int .i64 0]) ∧ Pu w w' := by
  have HB1 := Blk.new w 24 #[.int .u8 0, .int .u16 0]
  have HF0 : Pu w (w.alloc (.cells #[.int .u8 0, .int .u16 0] 24)) := (Fr.refl _ w).alloc _
  have hn := fun v u => number_c v u
  have ht := fun v u => truth_c v u
  obtain ⟨b1, b2⟩ := hb
  obtain ⟨c1, c2⟩ := hc
  unfold cV at *
  have hcb : ∃ z, (c == 0) = z := ⟨_, rfl⟩
  obtain ⟨z, hz⟩ := hcb
  cases z <;> go_enter Try.func28, Try.ntmps28
  all_goals
    go_wp2_with fail
    first | (refine (hn _ _).mono ?_) | (refine (ht _ _).mono ?_)
    rintro e w1 ⟨rfl, hf⟩
    have hB := hf.blk HB1 (fun t => t)
    have hF : Pu w w1 := HF0.pu hf
    have c0 : w1.cell? ⟨w.heap.size, 0, none⟩ = some (.int .u8 0) := hB.cell 0
    have c1 : w1.cell? ⟨w.heap.size, 1, none⟩ = some (.int .u16 0) := hB.cell 1
    have f0 := hB.frozen 0
    have f1 := hB.frozen 1
    clear HB1 HF0 hf hn ht
    go_wp2_with fail
    all_goals
      first
      | refine bodyPost_ret (v := .tuple #[cV 0 _, .int .i64 0]) (by simp [results, Try.results28, go_sem, c0, c1, cV]; rfl) rfl ⟨_, rfl, ?_⟩
      | refine bodyPost_ret (v := .tuple #[cV 0 _, .int .i64 0]) (by simp [results, Try.results28, go_sem, c0, c1, cV]; rfl) rfl ⟨⟨_, rfl⟩, ?_⟩
      exact (hF.setCell (p := ⟨w.heap.size, 0, none⟩) (.inr (Nat.le_refl _)) _).setCell (p := ⟨w.heap.size, 1, none⟩) (.inr (Nat.le_refl _)) _
set_option maxHeartbeats 1000000 in
theorem num_lt (b c : Int) (w : World) (hb : 0 ≤ b ∧ b ≤ 65535) (hc : 0 ≤ c ∧ c ≤ 65535) :
    Calls Try.prog 28 #[.int .i64 13, .int .u16 b, .int .u16 c] w fun e w' => ∃ r : Int, e = .returned (.tuple #[cV 0 r, .int .i64 0]) ∧ Pu w w' := by
  have HB1 := Blk.new w 24 #[.int .u8 0, .int .u16 0]
  have HF0 : Pu w (w.alloc (.cells #[.int .u8 0, .int .u16 0] 24)) := (Fr.refl _ w).alloc _
  have hn := fun v u => number_c v u
  have ht := fun v u => truth_c v u
  obtain ⟨b1, b2⟩ := hb
  obtain ⟨c1, c2⟩ := hc
  unfold cV at *
  have hcb : ∃ z, (c == 0) = z := ⟨_, rfl⟩
  obtain ⟨z, hz⟩ := hcb
  cases z <;> go_enter Try.func28, Try.ntmps28
  all_goals
    go_wp2_with fail
    first | (refine (hn _ _).mono ?_) | (refine (ht _ _).mono ?_)
    rintro e w1 ⟨rfl, hf⟩
    have hB := hf.blk HB1 (fun t => t)
    have hF : Pu w w1 := HF0.pu hf
    have c0 : w1.cell? ⟨w.heap.size, 0, none⟩ = some (.int .u8 0) := hB.cell 0
    have c1 : w1.cell? ⟨w.heap.size, 1, none⟩ = some (.int .u16 0) := hB.cell 1
    have f0 := hB.frozen 0
    have f1 := hB.frozen 1
    clear HB1 HF0 hf hn ht
    go_wp2_with fail
    all_goals
      first
      | refine bodyPost_ret (v := .tuple #[cV 0 _, .int .i64 0]) (by simp [results, Try.results28, go_sem, c0, c1, cV]; rfl) rfl ⟨_, rfl, ?_⟩
      | refine bodyPost_ret (v := .tuple #[cV 0 _, .int .i64 0]) (by simp [results, Try.results28, go_sem, c0, c1, cV]; rfl) rfl ⟨⟨_, rfl⟩, ?_⟩
      exact (hF.setCell (p := ⟨w.heap.size, 0, none⟩) (.inr (Nat.le_refl _)) _).setCell (p := ⟨w.heap.size, 1, none⟩) (.inr (Nat.le_refl _)) _

/-- does the operation divide by zero? -/
def dz (op c : Int) : Bool := (decide (op = 6) || decide (op = 7)) && decide (c = 0)
/-- what an operation on two numbers gives -/
def NumR (op c : Int) (e : Ending) (u w' : World) : Prop := ∃ r : Int, (dz op c = true → r = 0) ∧ e = .returned (.tuple #[cV 0 r, .int .i64 (if dz op c then 5 else 0)]) ∧ Pu u w'
theorem num_any (op b c : Int) (u : World) (hop : 3 ≤ op ∧ op ≤ 13) (hb : 0 ≤ b ∧ b ≤ 65535) (hc : 0 ≤ c ∧ c ≤ 65535) :
    Calls Try.prog 28 #[.int .i64 op, .int .u16 b, .int .u16 c] u fun e w' => NumR op c e u w' := by
  unfold NumR
  rcases (by omega : op = 3 ∨ op = 4 ∨ op = 5 ∨ op = 6 ∨ op = 7 ∨ op = 8 ∨ op = 9 ∨ op = 10 ∨ op = 11 ∨ op = 12 ∨ op = 13) with rfl | rfl | rfl | rfl | rfl | rfl | rfl | rfl | rfl | rfl | rfl
  · exact (num_add b c _ u rfl).mono fun e w' ⟨h, hp⟩ => ⟨_, fun h => by simp [dz] at h, h, hp⟩
  · exact (num_sub b c _ u rfl).mono fun e w' ⟨h, hp⟩ => ⟨_, fun h => by simp [dz] at h, h, hp⟩
  · exact (num_mul b c _ u rfl).mono fun e w' ⟨h, hp⟩ => ⟨_, fun h => by simp [dz] at h, h, hp⟩
  · by_cases h0 : c = 0
    · subst h0
      exact (num_div0 b u).mono fun e w' ⟨h, hp⟩ => ⟨0, fun _ => rfl, h, hp⟩
    · obtain ⟨q, _, _⟩ := div_rem hb (b := c) (by omega)
      exact (num_div b c u hb (by omega) q).mono fun e w' ⟨h, hp⟩ => ⟨b / c, fun h => by simp [dz, h0] at h, h.trans (by simp [dz, h0]), hp⟩
  · by_cases h0 : c = 0
    · subst h0
      exact (num_rem0 b u).mono fun e w' ⟨h, hp⟩ => ⟨0, fun _ => rfl, h, hp⟩
    · obtain ⟨_, q, _⟩ := div_rem hb (b := c) (by omega)
      exact (num_rem b c u hb (by omega) (by omega)).mono fun e w' ⟨h, hp⟩ => ⟨b % c, fun h => by simp [dz, h0] at h, h.trans (by simp [dz, h0]), hp⟩
  · exact (num_and b c u hb hc).mono fun e w' ⟨r, h, hp⟩ => ⟨r, fun h => by simp [dz] at h, h, hp⟩
  · exact (num_or b c u hb hc).mono fun e w' ⟨r, h, hp⟩ => ⟨r, fun h => by simp [dz] at h, h, hp⟩
  · exact (num_xor b c _ u rfl).mono fun e w' ⟨h, hp⟩ => ⟨_, fun h => by simp [dz] at h, h, hp⟩
  · exact (num_shl b c u hb hc).mono fun e w' ⟨r, h, hp⟩ => ⟨r, fun h => by simp [dz] at h, h, hp⟩
  · exact (num_shr b c u hb hc).mono fun e w' ⟨r, h, hp⟩ => ⟨r, fun h => by simp [dz] at h, h, hp⟩
  · exact (num_lt b c u hb hc).mono fun e w' ⟨r, h, hp⟩ => ⟨r, fun h => by simp [dz] at h, h, hp⟩

set_option maxHeartbeats 1000000 in
theorem do_any (bs : Value) (key op b c : Int) (S : Value) (w : World) (hop : 3 ≤ op ∧ op ≤ 13) (hb : 0 ≤ b ∧ b ≤ 65535) (hc : 0 ≤ c ∧ c ≤ 65535) :
    Calls Try.prog 13 #[.agg #[bs, .int .u16 key], S, .int .i64 op, cV 0 b, cV 0 c] w fun e w' => NumR op c e w w' := by
  have hn := fun u => num_any op b c u hop hb hc
  obtain ⟨o1, o2⟩ := hop
  have e14 : (op == 14) = false := by simp; omega
  have HB1 : Blk ((((w.alloc (.cells #[bs, .int .u16 key] 30)).alloc (.cells #[.int .u8 0, .int .u16 b] 24)).alloc (.cells #[.int .u8 0, .int .u16 c] 24)).alloc (.cells #[.int .u8 0, .int .u16 0] 24)) (w.heap.size + 1 + 1 + 1) 24 #[.int .u8 0, .int .u16 0] := by
    have := Blk.new (((w.alloc (.cells #[bs, .int .u16 key] 30)).alloc (.cells #[.int .u8 0, .int .u16 b] 24)).alloc (.cells #[.int .u8 0, .int .u16 c] 24)) 24 #[.int .u8 0, .int .u16 0]
    simpa using this
  have HF0 : Pu w ((((w.alloc (.cells #[bs, .int .u16 key] 30)).alloc (.cells #[.int .u8 0, .int .u16 b] 24)).alloc (.cells #[.int .u8 0, .int .u16 c] 24)).alloc (.cells #[.int .u8 0, .int .u16 0] 24)) := ((((Fr.refl _ w).alloc _).alloc _).alloc _).alloc _
  unfold cV
  go_enter Try.func13, Try.ntmps13
  go_wp2_with fail
  refine (hn _).mono ?_
  rintro e w1 ⟨r, h0, rfl, hf⟩
  replace h0 := Lib.hid h0
  generalize ht : (if dz op c then (5 : Int) else 0) = t at *
  replace ht := Lib.hid ht
  have hB := hf.blk HB1 (fun t => t)
  have hF : Pu w w1 := HF0.pu hf
  have c0 : w1.cell? ⟨w.heap.size + 1 + 1 + 1, 0, none⟩ = some (.int .u8 0) := hB.cell 0
  have c1 : w1.cell? ⟨w.heap.size + 1 + 1 + 1, 1, none⟩ = some (.int .u16 0) := hB.cell 1
  have f0 := hB.frozen 0
  have f1 := hB.frozen 1
  clear HB1 HF0 hf hn
  unfold cV
  go_wp2_with fail
  have hle : w.heap.size ≤ w.heap.size + 1 + 1 + 1 := by omega
  refine bodyPost_ret (v := .tuple #[cV 0 r, .int .i64 t]) (by simp [results, Try.results13, go_sem, c0, c1, cV]) rfl ⟨r, h0.out, by rw [ht.out], ?_⟩
  exact (hF.setCell (p := ⟨w.heap.size + 1 + 1 + 1, 0, none⟩) (.inr hle) _).setCell (p := ⟨w.heap.size + 1 + 1 + 1, 1, none⟩) (.inr hle) _

set_option maxHeartbeats 1000000 in
theorem do_eqA (bs : Value) (key t1 b : Int) (S : Value) (w : World) :
    Calls Try.prog 13 #[.agg #[bs, .int .u16 key], S, .int .i64 14, cV t1 b, cV t1 b] w fun e w' => ∃ r : Int, e = .returned (.tuple #[cV 0 r, .int .i64 0]) ∧ Pu w w' := by
  have hn := fun v u => truth_c v u
  have HB1 : Blk ((((w.alloc (.cells #[bs, .int .u16 key] 30)).alloc (.cells #[.int .u8 t1, .int .u16 b] 24)).alloc (.cells #[.int .u8 t1, .int .u16 b] 24)).alloc (.cells #[.int .u8 0, .int .u16 0] 24)) (w.heap.size + 1 + 1 + 1) 24 #[.int .u8 0, .int .u16 0] := by
    have := Blk.new (((w.alloc (.cells #[bs, .int .u16 key] 30)).alloc (.cells #[.int .u8 t1, .int .u16 b] 24)).alloc (.cells #[.int .u8 t1, .int .u16 b] 24)) 24 #[.int .u8 0, .int .u16 0]
    simpa using this
  have HF0 : Pu w ((((w.alloc (.cells #[bs, .int .u16 key] 30)).alloc (.cells #[.int .u8 t1, .int .u16 b] 24)).alloc (.cells #[.int .u8 t1, .int .u16 b] 24)).alloc (.cells #[.int .u8 0, .int .u16 0] 24)) := ((((Fr.refl _ w).alloc _).alloc _).alloc _).alloc _
  unfold cV at *
  go_enter Try.func13, Try.ntmps13
  go_wp2_with fail
  refine (hn _ _).mono ?_
  rintro e w1 ⟨rfl, hf⟩
  have hB := hf.blk HB1 (fun t => t)
  have hF : Pu w w1 := HF0.pu hf
  have c0 : w1.cell? ⟨w.heap.size + 1 + 1 + 1, 0, none⟩ = some (.int .u8 0) := hB.cell 0
  have c1 : w1.cell? ⟨w.heap.size + 1 + 1 + 1, 1, none⟩ = some (.int .u16 0) := hB.cell 1
  have f0 := hB.frozen 0
  have f1 := hB.frozen 1
  clear HB1 HF0 hf hn
  have hle : w.heap.size ≤ w.heap.size + 1 + 1 + 1 := by omega
  go_wp2_with fail
  all_goals
    first
    | refine bodyPost_ret (v := .tuple #[cV 0 _, .int .i64 0]) (by simp [results, Try.results13, go_sem, c0, c1, cV]; rfl) rfl ⟨_, rfl, ?_⟩
    | refine bodyPost_ret (v := .tuple #[cV 0 _, .int .i64 0]) (by simp [results, Try.results13, go_sem, c0, c1, cV]; rfl) rfl ⟨⟨_, rfl⟩, ?_⟩
    exact (hF.setCell (p := ⟨w.heap.size + 1 + 1 + 1, 0, none⟩) (.inr hle) _).setCell (p := ⟨w.heap.size + 1 + 1 + 1, 1, none⟩) (.inr hle) _
set_option maxHeartbeats 1000000 in
theorem do_eqB (bs : Value) (key t1 b t2 c : Int) (S : Value) (w : World) (hne : ¬ t1 = t2) :
    Calls Try.prog 13 #[.agg #[bs, .int .u16 key], S, .int .i64 14, cV t1 b, cV t2 c] w fun e w' => ∃ r : Int, e = .returned (.tuple #[cV 0 r, .int .i64 0]) ∧ Pu w w' := by
  have hn := fun v u => truth_c v u
  have HB1 : Blk ((((w.alloc (.cells #[bs, .int .u16 key] 30)).alloc (.cells #[.int .u8 t1, .int .u16 b] 24)).alloc (.cells #[.int .u8 t2, .int .u16 c] 24)).alloc (.cells #[.int .u8 0, .int .u16 0] 24)) (w.heap.size + 1 + 1 + 1) 24 #[.int .u8 0, .int .u16 0] := by
    have := Blk.new (((w.alloc (.cells #[bs, .int .u16 key] 30)).alloc (.cells #[.int .u8 t1, .int .u16 b] 24)).alloc (.cells #[.int .u8 t2, .int .u16 c] 24)) 24 #[.int .u8 0, .int .u16 0]
    simpa using this
  have HF0 : Pu w ((((w.alloc (.cells #[bs, .int .u16 key] 30)).alloc (.cells #[.int .u8 t1, .int .u16 b] 24)).alloc (.cells #[.int .u8 t2, .int .u16 c] 24)).alloc (.cells #[.int .u8 0, .int .u16 0] 24)) := ((((Fr.refl _ w).alloc _).alloc _).alloc _).alloc _
  unfold cV at *
  go_enter Try.func13, Try.ntmps13
  go_wp2_with fail
  refine (hn _ _).mono ?_
  rintro e w1 ⟨rfl, hf⟩
  have hB := hf.blk HB1 (fun t => t)
  have hF : Pu w w1 := HF0.pu hf
  have c0 : w1.cell? ⟨w.heap.size + 1 + 1 + 1, 0, none⟩ = some (.int .u8 0) := hB.cell 0
  have c1 : w1.cell? ⟨w.heap.size + 1 + 1 + 1, 1, none⟩ = some (.int .u16 0) := hB.cell 1
  have f0 := hB.frozen 0
  have f1 := hB.frozen 1
  clear HB1 HF0 hf hn
  have hle : w.heap.size ≤ w.heap.size + 1 + 1 + 1 := by omega
  go_wp2_with fail
  all_goals
    first
    | refine bodyPost_ret (v := .tuple #[cV 0 _, .int .i64 0]) (by simp [results, Try.results13, go_sem, c0, c1, cV]; rfl) rfl ⟨_, rfl, ?_⟩
    | refine bodyPost_ret (v := .tuple #[cV 0 _, .int .i64 0]) (by simp [results, Try.results13, go_sem, c0, c1, cV]; rfl) rfl ⟨⟨_, rfl⟩, ?_⟩
    exact (hF.setCell (p := ⟨w.heap.size + 1 + 1 + 1, 0, none⟩) (.inr hle) _).setCell (p := ⟨w.heap.size + 1 + 1 + 1, 1, none⟩) (.inr hle) _
set_option maxHeartbeats 1000000 in
theorem do_eqC (bs : Value) (key t1 b c : Int) (S : Value) (w : World) (hne : ¬ b = c) :
    Calls Try.prog 13 #[.agg #[bs, .int .u16 key], S, .int .i64 14, cV t1 b, cV t1 c] w fun e w' => ∃ r : Int, e = .returned (.tuple #[cV 0 r, .int .i64 0]) ∧ Pu w w' := by
  have hn := fun v u => truth_c v u
  have HB1 : Blk ((((w.alloc (.cells #[bs, .int .u16 key] 30)).alloc (.cells #[.int .u8 t1, .int .u16 b] 24)).alloc (.cells #[.int .u8 t1, .int .u16 c] 24)).alloc (.cells #[.int .u8 0, .int .u16 0] 24)) (w.heap.size + 1 + 1 + 1) 24 #[.int .u8 0, .int .u16 0] := by
    have := Blk.new (((w.alloc (.cells #[bs, .int .u16 key] 30)).alloc (.cells #[.int .u8 t1, .int .u16 b] 24)).alloc (.cells #[.int .u8 t1, .int .u16 c] 24)) 24 #[.int .u8 0, .int .u16 0]
    simpa using this
  have HF0 : Pu w ((((w.alloc (.cells #[bs, .int .u16 key] 30)).alloc (.cells #[.int .u8 t1, .int .u16 b] 24)).alloc (.cells #[.int .u8 t1, .int .u16 c] 24)).alloc (.cells #[.int .u8 0, .int .u16 0] 24)) := ((((Fr.refl _ w).alloc _).alloc _).alloc _).alloc _
  unfold cV at *
  go_enter Try.func13, Try.ntmps13
  go_wp2_with fail
  refine (hn _ _).mono ?_
  rintro e w1 ⟨rfl, hf⟩
  have hB := hf.blk HB1 (fun t => t)
  have hF : Pu w w1 := HF0.pu hf
  have c0 : w1.cell? ⟨w.heap.size + 1 + 1 + 1, 0, none⟩ = some (.int .u8 0) := hB.cell 0
  have c1 : w1.cell? ⟨w.heap.size + 1 + 1 + 1, 1, none⟩ = some (.int .u16 0) := hB.cell 1
  have f0 := hB.frozen 0
  have f1 := hB.frozen 1
  clear HB1 HF0 hf hn
  have hle : w.heap.size ≤ w.heap.size + 1 + 1 + 1 := by omega
  go_wp2_with fail
  all_goals
    first
    | refine bodyPost_ret (v := .tuple #[cV 0 _, .int .i64 0]) (by simp [results, Try.results13, go_sem, c0, c1, cV]; rfl) rfl ⟨_, rfl, ?_⟩
    | refine bodyPost_ret (v := .tuple #[cV 0 _, .int .i64 0]) (by simp [results, Try.results13, go_sem, c0, c1, cV]; rfl) rfl ⟨⟨_, rfl⟩, ?_⟩
    exact (hF.setCell (p := ⟨w.heap.size + 1 + 1 + 1, 0, none⟩) (.inr hle) _).setCell (p := ⟨w.heap.size + 1 + 1 + 1, 1, none⟩) (.inr hle) _
theorem do_eq (bs : Value) (key t1 b t2 c : Int) (S : Value) (w : World) :
    Calls Try.prog 13 #[.agg #[bs, .int .u16 key], S, .int .i64 14, cV t1 b, cV t2 c] w fun e w' => ∃ r : Int, e = .returned (.tuple #[cV 0 r, .int .i64 0]) ∧ Pu w w' := by
  by_cases h : t1 = t2
  · subst h
    by_cases h' : b = c
    · subst h'; exact do_eqA bs key t1 b S w
    · exact do_eqC bs key t1 b c S w h'
  · exact do_eqB bs key t1 b t2 c S w h

set_option maxHeartbeats 1000000 in
theorem do_ah (bs : Value) (key op b c : Int) (S : Value) (w : World) (hop : 3 ≤ op ∧ op ≤ 13) :
    Calls Try.prog 13 #[.agg #[bs, .int .u16 key], S, .int .i64 op, cV 0 b, cV 2 c] w fun e w' => e = .returned (.tuple #[cV 0 0, .int .i64 3]) ∧ Pu w w' := by
  obtain ⟨o1, o2⟩ := hop
  have e14 : (op == 14) = false := by simp; omega
  unfold cV
  go_enter Try.func13, Try.ntmps13
  go_wp2_with fail
  refine bodyPost_ret (v := .tuple #[cV 0 0, .int .i64 3]) (by simp [results, Try.results13, go_sem, cV]) rfl ⟨rfl, ?_⟩
  exact ((((Fr.refl _ w).alloc _).alloc _).alloc _).alloc _
set_option maxHeartbeats 1000000 in
theorem do_ha (bs : Value) (key op b c : Int) (S : Value) (w : World) (hop : 3 ≤ op ∧ op ≤ 13) :
    Calls Try.prog 13 #[.agg #[bs, .int .u16 key], S, .int .i64 op, cV 2 b, cV 0 c] w fun e w' => e = .returned (.tuple #[cV 0 0, .int .i64 3]) ∧ Pu w w' := by
  obtain ⟨o1, o2⟩ := hop
  have e14 : (op == 14) = false := by simp; omega
  unfold cV
  go_enter Try.func13, Try.ntmps13
  go_wp2_with fail
  refine bodyPost_ret (v := .tuple #[cV 0 0, .int .i64 3]) (by simp [results, Try.results13, go_sem, cV]) rfl ⟨rfl, ?_⟩
  exact ((((Fr.refl _ w).alloc _).alloc _).alloc _).alloc _
set_option maxHeartbeats 1000000 in
theorem do_hh (bs : Value) (key op b c : Int) (S : Value) (w : World) (hop : 3 ≤ op ∧ op ≤ 13) :
    Calls Try.prog 13 #[.agg #[bs, .int .u16 key], S, .int .i64 op, cV 2 b, cV 2 c] w fun e w' => e = .returned (.tuple #[cV 0 0, .int .i64 3]) ∧ Pu w w' := by
  obtain ⟨o1, o2⟩ := hop
  have e14 : (op == 14) = false := by simp; omega
  unfold cV
  go_enter Try.func13, Try.ntmps13
  go_wp2_with fail
  refine bodyPost_ret (v := .tuple #[cV 0 0, .int .i64 3]) (by simp [results, Try.results13, go_sem, cV]) rfl ⟨rfl, ?_⟩
  exact ((((Fr.refl _ w).alloc _).alloc _).alloc _).alloc _
end Go.Proofs.Ytfcimpfhfbkgbaa
