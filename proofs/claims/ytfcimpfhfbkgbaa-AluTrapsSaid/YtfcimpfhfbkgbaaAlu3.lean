/- The check of sanity of layer 9; a layout of one region. -/
import Derived.Test.YtfcimpfhfbkgbaaAlu2
import Derived.Test.YtfcimpfhfbkgbaaReg
namespace Go.Proofs.Ytfcimpfhfbkgbaa
open Go.RowKit

set_option maxHeartbeats 1000000 in
theorem awake_any (w : World) : Calls Try.prog 15 #[] w fun e w' => e = .returned (.bool true) ∧ Pu w w' := by
  have HF0 : Pu w (((w.alloc (.cells #[.int .i64 10] 3)).alloc (.cells #[.slice (some ⟨w.heap.size, 0, none⟩) 1 1, .int .u16 0] 30)).alloc (.cells #[.int .i64 8] 3)) := (((Fr.refl _ w).alloc _).alloc _).alloc _
  have b1 : (((w.alloc (.cells #[.int .i64 10] 3)).alloc (.cells #[.slice (some ⟨w.heap.size, 0, none⟩) 1 1, .int .u16 0] 30)).alloc (.cells #[.int .i64 8] 3)).cell? ⟨w.heap.size, 0, none⟩ = some (.int .i64 10) := (((Blk.new w 3 #[.int .i64 10]).alloc _).alloc _).cell 0
  have BL : Blk (((w.alloc (.cells #[.int .i64 10] 3)).alloc (.cells #[.slice (some ⟨w.heap.size, 0, none⟩) 1 1, .int .u16 0] 30)).alloc (.cells #[.int .i64 8] 3)) (w.heap.size + 1) 30 #[.slice (some ⟨w.heap.size, 0, none⟩) 1 1, .int .u16 0] := by
    have := (Blk.new (w.alloc (.cells #[.int .i64 10] 3)) 30 #[.slice (some ⟨w.heap.size, 0, none⟩) 1 1, .int .u16 0]).alloc (.cells #[.int .i64 8] 3)
    rwa [World.size_alloc] at this
  have b2 : (((w.alloc (.cells #[.int .i64 10] 3)).alloc (.cells #[.slice (some ⟨w.heap.size, 0, none⟩) 1 1, .int .u16 0] 30)).alloc (.cells #[.int .i64 8] 3)).cell? ⟨w.heap.size + 1 + 1, 0, none⟩ = some (.int .i64 8) := by
    have := (Blk.new ((w.alloc (.cells #[.int .i64 10] 3)).alloc (.cells #[.slice (some ⟨w.heap.size, 0, none⟩) 1 1, .int .u16 0] 30)) 3 #[.int .i64 8]).cell 0
    rwa [World.size_alloc, World.size_alloc] at this
  have h1 := do_ptr w.heap.size (w.heap.size + 1 + 1) 0 _ b1 b2
  clear b1 b2
  unfold cV at *
  go_enter Try.func15, Try.ntmps15
  go_wp2_with fail
  refine h1.mono ?_
  rintro e w1 ⟨rfl, hf1⟩
  have BL1 := (hf1.blk BL (fun t => t)).alloc (.cells #[.int .u8 0, .int .u16 65534] 24)
  have d0 : (w1.alloc (.cells #[.int .u8 0, .int .u16 65534] 24)).cell? ⟨w.heap.size + 1, 0, none⟩ = some (.slice (some ⟨w.heap.size, 0, none⟩) 1 1) := BL1.cell 0
  have d1 : (w1.alloc (.cells #[.int .u8 0, .int .u16 65534] 24)).cell? ⟨w.heap.size + 1, 1, none⟩ = some (.int .u16 0) := BL1.cell 1
  have B2 := (Blk.new w1 24 #[.int .u8 0, .int .u16 65534]).alloc (.cells #[.int .i64 8] 3)
  have HF1 := HF0.pu hf1
  have h2 := fun S u => do_trap (.slice (some ⟨w.heap.size, 0, none⟩) 1 1) S 0 u
  unfold cV at h2
  clear h1 BL BL1 HF0 hf1
  go_wp2_with fail
  refine (h2 _ _).mono ?_
  rintro e w2 ⟨rfl, hf2⟩
  have B3 := hf2.blk B2 (fun t => t)
  have p0 := cell_alloc (o := .cells #[.int .u8 0, .int .u16 0] 24) (show w2.cell? ⟨w1.heap.size, 0, none⟩ = some (.int .u8 0) from B3.cell 0)
  have p1 := cell_alloc (o := .cells #[.int .u8 0, .int .u16 0] 24) (show w2.cell? ⟨w1.heap.size, 1, none⟩ = some (.int .u16 65534) from B3.cell 1)
  go_wp2_with fail
  go_ret
  exact ⟨rfl, (((HF1.alloc _).alloc _).pu hf2).alloc _⟩

theorem Try.infoI : (Try.prog.info? 3).map (fun i => (i.zero, i.size, i.bytes)) = some (some (.int .i64 0), 1, 8) := by kernel_rfl
theorem made_one : ∀ u, (Instr.makeSlice 25 (.int .i64 1) (.int .i64 1)).run Try.prog u = .ok (.slice (some ⟨u.heap.size, 0, none⟩) 1 1) (u.alloc (.cells #[.int .i64 0] 3)) := fun u => by
  obtain ⟨i0, hi, hz0, hz1, hz2⟩ := info_parts Try.infoI
  have := run_makeSlice (w := u) 25 3 i0 (.int .i64 0) Try.underlying25 hi hz0 .i64 .i64 1 1 (by omega) (Int.le_refl _) (by rw [hz1]; simp) (by rw [hz2]; omega) (by omega)
  have e : madeCells (Value.cells (.int .i64 0)) ((1 : Int).toNat * 1) = #[.int .i64 0] := by kernel_rfl
  rw [hz1, e] at this
  exact this

set_option maxHeartbeats 2000000 in
theorem make_c (gs : Nat) (w : World) (hs : w.cell? ⟨gs, 0, none⟩ = some (.int .i64 4)) :
    Calls Try.prog 16 #[.slice (some ⟨gs, 0, none⟩) 1 1, .int .i64 5] w fun e w' => ∃ (gb : Nat) (key : Int), e = .returned (.tuple #[.agg #[.slice (some ⟨gb, 0, none⟩) 1 1, .int .u16 key], .int .i64 0]) ∧ Pu w w' := by
  have l1 := cell_lt hs
  simp only at l1
  have hrd : Rd w w.heap.size (some ⟨gs, 0, none⟩) (ints [4]) := fun _ => ⟨gs, 0, rfl, l1, fun j u hu => by
    cases j with
    | zero => simp [ints] at hu; subst hu; exact hs
    | succ j => simp [ints] at hu⟩
  have hv := valid_r (some ⟨gs, 0, none⟩) 1 1 [4] _ (w.alloc (.cells #[.slice none 0 0, .int .u16 0] 30)) rfl (by omega) (((Fr.refl (fun _ => False) w).alloc (.cells #[.slice none 0 0, .int .u16 0] 30)).rd' hrd)
  rw [show validB [4] = true by decide] at hv
  have hmk := made_one
  go_enter Try.func16, Try.ntmps16
  go_wp2_with fail
  refine hv.mono ?_
  rintro e w' ⟨rfl, rfl⟩
  clear hv hrd
  go_wp2_with fail
  go_loopw [8, 37] (fun av iv wr => ∃ (i : Nat) (x y : Int), i ≤ 1 ∧ iv = .int .i64 i ∧ av = .int .i64 x ∧ 0 ≤ x ∧ x ≤ 100000 * (1 + i) ∧ Blk wr w.heap.size 30 #[.slice none 0 0, .int .u16 0] ∧ Blk wr (w.heap.size + 1) 3 #[.int .i64 y] ∧ Blk wr (w.heap.size + 1 + 1) 30 #[.slice (some ⟨w.heap.size + 1, 0, none⟩) 1 1, .int .u16 5907] ∧ Pu w wr) (fun _ iv _ => 1 - (intOf iv).toNat)
  case atStart =>
    refine ⟨0, _, 0, by omega, rfl, rfl, by omega, by omega, ?_, ?_, ?_, ?_⟩
    · exact ((Blk.new w _ _).alloc _).alloc _
    · have := (Blk.new (w.alloc (.cells #[.slice none 0 0, .int .u16 0] 30)) 3 #[.int .i64 0]).alloc (.cells #[.slice (some ⟨w.heap.size + 1, 0, none⟩) 1 1, .int .u16 5907] 30)
      rwa [World.size_alloc] at this
    · have := Blk.new ((w.alloc (.cells #[.slice none 0 0, .int .u16 0] 30)).alloc (.cells #[.int .i64 0] 3)) 30 #[.slice (some ⟨w.heap.size + 1, 0, none⟩) 1 1, .int .u16 5907]
      rwa [World.size_alloc, World.size_alloc] at this
    · exact (((Fr.refl _ w).alloc _).alloc _).alloc _
  case round =>
    obtain ⟨i, x, y, hi, rfl, rfl, hx0, hx1, B0, B1, B2, hF⟩ := hrel
    have c0 : wr.cell? ⟨w.heap.size + 1, 0, none⟩ = some (.int .i64 y) := B1.cell 0
    have f0 := B1.frozen 0
    have d0 : wr.cell? ⟨w.heap.size + 1 + 1, 0, none⟩ = some (.slice (some ⟨w.heap.size + 1, 0, none⟩) 1 1) := B2.cell 0
    have d1 : wr.cell? ⟨w.heap.size + 1 + 1, 1, none⟩ = some (.int .u16 5907) := B2.cell 1
    have z0 : wr.cell? ⟨w.heap.size, 0, none⟩ = some (.slice none 0 0) := B0.cell 0
    have z1 : wr.cell? ⟨w.heap.size, 1, none⟩ = some (.int .u16 0) := B0.cell 1
    have g0 := B0.frozen 0
    have g1 := B0.frozen 1
    have s0 := hF.cl hs (fun t => t)
    have ngs : gs ≠ w.heap.size + 1 := by omega
    by_cases hlt : i < 1
    · obtain rfl : i = 0 := by omega
      have B0' := Lib.hid (B0.far (p := ⟨w.heap.size + 1, 0, none⟩) (by show w.heap.size ≠ w.heap.size + 1; omega) (.int .i64 x))
      have B1' := Lib.hid (B1.set_ 0 (.int .i64 x))
      have B2' := Lib.hid (B2.far (p := ⟨w.heap.size + 1, 0, none⟩) (by show w.heap.size + 1 + 1 ≠ w.heap.size + 1; omega) (.int .i64 x))
      have hF' := Lib.hid (hF.setCell (p := ⟨w.heap.size + 1, 0, none⟩) (.inr (Nat.le_succ _)) (.int .i64 x))
      clear B0 B1 B2 hF hmk
      go_wp2_with fail
      go_quiet (fail)
      go_wp2_with fail
      go_roundw
      case rel => exact ⟨1, _, x, by omega, rfl, rfl, by omega, by omega, B0'.out.drewN _, by have := B1'.out.drewN (by assumption); simpa using this, B2'.out.drewN _, hF'.out.drewN _⟩
      case measure => simp [intOf]
    · obtain rfl : i = 1 := by omega
      have hF' := Lib.hid hF
      clear B0 B1 B2 hF hmk
      go_wp2_with fail
      refine bodyPost_ret (v := .tuple #[.agg #[.slice (some ⟨w.heap.size + 1, 0, none⟩) 1 1, .int .u16 5907], .int .i64 0]) (by simp [results, Try.results16, go_sem, z0, z1]) rfl ⟨_, _, rfl, ?_⟩
      exact (hF'.out.setCell (p := ⟨w.heap.size, 0, none⟩) (.inr (Nat.le_refl _)) _).setCell (p := ⟨w.heap.size, 1, none⟩) (.inr (Nat.le_refl _)) _
end Go.Proofs.Ytfcimpfhfbkgbaa
