/- Operations on pointers, as the check of sanity needs them; the layout of one region. -/
import Derived.Test.YtfcimpfhfbkgbaaAlu
import Derived.Test.YtfcimpfhfbkgbaaOpen
namespace Go.Proofs.Ytfcimpfhfbkgbaa
open Go.RowKit

set_option maxHeartbeats 1000000 in
theorem resolve_c (gb gs : Nat) (key a : Int) (w : World) (h1 : w.cell? ⟨gb, 0, none⟩ = some (.int .i64 10)) (h2 : w.cell? ⟨gs, 0, none⟩ = some (.int .i64 8)) (ha : 10 ≤ a ∧ a < 18) :
    Calls Try.prog 40 #[.agg #[.slice (some ⟨gb, 0, none⟩) 1 1, .int .u16 key], .slice (some ⟨gs, 0, none⟩) 1 1, .int .i64 a] w fun e w' => e = .returned (.tuple #[.agg #[.int .i64 0, .int .i64 (a - 10)], .bool true]) ∧ Pu w w' := by
  have l1 := cell_lt h1
  have l2 := cell_lt h2
  simp only at l1 l2
  obtain ⟨a1, a2⟩ := ha
  have HF : Pu w ((w.alloc (.cells #[.slice (some ⟨gb, 0, none⟩) 1 1, .int .u16 key] 30)).alloc (.cells #[.int .i64 0, .int .i64 0] 53)) := ((Fr.refl _ w).alloc _).alloc _
  go_enter Try.func40, Try.ntmps40
  go_wp2
  go_loop [13] (fun i => i = .int .i64 0) (fun _ => 0)
  case atStart => rfl
  case round =>
    subst hrel
    go_wp2
    refine bodyPost_ret (v := .tuple #[.agg #[.int .i64 0, .int .i64 (a - 10)], .bool true]) (by simp [results, Try.results40, go_sem]) rfl ⟨rfl, ?_⟩
    exact ((Fr.refl _ w).alloc _).alloc _

set_option maxHeartbeats 1000000 in
theorem apart_c (gb gs : Nat) (key : Int) (w : World) (h1 : w.cell? ⟨gb, 0, none⟩ = some (.int .i64 10)) (h2 : w.cell? ⟨gs, 0, none⟩ = some (.int .i64 8)) :
    Calls Try.prog 29 #[.agg #[.slice (some ⟨gb, 0, none⟩) 1 1, .int .u16 key], .slice (some ⟨gs, 0, none⟩) 1 1, cV 1 13, cV 1 15] w fun e w' => e = .returned (.tuple #[.int .i64 (-2), .int .i64 0]) ∧ Pu w w' := by
  unfold cV
  have K0 : Kp [(w.heap.size + 2, 24, #[.int .u8 1, .int .u16 15]), (w.heap.size + 1, 24, #[.int .u8 1, .int .u16 13]), (w.heap.size, 30, #[.slice (some ⟨gb, 0, none⟩) 1 1, .int .u16 key])] (((w.alloc (.cells #[.slice (some ⟨gb, 0, none⟩) 1 1, .int .u16 key] 30)).alloc (.cells #[.int .u8 1, .int .u16 13] 24)).alloc (.cells #[.int .u8 1, .int .u16 15] 24)) := by
    have := (((Kp.nil w).new 30 #[.slice (some ⟨gb, 0, none⟩) 1 1, .int .u16 key]).new 24 #[.int .u8 1, .int .u16 13]).new 24 #[.int .u8 1, .int .u16 15]
    simpa [Nat.add_assoc] using this
  have HF : Pu w (((w.alloc (.cells #[.slice (some ⟨gb, 0, none⟩) 1 1, .int .u16 key] 30)).alloc (.cells #[.int .u8 1, .int .u16 13] 24)).alloc (.cells #[.int .u8 1, .int .u16 15] 24)) := (((Fr.refl _ w).alloc _).alloc _).alloc _
  have r1 := resolve_c gb gs key 13 _ (HF.cl h1 (fun t => t)) (HF.cl h2 (fun t => t)) (by omega)
  rw [show (13 : Int) - 10 = 3 from rfl] at r1
  replace K0 := Lib.hid K0
  go_enter Try.func29, Try.ntmps29
  go_wp2_with fail
  refine r1.mono ?_
  rintro e w1 ⟨rfl, hf1⟩
  have HF1 := HF.pu hf1
  have K1 : Kp _ (w1.alloc (.cells #[.int .i64 0, .int .i64 3] 53)) := (K0.out.pu hf1).new _ _
  have a0 : (w1.alloc (.cells #[.int .i64 0, .int .i64 3] 53)).cell? ⟨w.heap.size, 0, none⟩ = some (.slice (some ⟨gb, 0, none⟩) 1 1) := K1.at_ (g := w.heap.size) (t := 30) (cs := #[.slice (some ⟨gb, 0, none⟩) 1 1, .int .u16 key]) (by simp) 0
  have a1 : (w1.alloc (.cells #[.int .i64 0, .int .i64 3] 53)).cell? ⟨w.heap.size, 1, none⟩ = some (.int .u16 key) := K1.at_ (g := w.heap.size) (t := 30) (cs := #[.slice (some ⟨gb, 0, none⟩) 1 1, .int .u16 key]) (by simp) 1
  have c0 : (w1.alloc (.cells #[.int .i64 0, .int .i64 3] 53)).cell? ⟨w.heap.size + 2, 0, none⟩ = some (.int .u8 1) := K1.at_ (g := w.heap.size + 2) (t := 24) (cs := #[.int .u8 1, .int .u16 15]) (by simp) 0
  have c1 : (w1.alloc (.cells #[.int .i64 0, .int .i64 3] 53)).cell? ⟨w.heap.size + 2, 1, none⟩ = some (.int .u16 15) := K1.at_ (g := w.heap.size + 2) (t := 24) (cs := #[.int .u8 1, .int .u16 15]) (by simp) 1
  have HF2 : Pu w (w1.alloc (.cells #[.int .i64 0, .int .i64 3] 53)) := HF1.alloc _
  have r2 := resolve_c gb gs key 15 _ (HF2.cl h1 (fun t => t)) (HF2.cl h2 (fun t => t)) (by omega)
  rw [show (15 : Int) - 10 = 5 from rfl] at r2
  have hB := Blk.new w1 53 #[.int .i64 0, .int .i64 3]
  clear K1 r1 K0
  go_wp2_with fail
  refine r2.mono ?_
  rintro e w2 ⟨rfl, hf2⟩
  have p0 : w2.cell? ⟨w1.heap.size, 0, none⟩ = some (.int .i64 0) := (hf2.blk hB (fun t => t)).cell 0
  have p1 : w2.cell? ⟨w1.heap.size, 1, none⟩ = some (.int .i64 3) := (hf2.blk hB (fun t => t)).cell 1
  have d0 := cell_alloc (o := .cells #[.int .i64 0, .int .i64 5] 53) p0
  have d1 := cell_alloc (o := .cells #[.int .i64 0, .int .i64 5] 53) p1
  go_wp2_with fail
  go_ret2
  exact ⟨rfl, (HF2.pu hf2).alloc _⟩

set_option maxHeartbeats 1000000 in
theorem do_ptr (gb gs : Nat) (key : Int) (w : World) (h1 : w.cell? ⟨gb, 0, none⟩ = some (.int .i64 10)) (h2 : w.cell? ⟨gs, 0, none⟩ = some (.int .i64 8)) :
    Calls Try.prog 13 #[.agg #[.slice (some ⟨gb, 0, none⟩) 1 1, .int .u16 key], .slice (some ⟨gs, 0, none⟩) 1 1, .int .i64 4, cV 1 13, cV 1 15] w fun e w' => e = .returned (.tuple #[cV 0 65534, .int .i64 0]) ∧ Pu w w' := by
  have HB1 : Blk ((((w.alloc (.cells #[.slice (some ⟨gb, 0, none⟩) 1 1, .int .u16 key] 30)).alloc (.cells #[.int .u8 1, .int .u16 13] 24)).alloc (.cells #[.int .u8 1, .int .u16 15] 24)).alloc (.cells #[.int .u8 0, .int .u16 0] 24)) (w.heap.size + 1 + 1 + 1) 24 #[.int .u8 0, .int .u16 0] := by
    have := Blk.new (((w.alloc (.cells #[.slice (some ⟨gb, 0, none⟩) 1 1, .int .u16 key] 30)).alloc (.cells #[.int .u8 1, .int .u16 13] 24)).alloc (.cells #[.int .u8 1, .int .u16 15] 24)) 24 #[.int .u8 0, .int .u16 0]
    simpa using this
  have HF0 : Pu w ((((w.alloc (.cells #[.slice (some ⟨gb, 0, none⟩) 1 1, .int .u16 key] 30)).alloc (.cells #[.int .u8 1, .int .u16 13] 24)).alloc (.cells #[.int .u8 1, .int .u16 15] 24)).alloc (.cells #[.int .u8 0, .int .u16 0] 24)) := ((((Fr.refl _ w).alloc _).alloc _).alloc _).alloc _
  have ha := apart_c gb gs key _ (HF0.cl h1 (fun t => t)) (HF0.cl h2 (fun t => t))
  have hn := fun u => number_c 65534 u
  have e16 : IntKind.u16.wrap (-2) = 65534 := by rw [wrap16]; rfl
  unfold cV at *
  go_enter Try.func13, Try.ntmps13
  go_wp2_with fail
  refine ha.mono ?_
  rintro e w1 ⟨rfl, hf1⟩
  have hB1 := hf1.blk HB1 (fun t => t)
  have HF1 := HF0.pu hf1
  clear ha HB1 HF0
  go_wp2_with fail
  refine (hn _).mono ?_
  rintro e w2 ⟨rfl, hf⟩
  have hB := hf.blk hB1 (fun t => t)
  have hF : Pu w w2 := HF1.pu hf
  have c0 : w2.cell? ⟨w.heap.size + 1 + 1 + 1, 0, none⟩ = some (.int .u8 0) := hB.cell 0
  have c1 : w2.cell? ⟨w.heap.size + 1 + 1 + 1, 1, none⟩ = some (.int .u16 0) := hB.cell 1
  have f0 := hB.frozen 0
  have f1 := hB.frozen 1
  clear hB1 HF1 hf hn
  go_wp2_with fail
  refine bodyPost_ret (v := .tuple #[cV 0 65534, .int .i64 0]) (by simp [results, Try.results13, go_sem, c0, c1, cV]) rfl ⟨rfl, ?_⟩
  have hle : w.heap.size ≤ w.heap.size + 1 + 1 + 1 := by omega
  exact (hF.setCell (p := ⟨w.heap.size + 1 + 1 + 1, 0, none⟩) (.inr hle) _).setCell (p := ⟨w.heap.size + 1 + 1 + 1, 1, none⟩) (.inr hle) _

set_option maxHeartbeats 1000000 in
theorem do_trap (bs S : Value) (key : Int) (w : World) :
    Calls Try.prog 13 #[.agg #[bs, .int .u16 key], S, .int .i64 5, cV 1 13, cV 0 2] w fun e w' => e = .returned (.tuple #[cV 0 0, .int .i64 3]) ∧ Pu w w' := by
  unfold cV
  go_enter Try.func13, Try.ntmps13
  go_wp2_with fail
  refine bodyPost_ret (v := .tuple #[cV 0 0, .int .i64 3]) (by simp [results, Try.results13, go_sem, cV]) rfl ⟨rfl, ?_⟩
  exact ((((Fr.refl _ w).alloc _).alloc _).alloc _).alloc _
end Go.Proofs.Ytfcimpfhfbkgbaa
