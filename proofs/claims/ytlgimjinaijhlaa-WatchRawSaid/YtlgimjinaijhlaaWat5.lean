/- The check of sanity of layer 32; a row known whole reads as a list; WatchSilent. -/
import Derived.Test.YtlgimjinaijhlaaWat4
namespace Go.Proofs.Ytlgimjinaijhlaa
open Go.RowKit

theorem Rd.of_blk {w : World} {g : Nat} {t : TypeId} {cs : Array Value} {xs : List Value} (h : Blk w g t cs) (hx : cs.toList = xs) : Rd w w.heap.size (some ⟨g, 0, none⟩) xs := fun _ => by
  refine ⟨g, 0, rfl, h.lt, fun j u hu => ?_⟩
  rw [Nat.zero_add, h.cell, ← Array.getElem?_toList, hx, hu]

set_option maxHeartbeats 2000000 in
theorem awake_any (w : World) : Calls Try.prog 7 #[] w fun e w' => e = .returned (.bool true) ∧ Pu w w' := by
  have hnew := new_ok 2 0 w (by omega) (by omega)
  go_enter Try.func7, Try.ntmps7
  go_wp2_with fail
  refine hnew.mono ?_
  rintro e w1 ⟨A, c, rfl, hr1, hf1⟩
  clear hnew
  have hst := step_ok 0 A (some ⟨w1.heap.size + 1, 0, none⟩) (some ⟨w1.heap.size + 1 + 1, 0, none⟩) 2 c 2 2 (List.replicate 2 0) [true, true] [true, false] (((w1.alloc (.cells #[.int .i64 0, .slice A 2 c] 24)).alloc (.cells #[.bool true, .bool true] 4)).alloc (.cells #[.bool true, .bool false] 4))
    (by omega) (by omega) (by omega) rfl rfl rfl (by simp) ((((Fr.refl _ w1).alloc _).alloc _).alloc _ |>.rd' hr1)
    (Rd.of_blk (t := 4) (cs := #[.bool true, .bool true]) (by have := ((Blk.new (w1.alloc (.cells #[.int .i64 0, .slice A 2 c] 24)) 4 #[.bool true, .bool true]).alloc (.cells #[.bool true, .bool false] 4)); simpa using this) rfl)
    (Rd.of_blk (t := 4) (cs := #[.bool true, .bool false]) (by have := Blk.new ((w1.alloc (.cells #[.int .i64 0, .slice A 2 c] 24)).alloc (.cells #[.bool true, .bool true] 4)) 4 #[.bool true, .bool false]; simpa using this) rfl)
  have u1 : upI 0 (List.replicate 2 0) [true, true] [true, false] 2 0 = [1] := by decide
  have u2 : toI 0 (List.replicate 2 0) [true, true] [true, false] 2 = [0, 0] := by decide
  rw [u1, u2] at hst
  clear u1 u2
  have HF1 : Pu w (((w1.alloc (.cells #[.int .i64 0, .slice A 2 c] 24)).alloc (.cells #[.bool true, .bool true] 4)).alloc (.cells #[.bool true, .bool false] 4)) := ((hf1.alloc _).alloc _).alloc _
  clear hf1 hr1
  replace HF1 := Lib.hid HF1
  go_wp2_with fail
  refine hst.mono ?_
  rintro e w2 ⟨A', c', Ag, cg, rfl, hr2, hr3, hf2, _⟩
  clear hst
  have HF2 := HF1.out.pu hf2
  clear HF1 hf2
  -- the first comparison
  have s1 := same_c Ag (some ⟨w2.heap.size + 1, 0, none⟩) 1 1 cg 1 [1] [1] ((w2.alloc (.cells #[.int .i64 0, .slice A' 2 c'] 24)).alloc (.cells #[.int .i64 1] 3)) rfl rfl (by omega) (by omega) (((Fr.refl _ w2).alloc _).alloc _ |>.rd' hr3)
    (Rd.of_blk (t := 3) (cs := #[.int .i64 1]) (by have := Blk.new (w2.alloc (.cells #[.int .i64 0, .slice A' 2 c'] 24)) 3 #[.int .i64 1]; simpa using this) rfl)
  rw [show decide ([(1 : Int)] = [1]) = true from rfl] at s1
  have Bx : Blk ((w2.alloc (.cells #[.int .i64 0, .slice A' 2 c'] 24)).alloc (.cells #[.int .i64 1] 3)) w2.heap.size 24 #[.int .i64 0, .slice A' 2 c'] := (Blk.new _ _ _).alloc _
  have HF3 : Pu w ((w2.alloc (.cells #[.int .i64 0, .slice A' 2 c'] 24)).alloc (.cells #[.int .i64 1] 3)) := (HF2.alloc _).alloc _
  have hr4 := ((((Fr.refl (fun _ => False) w2).alloc (.cells #[.int .i64 0, .slice A' 2 c'] 24)).alloc (.cells #[.int .i64 1] 3)).rd' hr2)
  replace HF3 := Lib.hid HF3
  replace Bx := Lib.hid Bx
  replace hr4 := Lib.hid hr4
  clear HF2 hr2 hr3
  go_wp2_with fail
  refine s1.mono ?_
  rintro e w3 ⟨rfl, hf3⟩
  clear s1
  have Bx3 := hf3.blk Bx.out (fun t => t)
  have x1 : w3.cell? ⟨w2.heap.size, 1, none⟩ = some (.slice A' 2 c') := Bx3.cell 1
  have hr5 := hf3.rd' hr4.out
  have HF4 := HF3.out.pu hf3
  clear Bx Bx3 hr4 HF3 hf3
  have s2 := same_c A' (some ⟨w3.heap.size, 0, none⟩) 2 2 c' 2 [0, 0] [0, 0] (w3.alloc (.cells #[.int .i64 0, .int .i64 0] 3)) rfl rfl (by omega) (by omega) (((Fr.refl _ w3).alloc _).rd' hr5) (Rd.of_blk (Blk.new w3 3 #[.int .i64 0, .int .i64 0]) rfl)
  rw [show decide ([(0 : Int), 0] = [0, 0]) = true from rfl] at s2
  clear hr5
  go_wp2_with fail
  refine s2.mono ?_
  rintro e w4 ⟨rfl, hf4⟩
  clear s2 x1
  have HF5 := (HF4.alloc (.cells #[.int .i64 0, .int .i64 0] 3)).pu hf4
  clear HF4 hf4
  have s3 := silent_c (some ⟨w4.heap.size, 0, none⟩) 1 1 [(3, 1, 2)] 1 4 (w4.alloc (.cells #[.int .i64 3, .int .i64 1, .int .i64 2] 42)) rfl (by omega) (by intro h hh; simp at hh; subst hh; exact ⟨⟨by decide, by decide⟩, by decide, by decide⟩) ⟨by decide, by decide⟩ (Rd.of_blk (Blk.new w4 42 #[.int .i64 3, .int .i64 1, .int .i64 2]) rfl)
  rw [show ([((3 : Int), (1 : Int), (2 : Int))].any (hangs 1 4)) = true by decide] at s3
  go_wp2_with fail
  refine s3.mono ?_
  rintro e w5 ⟨rfl, hf5⟩
  go_wp2_with fail
  go_ret
  exact ⟨rfl, (HF5.alloc _).pu hf5⟩
end Go.Proofs.Ytlgimjinaijhlaa
