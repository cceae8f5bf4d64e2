/- AluNumbers: the walk. -/
import Derived.Test.YtfcimpfhfbkgbaaAlu3
namespace Go.Proofs.Ytfcimpfhfbkgbaa
open Go.RowKit

set_option maxRecDepth 100000 in
set_option maxHeartbeats 8000000 in
theorem alu_zero (a b s x : Int) (w : World) (hb : (b == 0) = true)
    (hadd : ∀ (gb : Nat) (key : Int), ∀ u, Calls Try.prog 13 #[.agg #[.slice (some ⟨gb, 0, none⟩) 1 1, .int .u16 key], .slice (some ⟨w.heap.size, 0, none⟩) 1 1, .int .i64 3, .agg #[.int .u8 0, .int .u16 a], .agg #[.int .u8 0, .int .u16 b]] u fun e w' => e = .returned (.tuple #[.agg #[.int .u8 0, .int .u16 s], .int .i64 0]) ∧ Pu u w')
    (hsub : ∀ (gb : Nat) (key : Int), ∀ u, Calls Try.prog 13 #[.agg #[.slice (some ⟨gb, 0, none⟩) 1 1, .int .u16 key], .slice (some ⟨w.heap.size, 0, none⟩) 1 1, .int .i64 4, .agg #[.int .u8 0, .int .u16 s], .agg #[.int .u8 0, .int .u16 b]] u fun e w' => e = .returned (.tuple #[.agg #[.int .u8 0, .int .u16 a], .int .i64 0]) ∧ Pu u w')
    (hxor : ∀ (gb : Nat) (key : Int), ∀ u, Calls Try.prog 13 #[.agg #[.slice (some ⟨gb, 0, none⟩) 1 1, .int .u16 key], .slice (some ⟨w.heap.size, 0, none⟩) 1 1, .int .i64 10, .agg #[.int .u8 0, .int .u16 a], .agg #[.int .u8 0, .int .u16 b]] u fun e w' => e = .returned (.tuple #[.agg #[.int .u8 0, .int .u16 x], .int .i64 0]) ∧ Pu u w')
    (hxob : ∀ (gb : Nat) (key : Int), ∀ u, Calls Try.prog 13 #[.agg #[.slice (some ⟨gb, 0, none⟩) 1 1, .int .u16 key], .slice (some ⟨w.heap.size, 0, none⟩) 1 1, .int .i64 10, .agg #[.int .u8 0, .int .u16 x], .agg #[.int .u8 0, .int .u16 b]] u fun e w' => e = .returned (.tuple #[.agg #[.int .u8 0, .int .u16 a], .int .i64 0]) ∧ Pu u w')
    (hdiv : ∀ (gb : Nat) (key : Int), ∀ u, Calls Try.prog 13 #[.agg #[.slice (some ⟨gb, 0, none⟩) 1 1, .int .u16 key], .slice (some ⟨w.heap.size, 0, none⟩) 1 1, .int .i64 6, .agg #[.int .u8 0, .int .u16 a], .agg #[.int .u8 0, .int .u16 b]] u fun e w' => e = .returned (.tuple #[.agg #[.int .u8 0, .int .u16 0], .int .i64 5]) ∧ Pu u w')
    (hrem : ∀ (gb : Nat) (key : Int), ∀ u, Calls Try.prog 13 #[.agg #[.slice (some ⟨gb, 0, none⟩) 1 1, .int .u16 key], .slice (some ⟨w.heap.size, 0, none⟩) 1 1, .int .i64 7, .agg #[.int .u8 0, .int .u16 a], .agg #[.int .u8 0, .int .u16 b]] u fun e w' => e = .returned (.tuple #[.agg #[.int .u8 0, .int .u16 0], .int .i64 5]) ∧ Pu u w')
    : Calls Try.prog 6 #[.int .u16 a, .int .u16 b] w fun e w' => e = .returned (.bool true) ∧ Pu w w' := by
  have hm := make_c w.heap.size (w.alloc (.cells #[.int .i64 4] 3)) ((Blk.new w 3 #[.int .i64 4]).cell 0)
  have HF0 : Pu w (w.alloc (.cells #[.int .i64 4] 3)) := (Fr.refl _ w).alloc _
  replace hadd := Lib.hid hadd
  replace hsub := Lib.hid hsub
  replace hxor := Lib.hid hxor
  replace hxob := Lib.hid hxob
  replace hdiv := Lib.hid hdiv
  replace hrem := Lib.hid hrem
  go_enter Try.func6, Try.ntmps6
  go_wp2_with fail
  refine hm.mono ?_
  rintro e w0 ⟨gb, key, rfl, h0⟩
  clear hm
  have K0 : Kp [(w0.heap.size + 2, 24, #[.int .u8 0, .int .u16 b]), (w0.heap.size + 1, 24, #[.int .u8 0, .int .u16 a]), (w0.heap.size, 30, #[.slice (some ⟨gb, 0, none⟩) 1 1, .int .u16 key])] (((w0.alloc (.cells #[.slice (some ⟨gb, 0, none⟩) 1 1, .int .u16 key] 30)).alloc (.cells #[.int .u8 0, .int .u16 a] 24)).alloc (.cells #[.int .u8 0, .int .u16 b] 24)) := by
    have := (((Kp.nil w0).new 30 #[.slice (some ⟨gb, 0, none⟩) 1 1, .int .u16 key]).new 24 #[.int .u8 0, .int .u16 a]).new 24 #[.int .u8 0, .int .u16 b]
    simpa [Nat.add_assoc] using this
  have hf0 : Pu w (((w0.alloc (.cells #[.slice (some ⟨gb, 0, none⟩) 1 1, .int .u16 key] 30)).alloc (.cells #[.int .u8 0, .int .u16 a] 24)).alloc (.cells #[.int .u8 0, .int .u16 b] 24)) := (((HF0.pu h0).alloc _).alloc _).alloc _
  clear HF0 h0
  have c1l_0 : ((((w0.alloc (.cells #[.slice (some ⟨gb, 0, none⟩) 1 1, .int .u16 key] 30)).alloc (.cells #[.int .u8 0, .int .u16 a] 24)).alloc (.cells #[.int .u8 0, .int .u16 b] 24))).cell? ⟨w0.heap.size, 0, none⟩ = some (.slice (some ⟨gb, 0, none⟩) 1 1) := K0.at_ (g := w0.heap.size) (t := 30) (cs := #[.slice (some ⟨gb, 0, none⟩) 1 1, .int .u16 key]) (by simp) 0
  have c1l_1 : ((((w0.alloc (.cells #[.slice (some ⟨gb, 0, none⟩) 1 1, .int .u16 key] 30)).alloc (.cells #[.int .u8 0, .int .u16 a] 24)).alloc (.cells #[.int .u8 0, .int .u16 b] 24))).cell? ⟨w0.heap.size, 1, none⟩ = some (.int .u16 key) := K0.at_ (g := w0.heap.size) (t := 30) (cs := #[.slice (some ⟨gb, 0, none⟩) 1 1, .int .u16 key]) (by simp) 1
  have c1a_0 : ((((w0.alloc (.cells #[.slice (some ⟨gb, 0, none⟩) 1 1, .int .u16 key] 30)).alloc (.cells #[.int .u8 0, .int .u16 a] 24)).alloc (.cells #[.int .u8 0, .int .u16 b] 24))).cell? ⟨w0.heap.size + 1, 0, none⟩ = some (.int .u8 0) := K0.at_ (g := w0.heap.size + 1) (t := 24) (cs := #[.int .u8 0, .int .u16 a]) (by simp) 0
  have c1a_1 : ((((w0.alloc (.cells #[.slice (some ⟨gb, 0, none⟩) 1 1, .int .u16 key] 30)).alloc (.cells #[.int .u8 0, .int .u16 a] 24)).alloc (.cells #[.int .u8 0, .int .u16 b] 24))).cell? ⟨w0.heap.size + 1, 1, none⟩ = some (.int .u16 a) := K0.at_ (g := w0.heap.size + 1) (t := 24) (cs := #[.int .u8 0, .int .u16 a]) (by simp) 1
  have c1b_0 : ((((w0.alloc (.cells #[.slice (some ⟨gb, 0, none⟩) 1 1, .int .u16 key] 30)).alloc (.cells #[.int .u8 0, .int .u16 a] 24)).alloc (.cells #[.int .u8 0, .int .u16 b] 24))).cell? ⟨w0.heap.size + 2, 0, none⟩ = some (.int .u8 0) := K0.at_ (g := w0.heap.size + 2) (t := 24) (cs := #[.int .u8 0, .int .u16 b]) (by simp) 0
  have c1b_1 : ((((w0.alloc (.cells #[.slice (some ⟨gb, 0, none⟩) 1 1, .int .u16 key] 30)).alloc (.cells #[.int .u8 0, .int .u16 a] 24)).alloc (.cells #[.int .u8 0, .int .u16 b] 24))).cell? ⟨w0.heap.size + 2, 1, none⟩ = some (.int .u16 b) := K0.at_ (g := w0.heap.size + 2) (t := 24) (cs := #[.int .u8 0, .int .u16 b]) (by simp) 1
  have KK := Lib.hid K0
  clear K0
  go_wp2_with fail
  refine (hadd.out _ _ _).mono ?_
  rintro e w1 ⟨rfl, h1⟩
  have K1 : Kp [(w1.heap.size, 24, #[.int .u8 0, .int .u16 s]), (w0.heap.size + 2, 24, #[.int .u8 0, .int .u16 b]), (w0.heap.size + 1, 24, #[.int .u8 0, .int .u16 a]), (w0.heap.size, 30, #[.slice (some ⟨gb, 0, none⟩) 1 1, .int .u16 key])] (w1.alloc (.cells #[.int .u8 0, .int .u16 s] 24)) := (KK.out.pu h1).new _ _
  clear KK c1l_0 c1l_1 c1a_0 c1a_1 c1b_0 c1b_1 hadd
  have hf1 : Pu w (w1.alloc (.cells #[.int .u8 0, .int .u16 s] 24)) := (hf0.pu h1).alloc _
  clear hf0 h1
  have c2l_0 : ((w1.alloc (.cells #[.int .u8 0, .int .u16 s] 24))).cell? ⟨w0.heap.size, 0, none⟩ = some (.slice (some ⟨gb, 0, none⟩) 1 1) := K1.at_ (g := w0.heap.size) (t := 30) (cs := #[.slice (some ⟨gb, 0, none⟩) 1 1, .int .u16 key]) (by simp) 0
  have c2l_1 : ((w1.alloc (.cells #[.int .u8 0, .int .u16 s] 24))).cell? ⟨w0.heap.size, 1, none⟩ = some (.int .u16 key) := K1.at_ (g := w0.heap.size) (t := 30) (cs := #[.slice (some ⟨gb, 0, none⟩) 1 1, .int .u16 key]) (by simp) 1
  have c2s_0 : ((w1.alloc (.cells #[.int .u8 0, .int .u16 s] 24))).cell? ⟨w1.heap.size, 0, none⟩ = some (.int .u8 0) := K1.at_ (g := w1.heap.size) (t := 24) (cs := #[.int .u8 0, .int .u16 s]) (by simp) 0
  have c2s_1 : ((w1.alloc (.cells #[.int .u8 0, .int .u16 s] 24))).cell? ⟨w1.heap.size, 1, none⟩ = some (.int .u16 s) := K1.at_ (g := w1.heap.size) (t := 24) (cs := #[.int .u8 0, .int .u16 s]) (by simp) 1
  have c2b_0 : ((w1.alloc (.cells #[.int .u8 0, .int .u16 s] 24))).cell? ⟨w0.heap.size + 2, 0, none⟩ = some (.int .u8 0) := K1.at_ (g := w0.heap.size + 2) (t := 24) (cs := #[.int .u8 0, .int .u16 b]) (by simp) 0
  have c2b_1 : ((w1.alloc (.cells #[.int .u8 0, .int .u16 s] 24))).cell? ⟨w0.heap.size + 2, 1, none⟩ = some (.int .u16 b) := K1.at_ (g := w0.heap.size + 2) (t := 24) (cs := #[.int .u8 0, .int .u16 b]) (by simp) 1
  have KK := Lib.hid K1
  clear K1
  go_wp2_with fail
  refine (hsub.out _ _ _).mono ?_
  rintro e w2 ⟨rfl, h2⟩
  have K2 : Kp [(w2.heap.size, 24, #[.int .u8 0, .int .u16 a]), (w1.heap.size, 24, #[.int .u8 0, .int .u16 s]), (w0.heap.size + 2, 24, #[.int .u8 0, .int .u16 b]), (w0.heap.size + 1, 24, #[.int .u8 0, .int .u16 a]), (w0.heap.size, 30, #[.slice (some ⟨gb, 0, none⟩) 1 1, .int .u16 key])] (w2.alloc (.cells #[.int .u8 0, .int .u16 a] 24)) := (KK.out.pu h2).new _ _
  clear KK c2l_0 c2l_1 c2s_0 c2s_1 c2b_0 c2b_1 hsub
  have hf2 : Pu w (w2.alloc (.cells #[.int .u8 0, .int .u16 a] 24)) := (hf1.pu h2).alloc _
  clear hf1 h2
  have c3l_0 : ((w2.alloc (.cells #[.int .u8 0, .int .u16 a] 24))).cell? ⟨w0.heap.size, 0, none⟩ = some (.slice (some ⟨gb, 0, none⟩) 1 1) := K2.at_ (g := w0.heap.size) (t := 30) (cs := #[.slice (some ⟨gb, 0, none⟩) 1 1, .int .u16 key]) (by simp) 0
  have c3l_1 : ((w2.alloc (.cells #[.int .u8 0, .int .u16 a] 24))).cell? ⟨w0.heap.size, 1, none⟩ = some (.int .u16 key) := K2.at_ (g := w0.heap.size) (t := 30) (cs := #[.slice (some ⟨gb, 0, none⟩) 1 1, .int .u16 key]) (by simp) 1
  have c3a_0 : ((w2.alloc (.cells #[.int .u8 0, .int .u16 a] 24))).cell? ⟨w0.heap.size + 1, 0, none⟩ = some (.int .u8 0) := K2.at_ (g := w0.heap.size + 1) (t := 24) (cs := #[.int .u8 0, .int .u16 a]) (by simp) 0
  have c3a_1 : ((w2.alloc (.cells #[.int .u8 0, .int .u16 a] 24))).cell? ⟨w0.heap.size + 1, 1, none⟩ = some (.int .u16 a) := K2.at_ (g := w0.heap.size + 1) (t := 24) (cs := #[.int .u8 0, .int .u16 a]) (by simp) 1
  have c3b_0 : ((w2.alloc (.cells #[.int .u8 0, .int .u16 a] 24))).cell? ⟨w0.heap.size + 2, 0, none⟩ = some (.int .u8 0) := K2.at_ (g := w0.heap.size + 2) (t := 24) (cs := #[.int .u8 0, .int .u16 b]) (by simp) 0
  have c3b_1 : ((w2.alloc (.cells #[.int .u8 0, .int .u16 a] 24))).cell? ⟨w0.heap.size + 2, 1, none⟩ = some (.int .u16 b) := K2.at_ (g := w0.heap.size + 2) (t := 24) (cs := #[.int .u8 0, .int .u16 b]) (by simp) 1
  have KK := Lib.hid K2
  clear K2
  go_wp2_with fail
  refine (hxor.out _ _ _).mono ?_
  rintro e w3 ⟨rfl, h3⟩
  have K3 : Kp [(w3.heap.size, 24, #[.int .u8 0, .int .u16 x]), (w2.heap.size, 24, #[.int .u8 0, .int .u16 a]), (w1.heap.size, 24, #[.int .u8 0, .int .u16 s]), (w0.heap.size + 2, 24, #[.int .u8 0, .int .u16 b]), (w0.heap.size + 1, 24, #[.int .u8 0, .int .u16 a]), (w0.heap.size, 30, #[.slice (some ⟨gb, 0, none⟩) 1 1, .int .u16 key])] (w3.alloc (.cells #[.int .u8 0, .int .u16 x] 24)) := (KK.out.pu h3).new _ _
  clear KK c3l_0 c3l_1 c3a_0 c3a_1 c3b_0 c3b_1 hxor
  have hf3 : Pu w (w3.alloc (.cells #[.int .u8 0, .int .u16 x] 24)) := (hf2.pu h3).alloc _
  clear hf2 h3
  have c4l_0 : ((w3.alloc (.cells #[.int .u8 0, .int .u16 x] 24))).cell? ⟨w0.heap.size, 0, none⟩ = some (.slice (some ⟨gb, 0, none⟩) 1 1) := K3.at_ (g := w0.heap.size) (t := 30) (cs := #[.slice (some ⟨gb, 0, none⟩) 1 1, .int .u16 key]) (by simp) 0
  have c4l_1 : ((w3.alloc (.cells #[.int .u8 0, .int .u16 x] 24))).cell? ⟨w0.heap.size, 1, none⟩ = some (.int .u16 key) := K3.at_ (g := w0.heap.size) (t := 30) (cs := #[.slice (some ⟨gb, 0, none⟩) 1 1, .int .u16 key]) (by simp) 1
  have c4x_0 : ((w3.alloc (.cells #[.int .u8 0, .int .u16 x] 24))).cell? ⟨w3.heap.size, 0, none⟩ = some (.int .u8 0) := K3.at_ (g := w3.heap.size) (t := 24) (cs := #[.int .u8 0, .int .u16 x]) (by simp) 0
  have c4x_1 : ((w3.alloc (.cells #[.int .u8 0, .int .u16 x] 24))).cell? ⟨w3.heap.size, 1, none⟩ = some (.int .u16 x) := K3.at_ (g := w3.heap.size) (t := 24) (cs := #[.int .u8 0, .int .u16 x]) (by simp) 1
  have c4b_0 : ((w3.alloc (.cells #[.int .u8 0, .int .u16 x] 24))).cell? ⟨w0.heap.size + 2, 0, none⟩ = some (.int .u8 0) := K3.at_ (g := w0.heap.size + 2) (t := 24) (cs := #[.int .u8 0, .int .u16 b]) (by simp) 0
  have c4b_1 : ((w3.alloc (.cells #[.int .u8 0, .int .u16 x] 24))).cell? ⟨w0.heap.size + 2, 1, none⟩ = some (.int .u16 b) := K3.at_ (g := w0.heap.size + 2) (t := 24) (cs := #[.int .u8 0, .int .u16 b]) (by simp) 1
  have KK := Lib.hid K3
  clear K3
  go_wp2_with fail
  refine (hxob.out _ _ _).mono ?_
  rintro e w4 ⟨rfl, h4⟩
  have K4 : Kp [(w4.heap.size, 24, #[.int .u8 0, .int .u16 a]), (w3.heap.size, 24, #[.int .u8 0, .int .u16 x]), (w2.heap.size, 24, #[.int .u8 0, .int .u16 a]), (w1.heap.size, 24, #[.int .u8 0, .int .u16 s]), (w0.heap.size + 2, 24, #[.int .u8 0, .int .u16 b]), (w0.heap.size + 1, 24, #[.int .u8 0, .int .u16 a]), (w0.heap.size, 30, #[.slice (some ⟨gb, 0, none⟩) 1 1, .int .u16 key])] (w4.alloc (.cells #[.int .u8 0, .int .u16 a] 24)) := (KK.out.pu h4).new _ _
  clear KK c4l_0 c4l_1 c4x_0 c4x_1 c4b_0 c4b_1 hxob
  have hf4 : Pu w (w4.alloc (.cells #[.int .u8 0, .int .u16 a] 24)) := (hf3.pu h4).alloc _
  clear hf3 h4
  have c5l_0 : ((w4.alloc (.cells #[.int .u8 0, .int .u16 a] 24))).cell? ⟨w0.heap.size, 0, none⟩ = some (.slice (some ⟨gb, 0, none⟩) 1 1) := K4.at_ (g := w0.heap.size) (t := 30) (cs := #[.slice (some ⟨gb, 0, none⟩) 1 1, .int .u16 key]) (by simp) 0
  have c5l_1 : ((w4.alloc (.cells #[.int .u8 0, .int .u16 a] 24))).cell? ⟨w0.heap.size, 1, none⟩ = some (.int .u16 key) := K4.at_ (g := w0.heap.size) (t := 30) (cs := #[.slice (some ⟨gb, 0, none⟩) 1 1, .int .u16 key]) (by simp) 1
  have c5a_0 : ((w4.alloc (.cells #[.int .u8 0, .int .u16 a] 24))).cell? ⟨w0.heap.size + 1, 0, none⟩ = some (.int .u8 0) := K4.at_ (g := w0.heap.size + 1) (t := 24) (cs := #[.int .u8 0, .int .u16 a]) (by simp) 0
  have c5a_1 : ((w4.alloc (.cells #[.int .u8 0, .int .u16 a] 24))).cell? ⟨w0.heap.size + 1, 1, none⟩ = some (.int .u16 a) := K4.at_ (g := w0.heap.size + 1) (t := 24) (cs := #[.int .u8 0, .int .u16 a]) (by simp) 1
  have c5b_0 : ((w4.alloc (.cells #[.int .u8 0, .int .u16 a] 24))).cell? ⟨w0.heap.size + 2, 0, none⟩ = some (.int .u8 0) := K4.at_ (g := w0.heap.size + 2) (t := 24) (cs := #[.int .u8 0, .int .u16 b]) (by simp) 0
  have c5b_1 : ((w4.alloc (.cells #[.int .u8 0, .int .u16 a] 24))).cell? ⟨w0.heap.size + 2, 1, none⟩ = some (.int .u16 b) := K4.at_ (g := w0.heap.size + 2) (t := 24) (cs := #[.int .u8 0, .int .u16 b]) (by simp) 1
  have KK := Lib.hid K4
  clear K4
  go_wp2_with fail
  refine (hdiv.out _ _ _).mono ?_
  rintro e w5 ⟨rfl, h5⟩
  have K5 : Kp [(w5.heap.size, 24, #[.int .u8 0, .int .u16 0]), (w4.heap.size, 24, #[.int .u8 0, .int .u16 a]), (w3.heap.size, 24, #[.int .u8 0, .int .u16 x]), (w2.heap.size, 24, #[.int .u8 0, .int .u16 a]), (w1.heap.size, 24, #[.int .u8 0, .int .u16 s]), (w0.heap.size + 2, 24, #[.int .u8 0, .int .u16 b]), (w0.heap.size + 1, 24, #[.int .u8 0, .int .u16 a]), (w0.heap.size, 30, #[.slice (some ⟨gb, 0, none⟩) 1 1, .int .u16 key])] (w5.alloc (.cells #[.int .u8 0, .int .u16 0] 24)) := (KK.out.pu h5).new _ _
  clear KK c5l_0 c5l_1 c5a_0 c5a_1 c5b_0 c5b_1 hdiv
  have hf5 : Pu w (w5.alloc (.cells #[.int .u8 0, .int .u16 0] 24)) := (hf4.pu h5).alloc _
  clear hf4 h5
  have c6l_0 : ((w5.alloc (.cells #[.int .u8 0, .int .u16 0] 24))).cell? ⟨w0.heap.size, 0, none⟩ = some (.slice (some ⟨gb, 0, none⟩) 1 1) := K5.at_ (g := w0.heap.size) (t := 30) (cs := #[.slice (some ⟨gb, 0, none⟩) 1 1, .int .u16 key]) (by simp) 0
  have c6l_1 : ((w5.alloc (.cells #[.int .u8 0, .int .u16 0] 24))).cell? ⟨w0.heap.size, 1, none⟩ = some (.int .u16 key) := K5.at_ (g := w0.heap.size) (t := 30) (cs := #[.slice (some ⟨gb, 0, none⟩) 1 1, .int .u16 key]) (by simp) 1
  have c6a_0 : ((w5.alloc (.cells #[.int .u8 0, .int .u16 0] 24))).cell? ⟨w0.heap.size + 1, 0, none⟩ = some (.int .u8 0) := K5.at_ (g := w0.heap.size + 1) (t := 24) (cs := #[.int .u8 0, .int .u16 a]) (by simp) 0
  have c6a_1 : ((w5.alloc (.cells #[.int .u8 0, .int .u16 0] 24))).cell? ⟨w0.heap.size + 1, 1, none⟩ = some (.int .u16 a) := K5.at_ (g := w0.heap.size + 1) (t := 24) (cs := #[.int .u8 0, .int .u16 a]) (by simp) 1
  have c6b_0 : ((w5.alloc (.cells #[.int .u8 0, .int .u16 0] 24))).cell? ⟨w0.heap.size + 2, 0, none⟩ = some (.int .u8 0) := K5.at_ (g := w0.heap.size + 2) (t := 24) (cs := #[.int .u8 0, .int .u16 b]) (by simp) 0
  have c6b_1 : ((w5.alloc (.cells #[.int .u8 0, .int .u16 0] 24))).cell? ⟨w0.heap.size + 2, 1, none⟩ = some (.int .u16 b) := K5.at_ (g := w0.heap.size + 2) (t := 24) (cs := #[.int .u8 0, .int .u16 b]) (by simp) 1
  have KK := Lib.hid K5
  clear K5
  go_wp2_with fail
  refine (hrem.out _ _ _).mono ?_
  rintro e w6 ⟨rfl, h6⟩
  have K6 : Kp [(w6.heap.size, 24, #[.int .u8 0, .int .u16 0]), (w5.heap.size, 24, #[.int .u8 0, .int .u16 0]), (w4.heap.size, 24, #[.int .u8 0, .int .u16 a]), (w3.heap.size, 24, #[.int .u8 0, .int .u16 x]), (w2.heap.size, 24, #[.int .u8 0, .int .u16 a]), (w1.heap.size, 24, #[.int .u8 0, .int .u16 s]), (w0.heap.size + 2, 24, #[.int .u8 0, .int .u16 b]), (w0.heap.size + 1, 24, #[.int .u8 0, .int .u16 a]), (w0.heap.size, 30, #[.slice (some ⟨gb, 0, none⟩) 1 1, .int .u16 key])] (w6.alloc (.cells #[.int .u8 0, .int .u16 0] 24)) := (KK.out.pu h6).new _ _
  clear KK c6l_0 c6l_1 c6a_0 c6a_1 c6b_0 c6b_1 hrem
  have hf6 : Pu w (w6.alloc (.cells #[.int .u8 0, .int .u16 0] 24)) := (hf5.pu h6).alloc _
  clear hf5 h6
  have c9back_0 : ((w6.alloc (.cells #[.int .u8 0, .int .u16 0] 24))).cell? ⟨w2.heap.size, 0, none⟩ = some (.int .u8 0) := K6.at_ (g := w2.heap.size) (t := 24) (cs := #[.int .u8 0, .int .u16 a]) (by simp) 0
  have c9back_1 : ((w6.alloc (.cells #[.int .u8 0, .int .u16 0] 24))).cell? ⟨w2.heap.size, 1, none⟩ = some (.int .u16 a) := K6.at_ (g := w2.heap.size) (t := 24) (cs := #[.int .u8 0, .int .u16 a]) (by simp) 1
  have c9again_0 : ((w6.alloc (.cells #[.int .u8 0, .int .u16 0] 24))).cell? ⟨w4.heap.size, 0, none⟩ = some (.int .u8 0) := K6.at_ (g := w4.heap.size) (t := 24) (cs := #[.int .u8 0, .int .u16 a]) (by simp) 0
  have c9again_1 : ((w6.alloc (.cells #[.int .u8 0, .int .u16 0] 24))).cell? ⟨w4.heap.size, 1, none⟩ = some (.int .u16 a) := K6.at_ (g := w4.heap.size) (t := 24) (cs := #[.int .u8 0, .int .u16 a]) (by simp) 1
  have c9a_0 : ((w6.alloc (.cells #[.int .u8 0, .int .u16 0] 24))).cell? ⟨w0.heap.size + 1, 0, none⟩ = some (.int .u8 0) := K6.at_ (g := w0.heap.size + 1) (t := 24) (cs := #[.int .u8 0, .int .u16 a]) (by simp) 0
  have c9a_1 : ((w6.alloc (.cells #[.int .u8 0, .int .u16 0] 24))).cell? ⟨w0.heap.size + 1, 1, none⟩ = some (.int .u16 a) := K6.at_ (g := w0.heap.size + 1) (t := 24) (cs := #[.int .u8 0, .int .u16 a]) (by simp) 1
  clear K6
  go_wp2_with fail
  refine (awake_any _).mono ?_
  rintro e w9 ⟨rfl, h9⟩
  go_wp2_with fail
  go_ret
  exact ⟨rfl, hf6.pu h9⟩

set_option maxRecDepth 100000 in
set_option maxHeartbeats 8000000 in
theorem alu_pos (a b s x q r p : Int) (w : World) (hb : (b == 0) = false) (hr : r < b)
    (hadd : ∀ (gb : Nat) (key : Int), ∀ u, Calls Try.prog 13 #[.agg #[.slice (some ⟨gb, 0, none⟩) 1 1, .int .u16 key], .slice (some ⟨w.heap.size, 0, none⟩) 1 1, .int .i64 3, .agg #[.int .u8 0, .int .u16 a], .agg #[.int .u8 0, .int .u16 b]] u fun e w' => e = .returned (.tuple #[.agg #[.int .u8 0, .int .u16 s], .int .i64 0]) ∧ Pu u w')
    (hsub : ∀ (gb : Nat) (key : Int), ∀ u, Calls Try.prog 13 #[.agg #[.slice (some ⟨gb, 0, none⟩) 1 1, .int .u16 key], .slice (some ⟨w.heap.size, 0, none⟩) 1 1, .int .i64 4, .agg #[.int .u8 0, .int .u16 s], .agg #[.int .u8 0, .int .u16 b]] u fun e w' => e = .returned (.tuple #[.agg #[.int .u8 0, .int .u16 a], .int .i64 0]) ∧ Pu u w')
    (hxor : ∀ (gb : Nat) (key : Int), ∀ u, Calls Try.prog 13 #[.agg #[.slice (some ⟨gb, 0, none⟩) 1 1, .int .u16 key], .slice (some ⟨w.heap.size, 0, none⟩) 1 1, .int .i64 10, .agg #[.int .u8 0, .int .u16 a], .agg #[.int .u8 0, .int .u16 b]] u fun e w' => e = .returned (.tuple #[.agg #[.int .u8 0, .int .u16 x], .int .i64 0]) ∧ Pu u w')
    (hxob : ∀ (gb : Nat) (key : Int), ∀ u, Calls Try.prog 13 #[.agg #[.slice (some ⟨gb, 0, none⟩) 1 1, .int .u16 key], .slice (some ⟨w.heap.size, 0, none⟩) 1 1, .int .i64 10, .agg #[.int .u8 0, .int .u16 x], .agg #[.int .u8 0, .int .u16 b]] u fun e w' => e = .returned (.tuple #[.agg #[.int .u8 0, .int .u16 a], .int .i64 0]) ∧ Pu u w')
    (hdiv : ∀ (gb : Nat) (key : Int), ∀ u, Calls Try.prog 13 #[.agg #[.slice (some ⟨gb, 0, none⟩) 1 1, .int .u16 key], .slice (some ⟨w.heap.size, 0, none⟩) 1 1, .int .i64 6, .agg #[.int .u8 0, .int .u16 a], .agg #[.int .u8 0, .int .u16 b]] u fun e w' => e = .returned (.tuple #[.agg #[.int .u8 0, .int .u16 q], .int .i64 0]) ∧ Pu u w')
    (hrem : ∀ (gb : Nat) (key : Int), ∀ u, Calls Try.prog 13 #[.agg #[.slice (some ⟨gb, 0, none⟩) 1 1, .int .u16 key], .slice (some ⟨w.heap.size, 0, none⟩) 1 1, .int .i64 7, .agg #[.int .u8 0, .int .u16 a], .agg #[.int .u8 0, .int .u16 b]] u fun e w' => e = .returned (.tuple #[.agg #[.int .u8 0, .int .u16 r], .int .i64 0]) ∧ Pu u w')
    (hmul : ∀ (gb : Nat) (key : Int), ∀ u, Calls Try.prog 13 #[.agg #[.slice (some ⟨gb, 0, none⟩) 1 1, .int .u16 key], .slice (some ⟨w.heap.size, 0, none⟩) 1 1, .int .i64 5, .agg #[.int .u8 0, .int .u16 q], .agg #[.int .u8 0, .int .u16 b]] u fun e w' => e = .returned (.tuple #[.agg #[.int .u8 0, .int .u16 p], .int .i64 0]) ∧ Pu u w')
    (hfin : ∀ (gb : Nat) (key : Int), ∀ u, Calls Try.prog 13 #[.agg #[.slice (some ⟨gb, 0, none⟩) 1 1, .int .u16 key], .slice (some ⟨w.heap.size, 0, none⟩) 1 1, .int .i64 3, .agg #[.int .u8 0, .int .u16 p], .agg #[.int .u8 0, .int .u16 r]] u fun e w' => e = .returned (.tuple #[.agg #[.int .u8 0, .int .u16 a], .int .i64 0]) ∧ Pu u w')
    : Calls Try.prog 6 #[.int .u16 a, .int .u16 b] w fun e w' => e = .returned (.bool true) ∧ Pu w w' := by
  have hm := make_c w.heap.size (w.alloc (.cells #[.int .i64 4] 3)) ((Blk.new w 3 #[.int .i64 4]).cell 0)
  have HF0 : Pu w (w.alloc (.cells #[.int .i64 4] 3)) := (Fr.refl _ w).alloc _
  replace hadd := Lib.hid hadd
  replace hsub := Lib.hid hsub
  replace hxor := Lib.hid hxor
  replace hxob := Lib.hid hxob
  replace hdiv := Lib.hid hdiv
  replace hrem := Lib.hid hrem
  replace hmul := Lib.hid hmul
  replace hfin := Lib.hid hfin
  go_enter Try.func6, Try.ntmps6
  go_wp2_with fail
  refine hm.mono ?_
  rintro e w0 ⟨gb, key, rfl, h0⟩
  clear hm
  have K0 : Kp [(w0.heap.size + 2, 24, #[.int .u8 0, .int .u16 b]), (w0.heap.size + 1, 24, #[.int .u8 0, .int .u16 a]), (w0.heap.size, 30, #[.slice (some ⟨gb, 0, none⟩) 1 1, .int .u16 key])] (((w0.alloc (.cells #[.slice (some ⟨gb, 0, none⟩) 1 1, .int .u16 key] 30)).alloc (.cells #[.int .u8 0, .int .u16 a] 24)).alloc (.cells #[.int .u8 0, .int .u16 b] 24)) := by
    have := (((Kp.nil w0).new 30 #[.slice (some ⟨gb, 0, none⟩) 1 1, .int .u16 key]).new 24 #[.int .u8 0, .int .u16 a]).new 24 #[.int .u8 0, .int .u16 b]
    simpa [Nat.add_assoc] using this
  have hf0 : Pu w (((w0.alloc (.cells #[.slice (some ⟨gb, 0, none⟩) 1 1, .int .u16 key] 30)).alloc (.cells #[.int .u8 0, .int .u16 a] 24)).alloc (.cells #[.int .u8 0, .int .u16 b] 24)) := (((HF0.pu h0).alloc _).alloc _).alloc _
  clear HF0 h0
  have c1l_0 : ((((w0.alloc (.cells #[.slice (some ⟨gb, 0, none⟩) 1 1, .int .u16 key] 30)).alloc (.cells #[.int .u8 0, .int .u16 a] 24)).alloc (.cells #[.int .u8 0, .int .u16 b] 24))).cell? ⟨w0.heap.size, 0, none⟩ = some (.slice (some ⟨gb, 0, none⟩) 1 1) := K0.at_ (g := w0.heap.size) (t := 30) (cs := #[.slice (some ⟨gb, 0, none⟩) 1 1, .int .u16 key]) (by simp) 0
  have c1l_1 : ((((w0.alloc (.cells #[.slice (some ⟨gb, 0, none⟩) 1 1, .int .u16 key] 30)).alloc (.cells #[.int .u8 0, .int .u16 a] 24)).alloc (.cells #[.int .u8 0, .int .u16 b] 24))).cell? ⟨w0.heap.size, 1, none⟩ = some (.int .u16 key) := K0.at_ (g := w0.heap.size) (t := 30) (cs := #[.slice (some ⟨gb, 0, none⟩) 1 1, .int .u16 key]) (by simp) 1
  have c1a_0 : ((((w0.alloc (.cells #[.slice (some ⟨gb, 0, none⟩) 1 1, .int .u16 key] 30)).alloc (.cells #[.int .u8 0, .int .u16 a] 24)).alloc (.cells #[.int .u8 0, .int .u16 b] 24))).cell? ⟨w0.heap.size + 1, 0, none⟩ = some (.int .u8 0) := K0.at_ (g := w0.heap.size + 1) (t := 24) (cs := #[.int .u8 0, .int .u16 a]) (by simp) 0
  have c1a_1 : ((((w0.alloc (.cells #[.slice (some ⟨gb, 0, none⟩) 1 1, .int .u16 key] 30)).alloc (.cells #[.int .u8 0, .int .u16 a] 24)).alloc (.cells #[.int .u8 0, .int .u16 b] 24))).cell? ⟨w0.heap.size + 1, 1, none⟩ = some (.int .u16 a) := K0.at_ (g := w0.heap.size + 1) (t := 24) (cs := #[.int .u8 0, .int .u16 a]) (by simp) 1
  have c1b_0 : ((((w0.alloc (.cells #[.slice (some ⟨gb, 0, none⟩) 1 1, .int .u16 key] 30)).alloc (.cells #[.int .u8 0, .int .u16 a] 24)).alloc (.cells #[.int .u8 0, .int .u16 b] 24))).cell? ⟨w0.heap.size + 2, 0, none⟩ = some (.int .u8 0) := K0.at_ (g := w0.heap.size + 2) (t := 24) (cs := #[.int .u8 0, .int .u16 b]) (by simp) 0
  have c1b_1 : ((((w0.alloc (.cells #[.slice (some ⟨gb, 0, none⟩) 1 1, .int .u16 key] 30)).alloc (.cells #[.int .u8 0, .int .u16 a] 24)).alloc (.cells #[.int .u8 0, .int .u16 b] 24))).cell? ⟨w0.heap.size + 2, 1, none⟩ = some (.int .u16 b) := K0.at_ (g := w0.heap.size + 2) (t := 24) (cs := #[.int .u8 0, .int .u16 b]) (by simp) 1
  have KK := Lib.hid K0
  clear K0
  go_wp2_with fail
  refine (hadd.out _ _ _).mono ?_
  rintro e w1 ⟨rfl, h1⟩
  have K1 : Kp [(w1.heap.size, 24, #[.int .u8 0, .int .u16 s]), (w0.heap.size + 2, 24, #[.int .u8 0, .int .u16 b]), (w0.heap.size + 1, 24, #[.int .u8 0, .int .u16 a]), (w0.heap.size, 30, #[.slice (some ⟨gb, 0, none⟩) 1 1, .int .u16 key])] (w1.alloc (.cells #[.int .u8 0, .int .u16 s] 24)) := (KK.out.pu h1).new _ _
  clear KK c1l_0 c1l_1 c1a_0 c1a_1 c1b_0 c1b_1 hadd
  have hf1 : Pu w (w1.alloc (.cells #[.int .u8 0, .int .u16 s] 24)) := (hf0.pu h1).alloc _
  clear hf0 h1
  have c2l_0 : ((w1.alloc (.cells #[.int .u8 0, .int .u16 s] 24))).cell? ⟨w0.heap.size, 0, none⟩ = some (.slice (some ⟨gb, 0, none⟩) 1 1) := K1.at_ (g := w0.heap.size) (t := 30) (cs := #[.slice (some ⟨gb, 0, none⟩) 1 1, .int .u16 key]) (by simp) 0
  have c2l_1 : ((w1.alloc (.cells #[.int .u8 0, .int .u16 s] 24))).cell? ⟨w0.heap.size, 1, none⟩ = some (.int .u16 key) := K1.at_ (g := w0.heap.size) (t := 30) (cs := #[.slice (some ⟨gb, 0, none⟩) 1 1, .int .u16 key]) (by simp) 1
  have c2s_0 : ((w1.alloc (.cells #[.int .u8 0, .int .u16 s] 24))).cell? ⟨w1.heap.size, 0, none⟩ = some (.int .u8 0) := K1.at_ (g := w1.heap.size) (t := 24) (cs := #[.int .u8 0, .int .u16 s]) (by simp) 0
  have c2s_1 : ((w1.alloc (.cells #[.int .u8 0, .int .u16 s] 24))).cell? ⟨w1.heap.size, 1, none⟩ = some (.int .u16 s) := K1.at_ (g := w1.heap.size) (t := 24) (cs := #[.int .u8 0, .int .u16 s]) (by simp) 1
  have c2b_0 : ((w1.alloc (.cells #[.int .u8 0, .int .u16 s] 24))).cell? ⟨w0.heap.size + 2, 0, none⟩ = some (.int .u8 0) := K1.at_ (g := w0.heap.size + 2) (t := 24) (cs := #[.int .u8 0, .int .u16 b]) (by simp) 0
  have c2b_1 : ((w1.alloc (.cells #[.int .u8 0, .int .u16 s] 24))).cell? ⟨w0.heap.size + 2, 1, none⟩ = some (.int .u16 b) := K1.at_ (g := w0.heap.size + 2) (t := 24) (cs := #[.int .u8 0, .int .u16 b]) (by simp) 1
  have KK := Lib.hid K1
  clear K1
  go_wp2_with fail
  refine (hsub.out _ _ _).mono ?_
  rintro e w2 ⟨rfl, h2⟩
  have K2 : Kp [(w2.heap.size, 24, #[.int .u8 0, .int .u16 a]), (w1.heap.size, 24, #[.int .u8 0, .int .u16 s]), (w0.heap.size + 2, 24, #[.int .u8 0, .int .u16 b]), (w0.heap.size + 1, 24, #[.int .u8 0, .int .u16 a]), (w0.heap.size, 30, #[.slice (some ⟨gb, 0, none⟩) 1 1, .int .u16 key])] (w2.alloc (.cells #[.int .u8 0, .int .u16 a] 24)) := (KK.out.pu h2).new _ _
  clear KK c2l_0 c2l_1 c2s_0 c2s_1 c2b_0 c2b_1 hsub
  have hf2 : Pu w (w2.alloc (.cells #[.int .u8 0, .int .u16 a] 24)) := (hf1.pu h2).alloc _
  clear hf1 h2
  have c3l_0 : ((w2.alloc (.cells #[.int .u8 0, .int .u16 a] 24))).cell? ⟨w0.heap.size, 0, none⟩ = some (.slice (some ⟨gb, 0, none⟩) 1 1) := K2.at_ (g := w0.heap.size) (t := 30) (cs := #[.slice (some ⟨gb, 0, none⟩) 1 1, .int .u16 key]) (by simp) 0
  have c3l_1 : ((w2.alloc (.cells #[.int .u8 0, .int .u16 a] 24))).cell? ⟨w0.heap.size, 1, none⟩ = some (.int .u16 key) := K2.at_ (g := w0.heap.size) (t := 30) (cs := #[.slice (some ⟨gb, 0, none⟩) 1 1, .int .u16 key]) (by simp) 1
  have c3a_0 : ((w2.alloc (.cells #[.int .u8 0, .int .u16 a] 24))).cell? ⟨w0.heap.size + 1, 0, none⟩ = some (.int .u8 0) := K2.at_ (g := w0.heap.size + 1) (t := 24) (cs := #[.int .u8 0, .int .u16 a]) (by simp) 0
  have c3a_1 : ((w2.alloc (.cells #[.int .u8 0, .int .u16 a] 24))).cell? ⟨w0.heap.size + 1, 1, none⟩ = some (.int .u16 a) := K2.at_ (g := w0.heap.size + 1) (t := 24) (cs := #[.int .u8 0, .int .u16 a]) (by simp) 1
  have c3b_0 : ((w2.alloc (.cells #[.int .u8 0, .int .u16 a] 24))).cell? ⟨w0.heap.size + 2, 0, none⟩ = some (.int .u8 0) := K2.at_ (g := w0.heap.size + 2) (t := 24) (cs := #[.int .u8 0, .int .u16 b]) (by simp) 0
  have c3b_1 : ((w2.alloc (.cells #[.int .u8 0, .int .u16 a] 24))).cell? ⟨w0.heap.size + 2, 1, none⟩ = some (.int .u16 b) := K2.at_ (g := w0.heap.size + 2) (t := 24) (cs := #[.int .u8 0, .int .u16 b]) (by simp) 1
  have KK := Lib.hid K2
  clear K2
  go_wp2_with fail
  refine (hxor.out _ _ _).mono ?_
  rintro e w3 ⟨rfl, h3⟩
  have K3 : Kp [(w3.heap.size, 24, #[.int .u8 0, .int .u16 x]), (w2.heap.size, 24, #[.int .u8 0, .int .u16 a]), (w1.heap.size, 24, #[.int .u8 0, .int .u16 s]), (w0.heap.size + 2, 24, #[.int .u8 0, .int .u16 b]), (w0.heap.size + 1, 24, #[.int .u8 0, .int .u16 a]), (w0.heap.size, 30, #[.slice (some ⟨gb, 0, none⟩) 1 1, .int .u16 key])] (w3.alloc (.cells #[.int .u8 0, .int .u16 x] 24)) := (KK.out.pu h3).new _ _
  clear KK c3l_0 c3l_1 c3a_0 c3a_1 c3b_0 c3b_1 hxor
  have hf3 : Pu w (w3.alloc (.cells #[.int .u8 0, .int .u16 x] 24)) := (hf2.pu h3).alloc _
  clear hf2 h3
  have c4l_0 : ((w3.alloc (.cells #[.int .u8 0, .int .u16 x] 24))).cell? ⟨w0.heap.size, 0, none⟩ = some (.slice (some ⟨gb, 0, none⟩) 1 1) := K3.at_ (g := w0.heap.size) (t := 30) (cs := #[.slice (some ⟨gb, 0, none⟩) 1 1, .int .u16 key]) (by simp) 0
  have c4l_1 : ((w3.alloc (.cells #[.int .u8 0, .int .u16 x] 24))).cell? ⟨w0.heap.size, 1, none⟩ = some (.int .u16 key) := K3.at_ (g := w0.heap.size) (t := 30) (cs := #[.slice (some ⟨gb, 0, none⟩) 1 1, .int .u16 key]) (by simp) 1
  have c4x_0 : ((w3.alloc (.cells #[.int .u8 0, .int .u16 x] 24))).cell? ⟨w3.heap.size, 0, none⟩ = some (.int .u8 0) := K3.at_ (g := w3.heap.size) (t := 24) (cs := #[.int .u8 0, .int .u16 x]) (by simp) 0
  have c4x_1 : ((w3.alloc (.cells #[.int .u8 0, .int .u16 x] 24))).cell? ⟨w3.heap.size, 1, none⟩ = some (.int .u16 x) := K3.at_ (g := w3.heap.size) (t := 24) (cs := #[.int .u8 0, .int .u16 x]) (by simp) 1
  have c4b_0 : ((w3.alloc (.cells #[.int .u8 0, .int .u16 x] 24))).cell? ⟨w0.heap.size + 2, 0, none⟩ = some (.int .u8 0) := K3.at_ (g := w0.heap.size + 2) (t := 24) (cs := #[.int .u8 0, .int .u16 b]) (by simp) 0
  have c4b_1 : ((w3.alloc (.cells #[.int .u8 0, .int .u16 x] 24))).cell? ⟨w0.heap.size + 2, 1, none⟩ = some (.int .u16 b) := K3.at_ (g := w0.heap.size + 2) (t := 24) (cs := #[.int .u8 0, .int .u16 b]) (by simp) 1
  have KK := Lib.hid K3
  clear K3
  go_wp2_with fail
  refine (hxob.out _ _ _).mono ?_
  rintro e w4 ⟨rfl, h4⟩
  have K4 : Kp [(w4.heap.size, 24, #[.int .u8 0, .int .u16 a]), (w3.heap.size, 24, #[.int .u8 0, .int .u16 x]), (w2.heap.size, 24, #[.int .u8 0, .int .u16 a]), (w1.heap.size, 24, #[.int .u8 0, .int .u16 s]), (w0.heap.size + 2, 24, #[.int .u8 0, .int .u16 b]), (w0.heap.size + 1, 24, #[.int .u8 0, .int .u16 a]), (w0.heap.size, 30, #[.slice (some ⟨gb, 0, none⟩) 1 1, .int .u16 key])] (w4.alloc (.cells #[.int .u8 0, .int .u16 a] 24)) := (KK.out.pu h4).new _ _
  clear KK c4l_0 c4l_1 c4x_0 c4x_1 c4b_0 c4b_1 hxob
  have hf4 : Pu w (w4.alloc (.cells #[.int .u8 0, .int .u16 a] 24)) := (hf3.pu h4).alloc _
  clear hf3 h4
  have c5l_0 : ((w4.alloc (.cells #[.int .u8 0, .int .u16 a] 24))).cell? ⟨w0.heap.size, 0, none⟩ = some (.slice (some ⟨gb, 0, none⟩) 1 1) := K4.at_ (g := w0.heap.size) (t := 30) (cs := #[.slice (some ⟨gb, 0, none⟩) 1 1, .int .u16 key]) (by simp) 0
  have c5l_1 : ((w4.alloc (.cells #[.int .u8 0, .int .u16 a] 24))).cell? ⟨w0.heap.size, 1, none⟩ = some (.int .u16 key) := K4.at_ (g := w0.heap.size) (t := 30) (cs := #[.slice (some ⟨gb, 0, none⟩) 1 1, .int .u16 key]) (by simp) 1
  have c5a_0 : ((w4.alloc (.cells #[.int .u8 0, .int .u16 a] 24))).cell? ⟨w0.heap.size + 1, 0, none⟩ = some (.int .u8 0) := K4.at_ (g := w0.heap.size + 1) (t := 24) (cs := #[.int .u8 0, .int .u16 a]) (by simp) 0
  have c5a_1 : ((w4.alloc (.cells #[.int .u8 0, .int .u16 a] 24))).cell? ⟨w0.heap.size + 1, 1, none⟩ = some (.int .u16 a) := K4.at_ (g := w0.heap.size + 1) (t := 24) (cs := #[.int .u8 0, .int .u16 a]) (by simp) 1
  have c5b_0 : ((w4.alloc (.cells #[.int .u8 0, .int .u16 a] 24))).cell? ⟨w0.heap.size + 2, 0, none⟩ = some (.int .u8 0) := K4.at_ (g := w0.heap.size + 2) (t := 24) (cs := #[.int .u8 0, .int .u16 b]) (by simp) 0
  have c5b_1 : ((w4.alloc (.cells #[.int .u8 0, .int .u16 a] 24))).cell? ⟨w0.heap.size + 2, 1, none⟩ = some (.int .u16 b) := K4.at_ (g := w0.heap.size + 2) (t := 24) (cs := #[.int .u8 0, .int .u16 b]) (by simp) 1
  have KK := Lib.hid K4
  clear K4
  go_wp2_with fail
  refine (hdiv.out _ _ _).mono ?_
  rintro e w5 ⟨rfl, h5⟩
  have K5 : Kp [(w5.heap.size, 24, #[.int .u8 0, .int .u16 q]), (w4.heap.size, 24, #[.int .u8 0, .int .u16 a]), (w3.heap.size, 24, #[.int .u8 0, .int .u16 x]), (w2.heap.size, 24, #[.int .u8 0, .int .u16 a]), (w1.heap.size, 24, #[.int .u8 0, .int .u16 s]), (w0.heap.size + 2, 24, #[.int .u8 0, .int .u16 b]), (w0.heap.size + 1, 24, #[.int .u8 0, .int .u16 a]), (w0.heap.size, 30, #[.slice (some ⟨gb, 0, none⟩) 1 1, .int .u16 key])] (w5.alloc (.cells #[.int .u8 0, .int .u16 q] 24)) := (KK.out.pu h5).new _ _
  clear KK c5l_0 c5l_1 c5a_0 c5a_1 c5b_0 c5b_1 hdiv
  have hf5 : Pu w (w5.alloc (.cells #[.int .u8 0, .int .u16 q] 24)) := (hf4.pu h5).alloc _
  clear hf4 h5
  have c6l_0 : ((w5.alloc (.cells #[.int .u8 0, .int .u16 q] 24))).cell? ⟨w0.heap.size, 0, none⟩ = some (.slice (some ⟨gb, 0, none⟩) 1 1) := K5.at_ (g := w0.heap.size) (t := 30) (cs := #[.slice (some ⟨gb, 0, none⟩) 1 1, .int .u16 key]) (by simp) 0
  have c6l_1 : ((w5.alloc (.cells #[.int .u8 0, .int .u16 q] 24))).cell? ⟨w0.heap.size, 1, none⟩ = some (.int .u16 key) := K5.at_ (g := w0.heap.size) (t := 30) (cs := #[.slice (some ⟨gb, 0, none⟩) 1 1, .int .u16 key]) (by simp) 1
  have c6a_0 : ((w5.alloc (.cells #[.int .u8 0, .int .u16 q] 24))).cell? ⟨w0.heap.size + 1, 0, none⟩ = some (.int .u8 0) := K5.at_ (g := w0.heap.size + 1) (t := 24) (cs := #[.int .u8 0, .int .u16 a]) (by simp) 0
  have c6a_1 : ((w5.alloc (.cells #[.int .u8 0, .int .u16 q] 24))).cell? ⟨w0.heap.size + 1, 1, none⟩ = some (.int .u16 a) := K5.at_ (g := w0.heap.size + 1) (t := 24) (cs := #[.int .u8 0, .int .u16 a]) (by simp) 1
  have c6b_0 : ((w5.alloc (.cells #[.int .u8 0, .int .u16 q] 24))).cell? ⟨w0.heap.size + 2, 0, none⟩ = some (.int .u8 0) := K5.at_ (g := w0.heap.size + 2) (t := 24) (cs := #[.int .u8 0, .int .u16 b]) (by simp) 0
  have c6b_1 : ((w5.alloc (.cells #[.int .u8 0, .int .u16 q] 24))).cell? ⟨w0.heap.size + 2, 1, none⟩ = some (.int .u16 b) := K5.at_ (g := w0.heap.size + 2) (t := 24) (cs := #[.int .u8 0, .int .u16 b]) (by simp) 1
  have KK := Lib.hid K5
  clear K5
  go_wp2_with fail
  refine (hrem.out _ _ _).mono ?_
  rintro e w6 ⟨rfl, h6⟩
  have K6 : Kp [(w6.heap.size, 24, #[.int .u8 0, .int .u16 r]), (w5.heap.size, 24, #[.int .u8 0, .int .u16 q]), (w4.heap.size, 24, #[.int .u8 0, .int .u16 a]), (w3.heap.size, 24, #[.int .u8 0, .int .u16 x]), (w2.heap.size, 24, #[.int .u8 0, .int .u16 a]), (w1.heap.size, 24, #[.int .u8 0, .int .u16 s]), (w0.heap.size + 2, 24, #[.int .u8 0, .int .u16 b]), (w0.heap.size + 1, 24, #[.int .u8 0, .int .u16 a]), (w0.heap.size, 30, #[.slice (some ⟨gb, 0, none⟩) 1 1, .int .u16 key])] (w6.alloc (.cells #[.int .u8 0, .int .u16 r] 24)) := (KK.out.pu h6).new _ _
  clear KK c6l_0 c6l_1 c6a_0 c6a_1 c6b_0 c6b_1 hrem
  have hf6 : Pu w (w6.alloc (.cells #[.int .u8 0, .int .u16 r] 24)) := (hf5.pu h6).alloc _
  clear hf5 h6
  have c7l_0 : ((w6.alloc (.cells #[.int .u8 0, .int .u16 r] 24))).cell? ⟨w0.heap.size, 0, none⟩ = some (.slice (some ⟨gb, 0, none⟩) 1 1) := K6.at_ (g := w0.heap.size) (t := 30) (cs := #[.slice (some ⟨gb, 0, none⟩) 1 1, .int .u16 key]) (by simp) 0
  have c7l_1 : ((w6.alloc (.cells #[.int .u8 0, .int .u16 r] 24))).cell? ⟨w0.heap.size, 1, none⟩ = some (.int .u16 key) := K6.at_ (g := w0.heap.size) (t := 30) (cs := #[.slice (some ⟨gb, 0, none⟩) 1 1, .int .u16 key]) (by simp) 1
  have c7q_0 : ((w6.alloc (.cells #[.int .u8 0, .int .u16 r] 24))).cell? ⟨w5.heap.size, 0, none⟩ = some (.int .u8 0) := K6.at_ (g := w5.heap.size) (t := 24) (cs := #[.int .u8 0, .int .u16 q]) (by simp) 0
  have c7q_1 : ((w6.alloc (.cells #[.int .u8 0, .int .u16 r] 24))).cell? ⟨w5.heap.size, 1, none⟩ = some (.int .u16 q) := K6.at_ (g := w5.heap.size) (t := 24) (cs := #[.int .u8 0, .int .u16 q]) (by simp) 1
  have c7b_0 : ((w6.alloc (.cells #[.int .u8 0, .int .u16 r] 24))).cell? ⟨w0.heap.size + 2, 0, none⟩ = some (.int .u8 0) := K6.at_ (g := w0.heap.size + 2) (t := 24) (cs := #[.int .u8 0, .int .u16 b]) (by simp) 0
  have c7b_1 : ((w6.alloc (.cells #[.int .u8 0, .int .u16 r] 24))).cell? ⟨w0.heap.size + 2, 1, none⟩ = some (.int .u16 b) := K6.at_ (g := w0.heap.size + 2) (t := 24) (cs := #[.int .u8 0, .int .u16 b]) (by simp) 1
  have c7back_0 : ((w6.alloc (.cells #[.int .u8 0, .int .u16 r] 24))).cell? ⟨w2.heap.size, 0, none⟩ = some (.int .u8 0) := K6.at_ (g := w2.heap.size) (t := 24) (cs := #[.int .u8 0, .int .u16 a]) (by simp) 0
  have c7back_1 : ((w6.alloc (.cells #[.int .u8 0, .int .u16 r] 24))).cell? ⟨w2.heap.size, 1, none⟩ = some (.int .u16 a) := K6.at_ (g := w2.heap.size) (t := 24) (cs := #[.int .u8 0, .int .u16 a]) (by simp) 1
  have c7again_0 : ((w6.alloc (.cells #[.int .u8 0, .int .u16 r] 24))).cell? ⟨w4.heap.size, 0, none⟩ = some (.int .u8 0) := K6.at_ (g := w4.heap.size) (t := 24) (cs := #[.int .u8 0, .int .u16 a]) (by simp) 0
  have c7again_1 : ((w6.alloc (.cells #[.int .u8 0, .int .u16 r] 24))).cell? ⟨w4.heap.size, 1, none⟩ = some (.int .u16 a) := K6.at_ (g := w4.heap.size) (t := 24) (cs := #[.int .u8 0, .int .u16 a]) (by simp) 1
  have c7a_0 : ((w6.alloc (.cells #[.int .u8 0, .int .u16 r] 24))).cell? ⟨w0.heap.size + 1, 0, none⟩ = some (.int .u8 0) := K6.at_ (g := w0.heap.size + 1) (t := 24) (cs := #[.int .u8 0, .int .u16 a]) (by simp) 0
  have c7a_1 : ((w6.alloc (.cells #[.int .u8 0, .int .u16 r] 24))).cell? ⟨w0.heap.size + 1, 1, none⟩ = some (.int .u16 a) := K6.at_ (g := w0.heap.size + 1) (t := 24) (cs := #[.int .u8 0, .int .u16 a]) (by simp) 1
  have KK := Lib.hid K6
  clear K6
  go_wp2_with fail
  refine (hmul.out _ _ _).mono ?_
  rintro e w7 ⟨rfl, h7⟩
  have K7 : Kp [(w7.heap.size, 24, #[.int .u8 0, .int .u16 p]), (w6.heap.size, 24, #[.int .u8 0, .int .u16 r]), (w5.heap.size, 24, #[.int .u8 0, .int .u16 q]), (w4.heap.size, 24, #[.int .u8 0, .int .u16 a]), (w3.heap.size, 24, #[.int .u8 0, .int .u16 x]), (w2.heap.size, 24, #[.int .u8 0, .int .u16 a]), (w1.heap.size, 24, #[.int .u8 0, .int .u16 s]), (w0.heap.size + 2, 24, #[.int .u8 0, .int .u16 b]), (w0.heap.size + 1, 24, #[.int .u8 0, .int .u16 a]), (w0.heap.size, 30, #[.slice (some ⟨gb, 0, none⟩) 1 1, .int .u16 key])] (w7.alloc (.cells #[.int .u8 0, .int .u16 p] 24)) := (KK.out.pu h7).new _ _
  clear KK c7l_0 c7l_1 c7q_0 c7q_1 c7b_0 c7b_1 c7back_0 c7back_1 c7again_0 c7again_1 c7a_0 c7a_1 hmul
  have hf7 : Pu w (w7.alloc (.cells #[.int .u8 0, .int .u16 p] 24)) := (hf6.pu h7).alloc _
  clear hf6 h7
  have c8l_0 : ((w7.alloc (.cells #[.int .u8 0, .int .u16 p] 24))).cell? ⟨w0.heap.size, 0, none⟩ = some (.slice (some ⟨gb, 0, none⟩) 1 1) := K7.at_ (g := w0.heap.size) (t := 30) (cs := #[.slice (some ⟨gb, 0, none⟩) 1 1, .int .u16 key]) (by simp) 0
  have c8l_1 : ((w7.alloc (.cells #[.int .u8 0, .int .u16 p] 24))).cell? ⟨w0.heap.size, 1, none⟩ = some (.int .u16 key) := K7.at_ (g := w0.heap.size) (t := 30) (cs := #[.slice (some ⟨gb, 0, none⟩) 1 1, .int .u16 key]) (by simp) 1
  have c8p_0 : ((w7.alloc (.cells #[.int .u8 0, .int .u16 p] 24))).cell? ⟨w7.heap.size, 0, none⟩ = some (.int .u8 0) := K7.at_ (g := w7.heap.size) (t := 24) (cs := #[.int .u8 0, .int .u16 p]) (by simp) 0
  have c8p_1 : ((w7.alloc (.cells #[.int .u8 0, .int .u16 p] 24))).cell? ⟨w7.heap.size, 1, none⟩ = some (.int .u16 p) := K7.at_ (g := w7.heap.size) (t := 24) (cs := #[.int .u8 0, .int .u16 p]) (by simp) 1
  have c8r_0 : ((w7.alloc (.cells #[.int .u8 0, .int .u16 p] 24))).cell? ⟨w6.heap.size, 0, none⟩ = some (.int .u8 0) := K7.at_ (g := w6.heap.size) (t := 24) (cs := #[.int .u8 0, .int .u16 r]) (by simp) 0
  have c8r_1 : ((w7.alloc (.cells #[.int .u8 0, .int .u16 p] 24))).cell? ⟨w6.heap.size, 1, none⟩ = some (.int .u16 r) := K7.at_ (g := w6.heap.size) (t := 24) (cs := #[.int .u8 0, .int .u16 r]) (by simp) 1
  have KK := Lib.hid K7
  clear K7
  go_wp2_with fail
  refine (hfin.out _ _ _).mono ?_
  rintro e w8 ⟨rfl, h8⟩
  have K8 : Kp [(w8.heap.size, 24, #[.int .u8 0, .int .u16 a]), (w7.heap.size, 24, #[.int .u8 0, .int .u16 p]), (w6.heap.size, 24, #[.int .u8 0, .int .u16 r]), (w5.heap.size, 24, #[.int .u8 0, .int .u16 q]), (w4.heap.size, 24, #[.int .u8 0, .int .u16 a]), (w3.heap.size, 24, #[.int .u8 0, .int .u16 x]), (w2.heap.size, 24, #[.int .u8 0, .int .u16 a]), (w1.heap.size, 24, #[.int .u8 0, .int .u16 s]), (w0.heap.size + 2, 24, #[.int .u8 0, .int .u16 b]), (w0.heap.size + 1, 24, #[.int .u8 0, .int .u16 a]), (w0.heap.size, 30, #[.slice (some ⟨gb, 0, none⟩) 1 1, .int .u16 key])] (w8.alloc (.cells #[.int .u8 0, .int .u16 a] 24)) := (KK.out.pu h8).new _ _
  clear KK c8l_0 c8l_1 c8p_0 c8p_1 c8r_0 c8r_1 hfin
  have hf8 : Pu w (w8.alloc (.cells #[.int .u8 0, .int .u16 a] 24)) := (hf7.pu h8).alloc _
  clear hf7 h8
  have c9t_0 : ((w8.alloc (.cells #[.int .u8 0, .int .u16 a] 24))).cell? ⟨w8.heap.size, 0, none⟩ = some (.int .u8 0) := K8.at_ (g := w8.heap.size) (t := 24) (cs := #[.int .u8 0, .int .u16 a]) (by simp) 0
  have c9t_1 : ((w8.alloc (.cells #[.int .u8 0, .int .u16 a] 24))).cell? ⟨w8.heap.size, 1, none⟩ = some (.int .u16 a) := K8.at_ (g := w8.heap.size) (t := 24) (cs := #[.int .u8 0, .int .u16 a]) (by simp) 1
  have c9a_0 : ((w8.alloc (.cells #[.int .u8 0, .int .u16 a] 24))).cell? ⟨w0.heap.size + 1, 0, none⟩ = some (.int .u8 0) := K8.at_ (g := w0.heap.size + 1) (t := 24) (cs := #[.int .u8 0, .int .u16 a]) (by simp) 0
  have c9a_1 : ((w8.alloc (.cells #[.int .u8 0, .int .u16 a] 24))).cell? ⟨w0.heap.size + 1, 1, none⟩ = some (.int .u16 a) := K8.at_ (g := w0.heap.size + 1) (t := 24) (cs := #[.int .u8 0, .int .u16 a]) (by simp) 1
  have c9r_0 : ((w8.alloc (.cells #[.int .u8 0, .int .u16 a] 24))).cell? ⟨w6.heap.size, 0, none⟩ = some (.int .u8 0) := K8.at_ (g := w6.heap.size) (t := 24) (cs := #[.int .u8 0, .int .u16 r]) (by simp) 0
  have c9r_1 : ((w8.alloc (.cells #[.int .u8 0, .int .u16 a] 24))).cell? ⟨w6.heap.size, 1, none⟩ = some (.int .u16 r) := K8.at_ (g := w6.heap.size) (t := 24) (cs := #[.int .u8 0, .int .u16 r]) (by simp) 1
  clear K8
  go_wp2_with fail
  refine (awake_any _).mono ?_
  rintro e w9 ⟨rfl, h9⟩
  go_wp2_with fail
  go_ret
  exact ⟨rfl, hf8.pu h9⟩

theorem u16_bd {x : Int} (h : (Lit.int .u16 x).wf = true) : 0 ≤ x ∧ x ≤ 65535 := by
  simp [Lit.wf] at h; exact h
theorem walk_AluNumbers (a b : Int) (w : World) (h0 : (Lit.int .u16 a).wf = true) (h1 : (Lit.int .u16 b).wf = true) :
    Calls Try.prog 6 #[.int .u16 a, .int .u16 b] w fun e w' => e = .returned (.bool true) ∧ Pu w w' := by
  have ha := u16_bd h0
  have hb := u16_bd h1
  obtain ⟨s, _, s1, s2⟩ := add_back (b := b) ha
  obtain ⟨x, _, x1, x2⟩ := xor_twice ha hb
  have hadd := fun (gb : Nat) (key : Int) u => do_num (.agg #[.slice (some ⟨gb, 0, none⟩) 1 1, .int .u16 key]) (.slice (some ⟨gb, 0, none⟩) 1 1) key 3 a b s 0 (.slice (some ⟨w.heap.size, 0, none⟩) 1 1) u rfl (by omega) (fun u => num_add a b s u s1)
  have hsub := fun (gb : Nat) (key : Int) u => do_num (.agg #[.slice (some ⟨gb, 0, none⟩) 1 1, .int .u16 key]) (.slice (some ⟨gb, 0, none⟩) 1 1) key 4 s b a 0 (.slice (some ⟨w.heap.size, 0, none⟩) 1 1) u rfl (by omega) (fun u => num_sub s b a u s2)
  have hxor := fun (gb : Nat) (key : Int) u => do_num (.agg #[.slice (some ⟨gb, 0, none⟩) 1 1, .int .u16 key]) (.slice (some ⟨gb, 0, none⟩) 1 1) key 10 a b x 0 (.slice (some ⟨w.heap.size, 0, none⟩) 1 1) u rfl (by omega) (fun u => num_xor a b x u x1)
  have hxob := fun (gb : Nat) (key : Int) u => do_num (.agg #[.slice (some ⟨gb, 0, none⟩) 1 1, .int .u16 key]) (.slice (some ⟨gb, 0, none⟩) 1 1) key 10 x b a 0 (.slice (some ⟨w.heap.size, 0, none⟩) 1 1) u rfl (by omega) (fun u => num_xor x b a u x2)
  by_cases h : b = 0
  · have hdiv := fun (gb : Nat) (key : Int) u => do_num (.agg #[.slice (some ⟨gb, 0, none⟩) 1 1, .int .u16 key]) (.slice (some ⟨gb, 0, none⟩) 1 1) key 6 a b 0 5 (.slice (some ⟨w.heap.size, 0, none⟩) 1 1) u rfl (by omega) (fun u => by rw [h]; exact num_div0 a u)
    have hrem := fun (gb : Nat) (key : Int) u => do_num (.agg #[.slice (some ⟨gb, 0, none⟩) 1 1, .int .u16 key]) (.slice (some ⟨gb, 0, none⟩) 1 1) key 7 a b 0 5 (.slice (some ⟨w.heap.size, 0, none⟩) 1 1) u rfl (by omega) (fun u => by rw [h]; exact num_rem0 a u)
    exact alu_zero a b s x w (by simpa using h) hadd hsub hxor hxob hdiv hrem
  · have hb1 : 1 ≤ b ∧ b ≤ 65535 := by omega
    obtain ⟨hq, hr, p, _, p1, p2⟩ := div_rem ha hb1
    have hdiv := fun (gb : Nat) (key : Int) u => do_num (.agg #[.slice (some ⟨gb, 0, none⟩) 1 1, .int .u16 key]) (.slice (some ⟨gb, 0, none⟩) 1 1) key 6 a b (a / b) 0 (.slice (some ⟨w.heap.size, 0, none⟩) 1 1) u rfl (by omega) (fun u => num_div a b u ha hb1 hq)
    have hrem := fun (gb : Nat) (key : Int) u => do_num (.agg #[.slice (some ⟨gb, 0, none⟩) 1 1, .int .u16 key]) (.slice (some ⟨gb, 0, none⟩) 1 1) key 7 a b (a % b) 0 (.slice (some ⟨w.heap.size, 0, none⟩) 1 1) u rfl (by omega) (fun u => num_rem a b u ha hb1 (by omega))
    have hmul := fun (gb : Nat) (key : Int) u => do_num (.agg #[.slice (some ⟨gb, 0, none⟩) 1 1, .int .u16 key]) (.slice (some ⟨gb, 0, none⟩) 1 1) key 5 (a / b) b p 0 (.slice (some ⟨w.heap.size, 0, none⟩) 1 1) u rfl (by omega) (fun u => num_mul (a / b) b p u p1)
    have hfin := fun (gb : Nat) (key : Int) u => do_num (.agg #[.slice (some ⟨gb, 0, none⟩) 1 1, .int .u16 key]) (.slice (some ⟨gb, 0, none⟩) 1 1) key 3 p (a % b) a 0 (.slice (some ⟨w.heap.size, 0, none⟩) 1 1) u rfl (by omega) (fun u => num_add p (a % b) a u p2)
    exact alu_pos a b s x (a / b) (a % b) p w (by simpa using h) hr.2 hadd hsub hxor hxob hdiv hrem hmul hfin
end Go.Proofs.Ytfcimpfhfbkgbaa
