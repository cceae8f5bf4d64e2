/- WatchSilent: the walk. -/
import Derived.Test.YtlgimjinaijhlaaWat5
import Derived.Test.YtlgimjinaijhlaaMod
namespace Go.Proofs.Ytlgimjinaijhlaa
open Go.RowKit

theorem u8_bd {x : Int} (h : (Lit.int .u8 x).wf = true) : 0 ≤ x ∧ x ≤ 255 := by
  simp [Lit.wf] at h; exact h
/-- how many of the entries before k are silent -/
def cntS (a f k : Int) : Int := if k ≤ a then 0 else if k - a ≤ f then k - a else f
theorem cntS_step {a r f : Int} {k : Nat} (hf : 0 ≤ f) : cntS a f ((k + 1 : Nat) : Int) = if hangs r k (a, r, f) then cntS a f k + 1 else cntS a f k := by
  unfold hangs cntS
  simp only [decide_true, Bool.true_and, Bool.and_eq_true, decide_eq_true_eq]
  repeat' split
  all_goals omega

set_option maxRecDepth 100000 in
set_option maxHeartbeats 1600000 in
theorem walk_WatchSilent (a f r o : Int) (w : World) (ha : (Lit.int .u8 a).wf = true) (hf : (Lit.int .u8 f).wf = true) (hr : (Lit.int .u8 r).wf = true) (ho : (Lit.int .u8 o).wf = true) :
    Calls Try.prog 5 #[.int .u8 a, .int .u8 f, .int .u8 r, .int .u8 o] w fun e w' => e = .returned (.bool true) ∧ Pu w w' := by
  obtain ⟨a1, a2⟩ := u8_bd ha
  obtain ⟨f1, f2⟩ := u8_bd hf
  obtain ⟨r1, r2⟩ := u8_bd hr
  obtain ⟨o1, o2⟩ := u8_bd ho
  clear ha hf hr ho
  have hsil : Hid (∀ (rp k : Int) (u : World), 0 ≤ k → k ≤ 1000 → Calls Try.prog 16 #[.slice (some ⟨u.heap.size, 0, none⟩) 1 1, .int .i64 rp, .int .i64 k] (u.alloc (.cells #[.int .i64 a, .int .i64 r, .int .i64 f] 42)) fun e w' => e = .returned (.bool (hangs rp k (a, r, f))) ∧ Pu (u.alloc (.cells #[.int .i64 a, .int .i64 r, .int .i64 f] 42)) w') := fun rp k u k1 k2 => by
    have := silent_c (some ⟨u.heap.size, 0, none⟩) 1 1 [(a, r, f)] rp k (u.alloc (.cells #[.int .i64 a, .int .i64 r, .int .i64 f] 42)) rfl (by omega) (by intro h hh; simp at hh; subst hh; exact ⟨⟨by simp; omega, by simp; omega⟩, by simp; omega, by simp; omega⟩) ⟨by omega, by omega⟩ (Rd.of_blk (Blk.new u 42 #[.int .i64 a, .int .i64 r, .int .i64 f]) rfl)
    rwa [show [(a, r, f)].any (hangs rp k) = hangs rp k (a, r, f) by simp] at this
  have hmod := fun u => mkMod (-1) 3 u ⟨by omega, by omega⟩ (by omega) (by omega)
  rw [show (-1 : Int) % 3 = 2 from rfl] at hmod
  have haw := fun u => awake_any u
  go_enter Try.func5, Try.ntmps5
  go_wp2_with fail
  go_loopw [10, 11] (fun nv kv wr => ∃ k : Nat, k ≤ 600 ∧ kv = .int .i64 k ∧ (∃ m : Int, nv = .int .i64 m ∧ 0 ≤ m ∧ m ≤ k ∧ Hid (m = cntS a f k)) ∧ Pu (w.alloc (.cells #[.int .i64 a, .int .i64 r, .int .i64 f] 42)) wr) (fun _ kv _ => 600 - (intOf kv).toNat)
  case atStart => exact ⟨0, by omega, rfl, ⟨0, rfl, by omega, by omega, Lib.hid (by unfold cntS; rw [if_pos (by omega)])⟩, Fr.refl _ _⟩
  case round =>
    obtain ⟨k, hk, rfl, ⟨m, rfl, m0, mk, hm⟩, hF⟩ := hrel
    have hB := hF.blk (Blk.new w 42 #[.int .i64 a, .int .i64 r, .int .i64 f]) (fun t => t)
    have c0 : wr.cell? ⟨w.heap.size, 0, none⟩ = some (.int .i64 a) := hB.cell 0
    have c1 : wr.cell? ⟨w.heap.size, 1, none⟩ = some (.int .i64 r) := hB.cell 1
    have c2 : wr.cell? ⟨w.heap.size, 2, none⟩ = some (.int .i64 f) := hB.cell 2
    by_cases hlt : k < 600
    · have hs1 := hsil.out r k wr (by omega) (by omega)
      have hst := Lib.hid (cntS_step (a := a) (r := r) (f := f) (k := k) f1)
      have hdo : Hid (r ≠ o → ∀ kk : Int, hangs o kk (a, r, f) = false) := fun h kk => by simp [hangs, h]
      generalize hh : hangs r k (a, r, f) = hv at *
      clear hh
      replace hF := Lib.hid hF
      by_cases hro : r = o
      · have e1 : (r != o) = false := by simpa using hro
        replace hro := Lib.hid hro
        cases hv with
        | true =>
          go_wp2_with fail
          refine hs1.mono ?_
          rintro e w1 ⟨rfl, hf1⟩
          go_wp2_with fail
          go_roundw
          case rel => exact ⟨k + 1, by omega, by go_num, ⟨m + 1, by go_num, by omega, by omega, Lib.hid (by have h := hst.out; simp only [if_true] at h; rw [h, ← hm.out])⟩, (hF.out.alloc _).pu hf1⟩
          case measure => simp [intOf]; omega
        | false =>
          go_wp2_with fail
          refine hs1.mono ?_
          rintro e w1 ⟨rfl, hf1⟩
          go_wp2_with fail
          go_roundw
          case rel => exact ⟨k + 1, by omega, by go_num, ⟨m, by go_num, by omega, by omega, Lib.hid (by have h := hst.out; simp only [Bool.false_eq_true, if_false] at h; rw [h, ← hm.out])⟩, (hF.out.alloc _).pu hf1⟩
          case measure => simp [intOf]; omega
      · have e1 : (r != o) = true := by simpa using hro
        have hs2 := fun u => hsil.out o k u (by omega) (by omega)
        rw [hdo.out hro k] at hs2
        replace hro := Lib.hid hro
        cases hv with
        | true =>
          go_wp2_with fail
          refine hs1.mono ?_
          rintro e w1 ⟨rfl, hf1⟩
          have d0 : w1.cell? ⟨w.heap.size, 0, none⟩ = some (.int .i64 a) := hf1.cell (cell_alloc c0) (fun t => t)
          have d1 : w1.cell? ⟨w.heap.size, 1, none⟩ = some (.int .i64 r) := hf1.cell (cell_alloc c1) (fun t => t)
          have d2 : w1.cell? ⟨w.heap.size, 2, none⟩ = some (.int .i64 f) := hf1.cell (cell_alloc c2) (fun t => t)
          go_wp2_with fail
          refine (hs2 _).mono ?_
          rintro e w2 ⟨rfl, hf2⟩
          go_wp2_with fail
          go_roundw
          case rel => exact ⟨k + 1, by omega, by go_num, ⟨m + 1, by go_num, by omega, by omega, Lib.hid (by have h := hst.out; simp only [if_true] at h; rw [h, ← hm.out])⟩, (((hF.out.alloc _).pu hf1).alloc _).pu hf2⟩
          case measure => simp [intOf]; omega
        | false =>
          go_wp2_with fail
          refine hs1.mono ?_
          rintro e w1 ⟨rfl, hf1⟩
          have d0 : w1.cell? ⟨w.heap.size, 0, none⟩ = some (.int .i64 a) := hf1.cell (cell_alloc c0) (fun t => t)
          have d1 : w1.cell? ⟨w.heap.size, 1, none⟩ = some (.int .i64 r) := hf1.cell (cell_alloc c1) (fun t => t)
          have d2 : w1.cell? ⟨w.heap.size, 2, none⟩ = some (.int .i64 f) := hf1.cell (cell_alloc c2) (fun t => t)
          go_wp2_with fail
          refine (hs2 _).mono ?_
          rintro e w2 ⟨rfl, hf2⟩
          go_wp2_with fail
          go_roundw
          case rel => exact ⟨k + 1, by omega, by go_num, ⟨m, by go_num, by omega, by omega, Lib.hid (by have h := hst.out; simp only [Bool.false_eq_true, if_false] at h; rw [h, ← hm.out])⟩, (((hF.out.alloc _).pu hf1).alloc _).pu hf2⟩
          case measure => simp [intOf]; omega
    · obtain rfl : k = 600 := by omega
      have hmf : m = f := by rw [hm.out]; unfold cntS; rw [if_neg (by omega), if_neg (by omega)]
      clear hm
      have e1 : (m == f) = true := by simpa using hmf
      replace hmf := Lib.hid hmf
      clear c0 c1 c2 hB hsil
      go_wp2_with fail
      refine (hmod _).mono ?_
      rintro e w1 ⟨rfl, rfl⟩
      go_wp2_with fail
      refine (haw _).mono ?_
      rintro e w1 ⟨rfl, hf1⟩
      go_wp2_with fail
      go_ret
      exact ⟨rfl, (((Fr.refl _ w).alloc _).pu hF).pu hf1⟩
end Go.Proofs.Ytlgimjinaijhlaa
