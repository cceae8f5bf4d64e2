/- PeriodBest: the walk. -/
import Derived.Test.YtckppibhnedmmaaPer6
import Derived.Test.YtckppibhnedmmaaFlat
namespace Go.Proofs.Ytckppibhnedmmaa
open Go.RowKit

theorem less_a (a b c d : Int) (w : World) :
    Calls Try.prog 8 #[.agg #[.int .i64 a, .int .i64 b], .agg #[.int .i64 c, .int .i64 d]] w fun e w' => e = .returned (.bool (lessS a b c d)) ∧ Pu w w' := less_p a b c d w
theorem okC_mod (a b c : Int) : okC [a % 1000001, b % 1000001, c % 1000001] = true := by
  have h : ∀ x : Int, 0 ≤ x % 1000001 ∧ x % 1000001 ≤ 1000000 := fun x => by
    have := Int.emod_nonneg x (b := 1000001) (by omega)
    have := Int.emod_lt_of_pos x (b := 1000001) (by omega)
    omega
  simp [okC, h]
theorem u32_bd {x : Int} (h : (Lit.int .u32 x).wf = true) : 0 ≤ x ∧ x ≤ 4294967295 := by
  simp [Lit.wf, IntKind.min, IntKind.max, IntKind.signed, IntKind.bits] at h; exact h
theorem redD_bd {D L R p : Int} (hok : okC [D, L, R] = true) (hp : 1 ≤ p ∧ p ≤ 100) : 1 ≤ redD (2000000 * D) (R * L) p := by
  obtain ⟨hD, hL, hR⟩ := okC_three hok
  obtain ⟨⟨b1, b2⟩, ⟨b3, b4⟩, ⟨b5, b6⟩⟩ := costN_bd (p := p) hL hR hp
  exact (red_bd (K := 2000000 * D) (M := R * L) (p := p) ⟨by omega, by omega⟩ ⟨b1, b6, b5⟩ hp).2.2.1
theorem cost_a {D L R : Int} (hok : okC [D, L, R] = true) (p : Int) (hp : 1 ≤ p ∧ p ≤ 100) (w : World) :
    Calls Try.prog 10 #[.agg #[.int .i64 D, .int .i64 L, .int .i64 R], .int .i64 p] w fun e w' => e = .returned (.tuple #[.agg #[.int .i64 (redN (2000000 * D) (R * L) p), .int .i64 (redD (2000000 * D) (R * L) p)], .int .i64 0]) ∧ Pu w w' := by
  have h := cost_p D L R p w ⟨by omega, by omega⟩
  obtain ⟨e1, e2⟩ := cost_ok hok hp
  rw [e1, e2] at h
  exact h

/-- the period whose cost is held before period k is looked at -/
def prevP (k : Nat) : Nat := if k = 1 then 1 else k - 1
theorem prev_bd {k : Nat} (h1 : 1 ≤ k) (h2 : k ≤ 101) : 1 ≤ prevP k ∧ prevP k ≤ 100 := by unfold prevP; split <;> omega
/-- all that the statement asks of period k -/
theorem best_laws {D L R : Int} (hok : okC [D, L, R] = true) {b k : Nat} (hb : IsBest (2000000 * D) (R * L) 100 b) (h1 : 1 ≤ k) (h2 : k ≤ 100) :
    lessS (redN (2000000 * D) (R * L) k) (redD (2000000 * D) (R * L) k) (redN (2000000 * D) (R * L) b) (redD (2000000 * D) (R * L) b) = false ∧
    (k < b → lessS (redN (2000000 * D) (R * L) b) (redD (2000000 * D) (R * L) b) (redN (2000000 * D) (R * L) k) (redD (2000000 * D) (R * L) k) = true) ∧
    (k ≤ b → lessS (redN (2000000 * D) (R * L) (prevP k)) (redD (2000000 * D) (R * L) (prevP k)) (redN (2000000 * D) (R * L) k) (redD (2000000 * D) (R * L) k) = false) ∧
    (b < k → lessS (redN (2000000 * D) (R * L) k) (redD (2000000 * D) (R * L) k) (redN (2000000 * D) (R * L) (prevP k)) (redD (2000000 * D) (R * L) (prevP k)) = false) := by
  obtain ⟨hD, hL, hR⟩ := okC_three hok
  have hM : 0 ≤ R * L := Int.mul_nonneg hR.1 hL.1
  obtain ⟨a1, a2, a3, a4⟩ := hb.laws hM h1 h2
  have hb1 := hb.1
  have hb2 := hb.2.1
  have hp := prev_bd h1 (by omega)
  rw [lessS_red hok ⟨by omega, by omega⟩ ⟨by omega, by omega⟩, lessS_red hok ⟨by omega, by omega⟩ ⟨by omega, by omega⟩, lessS_red hok ⟨by omega, by omega⟩ ⟨by omega, by omega⟩, lessS_red hok ⟨by omega, by omega⟩ ⟨by omega, by omega⟩]
  refine ⟨a1, a2, fun h => ?_, fun h => ?_⟩
  · unfold prevP
    split
    · rename_i h; subst h; exact less_eq _ _ _
    · exact a3 (by omega) h
  · have := a4 h
    unfold prevP
    split
    · rename_i h; omega
    · exact this

set_option maxRecDepth 100000 in
set_option maxHeartbeats 4000000 in
theorem walk_PeriodBest (dg lt rt : Int) (w : World) (h0 : (Lit.int .u32 dg).wf = true) (h1 : (Lit.int .u32 lt).wf = true) (h2 : (Lit.int .u32 rt).wf = true) :
    Calls Try.prog 5 #[.int .u32 dg, .int .u32 lt, .int .u32 rt] w fun e w' => e = .returned (.bool true) ∧ Pu w w' := by
  have hc := costs_any dg lt rt w (u32_bd h0) (u32_bd h1) (u32_bd h2)
  have hok := okC_mod dg lt rt
  generalize dg % 1000001 = D at *
  generalize lt % 1000001 = L at *
  generalize rt % 1000001 = R at *
  have hbest := fun u => best_p D L R u
  have hbv : bestV D L R = (bestTo (2000000 * D) (R * L) 99 : Nat) := by simp [bestV, hok]
  rw [← errC_ok hok, hbv] at hbest
  obtain ⟨hD, hL, hR⟩ := okC_three hok
  have hib := best_is (K := 2000000 * D) (M := R * L) (Int.mul_nonneg hR.1 hL.1) 99
  generalize bestTo (2000000 * D) (R * L) 99 = b at *
  obtain ⟨hb1, hb2⟩ : 1 ≤ b ∧ b ≤ 100 := ⟨hib.1, hib.2.1⟩
  have HIB := Lib.hid hib
  have HOK := Lib.hid hok
  clear hbv hib hD hL hR hok h0 h1 h2
  go_enter Try.func5, Try.ntmps5
  go_wp2_with fail
  refine hc.mono ?_
  rintro e w1 ⟨rfl, hf1⟩
  clear hc
  have hK1 := (Kp.nil w1).new 30 #[.int .i64 D, .int .i64 L, .int .i64 R]
  have HF1 : Pu w (w1.alloc (.cells #[.int .i64 D, .int .i64 L, .int .i64 R] 30)) := hf1.alloc _
  have e0 : (w1.alloc (.cells #[.int .i64 D, .int .i64 L, .int .i64 R] 30)).cell? ⟨w1.heap.size, 0, none⟩ = some (.int .i64 D) := hK1.at_ (g := w1.heap.size) (t := 30) (cs := #[.int .i64 D, .int .i64 L, .int .i64 R]) (by simp) 0
  have e1 : (w1.alloc (.cells #[.int .i64 D, .int .i64 L, .int .i64 R] 30)).cell? ⟨w1.heap.size, 1, none⟩ = some (.int .i64 L) := hK1.at_ (g := w1.heap.size) (t := 30) (cs := #[.int .i64 D, .int .i64 L, .int .i64 R]) (by simp) 1
  have e2 : (w1.alloc (.cells #[.int .i64 D, .int .i64 L, .int .i64 R] 30)).cell? ⟨w1.heap.size, 2, none⟩ = some (.int .i64 R) := hK1.at_ (g := w1.heap.size) (t := 30) (cs := #[.int .i64 D, .int .i64 L, .int .i64 R]) (by simp) 2
  go_wp2_with fail
  refine (hbest _).mono ?_
  rintro e w2 ⟨rfl, hf2⟩
  clear hbest e0 e1 e2
  have hK2 := hK1.pu hf2
  have HF2 := HF1.pu hf2
  have e0 : (w2).cell? ⟨w1.heap.size, 0, none⟩ = some (.int .i64 D) := hK2.at_ (g := w1.heap.size) (t := 30) (cs := #[.int .i64 D, .int .i64 L, .int .i64 R]) (by simp) 0
  have e1 : (w2).cell? ⟨w1.heap.size, 1, none⟩ = some (.int .i64 L) := hK2.at_ (g := w1.heap.size) (t := 30) (cs := #[.int .i64 D, .int .i64 L, .int .i64 R]) (by simp) 1
  have e2 : (w2).cell? ⟨w1.heap.size, 2, none⟩ = some (.int .i64 R) := hK2.at_ (g := w1.heap.size) (t := 30) (cs := #[.int .i64 D, .int .i64 L, .int .i64 R]) (by simp) 2
  go_wp2_with fail
  refine (cost_a HOK.out b ⟨by omega, by omega⟩ _).mono ?_
  rintro e w3 ⟨rfl, hf3⟩
  clear e0 e1 e2
  have hK3 := (hK2.pu hf3).new 24 #[.int .i64 (redN (2000000 * D) (R * L) b), .int .i64 (redD (2000000 * D) (R * L) b)]
  have HF3 := (HF2.pu hf3).alloc (.cells #[.int .i64 (redN (2000000 * D) (R * L) b), .int .i64 (redD (2000000 * D) (R * L) b)] 24)
  have e0 : (w3.alloc (.cells #[.int .i64 (redN (2000000 * D) (R * L) b), .int .i64 (redD (2000000 * D) (R * L) b)] 24)).cell? ⟨w1.heap.size, 0, none⟩ = some (.int .i64 D) := hK3.at_ (g := w1.heap.size) (t := 30) (cs := #[.int .i64 D, .int .i64 L, .int .i64 R]) (by simp) 0
  have e1 : (w3.alloc (.cells #[.int .i64 (redN (2000000 * D) (R * L) b), .int .i64 (redD (2000000 * D) (R * L) b)] 24)).cell? ⟨w1.heap.size, 1, none⟩ = some (.int .i64 L) := hK3.at_ (g := w1.heap.size) (t := 30) (cs := #[.int .i64 D, .int .i64 L, .int .i64 R]) (by simp) 1
  have e2 : (w3.alloc (.cells #[.int .i64 (redN (2000000 * D) (R * L) b), .int .i64 (redD (2000000 * D) (R * L) b)] 24)).cell? ⟨w1.heap.size, 2, none⟩ = some (.int .i64 R) := hK3.at_ (g := w1.heap.size) (t := 30) (cs := #[.int .i64 D, .int .i64 L, .int .i64 R]) (by simp) 2
  go_wp2_with fail
  refine (cost_a HOK.out 1 ⟨by omega, by omega⟩ _).mono ?_
  rintro e w4 ⟨rfl, hf4⟩
  clear e0 e1 e2
  have hK4 := (hK3.pu hf4).alloc (.cells #[.int .i64 (redN (2000000 * D) (R * L) 1), .int .i64 (redD (2000000 * D) (R * L) 1)] 24)
  have HF4 := HF3.pu hf4
  have hz1 : w1.heap.size < w4.heap.size := (hK3.pu hf4).lt_ (g := w1.heap.size) (t := 30) (cs := #[.int .i64 D, .int .i64 L, .int .i64 R]) (by simp)
  have hz3 : w3.heap.size < w4.heap.size := (hK3.pu hf4).lt_ (g := w3.heap.size) (t := 24) (cs := #[.int .i64 (redN (2000000 * D) (R * L) b), .int .i64 (redD (2000000 * D) (R * L) b)]) (by simp)
  have hne31 : w3.heap.size ≠ w1.heap.size := by have := hK2.lt_ (g := w1.heap.size) (t := 30) (cs := #[.int .i64 D, .int .i64 L, .int .i64 R]) (by simp); have := hf3.size; omega
  clear hK1 hK2 hK3 hf2 hf3 hf4 HF1 HF2 HF3 hf1
  generalize w1.heap.size = g7 at *
  generalize w3.heap.size = g10 at *
  have HLAST := Blk.new w4 24 #[.int .i64 (redN (2000000 * D) (R * L) 1), .int .i64 (redD (2000000 * D) (R * L) 1)]
  go_wp2_with fail
  go_loopw [14] (fun pv wr => ∃ k : Nat, 1 ≤ k ∧ k ≤ 101 ∧ pv = .int .i64 k ∧ Kp [(g10, 24, #[.int .i64 (redN (2000000 * D) (R * L) b), .int .i64 (redD (2000000 * D) (R * L) b)]), (g7, 30, #[.int .i64 D, .int .i64 L, .int .i64 R])] wr ∧
      Blk wr w4.heap.size 24 #[.int .i64 (redN (2000000 * D) (R * L) (prevP k)), .int .i64 (redD (2000000 * D) (R * L) (prevP k))] ∧ Fr (· = w4.heap.size) w4 wr) (fun pv _ => (101 - intOf pv).toNat)
  case atStart => exact ⟨1, by omega, by omega, rfl, hK4, HLAST, (Fr.refl _ _).alloc _⟩
  case round =>
    obtain ⟨k, hk1, hk2, rfl, hK, hB, hF⟩ := hrel
    by_cases hk : k ≤ 100
    · obtain ⟨l1, l2, l3, l4⟩ := best_laws HOK.out HIB.out hk1 hk
      have hrd := redD_bd (p := (k : Int)) HOK.out ⟨by omega, by omega⟩
      have hcost := fun u => cost_a (p := (k : Int)) HOK.out ⟨by omega, by omega⟩ u
      have HNX : Hid (prevP (k + 1) = k) := by show prevP (k + 1) = k; unfold prevP; split <;> omega
      generalize hrn' : redN (2000000 * D) (R * L) (k : Int) = rn at *
      generalize hrd' : redD (2000000 * D) (R * L) (k : Int) = rd at *
      have HRN := Lib.hid hrn'
      have HRD := Lib.hid hrd'
      clear hrn' hrd'
      generalize redN (2000000 * D) (R * L) (b : Int) = bn at *
      generalize redD (2000000 * D) (R * L) (b : Int) = bd at *
      generalize redN (2000000 * D) (R * L) (prevP k : Int) = pn at *
      generalize redD (2000000 * D) (R * L) (prevP k : Int) = pd at *
      have e0 : (wr).cell? ⟨g7, 0, none⟩ = some (.int .i64 D) := hK.at_ (g := g7) (t := 30) (cs := #[.int .i64 D, .int .i64 L, .int .i64 R]) (by simp) 0
      have e1 : (wr).cell? ⟨g7, 1, none⟩ = some (.int .i64 L) := hK.at_ (g := g7) (t := 30) (cs := #[.int .i64 D, .int .i64 L, .int .i64 R]) (by simp) 1
      have e2 : (wr).cell? ⟨g7, 2, none⟩ = some (.int .i64 R) := hK.at_ (g := g7) (t := 30) (cs := #[.int .i64 D, .int .i64 L, .int .i64 R]) (by simp) 2
      go_wp2_with fail
      refine (hcost _).mono ?_
      rintro e w5 ⟨rfl, hf5⟩
      clear hcost e0 e1 e2
      have hK5 := ((hK.pu hf5).new 24 #[.int .i64 rn, .int .i64 rd])
      have hB5 := (hf5.blk hB (fun t => t)).alloc (.cells #[.int .i64 rn, .int .i64 rd] 24)
      have HS : Hid (∀ u, Pu (w5.alloc (.cells #[.int .i64 rn, .int .i64 rd] 24)) u → u.cell? ⟨w5.heap.size, 0, none⟩ = some (.int .i64 rn) ∧ u.cell? ⟨w5.heap.size, 1, none⟩ = some (.int .i64 rd) ∧ u.cell? ⟨g10, 0, none⟩ = some (.int .i64 bn) ∧ u.cell? ⟨g10, 1, none⟩ = some (.int .i64 bd) ∧ u.cell? ⟨w4.heap.size, 0, none⟩ = some (.int .i64 pn) ∧ u.cell? ⟨w4.heap.size, 1, none⟩ = some (.int .i64 pd) ∧ u.frozen? ⟨w4.heap.size, 0, none⟩ = false ∧ u.frozen? ⟨w4.heap.size, 1, none⟩ = false) := fun u hu =>
        ⟨(hK5.pu hu).at_ (t := 24) (cs := #[.int .i64 rn, .int .i64 rd]) (by simp) 0, (hK5.pu hu).at_ (t := 24) (cs := #[.int .i64 rn, .int .i64 rd]) (by simp) 1, (hK5.pu hu).at_ (t := 24) (cs := #[.int .i64 bn, .int .i64 bd]) (by simp) 0, (hK5.pu hu).at_ (t := 24) (cs := #[.int .i64 bn, .int .i64 bd]) (by simp) 1, (hu.blk hB5 (fun t => t)).cell 0, (hu.blk hB5 (fun t => t)).cell 1, (hu.blk hB5 (fun t => t)).frozen 0, (hu.blk hB5 (fun t => t)).frozen 1⟩
      have hP : Pu (w5.alloc (.cells #[.int .i64 rn, .int .i64 rd] 24)) (w5.alloc (.cells #[.int .i64 rn, .int .i64 rd] 24)) := Fr.refl _ _
      obtain ⟨c0, c1, c2, c3, c4, c5, f0, f1⟩ := HS.out _ hP
      have HF5 := (hF.pu hf5).alloc (.cells #[.int .i64 rn, .int .i64 rd] 24)
      have hne : w4.heap.size ≠ w5.heap.size := by have := (hf5.blk hB (fun t => t)).lt; omega
      clear hf5 hB hK hF
      rcases Nat.lt_trichotomy k b with hkb | hkb | hkb
      · have l2 := l2 hkb
        have l3 := l3 (by omega)
        clear l4
        go_wp2_with (go_at_call 8; refine (less_a _ _ _ _ _).mono ?_; rintro e u ⟨rfl, hf⟩; have hP := hP.pu hf; obtain ⟨c0, c1, c2, c3, c4, c5, f0, f1⟩ := HS.out _ hP)
        go_roundw
        case rel =>
          refine ⟨k + 1, by omega, by omega, by go_num, ?_, ?_, ?_⟩
          · exact (((hK5.pu hP).more (by simp)).set_ (p := ⟨w4.heap.size, 0, none⟩) (by simp; omega) _).set_ (p := ⟨w4.heap.size, 1, none⟩) (by simp; omega) _
          · have hB6 := ((hP.blk hB5 (fun t => t)).set_ 0 (.int .i64 rn)).set_ 1 (.int .i64 rd)
            rw [HNX.out, HRN.out, HRD.out]; simpa using hB6
          · exact ((HF5.pu hP).setCell (.inl rfl) _).setCell (.inl rfl) _
        case measure => simp [intOf]; omega
      · have l3 := l3 (by omega)
        clear l2 l4
        go_wp2_with (go_at_call 8; refine (less_a _ _ _ _ _).mono ?_; rintro e u ⟨rfl, hf⟩; have hP := hP.pu hf; obtain ⟨c0, c1, c2, c3, c4, c5, f0, f1⟩ := HS.out _ hP)
        go_roundw
        case rel =>
          refine ⟨k + 1, by omega, by omega, by go_num, ?_, ?_, ?_⟩
          · exact (((hK5.pu hP).more (by simp)).set_ (p := ⟨w4.heap.size, 0, none⟩) (by simp; omega) _).set_ (p := ⟨w4.heap.size, 1, none⟩) (by simp; omega) _
          · have hB6 := ((hP.blk hB5 (fun t => t)).set_ 0 (.int .i64 rn)).set_ 1 (.int .i64 rd)
            rw [HNX.out, HRN.out, HRD.out]; simpa using hB6
          · exact ((HF5.pu hP).setCell (.inl rfl) _).setCell (.inl rfl) _
        case measure => simp [intOf]; omega
      · have l4 := l4 hkb
        clear l2 l3
        go_wp2_with (go_at_call 8; refine (less_a _ _ _ _ _).mono ?_; rintro e u ⟨rfl, hf⟩; have hP := hP.pu hf; obtain ⟨c0, c1, c2, c3, c4, c5, f0, f1⟩ := HS.out _ hP)
        go_roundw
        case rel =>
          refine ⟨k + 1, by omega, by omega, by go_num, ?_, ?_, ?_⟩
          · exact (((hK5.pu hP).more (by simp)).set_ (p := ⟨w4.heap.size, 0, none⟩) (by simp; omega) _).set_ (p := ⟨w4.heap.size, 1, none⟩) (by simp; omega) _
          · have hB6 := ((hP.blk hB5 (fun t => t)).set_ 0 (.int .i64 rn)).set_ 1 (.int .i64 rd)
            rw [HNX.out, HRN.out, HRD.out]; simpa using hB6
          · exact ((HF5.pu hP).setCell (.inl rfl) _).setCell (.inl rfl) _
        case measure => simp [intOf]; omega
    · go_wp2_with fail
      refine (awake_any _).mono ?_
      rintro e w5 ⟨rfl, hf5⟩
      go_wp2_with fail
      go_ret
      exact ⟨rfl, (HF4.then hF (fun i hi e => by have := HF4.size; omega)).pu hf5⟩
end Go.Proofs.Ytckppibhnedmmaa
