/- The best period: of the program, of the reference. -/
import Derived.Test.YtmaikkanfhbiaaaPer4
namespace Go.Proofs.Ytmaikkanfhbiaaa
open Go.RowKit

/-- what is held before period k is looked at -/
def BestK (D L R : Int) (k b : Nat) (ln ld : Int) : Prop :=
  (k = 1 ∧ b = 0) ∨ ∃ j : Nat, k = j + 2 ∧ b = bestTo (2000000 * D) (R * L) j ∧ ln = redN (2000000 * D) (R * L) b ∧ ld = redD (2000000 * D) (R * L) b
theorem BestK.end_ {D L R ln ld : Int} {b : Nat} (h : BestK D L R 101 b ln ld) : b = bestTo (2000000 * D) (R * L) 99 := by
  rcases h with ⟨h, _⟩ | ⟨j, h, hb, _⟩
  · omega
  · obtain rfl : j = 99 := by omega
    exact hb

set_option maxHeartbeats 2000000 in
theorem best_p (D L R : Int) (w : World) :
    Calls Try.prog 14 #[.agg #[.int .i64 D, .int .i64 L, .int .i64 R]] w fun e w' => e = .returned (.tuple #[.int .i64 (bestV D L R), .int .i64 (errC [D, L, R])]) ∧ Pu w w' := by
  have hc := check_p D L R (w.alloc (.cells #[.int .i64 D, .int .i64 L, .int .i64 R] 44))
  have HB0 := Blk.new w 44 #[.int .i64 D, .int .i64 L, .int .i64 R]
  have HF0 : Pu w (w.alloc (.cells #[.int .i64 D, .int .i64 L, .int .i64 R] 44)) := (Fr.refl _ w).alloc _
  cases hok : okC [D, L, R] with
  | false =>
    have h1 : errC [D, L, R] = 1 := (errC_bad hok).symm
    have hV : bestV D L R = 0 := by simp [bestV, hok]
    rw [hV]
    rw [h1] at hc ⊢
    clear h1 hV hok
    go_enter Try.func14, Try.ntmps14
    go_wp2_with fail
    refine hc.mono ?_
    rintro e w1 ⟨rfl, hf⟩
    go_wp2_with fail
    go_ret2
    exact ⟨rfl, HF0.pu hf⟩
  | true =>
    have h1 : errC [D, L, R] = 0 := (errC_ok hok).symm
    have hV : bestV D L R = (bestTo (2000000 * D) (R * L) 99 : Nat) := by simp [bestV, hok]
    rw [hV]
    rw [h1] at hc ⊢
    have HOK := Lib.hid hok
    clear h1 hV hok
    go_enter Try.func14, Try.ntmps14
    go_wp2_with fail
    refine hc.mono ?_
    rintro e w1 ⟨rfl, hf⟩
    clear hc
    have HB1 := hf.blk HB0 (fun t => t)
    have HF1 : Pu w w1 := HF0.pu hf
    have hne : w.heap.size ≠ w1.heap.size := by have := HB1.lt; omega
    clear HB0 HF0 hf
    go_wp2_with fail
    go_loopw [5, 7] (fun bv kv wr => ∃ (k b : Nat) (ln ld : Int), 1 ≤ k ∧ k ≤ 101 ∧ kv = .int .i64 k ∧ bv = .int .i64 b ∧ Hid (BestK D L R k b ln ld) ∧ Blk wr w1.heap.size 31 #[.int .i64 ln, .int .i64 ld] ∧ Blk wr w.heap.size 44 #[.int .i64 D, .int .i64 L, .int .i64 R] ∧ Fr (· = w1.heap.size) w1 wr) (fun _ kv _ => (101 - intOf kv).toNat)
    case atStart => exact ⟨1, 0, 0, 0, by omega, by omega, rfl, rfl, .inl ⟨rfl, rfl⟩, Blk.new _ _ _, HB1.alloc _, (Fr.refl _ _).alloc _⟩
    case round =>
      obtain ⟨k, b, ln, ld, hk1, hk2, rfl, rfl, HK, hBl, hBc, hF⟩ := hrel
      by_cases hk : k ≤ 100
      · have hcost := fun u => cost_p D L R k u ⟨by omega, by omega⟩
        obtain ⟨e1, e2⟩ := cost_ok (p := (k : Int)) HOK.out ⟨by omega, by omega⟩
        rw [e1, e2] at hcost
        clear e1 e2
        have c0 : wr.cell? ⟨w.heap.size, 0, none⟩ = some (.int .i64 D) := hBc.cell 0
        have c1 : wr.cell? ⟨w.heap.size, 1, none⟩ = some (.int .i64 L) := hBc.cell 1
        have c2 : wr.cell? ⟨w.heap.size, 2, none⟩ = some (.int .i64 R) := hBc.cell 2
        unfold ratioV at hcost
        have hnx : (b = 0 ∧ k = 1) ∨ (1 ≤ b ∧ b ≤ 100 ∧ (∃ lb, lessS (redN (2000000 * D) (R * L) k) (redD (2000000 * D) (R * L) k) ln ld = lb ∧ Hid (BestK D L R (k + 1) (if lb then k else b) (if lb then redN (2000000 * D) (R * L) k else ln) (if lb then redD (2000000 * D) (R * L) k else ld)))) := by
          rcases HK.out with ⟨h1, h2⟩ | ⟨j, h1, h2, h3, h4⟩
          · exact .inl ⟨h2, h1⟩
          · have hbp := bestTo_pos (K := 2000000 * D) (M := R * L) j
            rw [← h2] at hbp
            refine .inr ⟨by omega, by omega, _, rfl, ?_⟩
            rw [h3, h4, lessS_red HOK.out ⟨by omega, by omega⟩ ⟨by omega, by omega⟩]
            refine .inr ⟨j + 1, by omega, ?_, ?_, ?_⟩
            · simp only [bestTo]
              rw [← h2, show ((j + 2 : Nat) : Int) = ((k : Nat) : Int) by omega, show j + 2 = k by omega]
            · split <;> rfl
            · split <;> rfl
        generalize hrn : redN (2000000 * D) (R * L) (k : Int) = rn at *
        generalize hrd : redD (2000000 * D) (R * L) (k : Int) = rd at *
        have HRN := Lib.hid hrn
        have HRD := Lib.hid hrd
        clear hrn hrd
        rcases hnx with ⟨rfl, rfl⟩ | ⟨hb1, hb2, lb, hlb, HN⟩
        · go_wp2_with fail
          refine (hcost _).mono ?_
          rintro e w3 ⟨rfl, hf3⟩
          clear hcost
          have hBl3 := hf3.blk hBl (fun t => t)
          have hBc3 := hf3.blk hBc (fun t => t)
          have hz := hBl3.lt
          have d0 : w3.cell? ⟨w1.heap.size, 0, none⟩ = some (.int .i64 ln) := hBl3.cell 0
          have d1 : w3.cell? ⟨w1.heap.size, 1, none⟩ = some (.int .i64 ld) := hBl3.cell 1
          have f0 := hBl3.frozen 0
          have f1 := hBl3.frozen 1
          go_wp2_with fail
          go_region
          all_goals
            go_wp2_with fail
            go_roundw
            case rel =>
              refine ⟨2, 1, rn, rd, by omega, by omega, rfl, rfl, .inr ⟨0, rfl, rfl, HRN.out.symm, HRD.out.symm⟩, ?_, ?_, ?_⟩
              · exact ((hBl3.set_ 0 _).set_ 1 _).alloc _
              · exact ((hBc3.far (p := ⟨w1.heap.size, 0, none⟩) hne _).far (p := ⟨w1.heap.size, 1, none⟩) hne _).alloc _
              · exact ((((hF.pu hf3).setCell (.inl rfl) _).setCell (.inl rfl) _).alloc _).drew
            case measure => simp [intOf]
        · have hls := fun u => less_p rn rd ln ld u
          unfold ratioV at hls
          rw [hlb] at hls
          clear hlb
          cases lb with
          | true =>
            go_wp2_with fail
            refine (hcost _).mono ?_
            rintro e w3 ⟨rfl, hf3⟩
            clear hcost
            have hBl3 := (hf3.blk hBl (fun t => t)).alloc (.cells #[.int .i64 rn, .int .i64 rd] 31)
            have hBc3 := (hf3.blk hBc (fun t => t)).alloc (.cells #[.int .i64 rn, .int .i64 rd] 31)
            have hB8 := Blk.new w3 31 #[.int .i64 rn, .int .i64 rd]
            have g0 := (hf3.blk hBl (fun t => t)).cell 0
            have g1 := (hf3.blk hBl (fun t => t)).cell 1
            have gz := (hf3.blk hBl (fun t => t)).lt
            go_wp2_with fail
            refine (hls _).mono ?_
            rintro e w4 ⟨rfl, hf4⟩
            clear hls
            have hBl4 := hf4.blk hBl3 (fun t => t)
            have hBc4 := hf4.blk hBc3 (fun t => t)
            have hB84 := hf4.blk hB8 (fun t => t)
            have d0 : w4.cell? ⟨w1.heap.size, 0, none⟩ = some (.int .i64 ln) := hBl4.cell 0
            have d1 : w4.cell? ⟨w1.heap.size, 1, none⟩ = some (.int .i64 ld) := hBl4.cell 1
            have d2 : w4.cell? ⟨w3.heap.size, 0, none⟩ = some (.int .i64 rn) := hB84.cell 0
            have d3 : w4.cell? ⟨w3.heap.size, 1, none⟩ = some (.int .i64 rd) := hB84.cell 1
            have f0 := hBl4.frozen 0
            have f1 := hBl4.frozen 1
            go_wp2_with fail
            go_region
            all_goals
              go_wp2_with fail
              go_roundw
              case rel =>
                refine ⟨k + 1, k, rn, rd, by omega, by omega, by go_num, rfl, HN.out, ?_, ?_, ?_⟩
                · exact (hBl4.set_ 0 _).set_ 1 _
                · exact (hBc4.far (p := ⟨w1.heap.size, 0, none⟩) hne _).far (p := ⟨w1.heap.size, 1, none⟩) hne _
                · exact (((((hF.pu hf3).alloc _).pu hf4).setCell (.inl rfl) _).setCell (.inl rfl) _).drew
              case measure => simp [intOf]; omega
          | false =>
            go_wp2_with fail
            refine (hcost _).mono ?_
            rintro e w3 ⟨rfl, hf3⟩
            clear hcost
            have hBl3 := (hf3.blk hBl (fun t => t)).alloc (.cells #[.int .i64 rn, .int .i64 rd] 31)
            have hBc3 := (hf3.blk hBc (fun t => t)).alloc (.cells #[.int .i64 rn, .int .i64 rd] 31)
            have g0 := (hf3.blk hBl (fun t => t)).cell 0
            have g1 := (hf3.blk hBl (fun t => t)).cell 1
            have gz := (hf3.blk hBl (fun t => t)).lt
            go_wp2_with fail
            refine (hls _).mono ?_
            rintro e w4 ⟨rfl, hf4⟩
            clear hls
            have hBl4 := hf4.blk hBl3 (fun t => t)
            have hBc4 := hf4.blk hBc3 (fun t => t)
            go_wp2_with fail
            go_roundw
            case rel => exact ⟨k + 1, b, ln, ld, by omega, by omega, by go_num, rfl, HN.out, hBl4, hBc4, ((hF.pu hf3).alloc _).pu hf4⟩
            case measure => simp [intOf]; omega
      · have hk101 : k = 101 := by omega
        subst hk101
        have HE := Lib.hid HK.out.end_
        go_wp2_with fail
        go_ret2
        refine ⟨?_, HF1.then hF (fun i hi e => by have := HF1.size; omega)⟩
        show Ending.returned (.tuple #[.int .i64 _, .int .i64 _]) = _
        rw [HE.out]

end Go.Proofs.Ytmaikkanfhbiaaa
