/- RegionCounts: the walk. -/
import Derived.Test.YtgjmndpkjenchaaReg4
import Derived.Test.YtgjmndpkjenchaaOpen
namespace Go.Proofs.Ytgjmndpkjenchaa
open Go.RowKit

/-- what the last place was -/
def LastOK (xs : List Int) (k : Nat) (lr lo : Int) : Prop := (k = 0 ∧ lr = -1) ∨ ∃ k', k = k' + 1 ∧ ∃ (r : Nat) (o : Int), place xs k' = some (r, o) ∧ lr = r ∧ lo = o
theorem LastOK.cases {xs : List Int} (hv : VSizes xs) {k : Nat} {lr lo : Int} (h : LastOK xs k lr lo) {r : Nat} {o : Int} (hp : place xs k = some (r, o)) :
    lr ≤ r ∧ (((r : Int) == lr) = false ∨ (((r : Int) == lr) = true ∧ 0 ≤ lo ∧ lo ≤ 100 ∧ (o != lo + 1) = false)) := by
  rcases h with ⟨rfl, rfl⟩ | ⟨k', rfl, r', o', hp', rfl, rfl⟩
  · exact ⟨by omega, .inl (by simp)⟩
  · obtain ⟨_, hr', h0, h1, _⟩ := place_spec hp'
    have hx := hv.2.2 _ (List.getElem_mem hr')
    rcases place_step hv hp' (by rw [← hp]; congr 1) with h | ⟨rfl, rfl⟩
    · exact ⟨by omega, .inl (by simp; omega)⟩
    · exact ⟨by omega, .inr ⟨by simp, by omega, by omega, by simp⟩⟩

set_option maxHeartbeats 1000000 in
theorem walk_RegionCounts (A : Option Addr) (n c : Nat) (z : List Int) (w : World) (hz : IsInts .i64 w A n c z) :
    Calls Try.prog 4 #[.slice A n c] w fun e w' => e = .returned (.bool true) ∧ Pu w w' := by
  obtain ⟨rfl, hnc, hc, hrd, hwf⟩ := hz
  go_enter Try.func4, Try.ntmps4
  go_wp2_with fail
  refine (mkNew A c z w hrd (fun x hx => wf_I64 (hwf x hx)) (by omega)).mono ?_
  rintro e w1 ⟨rfl, hd1, he1⟩
  have hF1 : Pu w w1 := by rw [he1]; exact (Fr.refl _ w).alloc _
  clear he1
  go_wp2_with fail
  refine (mkSizes w.heap.size w1 hd1).mono ?_
  rintro e w2 ⟨v, xs, rfl, hv, hown2, hd2, hf2⟩
  have hF2 : Pu w w2 := hF1.then hf2 (fun i hi e => by omega)
  obtain ⟨A2, c2, rfl, hc2⟩ := own_form hown2
  have hr2 := Rd.of_own hown2
  clear hown2 hf2 hd2 hd1 hF1
  have hT := sum_bd xs hv.2.2
  have hl4 := hv.2.1
  have ht := total_p A2 xs.length c2 xs w2.heap.size w2 rfl (by omega) hr2
  rw [sumW_eq hv] at ht
  go_wp2_with fail
  refine ht.mono ?_
  rintro e w3 ⟨rfl, rfl⟩
  clear ht
  go_wp2_with fail
  go_loopw [20] (fun i wr => ∃ (k : Nat) (lr lo : Int), i = .int .i64 k ∧ (k : Int) ≤ xs.sum ∧ Hid (LastOK xs k lr lo) ∧ Blk wr w2.heap.size 33 #[.int .i64 lr, .int .i64 lo] ∧ Fr (· = w2.heap.size) w2 wr)
    (fun i _ => (xs.sum - intOf i).toNat)
  case atStart => exact ⟨0, -1, 0, rfl, by omega, .inl ⟨rfl, rfl⟩, Blk.new _ _ _, (Fr.refl _ _).alloc _⟩
  case round =>
    obtain ⟨k, lr, lo, rfl, hk, HL, hb, hF⟩ := hrel
    have hrr : Rd wr w2.heap.size A2 (ints xs) := hF.rd hr2 (Nat.le_refl _) (fun i hi e => by omega)
    have hlt := hb.lt
    by_cases hkT : (k : Int) < xs.sum
    · obtain ⟨r, o, hp⟩ := place_some (by omega) hkT
      obtain ⟨_, hr, ho0, ho1, hix⟩ := place_spec hp
      have hx := hv.2.2 _ (List.getElem_mem hr)
      have hin := inside_spec hr ho0 ho1
      have hat := at_p A2 xs.length c2 xs k w2.heap.size wr rfl hv ⟨by omega, by omega⟩ (by omega) hrr
      rw [hp] at hat
      have HN : Hid (LastOK xs (k + 1) r o) := .inr ⟨k, rfl, r, o, hp, rfl, rfl⟩
      obtain ⟨hlr, hcase⟩ := LastOK.cases hv HL.out hp
      clear hp HL
      go_wp2_with fail
      refine hat.mono ?_
      rintro e w3 ⟨he, hf3⟩
      obtain rfl : e = .returned (.tuple #[.agg #[.int .i64 r, .int .i64 o], .int .i64 0]) := he
      clear hat
      have hb3 := hf3.blk hb (fun t => t)
      have hz3 := hf3.size
      have hix3 := index_p A2 xs.length c2 xs r o w2.heap.size (w3.alloc (.cells #[.int .i64 (r : Int), .int .i64 o] 33)) rfl hc2 hv (by simp; omega) ((hf3.rd hrr (by omega) (fun _ _ t => t)).alloc (by omega) _)
      rw [hin, hix] at hix3
      go_wp2_with fail
      refine hix3.mono ?_
      rintro e w4 ⟨rfl, hf4⟩
      clear hix3
      have hp4 : Blk w4 w3.heap.size 33 #[.int .i64 r, .int .i64 o] := hf4.blk (Blk.new _ _ _) (fun t => t)
      have hb4 := hf4.blk (hb3.alloc (.cells #[.int .i64 (r : Int), .int .i64 o] 33)) (fun t => t)
      have hF4 : Fr (· = w2.heap.size) w2 w4 := ((hF.pu hf3).alloc _).pu hf4
      have hr4 : Rd w4 w2.heap.size A2 (ints xs) := hF4.rd hr2 (Nat.le_refl _) (fun i hi e => by omega)
      have c70 : w4.cell? ⟨w3.heap.size, 0, none⟩ = some (.int .i64 r) := hp4.cell 0
      have c71 : w4.cell? ⟨w3.heap.size, 1, none⟩ = some (.int .i64 o) := hp4.cell 1
      have c50 : w4.cell? ⟨w2.heap.size, 0, none⟩ = some (.int .i64 lr) := hb4.cell 0
      have c51 : w4.cell? ⟨w2.heap.size, 1, none⟩ = some (.int .i64 lo) := hb4.cell 1
      have hin4 := inside_p A2 xs.length c2 xs r o w2.heap.size w4 rfl (by have := hF4.size; omega) (by omega) hr4
      rw [hin] at hin4
      have hne : w3.heap.size ≠ w2.heap.size := by omega
      clear hp4 hb3 hb hF hrr hf3 hf4 hin hix ho1 hr4
      rcases hcase with hc1 | ⟨hc1, hc2', hc3, hc4⟩
      · go_wp2_with fail
        refine hin4.mono ?_
        rintro e w5 ⟨rfl, hf5⟩
        clear hin4
        have c70 := hf5.cell c70 (fun t => t)
        have c71 := hf5.cell c71 (fun t => t)
        have hb5 := hf5.blk hb4 (fun t => t)
        have c50 : w5.cell? ⟨w2.heap.size, 0, none⟩ = some (.int .i64 lr) := hb5.cell 0
        have c51 : w5.cell? ⟨w2.heap.size, 1, none⟩ = some (.int .i64 lo) := hb5.cell 1
        have f0 := hb5.frozen 0
        have f1 := hb5.frozen 1
        go_wp2_with fail
        go_roundw
        case rel => exact ⟨k + 1, r, o, by go_num, by omega, HN, (hb5.set_ 0 _).set_ 1 _, ((hF4.pu hf5).setCell (.inl rfl) _).setCell (.inl rfl) _⟩
        case measure => simp [intOf]; omega
      · go_wp2_with fail
        refine hin4.mono ?_
        rintro e w5 ⟨rfl, hf5⟩
        clear hin4
        have c70 := hf5.cell c70 (fun t => t)
        have c71 := hf5.cell c71 (fun t => t)
        have hb5 := hf5.blk hb4 (fun t => t)
        have c50 : w5.cell? ⟨w2.heap.size, 0, none⟩ = some (.int .i64 lr) := hb5.cell 0
        have c51 : w5.cell? ⟨w2.heap.size, 1, none⟩ = some (.int .i64 lo) := hb5.cell 1
        have f0 := hb5.frozen 0
        have f1 := hb5.frozen 1
        go_wp2_with fail
        go_roundw
        case rel => exact ⟨k + 1, r, o, by go_num, by omega, HN, (hb5.set_ 0 _).set_ 1 _, ((hF4.pu hf5).setCell (.inl rfl) _).setCell (.inl rfl) _⟩
        case measure => simp [intOf]; omega
    · have hkT' : (k : Int) = xs.sum := by omega
      have hpn : place xs xs.sum = none := place_none hv (.inr (Int.le_refl _))
      have hat := at_p A2 xs.length c2 xs xs.sum w2.heap.size wr rfl hv ⟨by omega, by omega⟩ (by omega) hrr
      rw [hpn] at hat
      clear hpn hkT' hb HL
      go_wp2_with fail
      refine hat.mono ?_
      rintro e w3 ⟨he, hf3⟩
      obtain rfl : e = .returned (.tuple #[.agg #[.int .i64 0, .int .i64 0], .int .i64 6]) := he
      clear hat
      have hF3 : Fr (· = w2.heap.size) w2 w3 := hF.pu hf3
      have ht := total_r A2 xs.length c2 xs w2.heap.size (w3.alloc (.cells #[.int .i64 0, .int .i64 0] 33)) rfl (by omega) ((hF3.rd hr2 (Nat.le_refl _) (fun i hi e => by omega)).alloc (by have := hF3.size; omega) _)
      rw [sumW_eq hv] at ht
      go_wp2_with fail
      refine ht.mono ?_
      rintro e w4 ⟨rfl, rfl⟩
      clear ht
      go_wp2_with fail
      refine (awake_any _).mono ?_
      rintro e w4 ⟨rfl, hf4⟩
      go_wp2_with fail
      go_ret
      exact ⟨rfl, ((hF2.then hF3 (fun i hi e => by have := hF2.size; omega)).alloc _).pu hf4⟩
end Go.Proofs.Ytgjmndpkjenchaa
