/- RegionInside: the walk. -/
import Derived.Test.YtgjmndpkjenchaaPages
import Derived.Deep.RegionHeld3
namespace Go.Proofs.Ytgjmndpkjenchaa
open Go.RowKit

/-- what the deck and the sizes are, in every world that follows -/
def DS (w0 : World) (g : Nat) (A : Option Addr) (xs : List Int) (w : World) : Prop := DeckOK w g ∧ Fr (· = g) w0 w ∧ Rd w w0.heap.size A (ints xs)

theorem DS.drew {w0 w : World} {g : Nat} {A : Option Addr} {xs : List Int} (h : DS w0 g A xs w) : DS w0 g A xs w.drew := ⟨h.1, h.2.1.drew, h.2.2⟩
/-- three places as they lie in a row -/
theorem three_places {W : World} {g : Nat} {T : TypeId} {a0 b0 a1 b1 a2 b2 : Int} (HB : Blk W g T #[.int .i64 a0, .int .i64 b0, .int .i64 a1, .int .i64 b1, .int .i64 a2, .int .i64 b2]) :
    ∀ k, k < 3 → ∃ a b : Int, W.cell? ⟨g, k * 2, none⟩ = some (.int .i64 a) ∧ W.cell? ⟨g, k * 2 + 1, none⟩ = some (.int .i64 b) := fun k hk => by
  rcases (by omega : k = 0 ∨ k = 1 ∨ k = 2) with rfl | rfl | rfl
  · exact ⟨a0, b0, HB.cell 0, HB.cell 1⟩
  · exact ⟨a1, b1, HB.cell 2, HB.cell 3⟩
  · exact ⟨a2, b2, HB.cell 4, HB.cell 5⟩
theorem index_bd {xs : List Int} (hv : VSizes xs) {r o : Int} (h : insideB xs r o = true) : 0 ≤ indexS xs r o ∧ indexS xs r o < xs.sum := by
  obtain ⟨h1, h2, h3, h4⟩ := of_decide_eq_true h
  obtain ⟨k, rfl⟩ := Int.eq_ofNat_of_zero_le h1
  have hk : k < xs.length := by omega
  have e : xs.getD (k : Int).toNat 0 = xs[k] := by simp [List.getD, hk]
  rw [e] at h4
  have hx : ∀ x ∈ xs, 0 ≤ x := fun x hx => by have := hv.2.2 x hx; omega
  have hn : 0 ≤ (xs.take k).sum := sum_nn _ fun y hy => hx y (List.mem_of_mem_take hy)
  have hm := take_mono hx (r := xs.length) hk hk
  rw [List.take_of_length_le (Nat.le_refl _)] at hm
  unfold indexS
  simp only [Int.toNat_natCast]
  omega

set_option maxHeartbeats 4000000 in
theorem walk_RegionInside (A : Option Addr) (n c : Nat) (z : List Int) (pr po i : Int) (w : World) (hz : IsInts .i64 w A n c z) (_hp : (Lit.int .i64 pr).wf = true ∧ (Lit.int .i64 po).wf = true) (hi : (Lit.int .i64 i).wf = true) :
    Calls Try.prog 5 #[.slice A n c, .agg #[.int .i64 pr, .int .i64 po], .int .i64 i] w fun e w' => e = .returned (.bool true) ∧ Pu w w' := by
  obtain ⟨rfl, hnc, hc, hrd, hwf⟩ := hz
  have hi64 := wf_I64 hi
  go_enter Try.func5, Try.ntmps5
  go_wp2_with fail
  refine (mkNew A c z (w.alloc (.cells #[.int .i64 pr, .int .i64 po] 33)) ((hrd.alloc (Nat.le_refl _) _).more (by simp)) (fun x hx => wf_I64 (hwf x hx)) (by omega)).mono ?_
  rintro e w1 ⟨rfl, hd1, he1⟩
  have hF1 : Pu w w1 := by rw [he1]; exact ((Fr.refl _ w).alloc _).alloc _
  have hB1 : Blk w1 w.heap.size 33 #[.int .i64 pr, .int .i64 po] := by rw [he1]; exact (Blk.new _ _ _).alloc _
  clear he1
  simp only [World.size_alloc] at *
  go_wp2_with fail
  refine (mkSizes (w.heap.size + 1) w1 hd1).mono ?_
  rintro e w2 ⟨v, xs, rfl, hv, hown2, hd2, hf2⟩
  have hF2 : Pu w w2 := hF1.then hf2 (fun i hi e => by omega)
  have hB2 := hf2.blk hB1 (by omega)
  obtain ⟨A2, c2, rfl, hc2⟩ := own_form hown2
  have hr2 := Rd.of_own hown2
  have hS2 : ∀ b off, A2 = some ⟨b, off, none⟩ → b ≠ w.heap.size + 1 := fun b off e => by
    have := hown2.lt b (by rw [e]; rfl)
    have := hd1.lt
    omega
  clear hown2 hf2 hd1 hF1
  have hT := sum_bd xs hv.2.2
  have hl4 := hv.2.1
  have hDS : DS w2 (w.heap.size + 1) A2 xs w2 := ⟨hd2, Fr.refl _ _, hr2⟩
  have c40 : w2.cell? ⟨w.heap.size, 0, none⟩ = some (.int .i64 pr) := hB2.cell 0
  have c41 : w2.cell? ⟨w.heap.size, 1, none⟩ = some (.int .i64 po) := hB2.cell 1
  have hpl : ∀ wx, DS w2 (w.heap.size + 1) A2 xs wx → Calls Try.prog 21 #[.pointer (some ⟨w.heap.size + 1, 0, none⟩), .slice A2 xs.length c2] wx fun e w' =>
      ∃ a b : Int, e = .returned (.agg #[.int .i64 a, .int .i64 b]) ∧ DS w2 (w.heap.size + 1) A2 xs w' := fun wx ⟨h1, h2, h3⟩ =>
    (mkPlace _ A2 xs.length c2 xs wx h1 rfl hv (h3.more h2.size) hS2).mono fun e w' ⟨a, b, h4, _, _, h5, h6⟩ =>
      ⟨a, b, h4, h5, h2.trans h6, (h2.trans h6).rd_ne hr2 hS2⟩
  go_wp2_with fail
  have tok1 : True := trivial
  go_region_held3 (fun w' => w'.cell? ⟨w.heap.size, 0, none⟩ = some (.int .i64 pr) ∧ w'.cell? ⟨w.heap.size, 1, none⟩ = some (.int .i64 po)) (first | exact ⟨c40, c41⟩ | exact ⟨by assumption, by assumption⟩ | exact ⟨cell_alloc (by assumption), cell_alloc (by assumption)⟩)
    (first | (go_at_call 21; clear tok1; refine (hpl _ hDS.drew).mono ?_; rintro e w3 ⟨a1, b1, rfl, hD3⟩; have q1 := hD3.2.1.cl c40 (by omega); have q2 := hD3.2.1.cl c41 (by omega)) | (go_at_call 21; refine (hpl _ hD3).mono ?_; rintro e w4 ⟨a2, b2, rfl, hD4⟩; have q3 := hD4.2.1.cl c40 (by omega); have q4 := hD4.2.1.cl c41 (by omega)))
  go_wp2_with fail
  obtain ⟨hd4, hF4, hr4⟩ := hD4
  have HB := three_places (Blk.new w4 33 #[.int .i64 pr, .int .i64 po, .int .i64 a1, .int .i64 b1, .int .i64 a2, .int .i64 b2])
  have HF : Pu w (w4.alloc (.cells #[.int .i64 pr, .int .i64 po, .int .i64 a1, .int .i64 b1, .int .i64 a2, .int .i64 b2] 33)) := (hF2.then hF4 (fun i hi e => by omega)).alloc _
  have HR := hr4.alloc (hF4.size) (.cells #[.int .i64 pr, .int .i64 po, .int .i64 a1, .int .i64 b1, .int .i64 a2, .int .i64 b2] 33)
  have hz4 : w2.heap.size ≤ w4.heap.size := hF4.size
  clear hd4 hF4 hr4 hD3 q1 q2 q3 q4 c40 c41 hDS hpl hB2 hd2
  have hzW : w4.heap.size < (w4.alloc (.cells #[.int .i64 pr, .int .i64 po, .int .i64 a1, .int .i64 b1, .int .i64 a2, .int .i64 b2] 33)).heap.size := by simp
  generalize w4.alloc (.cells #[.int .i64 pr, .int .i64 po, .int .i64 a1, .int .i64 b1, .int .i64 a2, .int .i64 b2] 33) = W at *
  go_loopw [28] (fun iv wr => ∃ k : Nat, iv = .int .i64 k ∧ k ≤ 3 ∧ Pu W wr) (fun iv _ => 3 - (intOf iv).toNat)
  case atStart => exact ⟨0, rfl, by omega, Fr.refl _ _⟩
  case round =>
    obtain ⟨k, rfl, hk, hF⟩ := hrel
    have hsz := hF.size
    have hrr : Rd wr w2.heap.size A2 (ints xs) := hF.rd HR (by omega) (fun _ _ t => t)
    by_cases hk3 : k < 3
    · obtain ⟨a, b, ca, cb⟩ := HB k hk3
      have ca := hF.cl ca (fun t => t)
      have cb := hF.cl cb (fun t => t)
      rcases Bool.eq_false_or_eq_true (insideB xs a b) with hin | hin
      · have hi5 := index_p A2 xs.length c2 xs a b w2.heap.size (wr.alloc (.cells #[.int .i64 a, .int .i64 b] 33)) rfl hc2 hv (by simp; omega) (hrr.alloc (by omega) _)
        rw [hin] at hi5
        obtain ⟨hb0, hb1⟩ := index_bd hv hin
        have hsw : sumW xs = xs.sum := sumW_eq hv
        have hs2 : indexS xs a b < sumW xs := by rw [hsw]; exact hb1
        clear hsw
        go_wp2_with fail
        refine hi5.mono ?_
        rintro e w5 ⟨he, hf5⟩
        obtain rfl : e = .returned (.tuple #[.int .i64 (indexS xs a b), .int .i64 0]) := he
        clear hi5
        have hB5 : Blk w5 wr.heap.size 33 #[.int .i64 a, .int .i64 b] := hf5.blk (Blk.new _ _ _) (fun t => t)
        have c50 : w5.cell? ⟨wr.heap.size, 0, none⟩ = some (.int .i64 a) := hB5.cell 0
        have c51 : w5.cell? ⟨wr.heap.size, 1, none⟩ = some (.int .i64 b) := hB5.cell 1
        have hF5 : Pu W w5 := (hF.alloc _).pu hf5
        have hz5 := hf5.size
        simp only [World.size_alloc] at hz5
        have hr5 : Rd w5 w2.heap.size A2 (ints xs) := hF5.rd HR (by omega) (fun _ _ t => t)
        have hin5 := inside_p A2 xs.length c2 xs a b w2.heap.size w5 rfl (by omega) (by omega) hr5
        rw [hin] at hin5
        clear hin
        go_wp2_with fail
        refine hin5.mono ?_
        rintro e w6 ⟨rfl, hf6⟩
        clear hin5
        have hF6 : Pu W w6 := hF5.pu hf6
        have hr6 : Rd w6 w2.heap.size A2 (ints xs) := hF6.rd HR (by omega) (fun _ _ t => t)
        go_wp2_with (go_at_call 14; refine (total_p A2 xs.length c2 xs _ _ rfl (by omega) hr6).mono ?_; rintro e w' ⟨rfl, rfl⟩)
        go_roundw
        case rel => exact ⟨k + 1, by go_num, by omega, hF6⟩
        case measure => simp [intOf]; omega
      · have hi5 := index_p A2 xs.length c2 xs a b w2.heap.size (wr.alloc (.cells #[.int .i64 a, .int .i64 b] 33)) rfl hc2 hv (by simp; omega) (hrr.alloc (by omega) _)
        rw [hin] at hi5
        go_wp2_with fail
        refine hi5.mono ?_
        rintro e w5 ⟨he, hf5⟩
        obtain rfl : e = .returned (.tuple #[.int .i64 0, .int .i64 6]) := he
        clear hi5
        have hB5 : Blk w5 wr.heap.size 33 #[.int .i64 a, .int .i64 b] := hf5.blk (Blk.new _ _ _) (fun t => t)
        have c50 : w5.cell? ⟨wr.heap.size, 0, none⟩ = some (.int .i64 a) := hB5.cell 0
        have c51 : w5.cell? ⟨wr.heap.size, 1, none⟩ = some (.int .i64 b) := hB5.cell 1
        have hF5 : Pu W w5 := (hF.alloc _).pu hf5
        have hz5 := hf5.size
        simp only [World.size_alloc] at hz5
        have hr5 : Rd w5 w2.heap.size A2 (ints xs) := hF5.rd HR (by omega) (fun _ _ t => t)
        have hin5 := inside_p A2 xs.length c2 xs a b w2.heap.size w5 rfl (by omega) (by omega) hr5
        rw [hin] at hin5
        clear hin
        go_wp2_with fail
        refine hin5.mono ?_
        rintro e w6 ⟨rfl, hf6⟩
        clear hin5
        have hF6 : Pu W w6 := hF5.pu hf6
        have hr6 : Rd w6 w2.heap.size A2 (ints xs) := hF6.rd HR (by omega) (fun _ _ t => t)
        go_wp2_with (go_at_call 14; refine (total_p A2 xs.length c2 xs _ _ rfl (by omega) hr6).mono ?_; rintro e w' ⟨rfl, rfl⟩)
        go_roundw
        case rel => exact ⟨k + 1, by go_num, by omega, hF6⟩
        case measure => simp [intOf]; omega
    · have hplb : ∃ o, place xs i = o := ⟨_, rfl⟩
      obtain ⟨o, ho⟩ := hplb
      have hat := at_p A2 xs.length c2 xs i w2.heap.size wr rfl hv hi64 (by omega) hrr
      have hsw : sumW xs = xs.sum := sumW_eq hv
      by_cases hneg : 0 ≤ i
      · by_cases hbig : i < xs.sum
        · obtain ⟨r, q, hrq⟩ := place_some hneg hbig
          rw [hrq] at hat
          have hbig2 : i < sumW xs := by rw [hsw]; exact hbig
          clear hsw ho hrq
          go_wp2_with fail
          refine hat.mono ?_
          rintro e w5 ⟨he, hf5⟩
          obtain rfl : e = .returned (.tuple #[.agg #[.int .i64 r, .int .i64 q], .int .i64 0]) := he
          clear hat
          have hF5 : Pu W w5 := hF.pu hf5
          have hr5 : Rd w5 w2.heap.size A2 (ints xs) := hF5.rd HR (by omega) (fun _ _ t => t)
          have hz5 := hF5.size
          go_wp2_with (first | (go_at_call 14; refine (total_p A2 xs.length c2 xs w2.heap.size _ rfl (by omega) (hr5.alloc (by omega) _)).mono ?_; rintro e w' ⟨rfl, rfl⟩) | (go_at_call 8; refine (awake_any _).mono ?_; rintro e w' ⟨rfl, hf6⟩))
          go_ret
          exact ⟨rfl, ((HF.pu hF5).alloc _).pu (by assumption)⟩
        · have hpn := place_none hv (i := i) (.inr (by omega))
          rw [hpn] at hat
          have hbig2 : decide (i < sumW xs) = false := by rw [hsw]; simpa using hbig
          clear hsw ho hpn
          go_wp2_with fail
          refine hat.mono ?_
          rintro e w5 ⟨he, hf5⟩
          obtain rfl : e = .returned (.tuple #[.agg #[.int .i64 0, .int .i64 0], .int .i64 6]) := he
          clear hat
          have hF5 : Pu W w5 := hF.pu hf5
          have hr5 : Rd w5 w2.heap.size A2 (ints xs) := hF5.rd HR (by omega) (fun _ _ t => t)
          have hz5 := hF5.size
          go_wp2_with (first | (go_at_call 14; refine (total_p A2 xs.length c2 xs w2.heap.size _ rfl (by omega) (hr5.alloc (by omega) _)).mono ?_; rintro e w' ⟨rfl, rfl⟩) | (go_at_call 8; refine (awake_any _).mono ?_; rintro e w' ⟨rfl, hf6⟩))
          go_ret
          exact ⟨rfl, ((HF.pu hF5).alloc _).pu (by assumption)⟩
      · have hpn := place_none hv (i := i) (.inl (by omega))
        rw [hpn] at hat
        clear hsw ho hpn
        go_wp2_with fail
        refine hat.mono ?_
        rintro e w5 ⟨he, hf5⟩
        obtain rfl : e = .returned (.tuple #[.agg #[.int .i64 0, .int .i64 0], .int .i64 6]) := he
        clear hat
        have hF5 : Pu W w5 := hF.pu hf5
        go_wp2_with (go_at_call 8; refine (awake_any _).mono ?_; rintro e w' ⟨rfl, hf6⟩)
        go_ret
        exact ⟨rfl, ((HF.pu hF5).alloc _).pu (by assumption)⟩
end Go.Proofs.Ytgjmndpkjenchaa
