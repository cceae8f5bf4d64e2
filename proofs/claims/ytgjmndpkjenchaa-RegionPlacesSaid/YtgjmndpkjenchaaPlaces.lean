/- RegionPlaces: the walk. -/
import Derived.Test.YtgjmndpkjenchaaInside
namespace Go.Proofs.Ytgjmndpkjenchaa
open Go.RowKit

theorem pageS_len {xs : List Int} (i : Int) : ((pageS xs i).getD []).length ≤ 8 := by
  unfold pageS
  cases hp : place (xs.map pageN) i with
  | none => simp
  | some p =>
    obtain ⟨r, j⟩ := p
    obtain ⟨_, hr, h0, h1, _⟩ := place_spec hp
    have hr' : r < xs.length := by simpa using hr
    have e : xs.getD r 0 = xs[r] := by simp [List.getD, hr']
    simp only [Option.map_some, Option.getD_some, pageL_len, e]
    exact (pageLen_eq (by simpa using h1)).2
theorem placeE_int (o : Option (Nat × Int)) : ∃ x : Int, placeE o = .int .i64 x := by cases o <;> exact ⟨_, rfl⟩
theorem errOf_int {α : Type} (o : Option α) : ∃ x : Int, errOf o = .int .i64 x := by cases o <;> exact ⟨_, rfl⟩
theorem three_ints {W : World} {g : Nat} {T : TypeId} {a b c : Int} (HB : Blk W g T #[.int .i64 a, .int .i64 b, .int .i64 c]) (ha : I64 a) (hb : I64 b) (hc : I64 c) :
    ∀ k, k < 3 → ∃ x : Int, W.cell? ⟨g, k, none⟩ = some (.int .i64 x) ∧ I64 x := fun k hk => by
  rcases (by omega : k = 0 ∨ k = 1 ∨ k = 2) with rfl | rfl | rfl
  · exact ⟨a, HB.cell 0, ha⟩
  · exact ⟨b, HB.cell 1, hb⟩
  · exact ⟨c, HB.cell 2, hc⟩

set_option maxRecDepth 100000 in
set_option maxHeartbeats 8000000 in
theorem walk_RegionPlaces (A : Option Addr) (n c : Nat) (z : List Int) (pr po i : Int) (w : World) (hz : IsInts .i64 w A n c z) (_hp : (Lit.int .i64 pr).wf = true ∧ (Lit.int .i64 po).wf = true) (hi : (Lit.int .i64 i).wf = true) :
    Calls Try.prog 7 #[.slice A n c, .agg #[.int .i64 pr, .int .i64 po], .int .i64 i] w fun e w' => e = .returned (.bool true) ∧ Pu w w' := by
  obtain ⟨rfl, hnc, hc, hrd, hwf⟩ := hz
  have hi64 := wf_I64 hi
  go_enter Try.func7, Try.ntmps7
  go_wp2_with fail
  refine (mkNew A c z (w.alloc (.cells #[.int .i64 pr, .int .i64 po] 33)) ((hrd.alloc (Nat.le_refl _) _).more (by simp)) (fun x hx => wf_I64 (hwf x hx)) (by omega)).mono ?_
  rintro e w1 ⟨rfl, hd1, he1⟩
  have hF1 : Pu w w1 := by rw [he1]; exact ((Fr.refl _ w).alloc _).alloc _
  have hB1 : Blk w1 w.heap.size 33 #[.int .i64 pr, .int .i64 po] := by rw [he1]; exact (Blk.new _ _ _).alloc _
  clear he1
  simp only [World.size_alloc] at *
  go_wp2_with fail
  refine (mkSizes (w.heap.size + 1) w1 hd1).mono ?_
  rintro e w2 ⟨v, xs, rfl, hv, hown2, hd2, hf2⟩
  have hF2 : Pu w w2 := hF1.then hf2 (fun i hi e => by omega)
  have hB2 := hf2.blk hB1 (by omega)
  obtain ⟨A2, c2, rfl, hc2⟩ := own_form hown2
  have hr2 := Rd.of_own hown2
  have hS2 : ∀ b off, A2 = some ⟨b, off, none⟩ → b ≠ w.heap.size + 1 := fun b off e => by
    have := hown2.lt b (by rw [e]; rfl)
    have := hd1.lt
    omega
  clear hown2 hf2 hd1 hF1
  have hT := sum_bd xs hv.2.2
  have hl4 := hv.2.1
  have hP := pages_bd xs hv.2.2
  have hDS : DS w2 (w.heap.size + 1) A2 xs w2 := ⟨hd2, Fr.refl _ _, hr2⟩
  have c40 : w2.cell? ⟨w.heap.size, 0, none⟩ = some (.int .i64 pr) := hB2.cell 0
  have c41 : w2.cell? ⟨w.heap.size, 1, none⟩ = some (.int .i64 po) := hB2.cell 1
  have hpl : ∀ wx, DS w2 (w.heap.size + 1) A2 xs wx → Calls Try.prog 21 #[.pointer (some ⟨w.heap.size + 1, 0, none⟩), .slice A2 xs.length c2] wx fun e w' =>
      ∃ a b : Int, e = .returned (.agg #[.int .i64 a, .int .i64 b]) ∧ DS w2 (w.heap.size + 1) A2 xs w' := fun wx ⟨h1, h2, h3⟩ =>
    (mkPlace _ A2 xs.length c2 xs wx h1 rfl hv (h3.more h2.size) hS2).mono fun e w' ⟨a, b, h4, _, _, h5, h6⟩ =>
      ⟨a, b, h4, h5, h2.trans h6, (h2.trans h6).rd_ne hr2 hS2⟩
  go_wp2_with fail
  have tok1 : True := trivial
  go_region_held3 (fun w' => w'.cell? ⟨w.heap.size, 0, none⟩ = some (.int .i64 pr) ∧ w'.cell? ⟨w.heap.size, 1, none⟩ = some (.int .i64 po)) (first | exact ⟨c40, c41⟩ | exact ⟨by assumption, by assumption⟩ | exact ⟨cell_alloc (by assumption), cell_alloc (by assumption)⟩)
    (first | (go_at_call 21; clear tok1; refine (hpl _ hDS.drew).mono ?_; rintro e w3 ⟨a1, b1, rfl, hD3⟩; have q1 := hD3.2.1.cl c40 (by omega); have q2 := hD3.2.1.cl c41 (by omega)) | (go_at_call 21; refine (hpl _ hD3).mono ?_; rintro e w4 ⟨a2, b2, rfl, hD4⟩; have q3 := hD4.2.1.cl c40 (by omega); have q4 := hD4.2.1.cl c41 (by omega)))
  go_wp2_with fail
  obtain ⟨hd4, hF4, hr4⟩ := hD4
  have HB := three_places (Blk.new w4 33 #[.int .i64 pr, .int .i64 po, .int .i64 a1, .int .i64 b1, .int .i64 a2, .int .i64 b2])
  have HF : Pu w (w4.alloc (.cells #[.int .i64 pr, .int .i64 po, .int .i64 a1, .int .i64 b1, .int .i64 a2, .int .i64 b2] 33)) := (hF2.then hF4 (fun i hi e => by omega)).alloc _
  have HR := hr4.alloc (hF4.size) (.cells #[.int .i64 pr, .int .i64 po, .int .i64 a1, .int .i64 b1, .int .i64 a2, .int .i64 b2] 33)
  have hz4 : w2.heap.size ≤ w4.heap.size := hF4.size
  clear hd4 hF4 hr4 hD3 q1 q2 q3 q4 c40 c41 hDS hpl hB2 hd2
  have hzW : w4.heap.size < (w4.alloc (.cells #[.int .i64 pr, .int .i64 po, .int .i64 a1, .int .i64 b1, .int .i64 a2, .int .i64 b2] 33)).heap.size := by simp
  generalize w4.alloc (.cells #[.int .i64 pr, .int .i64 po, .int .i64 a1, .int .i64 b1, .int .i64 a2, .int .i64 b2] 33) = W at *
  go_loopw [38] (fun iv wr => ∃ k : Nat, iv = .int .i64 k ∧ k ≤ 3 ∧ Pu W wr) (fun iv _ => 3 - (intOf iv).toNat)
  case atStart => exact ⟨0, rfl, by omega, Fr.refl _ _⟩
  case round =>
    obtain ⟨k, rfl, hk, hF⟩ := hrel
    have hsz := hF.size
    have hrr : Rd wr w2.heap.size A2 (ints xs) := hF.rd HR (by omega) (fun _ _ t => t)
    by_cases hk3 : k < 3
    · obtain ⟨a, b, ca, cb⟩ := HB k hk3
      have ca := hF.cl ca (fun t => t)
      have cb := hF.cl cb (fun t => t)
      have hi5 := index_p A2 xs.length c2 xs a b w2.heap.size (wr.alloc (.cells #[.int .i64 a, .int .i64 b] 33)) rfl hc2 hv (by simp; omega) (hrr.alloc (by omega) _)
      generalize hx1 : (if insideB xs a b = true then indexS xs a b else 0) = x1 at hi5
      generalize hy1 : (if insideB xs a b = true then (0 : Int) else 6) = y1 at hi5
      go_wp2_with fail
      refine hi5.mono ?_
      rintro e w5 ⟨rfl, hf5⟩
      clear hi5
      have hB5 : Blk w5 wr.heap.size 33 #[.int .i64 a, .int .i64 b] := hf5.blk (Blk.new _ _ _) (fun t => t)
      have c50 : w5.cell? ⟨wr.heap.size, 0, none⟩ = some (.int .i64 a) := hB5.cell 0
      have c51 : w5.cell? ⟨wr.heap.size, 1, none⟩ = some (.int .i64 b) := hB5.cell 1
      have hF5 : Pu W w5 := (hF.alloc _).pu hf5
      have hz5 := hf5.size
      simp only [World.size_alloc] at hz5
      have hi6 := index_r A2 xs.length c2 xs a b w2.heap.size w5 rfl hc2 hv (by omega) (hF5.rd HR (by omega) (fun _ _ t => t))
      rw [hx1, hy1] at hi6
      clear hx1 hy1 ca cb
      go_wp2_with fail
      refine hi6.mono ?_
      rintro e w6 ⟨rfl, hf6⟩
      clear hi6
      have c60 := hf6.cl c50 (fun t => t)
      have c61 := hf6.cl c51 (fun t => t)
      have hF6 : Pu W w6 := hF5.pu hf6
      have hIp : ∀ wx, Pu W wx → Calls Try.prog 20 #[.slice A2 xs.length c2, .agg #[.int .i64 a, .int .i64 b]] wx fun e w' => e = .returned (.bool (insideB xs a b)) ∧ Pu wx w' := fun wx h =>
        inside_p A2 xs.length c2 xs a b w2.heap.size wx rfl (by have := h.size; omega) (by omega) (h.rd HR (by omega) (fun _ _ t => t))
      have hIr : ∀ wx, Pu W wx → Calls Try.prog 25 #[.slice A2 xs.length c2, .agg #[.int .i64 a, .int .i64 b]] wx fun e w' => e = .returned (.bool (insideB xs a b)) ∧ Pu wx w' := fun wx h =>
        inside_r A2 xs.length c2 xs a b w2.heap.size wx rfl (by have := h.size; omega) (by omega) (h.rd HR (by omega) (fun _ _ t => t))
      generalize insideB xs a b = ib at *
      have hFd : Pu W w6.drew := hF6.drew
      go_wp2_with fail
      go_region_held3 (fun w' => w'.cell? ⟨wr.heap.size, 0, none⟩ = some (.int .i64 a) ∧ w'.cell? ⟨wr.heap.size, 1, none⟩ = some (.int .i64 b)) (first | exact ⟨c60, c61⟩ | exact ⟨by assumption, by assumption⟩)
        (first | (go_at_call 20; refine (hIp _ hFd).mono ?_; rintro e w7 ⟨rfl, hf7⟩; have hF7 := hFd.pu hf7; have q1 := hf7.cl c60 (fun t => t); have q2 := hf7.cl c61 (fun t => t)) | (go_at_call 25; refine (hIr _ hF7).mono ?_; rintro e w8 ⟨rfl, hf8⟩; have hF8 := hF7.pu hf8; have q3 := hf8.cl q1 (fun t => t); have q4 := hf8.cl q2 (fun t => t)))
      go_wp2_with fail
      go_roundw
      case rel => exact ⟨k + 1, by go_num, by omega, hF8⟩
      case measure => simp [intOf]; omega
    · have ht := total_r A2 xs.length c2 xs w2.heap.size wr rfl (by omega) hrr
      rw [sumW_eq hv] at ht
      have hp := pages_r A2 xs.length c2 xs w2.heap.size wr rfl hv hrr
      have hm1 := mkMod i (xs.sum + 3) wr hi64 (by omega) (by omega)
      have hm2 := mkMod i (pagesS xs + 2) wr hi64 (by omega) (by omega)
      have q1 := Int.emod_nonneg i (b := xs.sum + 3) (by omega)
      have q2 := Int.emod_lt_of_pos i (b := xs.sum + 3) (by omega)
      have q3 := Int.emod_nonneg i (b := pagesS xs + 2) (by omega)
      have q4 := Int.emod_lt_of_pos i (b := pagesS xs + 2) (by omega)
      generalize i % (xs.sum + 3) = m1 at *
      generalize i % (pagesS xs + 2) = m2 at *
      obtain ⟨hi1, hi2⟩ := hi64
      go_wp2_with fail
      refine ht.mono ?_
      rintro e w' ⟨rfl, rfl⟩
      clear ht
      go_wp2_with fail
      refine hm1.mono ?_
      rintro e w' ⟨rfl, rfl⟩
      clear hm1
      go_wp2_with fail
      refine hp.mono ?_
      rintro e w' ⟨rfl, rfl⟩
      clear hp
      go_wp2_with fail
      refine hm2.mono ?_
      rintro e w' ⟨rfl, rfl⟩
      clear hm2
      go_wp2_with fail
      have HC := three_ints (Blk.new wr 3 #[.int .i64 i, .int .i64 (m1 - 1), .int .i64 (m2 - 1)]) ⟨hi1, hi2⟩ ⟨by omega, by omega⟩ ⟨by omega, by omega⟩
      have HF2 : Pu W (wr.alloc (.cells #[.int .i64 i, .int .i64 (m1 - 1), .int .i64 (m2 - 1)] 3)) := hF.alloc _
      have hzV : wr.heap.size < (wr.alloc (.cells #[.int .i64 i, .int .i64 (m1 - 1), .int .i64 (m2 - 1)] 3)).heap.size := by simp
      generalize hG : wr.heap.size = G at *
      generalize wr.alloc (.cells #[.int .i64 i, .int .i64 (m1 - 1), .int .i64 (m2 - 1)] 3) = V at *
      have HRV := HF2.rd HR (by omega) (fun _ _ t => t)
      have hzWV := HF2.size
      clear hrr HB hF hG
      go_loopw [87] (fun iv wr => ∃ k : Nat, iv = .int .i64 k ∧ k ≤ 3 ∧ Pu V wr) (fun iv _ => 3 - (intOf iv).toNat)
      case atStart => exact ⟨0, rfl, by omega, Fr.refl _ _⟩
      case round =>
        obtain ⟨j, rfl, hj, hFV⟩ := hrel
        by_cases hj3 : j < 3
        · obtain ⟨x, cx, hx⟩ := HC j hj3
          have cx := hFV.cl cx (fun t => t)
          have hR : ∀ wx, Pu V wx → Rd wx w2.heap.size A2 (ints xs) := fun wx h => h.rd HRV (by omega) (fun _ _ t => t)
          have hz : ∀ wx, Pu V wx → w2.heap.size ≤ wx.heap.size := fun wx h => by have := h.size; omega
          have hap : ∀ wx, Pu V wx → Calls Try.prog 18 #[.slice A2 xs.length c2, .int .i64 x] wx fun e w' => e = .returned (.tuple #[placeV (place xs x), placeE (place xs x)]) ∧ Pu V w' := fun wx h =>
            (at_p A2 xs.length c2 xs x w2.heap.size wx rfl hv hx (hz _ h) (hR _ h)).mono fun e w' ⟨h1, h2⟩ => ⟨h1, h.pu h2⟩
          have har : ∀ wx, Pu V wx → Calls Try.prog 23 #[.slice A2 xs.length c2, .int .i64 x] wx fun e w' => e = .returned (.tuple #[placeV (place xs x), placeE (place xs x)]) ∧ Pu wx w' := fun wx h =>
            at_r A2 xs.length c2 xs x w2.heap.size wx rfl hv hx (hz _ h) (hR _ h)
          have hpp : ∀ wx, Pu V wx → Calls Try.prog 22 #[.slice A2 xs.length c2, .int .i64 x] wx fun e w' => ∃ v : Value, e = .returned (.tuple #[v, errOf (pageS xs x)]) ∧ (∃ A c, v = .slice A ((pageS xs x).getD []).length c ∧ Rd w' w'.heap.size A (pcells ((pageS xs x).getD []))) ∧ Pu wx w' := fun wx h =>
            (page_p A2 xs.length c2 xs x wx rfl hv hx ((hR _ h).more (hz _ h))).mono fun e w' ⟨v, h1, h2, h3⟩ => ⟨v, h1, by obtain ⟨A, c, rfl, _⟩ := own_form h2; exact ⟨A, c, rfl, Rd.of_own h2⟩, h3⟩
          have hpr : ∀ wx, Pu V wx → Calls Try.prog 26 #[.slice A2 xs.length c2, .int .i64 x] wx fun e w' => ∃ v : Value, e = .returned (.tuple #[v, errOf (pageS xs x)]) ∧ (∃ A c, v = .slice A ((pageS xs x).getD []).length c ∧ Rd w' w'.heap.size A (pcells ((pageS xs x).getD []))) ∧ Pu wx w' := fun wx h =>
            (page_r A2 xs.length c2 xs x wx rfl hv hx ((hR _ h).more (hz _ h))).mono fun e w' ⟨v, h1, h2, h3⟩ => ⟨v, h1, by obtain ⟨A, c, rfl, _⟩ := own_form h2; exact ⟨A, c, rfl, Rd.of_own h2⟩, h3⟩
          obtain ⟨pa, pb, hpv, _⟩ := pl_cells (place xs x)
          obtain ⟨pe, hpe⟩ := placeE_int (place xs x)
          obtain ⟨ge, hge⟩ := errOf_int (pageS xs x)
          have hl8 := pageS_len (xs := xs) x
          rw [hpv, hpe] at har hap
          rw [hge] at hpp hpr
          generalize (pageS xs x).getD [] = pl at *
          clear hpv hpe hge hR hz
          go_wp2_with fail
          refine (hap _ hFV).mono ?_
          rintro e w5 ⟨rfl, hF5⟩
          clear hap
          have hF5a := hF5.alloc (.cells #[.int .i64 pa, .int .i64 pb] 33)
          go_wp2_with fail
          refine (har _ hF5a).mono ?_
          rintro e w6 ⟨rfl, hf6⟩
          clear har
          have hB6 : Blk w6 w5.heap.size 33 #[.int .i64 pa, .int .i64 pb] := hf6.blk (Blk.new _ _ _) (fun t => t)
          have hF6 := hF5a.pu hf6
          have hB6a := hB6.alloc (.cells #[.int .i64 pa, .int .i64 pb] 33)
          have hB6b := Blk.new w6 33 #[.int .i64 pa, .int .i64 pb]
          have hF6a := hF6.alloc (.cells #[.int .i64 pa, .int .i64 pb] 33)
          go_wp2_with fail
          refine (hpp _ hF6a).mono ?_
          rintro e w7 ⟨v7, rfl, ⟨A7, c7, rfl, hr7⟩, hf7⟩
          clear hpp
          have hB7a := hf7.blk hB6a (fun t => t)
          have hB7b := hf7.blk hB6b (fun t => t)
          have hF7 := hF6a.pu hf7
          go_wp2_with fail
          refine (hpr _ hF7).mono ?_
          rintro e w8 ⟨v8, rfl, ⟨A8, c8, rfl, hr8⟩, hf8⟩
          clear hpr
          have hB8a := hf8.blk hB7a (fun t => t)
          have hB8b := hf8.blk hB7b (fun t => t)
          have hF8 := hF7.pu hf8
          have hr7' := hf8.rd' hr7
          have d0 : w8.cell? ⟨w5.heap.size, 0, none⟩ = some (.int .i64 pa) := hB8a.cell 0
          have d1 : w8.cell? ⟨w5.heap.size, 1, none⟩ = some (.int .i64 pb) := hB8a.cell 1
          have d2 : w8.cell? ⟨w6.heap.size, 0, none⟩ = some (.int .i64 pa) := hB8b.cell 0
          have d3 : w8.cell? ⟨w6.heap.size, 1, none⟩ = some (.int .i64 pb) := hB8b.cell 1
          have hsm := same_any A7 A8 pl.length c7 pl.length c8 pl pl _ w8 rfl rfl (by omega) (by omega) hr7' hr8
          rw [decide_eq_true (rfl : pl = pl)] at hsm
          clear hB6 hB6a hB6b hB7a hB7b hB8a hB8b hr7 hr8 hr7' hf6 hf7 hf8
          go_wp2_with fail
          refine hsm.mono ?_
          rintro e w9 ⟨rfl, m, rfl⟩
          clear hsm
          go_wp2_with fail
          go_roundw
          case rel => exact ⟨j + 1, by go_num, by omega, hF8.drewN _⟩
          case measure => simp [intOf]; omega
        · go_wp2_with fail
          refine (awake_any _).mono ?_
          rintro e w9 ⟨rfl, hf9⟩
          go_wp2_with fail
          go_ret
          exact ⟨rfl, ((HF.pu HF2).pu hFV).pu hf9⟩
end Go.Proofs.Ytgjmndpkjenchaa
