/- RegionShapes: the walk. -/
import Derived.Test.YtgjmndpkjenchaaReg4
import Derived.Test.YtgjmndpkjenchaaOpen
namespace Go.Proofs.Ytgjmndpkjenchaa
open Go.RowKit

/-- a slice of few ints, as it lies in a world -/
def Few (w : World) (v : Value) (ys : List Int) : Prop := ∃ A c, v = .slice A ys.length c ∧ ys.length ≤ 100 ∧ Rd w w.heap.size A (ints ys)
theorem validB_V {ys : List Int} (h : validB ys = true) : VSizes ys := by
  unfold validB okB at h
  simp only [Bool.and_eq_true, List.all_eq_true, decide_eq_true_eq] at h
  exact ⟨h.2.1, h.2.2, h.1⟩

theorem three_lists {W : World} {g B : Nat} {T : TypeId} {A0 A1 A2 : Option Addr} {n0 c0 n1 c1 n2 c2 : Nat} {y0 y1 y2 : List Int} (HB : Blk W g T #[.slice A0 n0 c0, .slice A1 n1 c1, .slice A2 n2 c2])
    (l0 : y0.length = n0) (m0 : n0 ≤ 30) (r0 : Rd W B A0 (ints y0)) (l1 : y1.length = n1) (m1 : n1 ≤ 30) (r1 : Rd W B A1 (ints y1)) (l2 : y2.length = n2) (m2 : n2 ≤ 30) (r2 : Rd W B A2 (ints y2)) :
    ∀ k, k < 3 → ∃ A n c ys, W.cell? ⟨g, k, none⟩ = some (.slice A n c) ∧ ys.length = n ∧ n ≤ 30 ∧ Rd W B A (ints ys) := fun k hk => by
  rcases (by omega : k = 0 ∨ k = 1 ∨ k = 2) with rfl | rfl | rfl
  · exact ⟨A0, n0, c0, y0, HB.cell 0, l0, m0, r0⟩
  · exact ⟨A1, n1, c1, y1, HB.cell 1, l1, m1, r1⟩
  · exact ⟨A2, n2, c2, y2, HB.cell 2, l2, m2, r2⟩

set_option maxHeartbeats 4000000 in
theorem walk_RegionShapes (A0 : Option Addr) (n0 c0 : Nat) (z0 : List Int) (A1 : Option Addr) (n1 c1 : Nat) (z1 : List Int) (what by' : Int) (w : World) (h0 : IsInts .i64 w A0 n0 c0 z0) (h1 : IsInts .i64 w A1 n1 c1 z1) (h2 : (Lit.int .i64 what).wf = true) (h3 : (Lit.int .i64 by').wf = true) :
    Calls Try.prog 3 #[.slice A0 n0 c0, .slice A1 n1 c1, .int .i64 what, .int .i64 by'] w fun e w' => e = .returned (.bool true) ∧ Pu w w' := by
  obtain ⟨rfl, hnc0, hc0, hrd0, hwf0⟩ := h0
  obtain ⟨rfl, hnc1, hc1, hrd1, hwf1⟩ := h1
  by_cases hbig : 30 < z0.length
  · go_enter Try.func3, Try.ntmps3
    go_wp2_with (go_at_call 8; refine (awake_any _).mono ?_; rintro e w' ⟨rfl, hp⟩)
    go_ret
    exact ⟨rfl, by assumption⟩
  · obtain ⟨i0, hi, hz0, hz1, hz2⟩ := info_parts Try.infoInt
    go_enter Try.func3, Try.ntmps3
    go_wp2_with fail
    refine (mkNew A1 c1 z1 w hrd1 (fun x hx => wf_I64 (hwf1 x hx)) (by omega)).mono ?_
    rintro e w1 ⟨rfl, hd1, he1⟩
    have hF1 : Pu w w1 := by rw [he1]; exact (Fr.refl _ w).alloc _
    clear he1
    go_wp2_with fail
    refine (mkSizes w.heap.size w1 hd1).mono ?_
    rintro e w2 ⟨v, xs, rfl, hv, hown2, hd2, hf2⟩
    have hF2 : Pu w w2 := hF1.then hf2 (fun i hi e => by omega)
    have hl1 := hv.1
    have hl4 := hv.2.1
    obtain ⟨g, c2, rfl, hc2⟩ : ∃ g c, v = .slice (some ⟨g, 0, none⟩) xs.length c ∧ xs.length ≤ c := by
      rcases hown2.2 with ⟨h', h0⟩ | ⟨g, cap, cur, h', _, _, hc, _⟩
      · omega
      · exact ⟨g, cap, h', hc⟩
    have hr2 := Rd.of_own hown2
    have hcells := hown2.cells (g := g) rfl
    clear hown2 hf2 hd2 hd1 hF1
    go_wp2_with (at_builtin; refine wpList_append_own _ rfl _ _ 22 rfl w2.heap.size 3 i0 (.int .i64 0) 1 8 Try.underlying22 hi hz0 hz1 hz2 rfl (by decide) _ _ _ rfl (World.ownsRow_nil _ _ _ _) ⟨g, 0, none⟩ xs.length _ (ints xs) rfl (by simp [ints]) hcells (by intro u hu; obtain ⟨y, _, rfl⟩ := List.mem_map.1 hu; rfl) (by unfold maxLen; omega) (by omega) (Nat.le_refl _) ?_)
    intro v3 w3 hown3 hg3 _
    have hF3 : Pu w w3 := hF2.grown hg3 (fun k hk => by cases hk)
    have hr3 : Rd w3 w2.heap.size (some ⟨g, 0, none⟩) (ints xs) := hr2.keep fun p hp => World.cell?_of_block (hg3.block _ hp (by simp [Value.ownBlock]))
    obtain ⟨g3, c3, rfl, hc3⟩ : ∃ g c, v3 = .slice (some ⟨g, 0, none⟩) xs.length c ∧ xs.length ≤ c := by
      rcases hown3.2 with ⟨h', h0⟩ | ⟨g, cap, cur, h', _, _, hc, _⟩
      · omega
      · exact ⟨g, cap, by simpa using h', by omega⟩
    have hwhat := mkMod what 3 w3 (wf_I64 h2) (by omega) (by omega)
    obtain ⟨m, hm⟩ := Int.eq_ofNat_of_zero_le (Int.emod_nonneg what (b := 3) (by omega))
    have hm3 := Int.emod_lt_of_pos what (b := 3) (by omega)
    rw [hm] at hwhat hm3
    clear hm
    go_wp2_with fail
    refine hwhat.mono ?_
    rintro e w4 ⟨rfl, rfl⟩
    clear hwhat hcells hg3
    have hg3 : w2.heap.size ≤ g3 := (hown3.lt g3 rfl).1
    have hz3 : w2.heap.size ≤ w3.heap.size := by have := (hown3.lt g3 rfl).2; omega
    rcases (by omega : m = 0 ∨ m = 1 ∨ m = 2) with rfl | rfl | rfl
    · have hb1 := mkMod by' xs.length w3 (wf_I64 h3) (by omega) (by omega)
      have hb2 := mkMod by' 36 w3 (wf_I64 h3) (by omega) (by omega)
      obtain ⟨j, hj⟩ := Int.eq_ofNat_of_zero_le (Int.emod_nonneg by' (b := (xs.length : Int)) (by omega))
      have hjl := Int.emod_lt_of_pos by' (b := (xs.length : Int)) (by omega)
      have q1 := Int.emod_nonneg by' (b := 36) (by omega)
      have q2 := Int.emod_lt_of_pos by' (b := 36) (by omega)
      rw [hj] at hb1 hjl
      clear hj
      go_wp2_with fail
      refine hb1.mono ?_
      rintro e w4 ⟨rfl, rfl⟩
      clear hb1
      go_wp2_with fail
      refine hb2.mono ?_
      rintro e w4 ⟨rfl, rfl⟩
      clear hb2
      have cj : w3.cell? ⟨g3, j, none⟩ = some (.int .i64 (xs[j]'(by omega))) := by
        rw [hown3.cellAt j (by omega)]; simp [ints]
      have fj := hown3.frozenAt j
      generalize hbm : by' % 36 = bm at *
      clear hbm
      have hst := (hown3.stored j (.int .i64 (bm - 2))).1
      have e : (ints xs).set j (.int .i64 (bm - 2)) = ints (xs.set j (bm - 2)) := by simp [ints, List.map_set]
      rw [e] at hst
      obtain ⟨ys, hys, hyl⟩ : ∃ ys, ys = xs.set j (bm - 2) ∧ ys.length = xs.length := ⟨_, rfl, by simp⟩
      rw [← hys] at hst
      have hF5 : Pu w (w3.setCell ⟨g3, j, none⟩ (.int .i64 (bm - 2))) := hF3.setCell (.inr (by have := hF2.size; show w.heap.size ≤ g3; omega)) _
      have hr5 : Rd (w3.setCell ⟨g3, j, none⟩ (.int .i64 (bm - 2))) w2.heap.size (some ⟨g, 0, none⟩) (ints xs) :=
        hr3.keep fun p hp => World.cell?_setCell_other _ _ p _ (fun e => by subst e; simp at hp; omega)
      have hy5 := Rd.of_own hst
      have hz5 : w2.heap.size ≤ (w3.setCell ⟨g3, j, none⟩ (.int .i64 (bm - 2))).heap.size := by simpa [World.setCell] using hz3
      have HSZ := Lib.hid (show (w3.setCell ⟨g3, j, none⟩ (.int .i64 (bm - 2))).heap.size = w3.heap.size by simp [World.setCell])
      clear hst hys e
      go_wp2_with fail
      clear cj fj hr3 hF3 hown3
      generalize w3.setCell ⟨g3, j, none⟩ (.int .i64 (bm - 2)) = w5 at *
      have hr05 := hF5.rd' hrd0
      have HB := Blk.new w5 22 #[.slice A0 z0.length c0, .slice (some ⟨g, 0, none⟩) xs.length c2, .slice (some ⟨g3, 0, none⟩) xs.length c3]
      have HF : Pu w (w5.alloc (.cells #[.slice A0 z0.length c0, .slice (some ⟨g, 0, none⟩) xs.length c2, .slice (some ⟨g3, 0, none⟩) xs.length c3] 22)) := hF5.alloc _
      have HL := three_lists HB rfl (by omega) ((hr05.alloc (Nat.le_refl _) _)) rfl (by omega) ((hr5.more hz5).alloc (Nat.le_refl _) _) hyl (by omega) (hy5.alloc (Nat.le_refl _) _)
      rw [HSZ.out] at HL
      clear HB
      generalize w5.alloc (.cells #[.slice A0 z0.length c0, .slice (some ⟨g, 0, none⟩) xs.length c2, .slice (some ⟨g3, 0, none⟩) xs.length c3] 22) = W at *
      go_loop [45] (fun i => ∃ k : Nat, k ≤ 3 ∧ i = .int .i64 k) (fun i => 3 - (intOf i).toNat)
      case atStart => exact ⟨0, by omega, rfl⟩
      case round =>
        obtain ⟨k, hk, rfl⟩ := hrel
        by_cases hk3 : k < 3
        · obtain ⟨A, n, c, ys, hcell, hyl, hyn, hyr⟩ := HL k hk3
          have hv1 := valid_p A n c ys _ W hyl (by omega) hyr
          have hv2 := valid_r A n c ys _ W hyl (by omega) hyr
          cases hvb : validB ys with
          | false =>
            rw [hvb] at hv1 hv2
            go_wp2_with (first | (go_at_call 12; refine hv1.mono ?_; rintro e w' ⟨rfl, rfl⟩) | (go_at_call 13; refine hv2.mono ?_; rintro e w' ⟨rfl, rfl⟩))
            go_round
            case rel => exact ⟨k + 1, by omega, by go_num⟩
            case measure => simp [intOf]; omega
          | true =>
            rw [hvb] at hv1 hv2
            have hV := validB_V hvb
            have ht1 := total_p A n c ys _ W hyl (by omega) hyr
            have ht2 := total_r A n c ys _ W hyl (by omega) hyr
            have hp1 := pages_p A n c ys _ W hyl hV hyr
            have hp2 := pages_r A n c ys _ W hyl hV hyr
            clear hvb hV
            go_wp2_with (first | (go_at_call 12; refine hv1.mono ?_; rintro e w' ⟨rfl, rfl⟩) | (go_at_call 13; refine hv2.mono ?_; rintro e w' ⟨rfl, rfl⟩) | (go_at_call 14; refine ht1.mono ?_; rintro e w' ⟨rfl, rfl⟩) | (go_at_call 15; refine ht2.mono ?_; rintro e w' ⟨rfl, rfl⟩) | (go_at_call 16; refine hp1.mono ?_; rintro e w' ⟨rfl, rfl⟩) | (go_at_call 17; refine hp2.mono ?_; rintro e w' ⟨rfl, rfl⟩))
            go_round
            case rel => exact ⟨k + 1, by omega, by go_num⟩
            case measure => simp [intOf]; omega
        · go_wp2_with (go_at_call 8; refine (awake_any _).mono ?_; rintro e w' ⟨rfl, hp⟩)
          go_ret
          exact ⟨rfl, HF.pu (by assumption)⟩
    · have hself := hown3.cells (g := g3) rfl
      go_wp2_with (at_builtin; refine wpList_append_own _ rfl _ _ 22 rfl w2.heap.size 3 i0 (.int .i64 0) 1 8 Try.underlying22 hi hz0 hz1 hz2 rfl (by decide) _ _ _ rfl hown3 ⟨g3, 0, none⟩ xs.length _ (ints xs) rfl (by simp [ints]) hself (by intro u hu; obtain ⟨y, _, rfl⟩ := List.mem_map.1 hu; rfl) (by unfold maxLen; omega) (by omega) (by have := (hown3.lt g3 rfl).2; omega) ?_)
      intro v5 w5 hown5 hg5 _
      have hr5 : Rd w5 w2.heap.size (some ⟨g, 0, none⟩) (ints xs) := hr3.keep fun p hp => World.cell?_of_block (hg5.block _ (by have := (hown3.lt g3 rfl).2; omega) (by simp [Value.ownBlock]; omega))
      have hF5 : Pu w w5 := hF3.grown hg5 (fun k hk => by have := hF2.size; have e : g3 = k := (by simpa [Value.ownBlock] using hk); subst e; exact .inr (by omega))
      obtain ⟨A5, c5, rfl, hc5⟩ := own_form hown5
      have hy5 : Rd w5 w5.heap.size A5 (ints (xs ++ xs)) := by
        have e : ints (xs ++ xs) = ints xs ++ ints xs := by simp [ints]
        rw [e]; exact Rd.of_own hown5
      have hyl : (xs ++ xs).length = xs.length + xs.length := by simp
      go_wp2_with fail
      have hr05 := hF5.rd' hrd0
      have hz5 : w2.heap.size ≤ w5.heap.size := Nat.le_trans hz3 hg5.size
      have HB := Blk.new w5 22 #[.slice A0 z0.length c0, .slice (some ⟨g, 0, none⟩) xs.length c2, .slice A5 (xs.length + xs.length) c5]
      have HF : Pu w (w5.alloc (.cells #[.slice A0 z0.length c0, .slice (some ⟨g, 0, none⟩) xs.length c2, .slice A5 (xs.length + xs.length) c5] 22)) := hF5.alloc _
      have HL := three_lists HB rfl (by omega) ((hr05.alloc (Nat.le_refl _) _)) rfl (by omega) ((hr5.more hz5).alloc (Nat.le_refl _) _) hyl (by omega) (hy5.alloc (Nat.le_refl _) _)
      clear HB
      generalize w5.alloc (.cells #[.slice A0 z0.length c0, .slice (some ⟨g, 0, none⟩) xs.length c2, .slice A5 (xs.length + xs.length) c5] 22) = W at *
      go_loop [45] (fun i => ∃ k : Nat, k ≤ 3 ∧ i = .int .i64 k) (fun i => 3 - (intOf i).toNat)
      case atStart => exact ⟨0, by omega, rfl⟩
      case round =>
        obtain ⟨k, hk, rfl⟩ := hrel
        by_cases hk3 : k < 3
        · obtain ⟨A, n, c, ys, hcell, hyl, hyn, hyr⟩ := HL k hk3
          have hv1 := valid_p A n c ys _ W hyl (by omega) hyr
          have hv2 := valid_r A n c ys _ W hyl (by omega) hyr
          cases hvb : validB ys with
          | false =>
            rw [hvb] at hv1 hv2
            go_wp2_with (first | (go_at_call 12; refine hv1.mono ?_; rintro e w' ⟨rfl, rfl⟩) | (go_at_call 13; refine hv2.mono ?_; rintro e w' ⟨rfl, rfl⟩))
            go_round
            case rel => exact ⟨k + 1, by omega, by go_num⟩
            case measure => simp [intOf]; omega
          | true =>
            rw [hvb] at hv1 hv2
            have hV := validB_V hvb
            have ht1 := total_p A n c ys _ W hyl (by omega) hyr
            have ht2 := total_r A n c ys _ W hyl (by omega) hyr
            have hp1 := pages_p A n c ys _ W hyl hV hyr
            have hp2 := pages_r A n c ys _ W hyl hV hyr
            clear hvb hV
            go_wp2_with (first | (go_at_call 12; refine hv1.mono ?_; rintro e w' ⟨rfl, rfl⟩) | (go_at_call 13; refine hv2.mono ?_; rintro e w' ⟨rfl, rfl⟩) | (go_at_call 14; refine ht1.mono ?_; rintro e w' ⟨rfl, rfl⟩) | (go_at_call 15; refine ht2.mono ?_; rintro e w' ⟨rfl, rfl⟩) | (go_at_call 16; refine hp1.mono ?_; rintro e w' ⟨rfl, rfl⟩) | (go_at_call 17; refine hp2.mono ?_; rintro e w' ⟨rfl, rfl⟩))
            go_round
            case rel => exact ⟨k + 1, by omega, by go_num⟩
            case measure => simp [intOf]; omega
        · go_wp2_with (go_at_call 8; refine (awake_any _).mono ?_; rintro e w' ⟨rfl, hp⟩)
          go_ret
          exact ⟨rfl, HF.pu (by assumption)⟩
    · go_wp2_with fail
      have hr5 := hr3
      have hF5 := hF3
      have hr05 := hF5.rd' hrd0
      have hz5 := hz3
      have hy5 := Rd.of_own hown3
      have hyl : xs.length = xs.length := rfl
      have HB := Blk.new w3 22 #[.slice A0 z0.length c0, .slice (some ⟨g, 0, none⟩) xs.length c2, .slice (some ⟨g3, 0, none⟩) xs.length c3]
      have HF : Pu w (w3.alloc (.cells #[.slice A0 z0.length c0, .slice (some ⟨g, 0, none⟩) xs.length c2, .slice (some ⟨g3, 0, none⟩) xs.length c3] 22)) := hF5.alloc _
      have HL := three_lists HB rfl (by omega) ((hr05.alloc (Nat.le_refl _) _)) rfl (by omega) ((hr5.more hz5).alloc (Nat.le_refl _) _) hyl (by omega) (hy5.alloc (Nat.le_refl _) _)
      clear HB
      generalize w3.alloc (.cells #[.slice A0 z0.length c0, .slice (some ⟨g, 0, none⟩) xs.length c2, .slice (some ⟨g3, 0, none⟩) xs.length c3] 22) = W at *
      go_loop [45] (fun i => ∃ k : Nat, k ≤ 3 ∧ i = .int .i64 k) (fun i => 3 - (intOf i).toNat)
      case atStart => exact ⟨0, by omega, rfl⟩
      case round =>
        obtain ⟨k, hk, rfl⟩ := hrel
        by_cases hk3 : k < 3
        · obtain ⟨A, n, c, ys, hcell, hyl, hyn, hyr⟩ := HL k hk3
          have hv1 := valid_p A n c ys _ W hyl (by omega) hyr
          have hv2 := valid_r A n c ys _ W hyl (by omega) hyr
          cases hvb : validB ys with
          | false =>
            rw [hvb] at hv1 hv2
            go_wp2_with (first | (go_at_call 12; refine hv1.mono ?_; rintro e w' ⟨rfl, rfl⟩) | (go_at_call 13; refine hv2.mono ?_; rintro e w' ⟨rfl, rfl⟩))
            go_round
            case rel => exact ⟨k + 1, by omega, by go_num⟩
            case measure => simp [intOf]; omega
          | true =>
            rw [hvb] at hv1 hv2
            have hV := validB_V hvb
            have ht1 := total_p A n c ys _ W hyl (by omega) hyr
            have ht2 := total_r A n c ys _ W hyl (by omega) hyr
            have hp1 := pages_p A n c ys _ W hyl hV hyr
            have hp2 := pages_r A n c ys _ W hyl hV hyr
            clear hvb hV
            go_wp2_with (first | (go_at_call 12; refine hv1.mono ?_; rintro e w' ⟨rfl, rfl⟩) | (go_at_call 13; refine hv2.mono ?_; rintro e w' ⟨rfl, rfl⟩) | (go_at_call 14; refine ht1.mono ?_; rintro e w' ⟨rfl, rfl⟩) | (go_at_call 15; refine ht2.mono ?_; rintro e w' ⟨rfl, rfl⟩) | (go_at_call 16; refine hp1.mono ?_; rintro e w' ⟨rfl, rfl⟩) | (go_at_call 17; refine hp2.mono ?_; rintro e w' ⟨rfl, rfl⟩))
            go_round
            case rel => exact ⟨k + 1, by omega, by go_num⟩
            case measure => simp [intOf]; omega
        · go_wp2_with (go_at_call 8; refine (awake_any _).mono ?_; rintro e w' ⟨rfl, hp⟩)
          go_ret
          exact ⟨rfl, HF.pu (by assumption)⟩
end Go.Proofs.Ytgjmndpkjenchaa
