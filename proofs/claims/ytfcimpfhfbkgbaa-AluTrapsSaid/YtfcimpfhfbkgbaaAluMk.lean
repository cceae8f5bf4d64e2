/- The deck's words and layouts. -/
import Derived.Test.YtfcimpfhfbkgbaaAlu3
import Derived.Test.YtfcimpfhfbkgbaaDeck
namespace Go.Proofs.Ytfcimpfhfbkgbaa
open Go.RowKit

set_option maxHeartbeats 1000000 in
theorem mkWord (g : Nat) (w : World) (hd : DeckOK w g) :
    Calls Try.prog 23 #[.pointer (some ⟨g, 0, none⟩)] w fun e w' => ∃ v : Int, e = .returned (.int .u16 v) ∧ (0 ≤ v ∧ v ≤ 65535) ∧ DeckOK w' g ∧ Fr (· = g) w w' := by
  go_enter Try.func23, Try.ntmps23
  go_wp2_with fail
  refine (next g 5 _ hd (by omega) (by omega)).mono ?_
  rintro e w1 ⟨r, rfl, hr, hd1, hf1⟩
  by_cases h3 : r < 3
  · have hc : r = 0 ∨ r = 1 ∨ r = 2 := by omega
    rcases hc with rfl | rfl | rfl
    all_goals
      go_wp2_with fail
      refine (next g 8 _ hd1 (by omega) (by omega)).mono ?_
      rintro e w2 ⟨q, rfl, hq, hd2, hf2⟩
      have e1 : IntKind.u16.wrap (q : Int) = q := by rw [wrap16]; omega
      go_wp2_with fail
      go_ret
      exact ⟨_, rfl, by omega, hd2, hf1.trans hf2⟩
  · by_cases h4 : r = 3
    · subst h4
      go_wp2_with fail
      refine (next g 3 _ hd1 (by omega) (by omega)).mono ?_
      rintro e w2 ⟨q, rfl, hq, hd2, hf2⟩
      have e1 : IntKind.u16.wrap (65535 - (q : Int)) = 65535 - q := by rw [wrap16]; omega
      go_wp2_with fail
      go_ret
      exact ⟨_, rfl, by omega, hd2, hf1.trans hf2⟩
    · obtain rfl : r = 4 := by omega
      go_wp2_with fail
      refine (next g 65536 _ hd1 (by omega) (by omega)).mono ?_
      rintro e w2 ⟨q, rfl, hq, hd2, hf2⟩
      have e1 : IntKind.u16.wrap (q : Int) = q := by rw [wrap16]; omega
      go_wp2_with fail
      go_ret
      exact ⟨_, rfl, by omega, hd2, hf1.trans hf2⟩

theorem ints_set {w : World} {g : Nat} {t : TypeId} {l : List Int} (h : Blk w g t (ints l).toArray) (i : Nat) (b : Int) : Blk (w.setCell ⟨g, i, none⟩ (.int .i64 b)) g t (ints (l.set i b)).toArray := by
  have := h.set_ i (.int .i64 b)
  simpa [ints, List.map_set] using this
theorem ints_at {w : World} {g : Nat} {t : TypeId} {l : List Int} (h : Blk w g t (ints l).toArray) {i : Nat} {x : Int} (hi : l[i]? = some x) : w.cell? ⟨g, i, none⟩ = some (.int .i64 x) := by
  rw [h.cell]; simp [ints, hi]
theorem made_int (n : Nat) (hn : n ≤ 1000) : ∀ u, (Instr.makeSlice 25 (.int .i64 n) (.int .i64 n)).run Try.prog u = .ok (.slice (some ⟨u.heap.size, 0, none⟩) n n) (u.alloc (.cells (ints (List.replicate n 0)).toArray 3)) := fun u => by
  obtain ⟨i0, hi, hz0, hz1, hz2⟩ := info_parts Try.infoI
  have e : madeCells (Value.cells (.int .i64 0)) (n * i0.size) = (ints (List.replicate n 0)).toArray := by
    rw [hz1]
    apply Array.ext
    · simp [madeCells, ints]
    · intro j h1 h2
      simp [madeCells, ints, Value.cells, Nat.mod_one]
  have := run_makeSlice (w := u) 25 3 i0 (.int .i64 0) Try.underlying25 hi hz0 .i64 .i64 n n (by omega) (Int.le_refl _) (by rw [hz1]; simp; omega) (by rw [hz2]; omega) (by omega)
  rw [Int.toNat_natCast, e] at this
  exact this

set_option maxHeartbeats 4000000 in
theorem make_any (A : Option Addr) (n c : Nat) (xs : List Int) (seed : Int) (w : World) (hl : xs.length = n) (hv : VSizes xs) (hr : Rd w w.heap.size A (ints xs)) (hs : 0 ≤ seed ∧ seed ≤ 1048576) :
    Calls Try.prog 16 #[.slice A n c, .int .i64 seed] w fun e w' => ∃ (gb : Nat) (key : Int), e = .returned (.tuple #[.agg #[.slice (some ⟨gb, 0, none⟩) n n, .int .u16 key], .int .i64 0]) ∧ Pu w w' := by
  obtain ⟨n1, n4, hx⟩ := hv
  obtain ⟨s1, s2⟩ := hs
  have hvb : validB xs = true := by
    simp only [validB, okB, Bool.and_eq_true, List.all_eq_true, decide_eq_true_eq]
    exact ⟨hx, n1, n4⟩
  have hvc := valid_r A n c xs _ (w.alloc (.cells #[.slice none 0 0, .int .u16 0] 30)) hl (by omega) (((Fr.refl (fun _ => False) w).alloc (.cells #[.slice none 0 0, .int .u16 0] 30)).rd' hr)
  rw [hvb] at hvc
  have hmk := made_int n (by omega)
  have d1 : 0 ≤ seed / (n : Int) := Int.ediv_nonneg s1 (by omega)
  have d2 : seed / (n : Int) ≤ seed := Int.ediv_le_self _ s1
  have d3 : 0 ≤ seed / (50 * (n : Int)) := Int.ediv_nonneg s1 (by omega)
  have d4 : seed / (50 * (n : Int)) ≤ seed := Int.ediv_le_self _ s1
  subst hl
  generalize hn : xs.length = n at *
  obtain ⟨kz, hkz⟩ : ∃ kz, IntKind.u16.wrap (40503 * seed) = kz := ⟨_, rfl⟩
  go_enter Try.func16, Try.ntmps16
  go_wp2_with fail
  refine hvc.mono ?_
  rintro e w' ⟨rfl, rfl⟩
  clear hvc
  go_wp2_with fail
  have hsz : w.heap.size + 1 + 1 = w.heap.size + 2 := rfl
  go_loopw [8, 37] (fun av iv wr => ∃ (i : Nat) (x : Int) (ys : List Int), i ≤ n ∧ iv = .int .i64 i ∧ av = .int .i64 x ∧ 0 ≤ x ∧ x ≤ 100 + 100 * i ∧ ys.length = n ∧ Blk wr w.heap.size 30 #[.slice none 0 0, .int .u16 0] ∧ Blk wr (w.heap.size + 1) 3 (ints ys).toArray ∧ Blk wr (w.heap.size + 1 + 1) 30 #[.slice (some ⟨w.heap.size + 1, 0, none⟩) n n, .int .u16 kz] ∧ Pu w wr) (fun _ iv _ => n - (intOf iv).toNat)
  case atStart =>
    refine ⟨0, _, List.replicate n 0, by omega, rfl, rfl, by omega, by omega, by simp, ?_, ?_, ?_, ?_⟩
    · exact ((Blk.new w _ _).alloc _).alloc _
    · have := (Blk.new (w.alloc (.cells #[.slice none 0 0, .int .u16 0] 30)) 3 (ints (List.replicate n 0)).toArray).alloc (.cells #[.slice (some ⟨w.heap.size + 1, 0, none⟩) n n, .int .u16 kz] 30)
      rwa [World.size_alloc] at this
    · have := Blk.new ((w.alloc (.cells #[.slice none 0 0, .int .u16 0] 30)).alloc (.cells (ints (List.replicate n 0)).toArray 3)) 30 #[.slice (some ⟨w.heap.size + 1, 0, none⟩) n n, .int .u16 kz]
      rwa [World.size_alloc, World.size_alloc] at this
    · exact (((Fr.refl _ w).alloc _).alloc _).alloc _
  case round =>
    obtain ⟨i, x, ys, hi, rfl, rfl, hx0, hx1, hys, B0, B1, B2, hF⟩ := hrel
    have e0 : wr.cell? ⟨w.heap.size + 1 + 1, 0, none⟩ = some (.slice (some ⟨w.heap.size + 1, 0, none⟩) n n) := B2.cell 0
    have e1 : wr.cell? ⟨w.heap.size + 1 + 1, 1, none⟩ = some (.int .u16 kz) := B2.cell 1
    have z0 : wr.cell? ⟨w.heap.size, 0, none⟩ = some (.slice none 0 0) := B0.cell 0
    have z1 : wr.cell? ⟨w.heap.size, 1, none⟩ = some (.int .u16 0) := B0.cell 1
    have g0 := B0.frozen 0
    have g1 := B0.frozen 1
    by_cases hlt : i < n
    · obtain ⟨r, hrr⟩ : ∃ r : Nat, ((i : Int) + seed) % (n : Int) = (r : Int) := ⟨(((i : Int) + seed) % (n : Int)).toNat, by have := Int.emod_nonneg ((i : Int) + seed) (b := (n : Int)) (by omega); omega⟩
      have hrn : r < n := by have := Int.emod_lt_of_pos ((i : Int) + seed) (b := (n : Int)) (by omega); omega
      obtain ⟨b, off, ea, hb, hc⟩ := Rd.at_ (hF.rd hr (Nat.le_refl _) (fun _ _ t => t)) (k := r) (by rw [ints_len]; omega)
      rw [ints_get (by omega)] at hc
      obtain ⟨q1, q2⟩ := hx _ (List.getElem_mem (show r < xs.length by omega))
      generalize xs[r]'(_) = xr at *
      subst ea
      have nb : b ≠ w.heap.size + 1 := by omega
      have c0 := ints_at B1 (i := r) (List.getElem?_eq_getElem (by omega))
      have f0 := B1.frozen r
      generalize ys[r]'(_) = yr at *
      have B0' := Lib.hid (B0.far (p := ⟨w.heap.size + 1, r, none⟩) (by show w.heap.size ≠ w.heap.size + 1; omega) (.int .i64 x))
      have B1' := Lib.hid (ints_set B1 r x)
      have B2' := Lib.hid (B2.far (p := ⟨w.heap.size + 1, r, none⟩) (by show w.heap.size + 1 + 1 ≠ w.heap.size + 1; omega) (.int .i64 x))
      have hF' := Lib.hid (hF.setCell (p := ⟨w.heap.size + 1, r, none⟩) (.inr (Nat.le_succ _)) (.int .i64 x))
      have d5 : 0 ≤ seed / (50 * (n : Int)) % 40 ∧ seed / (50 * (n : Int)) % 40 < 40 := by omega
      obtain ⟨d6, d7⟩ := d5
      clear B0 B1 B2 hF hmk hr hx hvb hkz
      go_wp2_with fail
      go_quiet (fail)
      go_wp2_with fail
      go_roundw
      case rel => exact ⟨i + 1, _, ys.set r x, by omega, by go_num, rfl, by omega, by omega, by rw [List.length_set]; exact hys, B0'.out.drewN _, B1'.out.drewN _, B2'.out.drewN _, hF'.out.drewN _⟩
      case measure => simp [intOf]; omega
    · obtain rfl : i = n := by omega
      have hF' := Lib.hid hF
      clear B0 B1 B2 hF hmk hr hx hvb hkz
      go_wp2_with fail
      refine bodyPost_ret (v := .tuple #[.agg #[.slice (some ⟨w.heap.size + 1, 0, none⟩) i i, .int .u16 kz], .int .i64 0]) (by simp [results, Try.results16, go_sem, z0, z1]) rfl ⟨⟨_, _, rfl⟩, ?_⟩
      exact (hF'.out.setCell (p := ⟨w.heap.size, 0, none⟩) (.inr (Nat.le_refl _)) _).setCell (p := ⟨w.heap.size, 1, none⟩) (.inr (Nat.le_refl _)) _

set_option maxHeartbeats 1000000 in
theorem mkLayout (g : Nat) (A : Option Addr) (n c : Nat) (xs : List Int) (w : World) (hd : DeckOK w g) (hl : xs.length = n) (hv : VSizes xs) (hr : Rd w w.heap.size A (ints xs)) (hg : ∀ b o, A = some ⟨b, o, none⟩ → b ≠ g) :
    Calls Try.prog 11 #[.pointer (some ⟨g, 0, none⟩), .slice A n c] w fun e w' => ∃ (gb : Nat) (key : Int), e = .returned (.agg #[.slice (some ⟨gb, 0, none⟩) n n, .int .u16 key]) ∧ DeckOK w' g ∧ Fr (· = g) w w' := by
  have hgl := hd.lt
  have HB1 := Blk.new w 30 #[.slice none 0 0, .int .u16 0]
  have HF0 : Fr (· = g) w (w.alloc (.cells #[.slice none 0 0, .int .u16 0] 30)) := (Fr.refl _ w).alloc _
  have hr1 := ((Fr.refl (fun _ => False) w).alloc (.cells #[.slice none 0 0, .int .u16 0] 30)).rd' hr
  have hn := next g 1048576 (w.alloc (.cells #[.slice none 0 0, .int .u16 0] 30)) (hd.alloc _) (by omega) (by omega)
  go_enter Try.func11, Try.ntmps11
  go_wp2_with fail
  refine hn.mono ?_
  rintro e w1 ⟨q, rfl, hq, hd1, hf1⟩
  have hr2 := (hf1.rd_ne hr1 hg).more hf1.size
  have hm := make_any A n c xs q w1 hl hv hr2 (by omega)
  have hB1 := hf1.blk HB1 (by show ¬ w.heap.size = g; omega)
  have HF1 := HF0.trans hf1
  clear hn hr1 hr2 HB1 HF0
  go_wp2_with fail
  refine hm.mono ?_
  rintro e w2 ⟨gb, key, rfl, hf2⟩
  have hB2 := hf2.blk hB1 (fun t => t)
  have hd2 := hd1.fr hd1.lt hf2 (fun _ _ t => t)
  have HF2 := HF1.pu hf2
  have hl2 := hB2.lt
  have c0 : w2.cell? ⟨w.heap.size, 0, none⟩ = some (.slice none 0 0) := hB2.cell 0
  have c1 : w2.cell? ⟨w.heap.size, 1, none⟩ = some (.int .u16 0) := hB2.cell 1
  have f0 := hB2.frozen 0
  have f1 := hB2.frozen 1
  have b0 := cell_alloc (o := .cells #[.slice (some ⟨gb, 0, none⟩) n n, .int .u16 key] 30) c0
  have b1 := cell_alloc (o := .cells #[.slice (some ⟨gb, 0, none⟩) n n, .int .u16 key] 30) c1
  clear hm hB1 HF1 hf2 hd1
  go_wp2_with fail
  refine bodyPost_ret (v := .agg #[.slice (some ⟨gb, 0, none⟩) n n, .int .u16 key]) (by simp [results, Try.results11, go_sem, c0, c1, hl2]) rfl ⟨_, _, rfl, ?_, ?_⟩
  · exact ((hd2.set_ (q := ⟨w.heap.size, 0, none⟩) hgl _).set_ (q := ⟨w.heap.size, 1, none⟩) hgl _).alloc _
  · exact ((HF2.setCell (p := ⟨w.heap.size, 0, none⟩) (.inr (Nat.le_refl _)) _).setCell (p := ⟨w.heap.size, 1, none⟩) (.inr (Nat.le_refl _)) _).alloc _
end Go.Proofs.Ytfcimpfhfbkgbaa
