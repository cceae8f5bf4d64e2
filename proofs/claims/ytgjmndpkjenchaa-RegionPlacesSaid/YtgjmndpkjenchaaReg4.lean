/- Plain laws on places; the deck's places; the example of the chapter. -/
import Derived.Test.YtgjmndpkjenchaaReg3
namespace Go.Proofs.Ytgjmndpkjenchaa
open Go.RowKit

theorem loc_spec (xs : List Int) (i : Int) (h0 : 0 ≤ i) (r : Nat) (o : Int) (h : loc xs i = some (r, o)) : ∃ hr : r < xs.length, 0 ≤ o ∧ o < xs[r] ∧ (xs.take r).sum + o = i := by
  induction xs generalizing i r with
  | nil => simp [loc] at h
  | cons x t ih =>
    simp only [loc] at h
    split at h
    · rename_i hx
      simp at h
      obtain ⟨rfl, rfl⟩ := h
      exact ⟨by simp, h0, by simpa using hx, by simp⟩
    · rename_i hx
      cases hl : loc t (i - x) with
      | none => rw [hl] at h; simp at h
      | some p =>
        rw [hl] at h
        obtain ⟨r', o'⟩ := p
        simp at h
        obtain ⟨rfl, rfl⟩ := h
        obtain ⟨hr, a, b, c⟩ := ih (i - x) (by omega) r' hl
        exact ⟨by simp; omega, a, by simpa using b, by simp only [List.take_succ_cons, List.sum_cons]; omega⟩
theorem place_spec {xs : List Int} {i : Int} {r : Nat} {o : Int} (h : place xs i = some (r, o)) : 0 ≤ i ∧ ∃ hr : r < xs.length, 0 ≤ o ∧ o < xs[r] ∧ indexS xs r o = i := by
  unfold place at h
  split at h
  · rename_i h0
    obtain ⟨hr, a, b, c⟩ := loc_spec xs i h0 r o h
    exact ⟨h0, hr, a, b, by unfold indexS; simpa using c⟩
  · cases h
theorem place_some {xs : List Int} {i : Int} (h0 : 0 ≤ i) (h : i < xs.sum) : ∃ r o, place xs i = some (r, o) := by
  obtain ⟨⟨r, o⟩, hp⟩ := loc_some xs i h0 h
  exact ⟨r, o, by unfold place; rw [if_pos h0, hp]⟩
theorem place_none {xs : List Int} {i : Int} (hv : VSizes xs) (h : i < 0 ∨ xs.sum ≤ i) : place xs i = none := by
  unfold place
  split
  · exact loc_none xs i (fun y hy => by have := hv.2.2 y hy; omega) (by omega)
  · rfl
theorem inside_spec {xs : List Int} {r : Nat} {o : Int} (hr : r < xs.length) (h0 : 0 ≤ o) (h1 : o < xs[r]) : insideB xs r o = true := by
  have e : xs.getD (r : Int).toNat 0 = xs[r] := by simp [List.getD, hr]
  unfold insideB; rw [e]; exact decide_eq_true ⟨by omega, by omega, h0, h1⟩
theorem take_mono {xs : List Int} (hx : ∀ x ∈ xs, 0 ≤ x) {r r' : Nat} (h : r' < r) (hr : r' < xs.length) : (xs.take r').sum + xs[r'] ≤ (xs.take r).sum := by
  induction r with
  | zero => omega
  | succ r ih =>
    by_cases hlt : r < xs.length
    · rw [take_snoc xs r hlt, List.sum_append]
      simp only [List.sum_cons, List.sum_nil]
      have := hx xs[r] (List.getElem_mem hlt)
      by_cases e : r' = r
      · subst e; omega
      · have := ih (by omega); omega
    · have e : xs.take (r + 1) = xs.take r := by rw [List.take_of_length_le (by omega), List.take_of_length_le (by omega)]
      rw [e]
      exact ih (by omega)
theorem place_step {xs : List Int} (hv : VSizes xs) {i : Int} {r r' : Nat} {o o' : Int} (h : place xs i = some (r, o)) (h' : place xs (i + 1) = some (r', o')) : r < r' ∨ (r = r' ∧ o' = o + 1) := by
  obtain ⟨_, hr, a, b, c⟩ := place_spec h
  obtain ⟨_, hr', a', b', c'⟩ := place_spec h'
  have hx : ∀ x ∈ xs, 0 ≤ x := fun x hx => by have := hv.2.2 x hx; omega
  unfold indexS at c c'
  simp only [Int.toNat_natCast] at c c'
  rcases Nat.lt_trichotomy r r' with h1 | h1 | h1
  · exact .inl h1
  · subst h1; exact .inr ⟨rfl, by omega⟩
  · have := take_mono hx h1 hr'; omega

set_option maxHeartbeats 800000 in
theorem awake_any (w : World) : Calls Try.prog 8 #[] w fun e w' => e = .returned (.bool true) ∧ Pu w w' := by
  have hv : VSizes [10, 3] := ⟨by decide, by decide, fun x hx => by simp at hx; rcases hx with rfl | rfl <;> omega⟩
  have hrd : Rd (w.alloc (.cells #[.int .i64 10, .int .i64 3] 3)) (w.heap.size + 1) (some ⟨w.heap.size, 0, none⟩) (ints [10, 3]) := fun _ =>
    ⟨w.heap.size, 0, rfl, by omega, fun j u hu => by rw [(Blk.new w _ _).cell]; simpa [ints] using hu⟩
  have hpl : place [10, 3] 11 = some (1, 1) := by decide
  have hs : sumW [10, 3] = 13 := by rw [sumW_eq hv]; rfl
  have hp3 : pagesS [10, 3] = 3 := by decide
  go_enter Try.func8, Try.ntmps8
  go_wp2_with fail
  refine (at_p (some ⟨w.heap.size, 0, none⟩) 2 2 [10, 3] 11 (w.heap.size + 1) _ rfl hv ⟨by omega, by omega⟩ (by simp) hrd).mono ?_
  rw [hpl]
  rintro e w1 ⟨he, hf1⟩
  obtain rfl : e = .returned (.tuple #[.agg #[.int .i64 1, .int .i64 1], .int .i64 0]) := he
  have hr1 : Rd w1 (w.heap.size + 1) (some ⟨w.heap.size, 0, none⟩) (ints [10, 3]) := hf1.rd hrd (by simp) (fun _ _ t => t)
  have hF : Pu w w1 := ((Fr.refl _ w).alloc _).then hf1 (fun _ _ t => t)
  have ht := total_p (some ⟨w.heap.size, 0, none⟩) 2 2 [10, 3] (w.heap.size + 1) (w1.alloc (.cells #[.int .i64 1, .int .i64 1] 33)) rfl (by omega) (hr1.alloc (by have := hf1.size; simp at this; omega) _)
  have hp := pages_p (some ⟨w.heap.size, 0, none⟩) 2 2 [10, 3] (w.heap.size + 1) (w1.alloc (.cells #[.int .i64 1, .int .i64 1] 33)) rfl hv (hr1.alloc (by have := hf1.size; simp at this; omega) _)
  rw [hs] at ht
  rw [hp3] at hp
  clear hs hp3 hpl
  go_wp2_with fail
  refine ht.mono ?_
  rintro e w2 ⟨rfl, rfl⟩
  go_wp2_with fail
  refine hp.mono ?_
  rintro e w2 ⟨rfl, rfl⟩
  clear ht hp
  go_wp2_with fail
  go_ret
  exact ⟨rfl, hF.alloc _⟩

theorem pl_cells (o : Option (Nat × Int)) : ∃ a b : Int, placeV o = .agg #[.int .i64 a, .int .i64 b] ∧ (a, b) = (match o with | some p => ((p.1 : Int), p.2) | none => (0, 0)) := by
  cases o with
  | none => exact ⟨0, 0, rfl, rfl⟩
  | some p => exact ⟨_, _, rfl, rfl⟩

set_option maxHeartbeats 1000000 in
/-- The deck's places: the numbers are any. -/
theorem mkPlace (g : Nat) (A : Option Addr) (n c : Nat) (xs : List Int) (w : World) (hd : DeckOK w g) (hl : xs.length = n) (hv : VSizes xs) (hr : Rd w w.heap.size A (ints xs)) (hS : ∀ b off, A = some ⟨b, off, none⟩ → b ≠ g) :
    Calls Try.prog 21 #[.pointer (some ⟨g, 0, none⟩), .slice A n c] w fun e w' =>
      ∃ a b : Int, e = .returned (.agg #[.int .i64 a, .int .i64 b]) ∧ I64 a ∧ I64 b ∧ DeckOK w' g ∧ Fr (· = g) w w' := by
  subst hl
  have hg := hd.lt
  have keep : ∀ w', Fr (· = g) w w' → Rd w' w'.heap.size A (ints xs) := fun w' hf hn => by
    obtain ⟨b, off, rfl, hb, hc⟩ := hr hn
    exact ⟨b, off, rfl, Nat.lt_of_lt_of_le hb hf.size, fun j u hu => hf.cell (hc j u hu) (hS b off rfl)⟩
  go_enter Try.func21, Try.ntmps21
  go_wp2_with fail
  refine (next g 8 _ (hd.alloc _) (by omega) (by omega)).mono ?_
  rintro e w1 ⟨r, rfl, hr1, hd1, hf1⟩
  have hF1 : Fr (· = g) w w1 := ((Fr.refl _ w).alloc _).trans hf1
  have hB1 : Blk w1 w.heap.size 33 #[.int .i64 0, .int .i64 0] := hf1.blk (Blk.new _ _ _) (by omega)
  by_cases h7 : r = 7
  · have h7' : ((r : Int) == 7) = true := by simp; omega
    clear h7
    go_wp2_with fail
    refine (next g 6 _ hd1 (by omega) (by omega)).mono ?_
    rintro e w2 ⟨r2, rfl, hr2, hd2, hf2⟩
    have hB2 := hf2.blk hB1 (by omega)
    go_wp2_with fail
    refine (next g 36 _ hd2 (by omega) (by omega)).mono ?_
    rintro e w3 ⟨r3, rfl, hr3, hd3, hf3⟩
    have hB3 := hf3.blk hB2 (by omega)
    have c0 : w3.cell? ⟨w.heap.size, 0, none⟩ = some (.int .i64 0) := hB3.cell 0
    have c1 : w3.cell? ⟨w.heap.size, 1, none⟩ = some (.int .i64 0) := hB3.cell 1
    have f0 := hB3.frozen 0
    have f1 := hB3.frozen 1
    go_wp2_with fail
    refine bodyPost_ret (v := .agg #[.int .i64 ((r2 : Int) - 1), .int .i64 ((r3 : Int) - 2)]) (by simp [results, Try.results21, go_sem, c0, c1]) rfl ⟨_, _, rfl, ⟨by omega, by omega⟩, ⟨by omega, by omega⟩, ?_, ?_⟩
    · exact (hd3.set_ hg _).set_ hg _
    · exact ((((hF1.trans hf2).trans hf3).setCell (.inr (by simp)) _).setCell (.inr (by simp)) _)
  · have h7' : ((r : Int) == 7) = false := by simp; omega
    clear h7
    have hT := sum_bd xs hv.2.2
    have hl1 := hv.1
    have hl4 := hv.2.1
    have ht := total_r A xs.length c xs w1.heap.size w1 rfl (by omega) (keep _ hF1)
    rw [sumW_eq hv] at ht
    go_wp2_with fail
    refine ht.mono ?_
    rintro e w2 ⟨rfl, rfl⟩
    clear ht
    go_wp2_with fail
    refine (next g xs.sum _ hd1 (by omega) (by omega)).mono ?_
    rintro e w2 ⟨r2, rfl, hr2, hd2, hf2⟩
    have hB2 := hf2.blk hB1 (by omega)
    have hF2 := hF1.trans hf2
    go_wp2_with fail
    refine (at_r A xs.length c xs r2 w2.heap.size w2 rfl hv ⟨by omega, by omega⟩ (Nat.le_refl _) (keep _ hF2)).mono ?_
    rintro e w3 ⟨rfl, hf3⟩
    obtain ⟨a, b, hab, hpq⟩ := pl_cells (place xs r2)
    obtain ⟨x, hx⟩ : ∃ x : Int, placeE (place xs r2) = .int .i64 x := by cases place xs r2 <;> exact ⟨_, rfl⟩
    rw [hab, hx]
    clear hx hab
    have hB3 := hf3.blk hB2 (fun t => t)
    have hd3 := hd2.fr hd2.lt hf3 (fun _ _ t => t)
    have hF3 : Fr (· = g) w w3 := hF2.pu hf3
    have hab : I64 a ∧ I64 b := by
      cases hp : place xs r2 with
      | none => rw [hp] at hpq; simp at hpq; obtain ⟨rfl, rfl⟩ := hpq; exact ⟨⟨by omega, by omega⟩, by omega, by omega⟩
      | some p =>
        obtain ⟨r', o'⟩ := p
        rw [hp] at hpq; simp at hpq
        obtain ⟨rfl, rfl⟩ := hpq
        obtain ⟨_, hr', h0, h1, _⟩ := place_spec hp
        have := hv.2.2 _ (List.getElem_mem hr')
        exact ⟨⟨by omega, by omega⟩, by omega, by omega⟩
    clear hpq
    have c0 : w3.cell? ⟨w.heap.size, 0, none⟩ = some (.int .i64 0) := hB3.cell 0
    have c1 : w3.cell? ⟨w.heap.size, 1, none⟩ = some (.int .i64 0) := hB3.cell 1
    have f0 := hB3.frozen 0
    have f1 := hB3.frozen 1
    have hz := hB3.lt
    go_wp2_with fail
    refine bodyPost_ret (v := .agg #[.int .i64 a, .int .i64 b]) (by simp [results, Try.results21, go_sem, c0, c1, hz]) rfl ⟨_, _, rfl, hab.1, hab.2, ?_, ?_⟩
    · repeat (first | exact hd3 | refine DeckOK.set_ ?_ (by first | exact hg | (show g < w3.heap.size; omega)) _ | refine DeckOK.alloc ?_ _)
    · repeat (first | exact hF3 | refine Fr.setCell ?_ (.inr (by first | exact Nat.le_refl _ | (show w.heap.size ≤ w3.heap.size; omega))) _ | refine Fr.alloc ?_ _)
end Go.Proofs.Ytgjmndpkjenchaa
