/- Package watchdog: bounds, the least and the greatest, the check, a copy. -/
import Derived.Test.YtlgimjinaijhlaaRows
import Derived.Test.YtlgimjinaijhlaaWatLaw
import Derived.Deep.RegionHeld3
namespace Go.Proofs.Ytlgimjinaijhlaa
open Go.RowKit

set_option maxHeartbeats 400000 in
theorem limits_ok (n k : Int) (w : World) (hn : 1 ≤ n ∧ n ≤ 5) (hk : 0 ≤ k ∧ k ≤ 20) :
    Calls Try.prog 19 #[.int .i64 n, .int .i64 k] w fun e w' => e = .returned (.int .i64 0) ∧ w = w' := by
  obtain ⟨n1, n2⟩ := hn
  obtain ⟨k1, k2⟩ := hk
  go_enter Try.func19, Try.ntmps19
  go_wp2
  go_ret
  exact ⟨rfl, rfl⟩

/-- the least, the greatest of the first k + 1 -/
def minTo (xs : List Int) : Nat → Int
  | 0 => xs.getD 0 0
  | k + 1 => if xs.getD (k + 1) 0 < minTo xs k then xs.getD (k + 1) 0 else minTo xs k
def maxTo (xs : List Int) : Nat → Int
  | 0 => xs.getD 0 0
  | k + 1 => if maxTo xs k < xs.getD (k + 1) 0 then xs.getD (k + 1) 0 else maxTo xs k
theorem getD_bd {xs : List Int} {lo hi : Int} (hx : ∀ x ∈ xs, lo ≤ x ∧ x ≤ hi) (k : Nat) (hk : k < xs.length) : lo ≤ xs.getD k 0 ∧ xs.getD k 0 ≤ hi := by
  have : xs.getD k 0 = xs[k] := by simp [List.getD, hk]
  rw [this]; exact hx _ (List.getElem_mem hk)
theorem minTo_bd {xs : List Int} {lo hi : Int} (hx : ∀ x ∈ xs, lo ≤ x ∧ x ≤ hi) (k : Nat) (hk : k < xs.length) : lo ≤ minTo xs k ∧ minTo xs k ≤ hi := by
  induction k with
  | zero => exact getD_bd hx 0 hk
  | succ k ih =>
    have h1 := ih (by omega)
    have h2 := getD_bd hx (k + 1) hk
    simp only [minTo]; split <;> assumption
set_option maxHeartbeats 800000 in
theorem min_c (A : Option Addr) (n c : Nat) (xs : List Int) (w : World) (hl : xs.length = n) (hn : 1 ≤ n) (hn5 : n ≤ 5) (hr : Rd w w.heap.size A (ints xs)) :
    Calls Try.prog 21 #[.slice A n c] w fun e w' => e = .returned (.int .i64 (minTo xs (n - 1))) ∧ w = w' := by
  obtain ⟨b, off, rfl, hb, hc⟩ := hr (by rw [ints_len]; omega)
  have at_ : ∀ j : Nat, j < n → w.cell? ⟨b, off + j, none⟩ = some (.int .i64 (xs.getD j 0)) := fun j hj => by
    have hj' : j < xs.length := by omega
    have : xs.getD j 0 = xs[j] := by simp [List.getD, hj']
    rw [this]
    exact hc j _ (by rw [List.getElem?_eq_getElem (by rw [ints_len]; omega), ints_get hj'])
  have c0 : w.cell? ⟨b, off, none⟩ = some (.int .i64 (xs.getD 0 0)) := at_ 0 (by omega)
  clear hc
  have AT := Lib.hid at_
  clear at_
  have hm0 : Hid (minTo xs 0 = xs.getD 0 0) := rfl
  generalize xs.getD 0 0 = x0 at *
  go_enter Try.func21, Try.ntmps21
  go_wp2
  go_loop [3, 4] (fun m i => ∃ (k : Nat) (v : Int), 1 ≤ k ∧ k ≤ n ∧ i = .int .i64 k ∧ m = .int .i64 v ∧ Hid (minTo xs (k - 1) = v)) (fun _ i => n - (intOf i).toNat)
  case atStart => exact ⟨1, x0, by omega, by omega, rfl, rfl, hm0⟩
  case round =>
    obtain ⟨k, v, hk1, hk, rfl, rfl, hv⟩ := hrel
    by_cases hlt : k < n
    · have cx := AT.out k hlt
      have hs : Hid (minTo xs k = if xs.getD k 0 < v then xs.getD k 0 else v) := by
        have e : k = (k - 1) + 1 := by omega
        have h := hv.out
        refine Lib.hid ?_
        rw [← h]
        generalize k - 1 = k' at *
        subst e
        rfl
      generalize xs.getD k 0 = x at *
      by_cases hvx : v < x
      · have q : minTo xs k = v := by rw [hs.out]; simp; omega
        have Q := Lib.hid q
        clear q
        go_wp2
        go_round
        case rel => exact ⟨k + 1, _, by omega, by omega, by go_num, rfl, Q.out⟩
        case measure => simp [intOf]; omega
      · have q : minTo xs k = x := by rw [hs.out]; simp; omega
        have Q := Lib.hid q
        clear q
        go_wp2
        all_goals
          go_round
          case rel => exact ⟨k + 1, _, by omega, by omega, by go_num, rfl, by have := Q.out; first | exact this | (rw [Nat.add_sub_cancel]; omega)⟩
          case measure => simp [intOf]; omega
    · go_wp2
      go_ret
      obtain rfl : k = n := by omega
      exact ⟨by rw [hv.out]; rfl, rfl⟩
theorem maxTo_bd {xs : List Int} {lo hi : Int} (hx : ∀ x ∈ xs, lo ≤ x ∧ x ≤ hi) (k : Nat) (hk : k < xs.length) : lo ≤ maxTo xs k ∧ maxTo xs k ≤ hi := by
  induction k with
  | zero => exact getD_bd hx 0 hk
  | succ k ih =>
    have h1 := ih (by omega)
    have h2 := getD_bd hx (k + 1) hk
    simp only [maxTo]; split <;> assumption
set_option maxHeartbeats 800000 in
theorem max_c (A : Option Addr) (n c : Nat) (xs : List Int) (w : World) (hl : xs.length = n) (hn : 1 ≤ n) (hn5 : n ≤ 5) (hr : Rd w w.heap.size A (ints xs)) :
    Calls Try.prog 22 #[.slice A n c] w fun e w' => e = .returned (.int .i64 (maxTo xs (n - 1))) ∧ w = w' := by
  obtain ⟨b, off, rfl, hb, hc⟩ := hr (by rw [ints_len]; omega)
  have at_ : ∀ j : Nat, j < n → w.cell? ⟨b, off + j, none⟩ = some (.int .i64 (xs.getD j 0)) := fun j hj => by
    have hj' : j < xs.length := by omega
    have : xs.getD j 0 = xs[j] := by simp [List.getD, hj']
    rw [this]
    exact hc j _ (by rw [List.getElem?_eq_getElem (by rw [ints_len]; omega), ints_get hj'])
  have c0 : w.cell? ⟨b, off, none⟩ = some (.int .i64 (xs.getD 0 0)) := at_ 0 (by omega)
  clear hc
  have AT := Lib.hid at_
  clear at_
  have hm0 : Hid (maxTo xs 0 = xs.getD 0 0) := rfl
  generalize xs.getD 0 0 = x0 at *
  go_enter Try.func22, Try.ntmps22
  go_wp2
  go_loop [3, 4] (fun m i => ∃ (k : Nat) (v : Int), 1 ≤ k ∧ k ≤ n ∧ i = .int .i64 k ∧ m = .int .i64 v ∧ Hid (maxTo xs (k - 1) = v)) (fun _ i => n - (intOf i).toNat)
  case atStart => exact ⟨1, x0, by omega, by omega, rfl, rfl, hm0⟩
  case round =>
    obtain ⟨k, v, hk1, hk, rfl, rfl, hv⟩ := hrel
    by_cases hlt : k < n
    · have cx := AT.out k hlt
      have hs : Hid (maxTo xs k = if v < xs.getD k 0 then xs.getD k 0 else v) := by
        have e : k = (k - 1) + 1 := by omega
        have h := hv.out
        refine Lib.hid ?_
        rw [← h]
        generalize k - 1 = k' at *
        subst e
        rfl
      generalize xs.getD k 0 = x at *
      by_cases hvx : v < x
      · have q : maxTo xs k = x := by rw [hs.out]; simp; omega
        have Q := Lib.hid q
        clear q
        go_wp2
        go_round
        case rel => exact ⟨k + 1, _, by omega, by omega, by go_num, rfl, Q.out⟩
        case measure => simp [intOf]; omega
      · have q : maxTo xs k = v := by rw [hs.out]; simp; omega
        have Q := Lib.hid q
        clear q
        go_wp2
        all_goals
          go_round
          case rel => exact ⟨k + 1, _, by omega, by omega, by go_num, rfl, by have := Q.out; first | exact this | (rw [Nat.add_sub_cancel]; omega)⟩
          case measure => simp [intOf]; omega
    · go_wp2
      go_ret
      obtain rfl : k = n := by omega
      exact ⟨by rw [hv.out]; rfl, rfl⟩

set_option maxHeartbeats 1000000 in
theorem check_ok (A : Option Addr) (n c : Nat) (ms : List Int) (k : Int) (w : World) (hl : ms.length = n) (hn : 1 ≤ n) (hn5 : n ≤ 5) (hk : 0 ≤ k ∧ k ≤ 20) (hx : ∀ x ∈ ms, 0 ≤ x ∧ x ≤ k) (hr : Rd w w.heap.size A (ints ms)) :
    Calls Try.prog 14 #[.agg #[.int .i64 k, .slice A n c]] w fun e w' => e = .returned (.int .i64 0) ∧ Pu w w' := by
  have hlim := fun u => limits_ok n k u (by omega) hk
  have HF : Pu w (w.alloc (.cells #[.int .i64 k, .slice A n c] 24)) := (Fr.refl _ w).alloc _
  have HB := Blk.new w 24 #[.int .i64 k, .slice A n c]
  have HR : ∀ j, Rd ((w.alloc (.cells #[.int .i64 k, .slice A n c] 24)).drewN j) ((w.alloc (.cells #[.int .i64 k, .slice A n c] 24)).drewN j).heap.size A (ints ms) := fun j => (HF.rd' hr).drewN j
  have hmin := fun j => min_c A n c ms ((w.alloc (.cells #[.int .i64 k, .slice A n c] 24)).drewN j) hl hn hn5 (HR j)
  have hmax := fun j => max_c A n c ms ((w.alloc (.cells #[.int .i64 k, .slice A n c] 24)).drewN j) hl hn hn5 (HR j)
  obtain ⟨m1, m2⟩ := minTo_bd hx (n - 1) (by omega)
  obtain ⟨m3, m4⟩ := maxTo_bd hx (n - 1) (by omega)
  generalize minTo ms (n - 1) = mn at *
  generalize maxTo ms (n - 1) = mxx at *
  clear HR hx hl hr HB
  obtain ⟨k1, k2⟩ := hk
  go_enter Try.func14, Try.ntmps14
  go_wp2_with (go_at_call 19; refine (hlim _).mono ?_; rintro e w' ⟨rfl, rfl⟩)
  go_quiet ((first | (go_at_call 21; exact quietL (hmin _)) | (go_at_call 22; exact quietL (hmax _))))
  go_wp2
  go_ret
  exact ⟨rfl, HF.drewN _⟩
end Go.Proofs.Ytlgimjinaijhlaa
