/- Places and pages: the program's functions and the reference's. -/
import Derived.Test.YtgjmndpkjenchaaReg
import Derived.Test.YtgjmndpkjenchaaDeck
namespace Go.Proofs.Ytgjmndpkjenchaa
open Go.RowKit

/-- the place with a number: its region and its offset -/
def loc : List Int → Int → Option (Nat × Int)
  | [], _ => none
  | n :: t, i => if i < n then some (0, i) else (loc t (i - n)).map fun p => (p.1 + 1, p.2)
def place (xs : List Int) (i : Int) : Option (Nat × Int) := if 0 ≤ i then loc xs i else none
def placeV (o : Option (Nat × Int)) : Value := match o with | some p => .agg #[.int .i64 p.1, .int .i64 p.2] | none => .agg #[.int .i64 0, .int .i64 0]
def placeE (o : Option (Nat × Int)) : Value := match o with | some _ => .int .i64 0 | none => .int .i64 6
theorem loc_hit {xs : List Int} {k : Nat} (hk : k < xs.length) {i : Int} (h : i < xs[k]) : loc (xs.drop k) i = some (0, i) := by
  rw [List.drop_eq_getElem_cons hk]; simp [loc, h]
theorem loc_miss {xs : List Int} {k : Nat} (hk : k < xs.length) {i : Int} (h : ¬ i < xs[k]) : loc (xs.drop k) i = (loc (xs.drop (k + 1)) (i - xs[k])).map fun p => (p.1 + 1, p.2) := by
  rw [List.drop_eq_getElem_cons hk]; simp only [loc]; rw [if_neg h]
/-- what is known at the k-th size -/
def AtK (xs : List Int) (i : Int) (k : Nat) (j : Int) : Prop := loc xs i = (loc (xs.drop k) j).map fun p => (p.1 + k, p.2)
theorem AtK.zero (xs : List Int) (i : Int) : AtK xs i 0 i := by unfold AtK; cases h : loc xs i <;> simp [h]
theorem AtK.step {xs : List Int} {i j : Int} {k : Nat} (hk : k < xs.length) (h : AtK xs i k j) (hm : ¬ j < xs[k]) : AtK xs i (k + 1) (j - xs[k]) := by
  unfold AtK at *; rw [h, loc_miss hk hm]
  cases loc (xs.drop (k + 1)) (j - xs[k]) <;> simp; omega
theorem AtK.hit {xs : List Int} {i j : Int} {k : Nat} (hk : k < xs.length) (h : AtK xs i k j) (hm : j < xs[k]) : loc xs i = some (k, j) := by
  unfold AtK at h; rw [h, loc_hit hk hm]; simp
theorem AtK.miss {xs : List Int} {i j : Int} {k : Nat} (hk : ¬ k < xs.length) (h : AtK xs i k j) : loc xs i = none := by
  unfold AtK at h; rw [h, List.drop_eq_nil_of_le (by omega)]; rfl

set_option maxHeartbeats 800000 in
theorem at_p (A : Option Addr) (n c : Nat) (xs : List Int) (i : Int) (B : Nat) (w : World) (hl : xs.length = n) (hv : VSizes xs) (hi : I64 i) (hB : B ≤ w.heap.size) (hr : Rd w B A (ints xs)) :
    Calls Try.prog 18 #[.slice A n c, .int .i64 i] w fun e w' => e = .returned (.tuple #[placeV (place xs i), placeE (place xs i)]) ∧ Pu w w' := by
  subst hl
  obtain ⟨hi1, hi2⟩ := hi
  have hl4 := hv.2.1
  by_cases h0 : 0 ≤ i
  · have hpl : place xs i = loc xs i := by simp [place, h0]
    have HP := Lib.hid hpl
    clear hpl
    go_enter Try.func18, Try.ntmps18
    go_wp2
    go_loop [1, 12] (fun j i' => ∃ (k : Nat) (j' : Int), k ≤ xs.length ∧ i' = .int .i64 k ∧ j = .int .i64 j' ∧ 0 ≤ j' ∧ j' ≤ i ∧ AtK xs i k j') (fun _ i' => xs.length - (intOf i').toNat)
    case atStart => exact ⟨0, i, Nat.zero_le _, rfl, rfl, h0, Int.le_refl _, AtK.zero _ _⟩
    case round =>
      obtain ⟨k, j, hk, rfl, rfl, hj0, hji, hat⟩ := hrel
      have HA := Lib.hid hat
      clear hat
      by_cases hlt : k < xs.length
      · obtain ⟨b, off, rfl, hb, hc⟩ := hr.at_ (k := k) (by rw [ints_len]; exact hlt)
        rw [ints_get hlt] at hc
        have hx := hv.2.2 xs[k] (List.getElem_mem hlt)
        have hc1 : (w.alloc (.cells #[.int .i64 0, .int .i64 0] 33)).cell? ⟨b, off + k, none⟩ = some (.int .i64 xs[k]) := by
          rw [World.cell?_alloc_lt w _ _ (by show b < _; omega)]; exact hc
        by_cases hm : j < xs[k]
        · go_wp2
          refine bodyPost_ret (v := .tuple #[.agg #[.int .i64 k, .int .i64 j], .int .i64 0]) (by simp [results, Try.results18, go_sem]) rfl ⟨?_, ?_⟩
          · rw [HP.out, HA.out.hit hlt hm]; rfl
          · repeat (first | exact Fr.refl _ _ | refine Fr.setCell ?_ (.inr (by simp)) _ | refine Fr.alloc ?_ _)
        · go_wp2
          go_round
          case rel => exact ⟨k + 1, j - xs[k], by omega, by go_num, rfl, by omega, by omega, HA.out.step hlt hm⟩
          case measure => simp [intOf]; omega
      · go_wp2
        refine bodyPost_ret (v := .tuple #[.agg #[.int .i64 0, .int .i64 0], .int .i64 6]) (by simp [results, Try.results18, go_sem]) rfl ⟨?_, ?_⟩
        · rw [HP.out, HA.out.miss hlt]; rfl
        · repeat (first | exact Fr.refl _ _ | refine Fr.setCell ?_ (.inr (by simp)) _ | refine Fr.alloc ?_ _)
  · have hpl : place xs i = none := by simp [place, h0]
    rw [hpl]
    go_enter Try.func18, Try.ntmps18
    go_wp2
    refine bodyPost_ret (v := .tuple #[.agg #[.int .i64 0, .int .i64 0], .int .i64 6]) (by simp [results, Try.results18, go_sem]) rfl ⟨rfl, ?_⟩
    repeat (first | exact Fr.refl _ _ | refine Fr.setCell ?_ (.inr (by simp)) _ | refine Fr.alloc ?_ _)

/-- a number below 0 never comes between 0 and a size, wrapped or not -/
def Off (k : Nat) (j : Int) : Prop := I64 j ∧ (j < 0 ∨ 9223372036854775700 - 32 * (k : Int) ≤ j)
theorem Off.step {k : Nat} {j x : Int} (h : Off k j) (h1 : 1 ≤ x) (h2 : x ≤ 32) : Off (k + 1) (wrap64 (j - x)) := by
  unfold Off I64 at *
  unfold wrap64
  omega
theorem Off.no {k : Nat} {j x : Int} (h : Off k j) (hk : k ≤ 4) (h2 : x ≤ 32) : j < 0 ∨ (0 ≤ j ∧ ¬ j < x) := by
  unfold Off I64 at *
  omega

set_option maxHeartbeats 1000000 in
theorem at_r (A : Option Addr) (n c : Nat) (xs : List Int) (i : Int) (B : Nat) (w : World) (hl : xs.length = n) (hv : VSizes xs) (hi : I64 i) (hB : B ≤ w.heap.size) (hr : Rd w B A (ints xs)) :
    Calls Try.prog 23 #[.slice A n c, .int .i64 i] w fun e w' => e = .returned (.tuple #[placeV (place xs i), placeE (place xs i)]) ∧ Pu w w' := by
  subst hl
  obtain ⟨hi1, hi2⟩ := hi
  have hl4 := hv.2.1
  by_cases h0 : 0 ≤ i
  · have hpl : place xs i = loc xs i := by simp [place, h0]
    have HP := Lib.hid hpl
    clear hpl
    go_enter Try.func23, Try.ntmps23
    go_wp2
    go_loop [1, 10] (fun j i' => ∃ (k : Nat) (j' : Int), k ≤ xs.length ∧ i' = .int .i64 k ∧ j = .int .i64 j' ∧ 0 ≤ j' ∧ j' ≤ i ∧ AtK xs i k j') (fun _ i' => xs.length - (intOf i').toNat)
    case atStart => exact ⟨0, i, Nat.zero_le _, rfl, rfl, h0, Int.le_refl _, AtK.zero _ _⟩
    case round =>
      obtain ⟨k, j, hk, rfl, rfl, hj0, hji, hat⟩ := hrel
      have HA := Lib.hid hat
      clear hat
      by_cases hlt : k < xs.length
      · obtain ⟨b, off, rfl, hb, hc⟩ := hr.at_ (k := k) (by rw [ints_len]; exact hlt)
        rw [ints_get hlt] at hc
        have hx := hv.2.2 xs[k] (List.getElem_mem hlt)
        have hc1 : (w.alloc (.cells #[.int .i64 0, .int .i64 0] 33)).cell? ⟨b, off + k, none⟩ = some (.int .i64 xs[k]) := by
          rw [World.cell?_alloc_lt w _ _ (by show b < _; omega)]; exact hc
        by_cases hm : j < xs[k]
        · go_wp2
          refine bodyPost_ret (v := .tuple #[.agg #[.int .i64 k, .int .i64 j], .int .i64 0]) (by simp [results, Try.results23, go_sem]) rfl ⟨?_, ?_⟩
          · rw [HP.out, HA.out.hit hlt hm]; rfl
          · repeat (first | exact Fr.refl _ _ | refine Fr.setCell ?_ (.inr (by simp)) _ | refine Fr.alloc ?_ _)
        · go_wp2
          go_round
          case rel => exact ⟨k + 1, j - xs[k], by omega, by go_num, rfl, by omega, by omega, HA.out.step hlt hm⟩
          case measure => simp [intOf]; omega
      · go_wp2
        refine bodyPost_ret (v := .tuple #[.agg #[.int .i64 0, .int .i64 0], .int .i64 6]) (by simp [results, Try.results23, go_sem]) rfl ⟨?_, ?_⟩
        · rw [HP.out, HA.out.miss hlt]; rfl
        · repeat (first | exact Fr.refl _ _ | refine Fr.setCell ?_ (.inr (by simp)) _ | refine Fr.alloc ?_ _)
  · have hpl : place xs i = none := by simp [place, h0]
    rw [hpl]
    have HOF : Hid (Off 0 i) := ⟨⟨hi1, hi2⟩, .inl (by omega)⟩
    go_enter Try.func23, Try.ntmps23
    go_wp2
    go_loop [1, 10] (fun j i' => ∃ (k : Nat) (j' : Int), k ≤ xs.length ∧ i' = .int .i64 k ∧ j = .int .i64 j' ∧ Off k j') (fun _ i' => xs.length - (intOf i').toNat)
    case atStart => exact ⟨0, i, Nat.zero_le _, rfl, rfl, HOF.out⟩
    case round =>
      obtain ⟨k, j, hk, rfl, rfl, hoff⟩ := hrel
      have HO := Lib.hid hoff
      clear hoff
      by_cases hlt : k < xs.length
      · obtain ⟨b, off, rfl, hb, hc⟩ := hr.at_ (k := k) (by rw [ints_len]; exact hlt)
        rw [ints_get hlt] at hc
        have hx := hv.2.2 xs[k] (List.getElem_mem hlt)
        have hc1 : (w.alloc (.cells #[.int .i64 0, .int .i64 0] 33)).cell? ⟨b, off + k, none⟩ = some (.int .i64 xs[k]) := by
          rw [World.cell?_alloc_lt w _ _ (by show b < _; omega)]; exact hc
        rcases HO.out.no (by omega) hx.2 with hneg | ⟨hp, hm⟩
        · by_cases hin : -9223372036854775808 ≤ j - xs[k]
          · have HS := Lib.hid (HO.out.step hx.1 hx.2)
            go_wp2
            go_round
            case rel => exact ⟨k + 1, j - xs[k], by omega, by go_num, rfl, by have := HS.out; rwa [IntWalk.wrap64_in _ ⟨hin, by omega⟩] at this⟩
            case measure => simp [intOf]; omega
          · have HS := Lib.hid (HO.out.step hx.1 hx.2)
            go_wp2
            go_round
            case rel => exact ⟨k + 1, _, by omega, by go_num, rfl, HS.out⟩
            case measure => simp [intOf]; omega
        · have hj2 := HO.out.1.2
          have HS := Lib.hid (HO.out.step hx.1 hx.2)
          go_wp2
          go_round
          case rel => exact ⟨k + 1, j - xs[k], by omega, by go_num, rfl, by have := HS.out; rwa [IntWalk.wrap64_in _ ⟨by omega, by omega⟩] at this⟩
          case measure => simp [intOf]; omega
      · go_wp2
        refine bodyPost_ret (v := .tuple #[.agg #[.int .i64 0, .int .i64 0], .int .i64 6]) (by simp [results, Try.results23, go_sem]) rfl ⟨rfl, ?_⟩
        repeat (first | exact Fr.refl _ _ | refine Fr.setCell ?_ (.inr (by simp)) _ | refine Fr.alloc ?_ _)

theorem ints_take (xs : List Int) (k : Nat) : (ints xs).take k = ints (xs.take k) := by simp [ints, List.map_take]
theorem Rd.take {w : World} {B : Nat} {A : Option Addr} {xs : List Value} (h : Rd w B A xs) (k : Nat) : Rd w B A (xs.take k) := fun hn => by
  obtain ⟨b, off, e, hb, hc⟩ := h (by rw [List.length_take] at hn; omega)
  exact ⟨b, off, e, hb, fun j u hu => hc j u (by rw [List.getElem?_take] at hu; split at hu <;> simp_all)⟩
/-- the sum of few sizes does not wrap -/
theorem foldl_wrap (xs : List Int) (a : Int) (ha : 0 ≤ a) (hx : ∀ x ∈ xs, 1 ≤ x ∧ x ≤ 32) (hb : a + 32 * (xs.length : Int) ≤ 1000000) : xs.foldl (fun a x => wrap64 (a + x)) a = a + xs.sum := by
  induction xs generalizing a with
  | nil => simp
  | cons x t ih =>
    have h1 := hx x (by simp)
    simp only [List.foldl_cons, List.sum_cons, List.length_cons] at *
    rw [IntWalk.wrap64_in _ ⟨by omega, by omega⟩, ih (a + x) (by omega) (fun y hy => hx y (by simp [hy])) (by omega)]
    omega
theorem sum_bd (xs : List Int) (hx : ∀ x ∈ xs, 1 ≤ x ∧ x ≤ 32) : (xs.length : Int) ≤ xs.sum ∧ xs.sum ≤ 32 * xs.length := by
  induction xs with
  | nil => simp
  | cons x t ih =>
    have h1 := hx x (by simp)
    have := ih (fun y hy => hx y (by simp [hy]))
    simp only [List.sum_cons, List.length_cons]; omega
theorem sumW_eq {xs : List Int} (h : VSizes xs) : sumW xs = xs.sum := by
  unfold sumW
  rw [foldl_wrap xs 0 (Int.le_refl _) h.2.2 (by have := h.2.1; omega), Int.zero_add]
theorem sumW_take {xs : List Int} (h : VSizes xs) (k : Nat) : sumW (xs.take k) = (xs.take k).sum := by
  unfold sumW
  rw [foldl_wrap _ 0 (Int.le_refl _) (fun x hx => h.2.2 x (List.mem_of_mem_take hx)) (by have := h.2.1; rw [List.length_take]; omega), Int.zero_add]

/-- the number of a place -/
def indexS (xs : List Int) (r o : Int) : Int := (xs.take r.toNat).sum + o

set_option maxHeartbeats 1000000 in
theorem index_p (A : Option Addr) (n c : Nat) (xs : List Int) (r o : Int) (B : Nat) (w : World) (hl : xs.length = n) (hnc : n ≤ c) (hv : VSizes xs) (hB : B ≤ w.heap.size) (hr : Rd w B A (ints xs)) :
    Calls Try.prog 19 #[.slice A n c, .agg #[.int .i64 r, .int .i64 o]] w fun e w' =>
      e = .returned (.tuple #[.int .i64 (if insideB xs r o then indexS xs r o else 0), .int .i64 (if insideB xs r o then 0 else 6)]) ∧ Pu w w' := by
  subst hl
  have hl4 := hv.2.1
  by_cases hin : insideB xs r o = true
  · obtain ⟨h1, h2, h3, h4⟩ := of_decide_eq_true hin
    obtain ⟨k, rfl⟩ := Int.eq_ofNat_of_zero_le h1
    have hlt : k < xs.length := by omega
    rw [hin]
    have hc := inside_p A xs.length c xs k o B (w.alloc (.cells #[.int .i64 (k : Int), .int .i64 o] 33)) rfl (by simp; omega) (by omega) (hr.alloc hB _)
    rw [hin] at hc
    obtain ⟨b, off, rfl, hb, _⟩ := hr.at_ (k := k) (by rw [ints_len]; exact hlt)
    have ho : o < 32 := by
      have hx := hv.2.2 xs[k] (List.getElem_mem hlt)
      have e : xs.getD (k : Int).toNat 0 = xs[k] := by simp [List.getD, hlt]
      rw [e] at h4; omega
    have hs := sum_bd (xs.take k) (fun x hx => hv.2.2 x (List.mem_of_mem_take hx))
    have hs2 : (xs.take k).length ≤ 4 := by rw [List.length_take]; omega
    have HS := Lib.hid (sumW_take hv k)
    clear hin h4
    go_enter Try.func19, Try.ntmps19
    go_wp2_with fail
    refine hc.mono ?_
    rintro e w1 ⟨rfl, hp⟩
    have hblk : Blk w1 w.heap.size 33 #[.int .i64 (k : Int), .int .i64 o] := hp.blk (Blk.new _ _ _) (fun t => t)
    have hr1 : Rd w1 B (some ⟨b, off, none⟩) (ints xs) := hp.rd (hr.alloc hB _) (by simp; omega) (fun _ _ t => t)
    have hF : Pu w w1 := ((Fr.refl _ w).alloc _).then hp (fun _ _ t => t)
    have c0 : w1.cell? ⟨w.heap.size, 0, none⟩ = some (.int .i64 (k : Int)) := hblk.cell 0
    have c1 : w1.cell? ⟨w.heap.size, 1, none⟩ = some (.int .i64 o) := hblk.cell 1
    have ht := fun u => total_p (some ⟨b, off, none⟩) k c (xs.take k) B u (by simp; omega) (by omega)
    rw [HS.out] at ht
    clear hc
    go_wp2_with fail
    go_quiet ((go_at_call 14; exact quietL (ht _ (by rw [← ints_take]; exact (hr1.take k).drewN _))))
    go_wp2
    go_ret2
    exact ⟨rfl, hF.drewN _⟩
  · have hf : insideB xs r o = false := by simpa using hin
    rw [hf]
    have hc := inside_p A xs.length c xs r o B (w.alloc (.cells #[.int .i64 r, .int .i64 o] 33)) rfl (by simp; omega) (by omega) (hr.alloc hB _)
    rw [hf] at hc
    clear hin
    go_enter Try.func19, Try.ntmps19
    go_wp2_with fail
    refine hc.mono ?_
    rintro e w1 ⟨rfl, hp⟩
    have hF : Pu w w1 := ((Fr.refl _ w).alloc _).then hp (fun _ _ t => t)
    clear hc
    go_wp2_with fail
    go_ret2
    exact ⟨rfl, hF⟩
set_option maxHeartbeats 1000000 in
theorem index_r (A : Option Addr) (n c : Nat) (xs : List Int) (r o : Int) (B : Nat) (w : World) (hl : xs.length = n) (hnc : n ≤ c) (hv : VSizes xs) (hB : B ≤ w.heap.size) (hr : Rd w B A (ints xs)) :
    Calls Try.prog 24 #[.slice A n c, .agg #[.int .i64 r, .int .i64 o]] w fun e w' =>
      e = .returned (.tuple #[.int .i64 (if insideB xs r o then indexS xs r o else 0), .int .i64 (if insideB xs r o then 0 else 6)]) ∧ Pu w w' := by
  subst hl
  have hl4 := hv.2.1
  by_cases hin : insideB xs r o = true
  · obtain ⟨h1, h2, h3, h4⟩ := of_decide_eq_true hin
    obtain ⟨k, rfl⟩ := Int.eq_ofNat_of_zero_le h1
    have hlt : k < xs.length := by omega
    rw [hin]
    have hc := inside_r A xs.length c xs k o B (w.alloc (.cells #[.int .i64 (k : Int), .int .i64 o] 33)) rfl (by simp; omega) (by omega) (hr.alloc hB _)
    rw [hin] at hc
    obtain ⟨b, off, rfl, hb, _⟩ := hr.at_ (k := k) (by rw [ints_len]; exact hlt)
    have ho : o < 32 := by
      have hx := hv.2.2 xs[k] (List.getElem_mem hlt)
      have e : xs.getD (k : Int).toNat 0 = xs[k] := by simp [List.getD, hlt]
      rw [e] at h4; omega
    have hs := sum_bd (xs.take k) (fun x hx => hv.2.2 x (List.mem_of_mem_take hx))
    have hs2 : (xs.take k).length ≤ 4 := by rw [List.length_take]; omega
    have HS := Lib.hid (sumW_take hv k)
    clear hin h4
    go_enter Try.func24, Try.ntmps24
    go_wp2_with fail
    refine hc.mono ?_
    rintro e w1 ⟨rfl, hp⟩
    have hblk : Blk w1 w.heap.size 33 #[.int .i64 (k : Int), .int .i64 o] := hp.blk (Blk.new _ _ _) (fun t => t)
    have hr1 : Rd w1 B (some ⟨b, off, none⟩) (ints xs) := hp.rd (hr.alloc hB _) (by simp; omega) (fun _ _ t => t)
    have hF : Pu w w1 := ((Fr.refl _ w).alloc _).then hp (fun _ _ t => t)
    have c0 : w1.cell? ⟨w.heap.size, 0, none⟩ = some (.int .i64 (k : Int)) := hblk.cell 0
    have c1 : w1.cell? ⟨w.heap.size, 1, none⟩ = some (.int .i64 o) := hblk.cell 1
    have ht := fun u => total_r (some ⟨b, off, none⟩) k c (xs.take k) B u (by simp; omega) (by omega)
    rw [HS.out] at ht
    clear hc
    go_wp2_with fail
    go_quiet ((go_at_call 15; exact quietL (ht _ (by rw [← ints_take]; exact (hr1.take k).drewN _))))
    go_wp2
    go_ret2
    exact ⟨rfl, hF.drewN _⟩
  · have hf : insideB xs r o = false := by simpa using hin
    rw [hf]
    have hc := inside_r A xs.length c xs r o B (w.alloc (.cells #[.int .i64 r, .int .i64 o] 33)) rfl (by simp; omega) (by omega) (hr.alloc hB _)
    rw [hf] at hc
    clear hin
    go_enter Try.func24, Try.ntmps24
    go_wp2_with fail
    refine hc.mono ?_
    rintro e w1 ⟨rfl, hp⟩
    have hF : Pu w w1 := ((Fr.refl _ w).alloc _).then hp (fun _ _ t => t)
    clear hc
    go_wp2_with fail
    go_ret2
    exact ⟨rfl, hF⟩
end Go.Proofs.Ytgjmndpkjenchaa
