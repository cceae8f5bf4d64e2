/- Layouts: what is inside; the place at an address (program and reference). -/
import Derived.Test.YtfcimpfhfbkgbabTab
import Derived.Test.YtfcimpfhfbkgbabEng14
namespace Go.Proofs.Ytfcimpfhfbkgbab
open Go.RowKit

theorem getI {l : List Int} {k : Nat} (h : k < l.length) : l.getD k 0 = l[k] := by rw [List.getD_eq_getElem?_getD, List.getElem?_eq_getElem h]; rfl
def insF (ss : List Int) (r o : Int) : Bool := decide (0 ≤ r) && (decide (r < (ss.length : Int)) && (decide (0 ≤ o) && decide (o < ss.getD r.toNat 0)))
theorem insF_t {ss : List Int} {r o : Int} : insF ss r o = true ↔ 0 ≤ r ∧ r < (ss.length : Int) ∧ 0 ≤ o ∧ o < ss.getD r.toNat 0 := by
  unfold insF
  simp only [Bool.and_eq_true, decide_eq_true_eq]
theorem insF_f {ss : List Int} {r o : Int} (h : ¬ (0 ≤ r ∧ r < (ss.length : Int) ∧ 0 ≤ o ∧ o < ss.getD r.toNat 0)) : insF ss r o = false := by
  rw [Bool.eq_false_iff]
  exact fun h' => h (insF_t.1 h')

set_option maxHeartbeats 1000000 in
theorem ins_c (A : Option Addr) (n c : Nat) (ss : List Int) (r o : Int) (w : World) (hl : ss.length = n) (hr : Rd w w.heap.size A (ints ss)) :
    Ret Try.prog 28 [.slice A n c, .agg #[.int .i64 r, .int .i64 o]] w (fun v w' => v = .bool (insF ss r o) ∧ Pu w w') := by
  by_cases h1 : 0 ≤ r
  · by_cases h2 : r < (n : Int)
    · by_cases h3 : 0 ≤ o
      · obtain ⟨k, rfl⟩ : ∃ k : Nat, r = (k : Int) := ⟨r.toNat, by omega⟩
        obtain ⟨b1, o1, rfl, hb1, r1⟩ := hr.ro (by rw [ints_len]; omega)
        have e1 := ints_some (xs := ss) (k := k) (by omega)
        have hg := getI (l := ss) (k := k) (by omega)
        generalize ss[k]'(_) = s at *
        by_cases h4 : o < s
        · rw [show insF ss (k : Int) o = true from insF_t.2 ⟨h1, by omega, h3, by rw [Int.toNat_natCast, hg]; exact h4⟩]
          refine enterR Try.func28 rfl rfl rfl fun a hs hm => ?_
          repeat (first | ((with_reducible first | refine toL hm ?_ | refine toQ ?_); (first | refine oneV hs gw_ rfl rfl (by intro w hm; exact kvR_) ?_ | refine oneN hs rfl rfl rfl rfl rfl rfl rfl ?_ | refine oneU hs rfl rfl rfl rfl rfl rfl ?_); clear hs a; intro a hs) | ((with_reducible apply lCons); first | (refine dv hs gw_ rfl rfl da_ ?_; clear hs hm a; rintro _ w ⟨g, rfl, -, hm⟩ a hs) | (refine stn hs rfl rfl ds_ ?_; clear hs hm a; rintro - w hm a hs) ) | ((with_reducible apply qNil); clear hm; intro w hm) | ((with_reducible refine cQuiet hm ?_ ?_ ?_ ?_); rfl; kernel_rfl; kernel_rfl) | (with_reducible first | apply lNilThen | apply lNilBlock | apply lNil | apply wp_seq | apply wp_region_lit | apply wp_block | apply cExit | apply cRet | apply cSkip | apply gThen | apply gBlock | apply eThen | apply eBlockHit | refine eBlock rfl ?_ | apply rThen | apply rBlock) | ((with_reducible apply cCond); first | refine cTrue hs rfl bd_ ?_ | refine cFalse hs rfl bd_ ?_))
          exact gRet1 hs rfl rfl ⟨rfl, hm.fr⟩
        · rw [insF_f (fun h => h4 (by have := h.2.2.2; rwa [Int.toNat_natCast, hg] at this))]
          refine enterR Try.func28 rfl rfl rfl fun a hs hm => ?_
          repeat (first | ((with_reducible first | refine toL hm ?_ | refine toQ ?_); (first | refine oneV hs gw_ rfl rfl (by intro w hm; exact kvR_) ?_ | refine oneN hs rfl rfl rfl rfl rfl rfl rfl ?_ | refine oneU hs rfl rfl rfl rfl rfl rfl ?_); clear hs a; intro a hs) | ((with_reducible apply lCons); first | (refine dv hs gw_ rfl rfl da_ ?_; clear hs hm a; rintro _ w ⟨g, rfl, -, hm⟩ a hs) | (refine stn hs rfl rfl ds_ ?_; clear hs hm a; rintro - w hm a hs) ) | ((with_reducible apply qNil); clear hm; intro w hm) | ((with_reducible refine cQuiet hm ?_ ?_ ?_ ?_); rfl; kernel_rfl; kernel_rfl) | (with_reducible first | apply lNilThen | apply lNilBlock | apply lNil | apply wp_seq | apply wp_region_lit | apply wp_block | apply cExit | apply cRet | apply cSkip | apply gThen | apply gBlock | apply eThen | apply eBlockHit | refine eBlock rfl ?_ | apply rThen | apply rBlock) | ((with_reducible apply cCond); first | refine cTrue hs rfl bd_ ?_ | refine cFalse hs rfl bd_ ?_))
          exact gRet1 hs rfl rfl ⟨rfl, hm.fr⟩
      · rw [insF_f (by omega)]
        refine enterR Try.func28 rfl rfl rfl fun a hs hm => ?_
        repeat (first | ((with_reducible first | refine toL hm ?_ | refine toQ ?_); (first | refine oneV hs gw_ rfl rfl (by intro w hm; exact kvR_) ?_ | refine oneN hs rfl rfl rfl rfl rfl rfl rfl ?_ | refine oneU hs rfl rfl rfl rfl rfl rfl ?_); clear hs a; intro a hs) | ((with_reducible apply lCons); first | (refine dv hs gw_ rfl rfl da_ ?_; clear hs hm a; rintro _ w ⟨g, rfl, -, hm⟩ a hs) | (refine stn hs rfl rfl ds_ ?_; clear hs hm a; rintro - w hm a hs) ) | ((with_reducible apply qNil); clear hm; intro w hm) | ((with_reducible refine cQuiet hm ?_ ?_ ?_ ?_); rfl; kernel_rfl; kernel_rfl) | (with_reducible first | apply lNilThen | apply lNilBlock | apply lNil | apply wp_seq | apply wp_region_lit | apply wp_block | apply cExit | apply cRet | apply cSkip | apply gThen | apply gBlock | apply eThen | apply eBlockHit | refine eBlock rfl ?_ | apply rThen | apply rBlock) | ((with_reducible apply cCond); first | refine cTrue hs rfl bd_ ?_ | refine cFalse hs rfl bd_ ?_))
        exact gRet1 hs rfl rfl ⟨rfl, hm.fr⟩
    · rw [insF_f (by omega)]
      refine enterR Try.func28 rfl rfl rfl fun a hs hm => ?_
      repeat (first | ((with_reducible first | refine toL hm ?_ | refine toQ ?_); (first | refine oneV hs gw_ rfl rfl (by intro w hm; exact kvR_) ?_ | refine oneN hs rfl rfl rfl rfl rfl rfl rfl ?_ | refine oneU hs rfl rfl rfl rfl rfl rfl ?_); clear hs a; intro a hs) | ((with_reducible apply lCons); first | (refine dv hs gw_ rfl rfl da_ ?_; clear hs hm a; rintro _ w ⟨g, rfl, -, hm⟩ a hs) | (refine stn hs rfl rfl ds_ ?_; clear hs hm a; rintro - w hm a hs) ) | ((with_reducible apply qNil); clear hm; intro w hm) | ((with_reducible refine cQuiet hm ?_ ?_ ?_ ?_); rfl; kernel_rfl; kernel_rfl) | (with_reducible first | apply lNilThen | apply lNilBlock | apply lNil | apply wp_seq | apply wp_region_lit | apply wp_block | apply cExit | apply cRet | apply cSkip | apply gThen | apply gBlock | apply eThen | apply eBlockHit | refine eBlock rfl ?_ | apply rThen | apply rBlock) | ((with_reducible apply cCond); first | refine cTrue hs rfl bd_ ?_ | refine cFalse hs rfl bd_ ?_))
      exact gRet1 hs rfl rfl ⟨rfl, hm.fr⟩
  · rw [insF_f (by omega)]
    refine enterR Try.func28 rfl rfl rfl fun a hs hm => ?_
    repeat (first | ((with_reducible first | refine toL hm ?_ | refine toQ ?_); (first | refine oneV hs gw_ rfl rfl (by intro w hm; exact kvR_) ?_ | refine oneN hs rfl rfl rfl rfl rfl rfl rfl ?_ | refine oneU hs rfl rfl rfl rfl rfl rfl ?_); clear hs a; intro a hs) | ((with_reducible apply lCons); first | (refine dv hs gw_ rfl rfl da_ ?_; clear hs hm a; rintro _ w ⟨g, rfl, -, hm⟩ a hs) | (refine stn hs rfl rfl ds_ ?_; clear hs hm a; rintro - w hm a hs) ) | ((with_reducible apply qNil); clear hm; intro w hm) | ((with_reducible refine cQuiet hm ?_ ?_ ?_ ?_); rfl; kernel_rfl; kernel_rfl) | (with_reducible first | apply lNilThen | apply lNilBlock | apply lNil | apply wp_seq | apply wp_region_lit | apply wp_block | apply cExit | apply cRet | apply cSkip | apply gThen | apply gBlock | apply eThen | apply eBlockHit | refine eBlock rfl ?_ | apply rThen | apply rBlock) | ((with_reducible apply cCond); first | refine cTrue hs rfl bd_ ?_ | refine cFalse hs rfl bd_ ?_))
    exact gRet1 hs rfl rfl ⟨rfl, hm.fr⟩
set_option maxHeartbeats 1000000 in
theorem rins_c (A : Option Addr) (n c : Nat) (ss : List Int) (r o : Int) (w : World) (hl : ss.length = n) (hr : Rd w w.heap.size A (ints ss)) :
    Ret Try.prog 22 [.slice A n c, .agg #[.int .i64 r, .int .i64 o]] w (fun v w' => v = .bool (insF ss r o) ∧ Pu w w') := by
  by_cases h1 : 0 ≤ r
  · by_cases h2 : r < (n : Int)
    · by_cases h3 : 0 ≤ o
      · obtain ⟨k, rfl⟩ : ∃ k : Nat, r = (k : Int) := ⟨r.toNat, by omega⟩
        obtain ⟨b1, o1, rfl, hb1, r1⟩ := hr.ro (by rw [ints_len]; omega)
        have e1 := ints_some (xs := ss) (k := k) (by omega)
        have hg := getI (l := ss) (k := k) (by omega)
        generalize ss[k]'(_) = s at *
        by_cases h4 : o < s
        · rw [show insF ss (k : Int) o = true from insF_t.2 ⟨h1, by omega, h3, by rw [Int.toNat_natCast, hg]; exact h4⟩]
          refine enterR Try.func22 rfl rfl rfl fun a hs hm => ?_
          repeat (first | ((with_reducible first | refine toL hm ?_ | refine toQ ?_); (first | refine oneV hs gw_ rfl rfl (by intro w hm; exact kvR_) ?_ | refine oneN hs rfl rfl rfl rfl rfl rfl rfl ?_ | refine oneU hs rfl rfl rfl rfl rfl rfl ?_); clear hs a; intro a hs) | ((with_reducible apply lCons); first | (refine dv hs gw_ rfl rfl da_ ?_; clear hs hm a; rintro _ w ⟨g, rfl, -, hm⟩ a hs) | (refine stn hs rfl rfl ds_ ?_; clear hs hm a; rintro - w hm a hs) ) | ((with_reducible apply qNil); clear hm; intro w hm) | ((with_reducible refine cQuiet hm ?_ ?_ ?_ ?_); rfl; kernel_rfl; kernel_rfl) | (with_reducible first | apply lNilThen | apply lNilBlock | apply lNil | apply wp_seq | apply wp_region_lit | apply wp_block | apply cExit | apply cRet | apply cSkip | apply gThen | apply gBlock | apply eThen | apply eBlockHit | refine eBlock rfl ?_ | apply rThen | apply rBlock) | ((with_reducible apply cCond); first | refine cTrue hs rfl bd_ ?_ | refine cFalse hs rfl bd_ ?_))
          exact gRet1 hs rfl rfl ⟨rfl, hm.fr⟩
        · rw [insF_f (fun h => h4 (by have := h.2.2.2; rwa [Int.toNat_natCast, hg] at this))]
          refine enterR Try.func22 rfl rfl rfl fun a hs hm => ?_
          repeat (first | ((with_reducible first | refine toL hm ?_ | refine toQ ?_); (first | refine oneV hs gw_ rfl rfl (by intro w hm; exact kvR_) ?_ | refine oneN hs rfl rfl rfl rfl rfl rfl rfl ?_ | refine oneU hs rfl rfl rfl rfl rfl rfl ?_); clear hs a; intro a hs) | ((with_reducible apply lCons); first | (refine dv hs gw_ rfl rfl da_ ?_; clear hs hm a; rintro _ w ⟨g, rfl, -, hm⟩ a hs) | (refine stn hs rfl rfl ds_ ?_; clear hs hm a; rintro - w hm a hs) ) | ((with_reducible apply qNil); clear hm; intro w hm) | ((with_reducible refine cQuiet hm ?_ ?_ ?_ ?_); rfl; kernel_rfl; kernel_rfl) | (with_reducible first | apply lNilThen | apply lNilBlock | apply lNil | apply wp_seq | apply wp_region_lit | apply wp_block | apply cExit | apply cRet | apply cSkip | apply gThen | apply gBlock | apply eThen | apply eBlockHit | refine eBlock rfl ?_ | apply rThen | apply rBlock) | ((with_reducible apply cCond); first | refine cTrue hs rfl bd_ ?_ | refine cFalse hs rfl bd_ ?_))
          exact gRet1 hs rfl rfl ⟨rfl, hm.fr⟩
      · rw [insF_f (by omega)]
        refine enterR Try.func22 rfl rfl rfl fun a hs hm => ?_
        repeat (first | ((with_reducible first | refine toL hm ?_ | refine toQ ?_); (first | refine oneV hs gw_ rfl rfl (by intro w hm; exact kvR_) ?_ | refine oneN hs rfl rfl rfl rfl rfl rfl rfl ?_ | refine oneU hs rfl rfl rfl rfl rfl rfl ?_); clear hs a; intro a hs) | ((with_reducible apply lCons); first | (refine dv hs gw_ rfl rfl da_ ?_; clear hs hm a; rintro _ w ⟨g, rfl, -, hm⟩ a hs) | (refine stn hs rfl rfl ds_ ?_; clear hs hm a; rintro - w hm a hs) ) | ((with_reducible apply qNil); clear hm; intro w hm) | ((with_reducible refine cQuiet hm ?_ ?_ ?_ ?_); rfl; kernel_rfl; kernel_rfl) | (with_reducible first | apply lNilThen | apply lNilBlock | apply lNil | apply wp_seq | apply wp_region_lit | apply wp_block | apply cExit | apply cRet | apply cSkip | apply gThen | apply gBlock | apply eThen | apply eBlockHit | refine eBlock rfl ?_ | apply rThen | apply rBlock) | ((with_reducible apply cCond); first | refine cTrue hs rfl bd_ ?_ | refine cFalse hs rfl bd_ ?_))
        exact gRet1 hs rfl rfl ⟨rfl, hm.fr⟩
    · rw [insF_f (by omega)]
      refine enterR Try.func22 rfl rfl rfl fun a hs hm => ?_
      repeat (first | ((with_reducible first | refine toL hm ?_ | refine toQ ?_); (first | refine oneV hs gw_ rfl rfl (by intro w hm; exact kvR_) ?_ | refine oneN hs rfl rfl rfl rfl rfl rfl rfl ?_ | refine oneU hs rfl rfl rfl rfl rfl rfl ?_); clear hs a; intro a hs) | ((with_reducible apply lCons); first | (refine dv hs gw_ rfl rfl da_ ?_; clear hs hm a; rintro _ w ⟨g, rfl, -, hm⟩ a hs) | (refine stn hs rfl rfl ds_ ?_; clear hs hm a; rintro - w hm a hs) ) | ((with_reducible apply qNil); clear hm; intro w hm) | ((with_reducible refine cQuiet hm ?_ ?_ ?_ ?_); rfl; kernel_rfl; kernel_rfl) | (with_reducible first | apply lNilThen | apply lNilBlock | apply lNil | apply wp_seq | apply wp_region_lit | apply wp_block | apply cExit | apply cRet | apply cSkip | apply gThen | apply gBlock | apply eThen | apply eBlockHit | refine eBlock rfl ?_ | apply rThen | apply rBlock) | ((with_reducible apply cCond); first | refine cTrue hs rfl bd_ ?_ | refine cFalse hs rfl bd_ ?_))
      exact gRet1 hs rfl rfl ⟨rfl, hm.fr⟩
  · rw [insF_f (by omega)]
    refine enterR Try.func22 rfl rfl rfl fun a hs hm => ?_
    repeat (first | ((with_reducible first | refine toL hm ?_ | refine toQ ?_); (first | refine oneV hs gw_ rfl rfl (by intro w hm; exact kvR_) ?_ | refine oneN hs rfl rfl rfl rfl rfl rfl rfl ?_ | refine oneU hs rfl rfl rfl rfl rfl rfl ?_); clear hs a; intro a hs) | ((with_reducible apply lCons); first | (refine dv hs gw_ rfl rfl da_ ?_; clear hs hm a; rintro _ w ⟨g, rfl, -, hm⟩ a hs) | (refine stn hs rfl rfl ds_ ?_; clear hs hm a; rintro - w hm a hs) ) | ((with_reducible apply qNil); clear hm; intro w hm) | ((with_reducible refine cQuiet hm ?_ ?_ ?_ ?_); rfl; kernel_rfl; kernel_rfl) | (with_reducible first | apply lNilThen | apply lNilBlock | apply lNil | apply wp_seq | apply wp_region_lit | apply wp_block | apply cExit | apply cRet | apply cSkip | apply gThen | apply gBlock | apply eThen | apply eBlockHit | refine eBlock rfl ?_ | apply rThen | apply rBlock) | ((with_reducible apply cCond); first | refine cTrue hs rfl bd_ ?_ | refine cFalse hs rfl bd_ ?_))
    exact gRet1 hs rfl rfl ⟨rfl, hm.fr⟩
/-- the first of the first k regions that holds an address -/
def resF (bs ss : List Int) (a : Int) : Nat → Option (Nat × Int)
  | 0 => none
  | k + 1 => match resF bs ss a k with
    | some p => some p
    | none => if bs.getD k 0 ≤ a ∧ a - bs.getD k 0 < ss.getD k 0 then some (k, a - bs.getD k 0) else none
theorem resF_stay {bs ss : List Int} {a : Int} {k : Nat} {p : Nat × Int} (h : resF bs ss a k = some p) : ∀ d, resF bs ss a (k + d) = some p
  | 0 => h
  | d + 1 => by
    show (match resF bs ss a (k + d) with
      | some p => some p
      | none => if _ then some _ else none) = some p
    rw [resF_stay h d]
theorem resF_hit {bs ss : List Int} {a : Int} {k m : Nat} (h : resF bs ss a k = none) (hk : k < m) (h1 : bs.getD k 0 ≤ a) (h2 : a - bs.getD k 0 < ss.getD k 0) : resF bs ss a m = some (k, a - bs.getD k 0) := by
  have h3 : resF bs ss a (k + 1) = some (k, a - bs.getD k 0) := by
    show (match resF bs ss a k with
      | some p => some p
      | none => if _ then some _ else none) = _
    rw [h]
    exact if_pos ⟨h1, h2⟩
  have := resF_stay h3 (m - (k + 1))
  rwa [show k + 1 + (m - (k + 1)) = m by omega] at this
theorem resF_miss {bs ss : List Int} {a : Int} {k : Nat} (h : resF bs ss a k = none) (h1 : ¬ (bs.getD k 0 ≤ a ∧ a - bs.getD k 0 < ss.getD k 0)) : resF bs ss a (k + 1) = none := by
  show (match resF bs ss a k with
    | some p => some p
    | none => if _ then some _ else none) = _
  rw [h]
  exact if_neg h1
def rsvV : Option (Nat × Int) → Value
  | none => .tuple #[.agg #[.int .i64 0, .int .i64 0], .bool false]
  | some (r, o) => .tuple #[.agg #[.int .i64 (r : Int), .int .i64 o], .bool true]
set_option maxHeartbeats 2000000 in
theorem rsv_c (A : Option Addr) (n c : Nat) (bs : List Int) (key : Int) (B : Option Addr) (d : Nat) (ss : List Int) (a0 : Int) (w : World) (hbl : bs.length = n) (hsl : ss.length = n) (hbr : Rd w w.heap.size A (ints bs)) (hsr : Rd w w.heap.size B (ints ss)) (hb : ∀ x ∈ bs, 0 ≤ x ∧ x ≤ 1000000) (hs' : ∀ x ∈ ss, 1 ≤ x ∧ x ≤ 32) (ha : 0 ≤ a0 ∧ a0 ≤ 65535) (hn : n ≤ 1000) :
    Ret Try.prog 19 [.agg #[.slice A n c, .int .u16 key], .slice B n d, .int .i64 a0] w (fun v w' => v = rsvV (resF bs ss a0 n) ∧ Pu w w') := by
  refine enterR Try.func19 rfl rfl rfl fun a hs hm => ?_
  repeat (first | ((with_reducible refine toL hm ?_); (first | refine oneV hs gw_ rfl rfl (by intro w hm; exact kvR_) ?_ | refine oneN hs rfl rfl rfl rfl rfl rfl rfl ?_ | refine oneU hs rfl rfl rfl rfl rfl rfl ?_); clear hs a; intro a hs) | ((with_reducible apply lCons); first | (refine dv hs gw_ rfl rfl da_ ?_; clear hs hm a; rintro _ w ⟨g, rfl, -, hm⟩ a hs) | (refine stn hs rfl rfl ds_ ?_; clear hs hm a; rintro - w hm a hs) ) | (with_reducible first | apply lNilThen | apply lNilBlock | apply lNil | apply wp_seq | apply wp_region_lit | apply wp_block | apply cExit | apply cRet | apply cSkip | apply gThen | apply gBlock | apply eThen | apply eBlockHit | refine eBlock rfl ?_ | apply rThen | apply rBlock) | ((with_reducible apply cCond); first | refine cTrue hs rfl bd_ ?_ | refine cFalse hs rfl bd_ ?_))
  rename_i w0 _ g3
  rename Nat => g6
  refine cLoop (X := Nat) (fun k a w' => Sl Try.f19.ntmps [(1, .slice B n d), (2, .int .i64 a0), (6, .pointer (some ⟨g6, 0, none⟩)), (11, .slice A n c), (12, .int .i64 (n : Int)), (13, .int .i64 (k : Int))] a ∧ Mm (fun _ => False) w0 [⟨some g6, 52, [.int .i64 0, .int .i64 0]⟩] w' ∧ k ≤ n ∧ resF bs ss a0 k = none) (fun k => n - k) 0 ⟨hs.sub (Has.all ⟨rfl, rfl, rfl, rfl, rfl, rfl, trivial⟩), hm.sub sub_, Nat.zero_le _, rfl⟩ ?_
  clear hs hm a
  rintro k a w' ⟨hs, hm, hk, hR⟩
  by_cases hlt : k < n
  · obtain ⟨b1, o1, rfl, hb1, r1⟩ := hbr.ro (by rw [ints_len]; omega)
    obtain ⟨b2, o2, rfl, hb2, r2⟩ := hsr.ro (by rw [ints_len]; omega)
    have e1 := ints_some (xs := bs) (k := k) (by omega)
    have e2 := ints_some (xs := ss) (k := k) (by omega)
    have hg1 := getI (l := bs) (k := k) (by omega)
    have hg2 := getI (l := ss) (k := k) (by omega)
    have hbk := hb bs[k] (List.getElem_mem (by omega))
    have hsk := hs' ss[k] (List.getElem_mem (by omega))
    generalize bs[k]'(_) = bk at *
    generalize ss[k]'(_) = sk at *
    by_cases h1 : bk ≤ a0
    · by_cases h2 : a0 - bk < sk
      · rw [resF_hit hR hlt (by rw [hg1]; exact h1) (by rw [hg1, hg2]; exact h2), hg1]
        repeat (first | ((with_reducible refine toL hm ?_); (first | refine oneV hs gw_ rfl rfl (by intro w hm; exact kvR_) ?_ | refine oneN hs rfl rfl rfl rfl rfl rfl rfl ?_ | refine oneU hs rfl rfl rfl rfl rfl rfl ?_); clear hs a; intro a hs) | ((with_reducible apply lCons); first | (refine dv hs gw_ rfl rfl da_ ?_; clear hs hm a; rintro _ w ⟨g, rfl, -, hm⟩ a hs) | (refine stn hs rfl rfl ds_ ?_; clear hs hm a; rintro - w hm a hs) ) | (with_reducible first | apply lNilThen | apply lNilBlock | apply lNil | apply wp_seq | apply wp_region_lit | apply wp_block | apply cExit | apply cRet | apply cSkip | apply gThen | apply gBlock | apply eThen | apply eBlockHit | refine eBlock rfl ?_ | apply rThen | apply rBlock) | ((with_reducible apply cCond); first | refine cTrue hs rfl bd_ ?_ | refine cFalse hs rfl bd_ ?_))
        exact gRetN tab hs rfl (.cons (.cells rfl rfl rfl rfl (hm.ro (k := 0) (n := 2) mem_ (cutF_ok rfl))) (.cons (.tmp rfl) .nil)) ⟨rfl, hm.fr⟩
      · have hR' := resF_miss hR (by rw [hg1, hg2]; exact fun h => h2 h.2)
        repeat (first | ((with_reducible refine toL hm ?_); (first | refine oneV hs gw_ rfl rfl (by intro w hm; exact kvR_) ?_ | refine oneN hs rfl rfl rfl rfl rfl rfl rfl ?_ | refine oneU hs rfl rfl rfl rfl rfl rfl ?_); clear hs a; intro a hs) | ((with_reducible apply lCons); first | (refine dv hs gw_ rfl rfl da_ ?_; clear hs hm a; rintro _ w ⟨g, rfl, -, hm⟩ a hs) | (refine stn hs rfl rfl ds_ ?_; clear hs hm a; rintro - w hm a hs) ) | (with_reducible first | apply lNilThen | apply lNilBlock | apply lNil | apply wp_seq | apply wp_region_lit | apply wp_block | apply cExit | apply cRet | apply cSkip | apply gThen | apply gBlock | apply eThen | apply eBlockHit | refine eBlock rfl ?_ | apply rThen | apply rBlock) | ((with_reducible apply cCond); first | refine cTrue hs rfl bd_ ?_ | refine cFalse hs rfl bd_ ?_))
        exact ⟨k + 1, by omega, hs.sub (Has.all ⟨rfl, rfl, rfl, rfl, rfl, rfl, trivial⟩), hm, by omega, hR'⟩
    · have hR' := resF_miss hR (by rw [hg1]; exact fun h => h1 h.1)
      repeat (first | ((with_reducible refine toL hm ?_); (first | refine oneV hs gw_ rfl rfl (by intro w hm; exact kvR_) ?_ | refine oneN hs rfl rfl rfl rfl rfl rfl rfl ?_ | refine oneU hs rfl rfl rfl rfl rfl rfl ?_); clear hs a; intro a hs) | ((with_reducible apply lCons); first | (refine dv hs gw_ rfl rfl da_ ?_; clear hs hm a; rintro _ w ⟨g, rfl, -, hm⟩ a hs) | (refine stn hs rfl rfl ds_ ?_; clear hs hm a; rintro - w hm a hs) ) | (with_reducible first | apply lNilThen | apply lNilBlock | apply lNil | apply wp_seq | apply wp_region_lit | apply wp_block | apply cExit | apply cRet | apply cSkip | apply gThen | apply gBlock | apply eThen | apply eBlockHit | refine eBlock rfl ?_ | apply rThen | apply rBlock) | ((with_reducible apply cCond); first | refine cTrue hs rfl bd_ ?_ | refine cFalse hs rfl bd_ ?_))
      exact ⟨k + 1, by omega, hs.sub (Has.all ⟨rfl, rfl, rfl, rfl, rfl, rfl, trivial⟩), hm, by omega, hR'⟩
  · obtain rfl : k = n := by omega
    rw [hR]
    repeat (first | ((with_reducible refine toL hm ?_); (first | refine oneV hs gw_ rfl rfl (by intro w hm; exact kvR_) ?_ | refine oneN hs rfl rfl rfl rfl rfl rfl rfl ?_ | refine oneU hs rfl rfl rfl rfl rfl rfl ?_); clear hs a; intro a hs) | ((with_reducible apply lCons); first | (refine dv hs gw_ rfl rfl da_ ?_; clear hs hm a; rintro _ w ⟨g, rfl, -, hm⟩ a hs) | (refine stn hs rfl rfl ds_ ?_; clear hs hm a; rintro - w hm a hs) ) | (with_reducible first | apply lNilThen | apply lNilBlock | apply lNil | apply wp_seq | apply wp_region_lit | apply wp_block | apply cExit | apply cRet | apply cSkip | apply gThen | apply gBlock | apply eThen | apply eBlockHit | refine eBlock rfl ?_ | apply rThen | apply rBlock) | ((with_reducible apply cCond); first | refine cTrue hs rfl bd_ ?_ | refine cFalse hs rfl bd_ ?_))
    exact gRetN tab hs rfl (.cons (.cells rfl rfl rfl rfl (hm.ro (k := 0) (n := 2) mem_ (cutF_ok rfl))) (.cons (.tmp rfl) .nil)) ⟨rfl, hm.fr⟩
set_option maxHeartbeats 2000000 in
theorem rrsv_c (A : Option Addr) (n c : Nat) (bs : List Int) (key : Int) (B : Option Addr) (d : Nat) (ss : List Int) (a0 : Int) (w : World) (hbl : bs.length = n) (hsl : ss.length = n) (hbr : Rd w w.heap.size A (ints bs)) (hsr : Rd w w.heap.size B (ints ss)) (hb : ∀ x ∈ bs, 0 ≤ x ∧ x ≤ 1000000) (hs' : ∀ x ∈ ss, 1 ≤ x ∧ x ≤ 32) (ha : 0 ≤ a0 ∧ a0 ≤ 65535) (hn : n ≤ 1000) :
    Ret Try.prog 21 [.agg #[.slice A n c, .int .u16 key], .slice B n d, .int .i64 a0] w (fun v w' => v = rsvV (resF bs ss a0 n) ∧ Pu w w') := by
  refine enterR Try.func21 rfl rfl rfl fun a hs hm => ?_
  repeat (first | ((with_reducible refine toL hm ?_); (first | refine oneV hs gw_ rfl rfl (by intro w hm; exact kvR_) ?_ | refine oneN hs rfl rfl rfl rfl rfl rfl rfl ?_ | refine oneU hs rfl rfl rfl rfl rfl rfl ?_); clear hs a; intro a hs) | ((with_reducible apply lCons); first | (refine dv hs gw_ rfl rfl da_ ?_; clear hs hm a; rintro _ w ⟨g, rfl, -, hm⟩ a hs) | (refine stn hs rfl rfl ds_ ?_; clear hs hm a; rintro - w hm a hs) ) | (with_reducible first | apply lNilThen | apply lNilBlock | apply lNil | apply wp_seq | apply wp_region_lit | apply wp_block | apply cExit | apply cRet | apply cSkip | apply gThen | apply gBlock | apply eThen | apply eBlockHit | refine eBlock rfl ?_ | apply rThen | apply rBlock) | ((with_reducible apply cCond); first | refine cTrue hs rfl bd_ ?_ | refine cFalse hs rfl bd_ ?_))
  rename_i w0 _ g3
  rename Nat => g6
  refine cLoop (X := Nat) (fun k a w' => Sl Try.f21.ntmps [(1, .slice B n d), (2, .int .i64 a0), (6, .pointer (some ⟨g6, 0, none⟩)), (11, .slice A n c), (12, .int .i64 (n : Int)), (13, .int .i64 (k : Int))] a ∧ Mm (fun _ => False) w0 [⟨some g6, 52, [.int .i64 0, .int .i64 0]⟩] w' ∧ k ≤ n ∧ resF bs ss a0 k = none) (fun k => n - k) 0 ⟨hs.sub (Has.all ⟨rfl, rfl, rfl, rfl, rfl, rfl, trivial⟩), hm.sub sub_, Nat.zero_le _, rfl⟩ ?_
  clear hs hm a
  rintro k a w' ⟨hs, hm, hk, hR⟩
  by_cases hlt : k < n
  · obtain ⟨b1, o1, rfl, hb1, r1⟩ := hbr.ro (by rw [ints_len]; omega)
    obtain ⟨b2, o2, rfl, hb2, r2⟩ := hsr.ro (by rw [ints_len]; omega)
    have e1 := ints_some (xs := bs) (k := k) (by omega)
    have e2 := ints_some (xs := ss) (k := k) (by omega)
    have hg1 := getI (l := bs) (k := k) (by omega)
    have hg2 := getI (l := ss) (k := k) (by omega)
    have hbk := hb bs[k] (List.getElem_mem (by omega))
    have hsk := hs' ss[k] (List.getElem_mem (by omega))
    generalize bs[k]'(_) = bk at *
    generalize ss[k]'(_) = sk at *
    by_cases h1 : bk ≤ a0
    · by_cases h2 : a0 - bk < sk
      · rw [resF_hit hR hlt (by rw [hg1]; exact h1) (by rw [hg1, hg2]; exact h2), hg1]
        repeat (first | ((with_reducible refine toL hm ?_); (first | refine oneV hs gw_ rfl rfl (by intro w hm; exact kvR_) ?_ | refine oneN hs rfl rfl rfl rfl rfl rfl rfl ?_ | refine oneU hs rfl rfl rfl rfl rfl rfl ?_); clear hs a; intro a hs) | ((with_reducible apply lCons); first | (refine dv hs gw_ rfl rfl da_ ?_; clear hs hm a; rintro _ w ⟨g, rfl, -, hm⟩ a hs) | (refine stn hs rfl rfl ds_ ?_; clear hs hm a; rintro - w hm a hs) ) | (with_reducible first | apply lNilThen | apply lNilBlock | apply lNil | apply wp_seq | apply wp_region_lit | apply wp_block | apply cExit | apply cRet | apply cSkip | apply gThen | apply gBlock | apply eThen | apply eBlockHit | refine eBlock rfl ?_ | apply rThen | apply rBlock) | ((with_reducible apply cCond); first | refine cTrue hs rfl bd_ ?_ | refine cFalse hs rfl bd_ ?_))
        exact gRetN tab hs rfl (.cons (.cells rfl rfl rfl rfl (hm.ro (k := 0) (n := 2) mem_ (cutF_ok rfl))) (.cons (.tmp rfl) .nil)) ⟨rfl, hm.fr⟩
      · have hR' := resF_miss hR (by rw [hg1, hg2]; exact fun h => h2 h.2)
        repeat (first | ((with_reducible refine toL hm ?_); (first | refine oneV hs gw_ rfl rfl (by intro w hm; exact kvR_) ?_ | refine oneN hs rfl rfl rfl rfl rfl rfl rfl ?_ | refine oneU hs rfl rfl rfl rfl rfl rfl ?_); clear hs a; intro a hs) | ((with_reducible apply lCons); first | (refine dv hs gw_ rfl rfl da_ ?_; clear hs hm a; rintro _ w ⟨g, rfl, -, hm⟩ a hs) | (refine stn hs rfl rfl ds_ ?_; clear hs hm a; rintro - w hm a hs) ) | (with_reducible first | apply lNilThen | apply lNilBlock | apply lNil | apply wp_seq | apply wp_region_lit | apply wp_block | apply cExit | apply cRet | apply cSkip | apply gThen | apply gBlock | apply eThen | apply eBlockHit | refine eBlock rfl ?_ | apply rThen | apply rBlock) | ((with_reducible apply cCond); first | refine cTrue hs rfl bd_ ?_ | refine cFalse hs rfl bd_ ?_))
        exact ⟨k + 1, by omega, hs.sub (Has.all ⟨rfl, rfl, rfl, rfl, rfl, rfl, trivial⟩), hm, by omega, hR'⟩
    · have hR' := resF_miss hR (by rw [hg1]; exact fun h => h1 h.1)
      repeat (first | ((with_reducible refine toL hm ?_); (first | refine oneV hs gw_ rfl rfl (by intro w hm; exact kvR_) ?_ | refine oneN hs rfl rfl rfl rfl rfl rfl rfl ?_ | refine oneU hs rfl rfl rfl rfl rfl rfl ?_); clear hs a; intro a hs) | ((with_reducible apply lCons); first | (refine dv hs gw_ rfl rfl da_ ?_; clear hs hm a; rintro _ w ⟨g, rfl, -, hm⟩ a hs) | (refine stn hs rfl rfl ds_ ?_; clear hs hm a; rintro - w hm a hs) ) | (with_reducible first | apply lNilThen | apply lNilBlock | apply lNil | apply wp_seq | apply wp_region_lit | apply wp_block | apply cExit | apply cRet | apply cSkip | apply gThen | apply gBlock | apply eThen | apply eBlockHit | refine eBlock rfl ?_ | apply rThen | apply rBlock) | ((with_reducible apply cCond); first | refine cTrue hs rfl bd_ ?_ | refine cFalse hs rfl bd_ ?_))
      exact ⟨k + 1, by omega, hs.sub (Has.all ⟨rfl, rfl, rfl, rfl, rfl, rfl, trivial⟩), hm, by omega, hR'⟩
  · obtain rfl : k = n := by omega
    rw [hR]
    repeat (first | ((with_reducible refine toL hm ?_); (first | refine oneV hs gw_ rfl rfl (by intro w hm; exact kvR_) ?_ | refine oneN hs rfl rfl rfl rfl rfl rfl rfl ?_ | refine oneU hs rfl rfl rfl rfl rfl rfl ?_); clear hs a; intro a hs) | ((with_reducible apply lCons); first | (refine dv hs gw_ rfl rfl da_ ?_; clear hs hm a; rintro _ w ⟨g, rfl, -, hm⟩ a hs) | (refine stn hs rfl rfl ds_ ?_; clear hs hm a; rintro - w hm a hs) ) | (with_reducible first | apply lNilThen | apply lNilBlock | apply lNil | apply wp_seq | apply wp_region_lit | apply wp_block | apply cExit | apply cRet | apply cSkip | apply gThen | apply gBlock | apply eThen | apply eBlockHit | refine eBlock rfl ?_ | apply rThen | apply rBlock) | ((with_reducible apply cCond); first | refine cTrue hs rfl bd_ ?_ | refine cFalse hs rfl bd_ ?_))
    exact gRetN tab hs rfl (.cons (.cells rfl rfl rfl rfl (hm.ro (k := 0) (n := 2) mem_ (cutF_ok rfl))) (.cons (.tmp rfl) .nil)) ⟨rfl, hm.fr⟩
end Go.Proofs.Ytfcimpfhfbkgbab
