/- The deck: canonical cells. -/
import Derived.Test.YtfcimpfhfbkgbabDck2
import Derived.Test.YtfcimpfhfbkgbabLay5
namespace Go.Proofs.Ytfcimpfhfbkgbab
open Go.RowKit


theorem tot_c (A : Option Addr) (n c : Nat) (ss : List Int) (w : World) (hl : ss.length = n) (hr : Rd w w.heap.size A (ints ss)) (hs' : ∀ y ∈ ss, 1 ≤ y ∧ y ≤ 32) (hn : n ≤ 4) :
    Ret Try.prog 35 [.slice A n c] w (fun v w' => ∃ s : Int, v = .int .i64 s ∧ (n : Int) ≤ s ∧ s ≤ 32 * n ∧ Pu w w') := by
  refine enterR Try.func35 rfl rfl rfl fun a hs hm => ?_
  repeat (first | ((with_reducible refine toL hm ?_); (first | refine oneV hs gw_ rfl rfl (by intro w hm; exact kvR_) ?_ | refine oneN hs rfl rfl rfl rfl rfl rfl rfl ?_ | refine oneU hs rfl rfl rfl rfl rfl rfl ?_); clear hs a; intro a hs) | ((with_reducible apply lCons); first | (refine dv hs gw_ rfl rfl da_ ?_; clear hs hm a; rintro _ w ⟨g, rfl, -, hm⟩ a hs) | (refine stn hs rfl rfl ds_ ?_; clear hs hm a; rintro - w hm a hs) ) | (with_reducible first | apply lNilThen | apply lNilBlock | apply lNil | apply wp_seq | apply wp_region_lit | apply wp_block | apply cExit | apply cRet | apply cSkip | apply gThen | apply gBlock | apply eThen | apply eBlockHit | refine eBlock rfl ?_ | apply rThen | apply rBlock) | ((with_reducible apply cCond); first | refine cTrue hs rfl bd_ ?_ | refine cFalse hs rfl bd_ ?_))
  refine cLoop (X := Nat × Int) (fun x a w' => Sl Try.f35.ntmps [(3, .int .i64 x.2), (6, .slice A n c), (7, .int .i64 (n : Int)), (8, .int .i64 (x.1 : Int))] a ∧ Mm (fun _ => False) w [] w' ∧ x.1 ≤ n ∧ (x.1 : Int) ≤ x.2 ∧ x.2 ≤ 32 * x.1) (fun x => n - x.1) (0, 0) ⟨hs.sub (Has.all ⟨rfl, rfl, rfl, rfl, trivial⟩), hm, Nat.zero_le _, by simp, by simp⟩ ?_
  clear hs hm a
  rintro ⟨k, s⟩ a w' ⟨hs, hm, hk, h1, h2⟩
  dsimp only at *
  by_cases hlt : k < n
  · obtain ⟨b1, o1, rfl, hb1, r1⟩ := hr.ro (by rw [ints_len]; omega)
    have e1 := ints_some (xs := ss) (k := k) (by omega)
    have hsk := hs' ss[k] (List.getElem_mem (by omega))
    generalize ss[k]'(_) = sk at *
    repeat (first | ((with_reducible refine toL hm ?_); (first | refine oneV hs gw_ rfl rfl (by intro w hm; exact kvR_) ?_ | refine oneN hs rfl rfl rfl rfl rfl rfl rfl ?_ | refine oneU hs rfl rfl rfl rfl rfl rfl ?_); clear hs a; intro a hs) | ((with_reducible apply lCons); first | (refine dv hs gw_ rfl rfl da_ ?_; clear hs hm a; rintro _ w ⟨g, rfl, -, hm⟩ a hs) | (refine stn hs rfl rfl ds_ ?_; clear hs hm a; rintro - w hm a hs) ) | (with_reducible first | apply lNilThen | apply lNilBlock | apply lNil | apply wp_seq | apply wp_region_lit | apply wp_block | apply cExit | apply cRet | apply cSkip | apply gThen | apply gBlock | apply eThen | apply eBlockHit | refine eBlock rfl ?_ | apply rThen | apply rBlock) | ((with_reducible apply cCond); first | refine cTrue hs rfl bd_ ?_ | refine cFalse hs rfl bd_ ?_))
    exact ⟨(k + 1, s + sk), by dsimp only; omega, hs.sub (Has.all ⟨rfl, rfl, rfl, rfl, trivial⟩), hm, by dsimp only; omega, by dsimp only; omega, by dsimp only; omega⟩
  · obtain rfl : k = n := by omega
    repeat (first | ((with_reducible refine toL hm ?_); (first | refine oneV hs gw_ rfl rfl (by intro w hm; exact kvR_) ?_ | refine oneN hs rfl rfl rfl rfl rfl rfl rfl ?_ | refine oneU hs rfl rfl rfl rfl rfl rfl ?_); clear hs a; intro a hs) | ((with_reducible apply lCons); first | (refine dv hs gw_ rfl rfl da_ ?_; clear hs hm a; rintro _ w ⟨g, rfl, -, hm⟩ a hs) | (refine stn hs rfl rfl ds_ ?_; clear hs hm a; rintro - w hm a hs) ) | (with_reducible first | apply lNilThen | apply lNilBlock | apply lNil | apply wp_seq | apply wp_region_lit | apply wp_block | apply cExit | apply cRet | apply cSkip | apply gThen | apply gBlock | apply eThen | apply eBlockHit | refine eBlock rfl ?_ | apply rThen | apply rBlock) | ((with_reducible apply cCond); first | refine cTrue hs rfl bd_ ?_ | refine cFalse hs rfl bd_ ?_))
    exact gRet1 hs rfl rfl ⟨s, rfl, h1, h2, hm.fr⟩
set_option maxHeartbeats 1000000 in
theorem atx_c (A : Option Addr) (n c : Nat) (ss : List Int) (i : Int) (w : World) (hl : ss.length = n) (hr : Rd w w.heap.size A (ints ss)) (hs' : ∀ y ∈ ss, 1 ≤ y ∧ y ≤ 32) (hn : n ≤ 4) (hi : 0 ≤ i ∧ i ≤ 65535) :
    Ret Try.prog 34 [.slice A n c, .int .i64 i] w (fun v w' => ∃ r o e : Int, v = .tuple #[.agg #[.int .i64 r, .int .i64 o], .int .i64 e] ∧ Pu w w') := by
  refine enterR Try.func34 rfl rfl rfl fun a hs hm => ?_
  repeat (first | ((with_reducible refine toL hm ?_); (first | refine oneV hs gw_ rfl rfl (by intro w hm; exact kvR_) ?_ | refine oneN hs rfl rfl rfl rfl rfl rfl rfl ?_ | refine oneU hs rfl rfl rfl rfl rfl rfl ?_); clear hs a; intro a hs) | ((with_reducible apply lCons); first | (refine dv hs gw_ rfl rfl da_ ?_; clear hs hm a; rintro _ w ⟨g, rfl, -, hm⟩ a hs) | (refine stn hs rfl rfl ds_ ?_; clear hs hm a; rintro - w hm a hs) ) | (with_reducible first | apply lNilThen | apply lNilBlock | apply lNil | apply wp_seq | apply wp_region_lit | apply wp_block | apply cExit | apply cRet | apply cSkip | apply gThen | apply gBlock | apply eThen | apply eBlockHit | refine eBlock rfl ?_ | apply rThen | apply rBlock) | ((with_reducible apply cCond); first | refine cTrue hs rfl bd_ ?_ | refine cFalse hs rfl bd_ ?_))
  rename_i w0
  rename Nat => g4
  refine cLoop (X := Nat × Int) (fun x a w' => Sl Try.f34.ntmps [(1, .int .i64 x.2), (4, .pointer (some ⟨g4, 0, none⟩)), (8, .slice A n c), (9, .int .i64 (n : Int)), (10, .int .i64 (x.1 : Int))] a ∧ Mm (fun _ => False) w0 [⟨some g4, 52, [.int .i64 0, .int .i64 0]⟩] w' ∧ x.1 ≤ n ∧ -32 * (x.1 : Int) ≤ x.2 ∧ x.2 ≤ 65535) (fun x => n - x.1) (0, i) ⟨hs.sub (Has.all ⟨rfl, rfl, rfl, rfl, rfl, trivial⟩), hm, Nat.zero_le _, by dsimp only; omega, by dsimp only; omega⟩ ?_
  clear hs hm a
  rintro ⟨k, j⟩ a w' ⟨hs, hm, hk, h1, h2⟩
  dsimp only at *
  by_cases hlt : k < n
  · obtain ⟨b1, o1, rfl, hb1, r1⟩ := hr.ro (by rw [ints_len]; omega)
    have e1 := ints_some (xs := ss) (k := k) (by omega)
    have hsk := hs' ss[k] (List.getElem_mem (by omega))
    generalize ss[k]'(_) = sk at *
    by_cases h3 : 0 ≤ j
    · by_cases h4 : j < sk
      · repeat (first | ((with_reducible refine toL hm ?_); (first | refine oneV hs gw_ rfl rfl (by intro w hm; exact kvR_) ?_ | refine oneN hs rfl rfl rfl rfl rfl rfl rfl ?_ | refine oneU hs rfl rfl rfl rfl rfl rfl ?_); clear hs a; intro a hs) | ((with_reducible apply lCons); first | (refine dv hs gw_ rfl rfl da_ ?_; clear hs hm a; rintro _ w ⟨g, rfl, -, hm⟩ a hs) | (refine stn hs rfl rfl ds_ ?_; clear hs hm a; rintro - w hm a hs) ) | (with_reducible first | apply lNilThen | apply lNilBlock | apply lNil | apply wp_seq | apply wp_region_lit | apply wp_block | apply cExit | apply cRet | apply cSkip | apply gThen | apply gBlock | apply eThen | apply eBlockHit | refine eBlock rfl ?_ | apply rThen | apply rBlock) | ((with_reducible apply cCond); first | refine cTrue hs rfl bd_ ?_ | refine cFalse hs rfl bd_ ?_))
        exact gRetN tab hs rfl (.cons (.cells rfl rfl rfl rfl (hm.ro (k := 0) (n := 2) mem_ (cutF_ok rfl))) (.cons (.tmp rfl) .nil)) ⟨_, _, _, rfl, hm.fr⟩
      · repeat (first | ((with_reducible refine toL hm ?_); (first | refine oneV hs gw_ rfl rfl (by intro w hm; exact kvR_) ?_ | refine oneN hs rfl rfl rfl rfl rfl rfl rfl ?_ | refine oneU hs rfl rfl rfl rfl rfl rfl ?_); clear hs a; intro a hs) | ((with_reducible apply lCons); first | (refine dv hs gw_ rfl rfl da_ ?_; clear hs hm a; rintro _ w ⟨g, rfl, -, hm⟩ a hs) | (refine stn hs rfl rfl ds_ ?_; clear hs hm a; rintro - w hm a hs) ) | (with_reducible first | apply lNilThen | apply lNilBlock | apply lNil | apply wp_seq | apply wp_region_lit | apply wp_block | apply cExit | apply cRet | apply cSkip | apply gThen | apply gBlock | apply eThen | apply eBlockHit | refine eBlock rfl ?_ | apply rThen | apply rBlock) | ((with_reducible apply cCond); first | refine cTrue hs rfl bd_ ?_ | refine cFalse hs rfl bd_ ?_))
        exact ⟨(k + 1, j - sk), by dsimp only; omega, hs.sub (Has.all ⟨rfl, rfl, rfl, rfl, rfl, trivial⟩), hm, by dsimp only; omega, by dsimp only; omega, by dsimp only; omega⟩
    · repeat (first | ((with_reducible refine toL hm ?_); (first | refine oneV hs gw_ rfl rfl (by intro w hm; exact kvR_) ?_ | refine oneN hs rfl rfl rfl rfl rfl rfl rfl ?_ | refine oneU hs rfl rfl rfl rfl rfl rfl ?_); clear hs a; intro a hs) | ((with_reducible apply lCons); first | (refine dv hs gw_ rfl rfl da_ ?_; clear hs hm a; rintro _ w ⟨g, rfl, -, hm⟩ a hs) | (refine stn hs rfl rfl ds_ ?_; clear hs hm a; rintro - w hm a hs) ) | (with_reducible first | apply lNilThen | apply lNilBlock | apply lNil | apply wp_seq | apply wp_region_lit | apply wp_block | apply cExit | apply cRet | apply cSkip | apply gThen | apply gBlock | apply eThen | apply eBlockHit | refine eBlock rfl ?_ | apply rThen | apply rBlock) | ((with_reducible apply cCond); first | refine cTrue hs rfl bd_ ?_ | refine cFalse hs rfl bd_ ?_))
      exact ⟨(k + 1, j - sk), by dsimp only; omega, hs.sub (Has.all ⟨rfl, rfl, rfl, rfl, rfl, trivial⟩), hm, by dsimp only; omega, by dsimp only; omega, by dsimp only; omega⟩
  · repeat (first | ((with_reducible refine toL hm ?_); (first | refine oneV hs gw_ rfl rfl (by intro w hm; exact kvR_) ?_ | refine oneN hs rfl rfl rfl rfl rfl rfl rfl ?_ | refine oneU hs rfl rfl rfl rfl rfl rfl ?_); clear hs a; intro a hs) | ((with_reducible apply lCons); first | (refine dv hs gw_ rfl rfl da_ ?_; clear hs hm a; rintro _ w ⟨g, rfl, -, hm⟩ a hs) | (refine stn hs rfl rfl ds_ ?_; clear hs hm a; rintro - w hm a hs) ) | (with_reducible first | apply lNilThen | apply lNilBlock | apply lNil | apply wp_seq | apply wp_region_lit | apply wp_block | apply cExit | apply cRet | apply cSkip | apply gThen | apply gBlock | apply eThen | apply eBlockHit | refine eBlock rfl ?_ | apply rThen | apply rBlock) | ((with_reducible apply cCond); first | refine cTrue hs rfl bd_ ?_ | refine cFalse hs rfl bd_ ?_))
    exact gRetN tab hs rfl (.cons (.cells rfl rfl rfl rfl (hm.ro (k := 0) (n := 2) mem_ (cutF_ok rfl))) (.cons (.tmp rfl) .nil)) ⟨_, _, _, rfl, hm.fr⟩
end Go.Proofs.Ytfcimpfhfbkgbab
