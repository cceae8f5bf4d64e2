/- Events; the three questions; the first event that fits. -/
import Derived.Test.YtlapnhpaedkgcaaDoorRpc
import Derived.Test.YtlapnhpaedkgcaaDoorEng14
namespace Go.Proofs.YtlapnhpaedkgcaaDoor
open Go.RowKit

structure Ev where
  a : Int
  k : Int
  r : Int
  d : Int
def evV (e : Ev) : List Value := [.int .i64 e.a, .int .i64 e.k, .int .i64 e.r, .int .i64 e.d]
theorem evV_len (e : Ev) : (evV e).length = 4 := rfl
def evA (e : Ev) : Value := .agg #[.int .i64 e.a, .int .i64 e.k, .int .i64 e.r, .int .i64 e.d]
structure ES where
  A : Option Addr
  n : Nat
  c : Nat
  l : List Ev
def ES.v (x : ES) : Value := .slice x.A x.n x.c
structure ES.ok (x : ES) (w : World) : Prop where
  len : x.l.length = x.n
  rd : Rd w w.heap.size x.A (x.l.flatMap evV)
theorem ES.ok.pu {x : ES} {w w' : World} (h : x.ok w) (hf : Pu w w') : x.ok w' := ⟨h.len, hf.rd' h.rd⟩
/-- a fault: its replica and its kind; the rest is 0 -/
def flV (f : Int × Int) : List Value := [.int .i64 0, .int .i64 f.1, .int .i64 f.2, .int .i64 0, .int .i64 0, .int .i64 0]
theorem flV_len (f : Int × Int) : (flV f).length = 6 := rfl
def fndB (k : Int) : Bool := decide (2 ≤ k ∧ k ≤ 5)
def hitB (i : Int) (e : Ev) : Bool := decide (e.k = 1) && decide (e.d = i)
def fouB (r : Int) (e : Ev) : Bool := decide (e.r = r) && fndB e.k
def repB (r : Int) (e : Ev) : Bool := decide (e.r = r) && decide (e.k = 7)

set_option maxHeartbeats 2000000 in
theorem finds_c (k : Int) (wB : World) : Ret Tryd.prog 11 [.int .i64 k] wB (fun u w' => u = .bool (fndB k) ∧ Pu wB w') := by
  refine enterR Tryd.func11 rfl rfl rfl fun a hs hm => ?_
  repeat (first | ((with_reducible refine toL hm ?_); (first | refine oneV hs gw_ rfl rfl (by intro w hm; exact kvR_) ?_ | refine oneN hs rfl rfl rfl rfl rfl rfl rfl ?_ | refine oneU hs rfl rfl rfl rfl rfl rfl ?_); clear hs a; intro a hs) | ((with_reducible apply lCons); first | (refine dv hs gw_ rfl rfl da_ ?_; clear hs hm a; rintro _ w ⟨g, rfl, -, hm⟩ a hs) | (refine stn hs rfl rfl ds_ ?_; clear hs hm a; rintro - w hm a hs) ) | (with_reducible first | apply lNilThen | apply lNilBlock | apply lNil | apply wp_seq | apply wp_region_lit | apply wp_block | apply cExit | apply cRet | apply cSkip | apply gThen | apply gBlock | apply eThen | apply eBlockHit | refine eBlock rfl ?_ | apply rThen | apply rBlock) | ((with_reducible apply cCond); first | refine cTrue hs rfl bd_ ?_ | refine cFalse hs rfl bd_ ?_))
  refine cLoop (X := Nat) (fun j a w' => Sl Tryd.f11.ntmps [(0, .int .i64 k), (5, .agg #[.int .i64 2, .int .i64 3, .int .i64 4, .int .i64 5]), (6, .int .i64 (j : Int))] a ∧ Mm (fun _ => False) wB [] w' ∧ j ≤ 4 ∧ (k < 2 ∨ 2 + (j : Int) ≤ k)) (fun j => 4 - j) 0 ⟨hs.sub (Has.all ⟨rfl, rfl, rfl, trivial⟩), hm, Nat.zero_le _, by omega⟩ ?_
  clear hs hm a
  rintro j a w' ⟨hs, hm, hj, hno⟩
  have hj5 : j = 0 ∨ j = 1 ∨ j = 2 ∨ j = 3 ∨ j = 4 := by omega
  rcases hj5 with rfl | rfl | rfl | rfl | rfl
  · by_cases h : k = 2
    · subst h
      repeat (first | ((with_reducible refine toL hm ?_); (first | refine oneV hs gw_ rfl rfl (by intro w hm; exact kvR_) ?_ | refine oneN hs rfl rfl rfl rfl rfl rfl rfl ?_ | refine oneU hs rfl rfl rfl rfl rfl rfl ?_); clear hs a; intro a hs) | ((with_reducible apply lCons); first | (refine dv hs gw_ rfl rfl da_ ?_; clear hs hm a; rintro _ w ⟨g, rfl, -, hm⟩ a hs) | (refine stn hs rfl rfl ds_ ?_; clear hs hm a; rintro - w hm a hs) ) | (with_reducible first | apply lNilThen | apply lNilBlock | apply lNil | apply wp_seq | apply wp_region_lit | apply wp_block | apply cExit | apply cRet | apply cSkip | apply gThen | apply gBlock | apply eThen | apply eBlockHit | refine eBlock rfl ?_ | apply rThen | apply rBlock) | ((with_reducible apply cCond); first | refine cTrue hs rfl bd_ ?_ | refine cFalse hs rfl bd_ ?_))
      refine toL hm (oneV hs (Wnt.none rfl) rfl rfl (by intro w hm; exact r_idx hs rfl rfl rfl rfl tab rfl rfl rfl rfl (by omega) rfl) ?_)
      clear hs a
      intro a hs
      repeat (first | ((with_reducible refine toL hm ?_); (first | refine oneV hs gw_ rfl rfl (by intro w hm; exact kvR_) ?_ | refine oneN hs rfl rfl rfl rfl rfl rfl rfl ?_ | refine oneU hs rfl rfl rfl rfl rfl rfl ?_); clear hs a; intro a hs) | ((with_reducible apply lCons); first | (refine dv hs gw_ rfl rfl da_ ?_; clear hs hm a; rintro _ w ⟨g, rfl, -, hm⟩ a hs) | (refine stn hs rfl rfl ds_ ?_; clear hs hm a; rintro - w hm a hs) ) | (with_reducible first | apply lNilThen | apply lNilBlock | apply lNil | apply wp_seq | apply wp_region_lit | apply wp_block | apply cExit | apply cRet | apply cSkip | apply gThen | apply gBlock | apply eThen | apply eBlockHit | refine eBlock rfl ?_ | apply rThen | apply rBlock) | ((with_reducible apply cCond); first | refine cTrue hs rfl bd_ ?_ | refine cFalse hs rfl bd_ ?_))
      exact gRet1 hs rfl rfl ⟨rfl, hm.fr⟩
    · repeat (first | ((with_reducible refine toL hm ?_); (first | refine oneV hs gw_ rfl rfl (by intro w hm; exact kvR_) ?_ | refine oneN hs rfl rfl rfl rfl rfl rfl rfl ?_ | refine oneU hs rfl rfl rfl rfl rfl rfl ?_); clear hs a; intro a hs) | ((with_reducible apply lCons); first | (refine dv hs gw_ rfl rfl da_ ?_; clear hs hm a; rintro _ w ⟨g, rfl, -, hm⟩ a hs) | (refine stn hs rfl rfl ds_ ?_; clear hs hm a; rintro - w hm a hs) ) | (with_reducible first | apply lNilThen | apply lNilBlock | apply lNil | apply wp_seq | apply wp_region_lit | apply wp_block | apply cExit | apply cRet | apply cSkip | apply gThen | apply gBlock | apply eThen | apply eBlockHit | refine eBlock rfl ?_ | apply rThen | apply rBlock) | ((with_reducible apply cCond); first | refine cTrue hs rfl bd_ ?_ | refine cFalse hs rfl bd_ ?_))
      refine toL hm (oneV hs (Wnt.none rfl) rfl rfl (by intro w hm; exact r_idx hs rfl rfl rfl rfl tab rfl rfl rfl rfl (by omega) rfl) ?_)
      clear hs a
      intro a hs
      repeat (first | ((with_reducible refine toL hm ?_); (first | refine oneV hs gw_ rfl rfl (by intro w hm; exact kvR_) ?_ | refine oneN hs rfl rfl rfl rfl rfl rfl rfl ?_ | refine oneU hs rfl rfl rfl rfl rfl rfl ?_); clear hs a; intro a hs) | ((with_reducible apply lCons); first | (refine dv hs gw_ rfl rfl da_ ?_; clear hs hm a; rintro _ w ⟨g, rfl, -, hm⟩ a hs) | (refine stn hs rfl rfl ds_ ?_; clear hs hm a; rintro - w hm a hs) ) | (with_reducible first | apply lNilThen | apply lNilBlock | apply lNil | apply wp_seq | apply wp_region_lit | apply wp_block | apply cExit | apply cRet | apply cSkip | apply gThen | apply gBlock | apply eThen | apply eBlockHit | refine eBlock rfl ?_ | apply rThen | apply rBlock) | ((with_reducible apply cCond); first | refine cTrue hs rfl bd_ ?_ | refine cFalse hs rfl bd_ ?_))
      exact ⟨0 + 1, by omega, hs.sub (Has.all ⟨rfl, rfl, rfl, trivial⟩), hm, by omega, by omega⟩
  · by_cases h : k = 3
    · subst h
      repeat (first | ((with_reducible refine toL hm ?_); (first | refine oneV hs gw_ rfl rfl (by intro w hm; exact kvR_) ?_ | refine oneN hs rfl rfl rfl rfl rfl rfl rfl ?_ | refine oneU hs rfl rfl rfl rfl rfl rfl ?_); clear hs a; intro a hs) | ((with_reducible apply lCons); first | (refine dv hs gw_ rfl rfl da_ ?_; clear hs hm a; rintro _ w ⟨g, rfl, -, hm⟩ a hs) | (refine stn hs rfl rfl ds_ ?_; clear hs hm a; rintro - w hm a hs) ) | (with_reducible first | apply lNilThen | apply lNilBlock | apply lNil | apply wp_seq | apply wp_region_lit | apply wp_block | apply cExit | apply cRet | apply cSkip | apply gThen | apply gBlock | apply eThen | apply eBlockHit | refine eBlock rfl ?_ | apply rThen | apply rBlock) | ((with_reducible apply cCond); first | refine cTrue hs rfl bd_ ?_ | refine cFalse hs rfl bd_ ?_))
      refine toL hm (oneV hs (Wnt.none rfl) rfl rfl (by intro w hm; exact r_idx hs rfl rfl rfl rfl tab rfl rfl rfl rfl (by omega) rfl) ?_)
      clear hs a
      intro a hs
      repeat (first | ((with_reducible refine toL hm ?_); (first | refine oneV hs gw_ rfl rfl (by intro w hm; exact kvR_) ?_ | refine oneN hs rfl rfl rfl rfl rfl rfl rfl ?_ | refine oneU hs rfl rfl rfl rfl rfl rfl ?_); clear hs a; intro a hs) | ((with_reducible apply lCons); first | (refine dv hs gw_ rfl rfl da_ ?_; clear hs hm a; rintro _ w ⟨g, rfl, -, hm⟩ a hs) | (refine stn hs rfl rfl ds_ ?_; clear hs hm a; rintro - w hm a hs) ) | (with_reducible first | apply lNilThen | apply lNilBlock | apply lNil | apply wp_seq | apply wp_region_lit | apply wp_block | apply cExit | apply cRet | apply cSkip | apply gThen | apply gBlock | apply eThen | apply eBlockHit | refine eBlock rfl ?_ | apply rThen | apply rBlock) | ((with_reducible apply cCond); first | refine cTrue hs rfl bd_ ?_ | refine cFalse hs rfl bd_ ?_))
      exact gRet1 hs rfl rfl ⟨rfl, hm.fr⟩
    · repeat (first | ((with_reducible refine toL hm ?_); (first | refine oneV hs gw_ rfl rfl (by intro w hm; exact kvR_) ?_ | refine oneN hs rfl rfl rfl rfl rfl rfl rfl ?_ | refine oneU hs rfl rfl rfl rfl rfl rfl ?_); clear hs a; intro a hs) | ((with_reducible apply lCons); first | (refine dv hs gw_ rfl rfl da_ ?_; clear hs hm a; rintro _ w ⟨g, rfl, -, hm⟩ a hs) | (refine stn hs rfl rfl ds_ ?_; clear hs hm a; rintro - w hm a hs) ) | (with_reducible first | apply lNilThen | apply lNilBlock | apply lNil | apply wp_seq | apply wp_region_lit | apply wp_block | apply cExit | apply cRet | apply cSkip | apply gThen | apply gBlock | apply eThen | apply eBlockHit | refine eBlock rfl ?_ | apply rThen | apply rBlock) | ((with_reducible apply cCond); first | refine cTrue hs rfl bd_ ?_ | refine cFalse hs rfl bd_ ?_))
      refine toL hm (oneV hs (Wnt.none rfl) rfl rfl (by intro w hm; exact r_idx hs rfl rfl rfl rfl tab rfl rfl rfl rfl (by omega) rfl) ?_)
      clear hs a
      intro a hs
      repeat (first | ((with_reducible refine toL hm ?_); (first | refine oneV hs gw_ rfl rfl (by intro w hm; exact kvR_) ?_ | refine oneN hs rfl rfl rfl rfl rfl rfl rfl ?_ | refine oneU hs rfl rfl rfl rfl rfl rfl ?_); clear hs a; intro a hs) | ((with_reducible apply lCons); first | (refine dv hs gw_ rfl rfl da_ ?_; clear hs hm a; rintro _ w ⟨g, rfl, -, hm⟩ a hs) | (refine stn hs rfl rfl ds_ ?_; clear hs hm a; rintro - w hm a hs) ) | (with_reducible first | apply lNilThen | apply lNilBlock | apply lNil | apply wp_seq | apply wp_region_lit | apply wp_block | apply cExit | apply cRet | apply cSkip | apply gThen | apply gBlock | apply eThen | apply eBlockHit | refine eBlock rfl ?_ | apply rThen | apply rBlock) | ((with_reducible apply cCond); first | refine cTrue hs rfl bd_ ?_ | refine cFalse hs rfl bd_ ?_))
      exact ⟨1 + 1, by omega, hs.sub (Has.all ⟨rfl, rfl, rfl, trivial⟩), hm, by omega, by omega⟩
  · by_cases h : k = 4
    · subst h
      repeat (first | ((with_reducible refine toL hm ?_); (first | refine oneV hs gw_ rfl rfl (by intro w hm; exact kvR_) ?_ | refine oneN hs rfl rfl rfl rfl rfl rfl rfl ?_ | refine oneU hs rfl rfl rfl rfl rfl rfl ?_); clear hs a; intro a hs) | ((with_reducible apply lCons); first | (refine dv hs gw_ rfl rfl da_ ?_; clear hs hm a; rintro _ w ⟨g, rfl, -, hm⟩ a hs) | (refine stn hs rfl rfl ds_ ?_; clear hs hm a; rintro - w hm a hs) ) | (with_reducible first | apply lNilThen | apply lNilBlock | apply lNil | apply wp_seq | apply wp_region_lit | apply wp_block | apply cExit | apply cRet | apply cSkip | apply gThen | apply gBlock | apply eThen | apply eBlockHit | refine eBlock rfl ?_ | apply rThen | apply rBlock) | ((with_reducible apply cCond); first | refine cTrue hs rfl bd_ ?_ | refine cFalse hs rfl bd_ ?_))
      refine toL hm (oneV hs (Wnt.none rfl) rfl rfl (by intro w hm; exact r_idx hs rfl rfl rfl rfl tab rfl rfl rfl rfl (by omega) rfl) ?_)
      clear hs a
      intro a hs
      repeat (first | ((with_reducible refine toL hm ?_); (first | refine oneV hs gw_ rfl rfl (by intro w hm; exact kvR_) ?_ | refine oneN hs rfl rfl rfl rfl rfl rfl rfl ?_ | refine oneU hs rfl rfl rfl rfl rfl rfl ?_); clear hs a; intro a hs) | ((with_reducible apply lCons); first | (refine dv hs gw_ rfl rfl da_ ?_; clear hs hm a; rintro _ w ⟨g, rfl, -, hm⟩ a hs) | (refine stn hs rfl rfl ds_ ?_; clear hs hm a; rintro - w hm a hs) ) | (with_reducible first | apply lNilThen | apply lNilBlock | apply lNil | apply wp_seq | apply wp_region_lit | apply wp_block | apply cExit | apply cRet | apply cSkip | apply gThen | apply gBlock | apply eThen | apply eBlockHit | refine eBlock rfl ?_ | apply rThen | apply rBlock) | ((with_reducible apply cCond); first | refine cTrue hs rfl bd_ ?_ | refine cFalse hs rfl bd_ ?_))
      exact gRet1 hs rfl rfl ⟨rfl, hm.fr⟩
    · repeat (first | ((with_reducible refine toL hm ?_); (first | refine oneV hs gw_ rfl rfl (by intro w hm; exact kvR_) ?_ | refine oneN hs rfl rfl rfl rfl rfl rfl rfl ?_ | refine oneU hs rfl rfl rfl rfl rfl rfl ?_); clear hs a; intro a hs) | ((with_reducible apply lCons); first | (refine dv hs gw_ rfl rfl da_ ?_; clear hs hm a; rintro _ w ⟨g, rfl, -, hm⟩ a hs) | (refine stn hs rfl rfl ds_ ?_; clear hs hm a; rintro - w hm a hs) ) | (with_reducible first | apply lNilThen | apply lNilBlock | apply lNil | apply wp_seq | apply wp_region_lit | apply wp_block | apply cExit | apply cRet | apply cSkip | apply gThen | apply gBlock | apply eThen | apply eBlockHit | refine eBlock rfl ?_ | apply rThen | apply rBlock) | ((with_reducible apply cCond); first | refine cTrue hs rfl bd_ ?_ | refine cFalse hs rfl bd_ ?_))
      refine toL hm (oneV hs (Wnt.none rfl) rfl rfl (by intro w hm; exact r_idx hs rfl rfl rfl rfl tab rfl rfl rfl rfl (by omega) rfl) ?_)
      clear hs a
      intro a hs
      repeat (first | ((with_reducible refine toL hm ?_); (first | refine oneV hs gw_ rfl rfl (by intro w hm; exact kvR_) ?_ | refine oneN hs rfl rfl rfl rfl rfl rfl rfl ?_ | refine oneU hs rfl rfl rfl rfl rfl rfl ?_); clear hs a; intro a hs) | ((with_reducible apply lCons); first | (refine dv hs gw_ rfl rfl da_ ?_; clear hs hm a; rintro _ w ⟨g, rfl, -, hm⟩ a hs) | (refine stn hs rfl rfl ds_ ?_; clear hs hm a; rintro - w hm a hs) ) | (with_reducible first | apply lNilThen | apply lNilBlock | apply lNil | apply wp_seq | apply wp_region_lit | apply wp_block | apply cExit | apply cRet | apply cSkip | apply gThen | apply gBlock | apply eThen | apply eBlockHit | refine eBlock rfl ?_ | apply rThen | apply rBlock) | ((with_reducible apply cCond); first | refine cTrue hs rfl bd_ ?_ | refine cFalse hs rfl bd_ ?_))
      exact ⟨2 + 1, by omega, hs.sub (Has.all ⟨rfl, rfl, rfl, trivial⟩), hm, by omega, by omega⟩
  · by_cases h : k = 5
    · subst h
      repeat (first | ((with_reducible refine toL hm ?_); (first | refine oneV hs gw_ rfl rfl (by intro w hm; exact kvR_) ?_ | refine oneN hs rfl rfl rfl rfl rfl rfl rfl ?_ | refine oneU hs rfl rfl rfl rfl rfl rfl ?_); clear hs a; intro a hs) | ((with_reducible apply lCons); first | (refine dv hs gw_ rfl rfl da_ ?_; clear hs hm a; rintro _ w ⟨g, rfl, -, hm⟩ a hs) | (refine stn hs rfl rfl ds_ ?_; clear hs hm a; rintro - w hm a hs) ) | (with_reducible first | apply lNilThen | apply lNilBlock | apply lNil | apply wp_seq | apply wp_region_lit | apply wp_block | apply cExit | apply cRet | apply cSkip | apply gThen | apply gBlock | apply eThen | apply eBlockHit | refine eBlock rfl ?_ | apply rThen | apply rBlock) | ((with_reducible apply cCond); first | refine cTrue hs rfl bd_ ?_ | refine cFalse hs rfl bd_ ?_))
      refine toL hm (oneV hs (Wnt.none rfl) rfl rfl (by intro w hm; exact r_idx hs rfl rfl rfl rfl tab rfl rfl rfl rfl (by omega) rfl) ?_)
      clear hs a
      intro a hs
      repeat (first | ((with_reducible refine toL hm ?_); (first | refine oneV hs gw_ rfl rfl (by intro w hm; exact kvR_) ?_ | refine oneN hs rfl rfl rfl rfl rfl rfl rfl ?_ | refine oneU hs rfl rfl rfl rfl rfl rfl ?_); clear hs a; intro a hs) | ((with_reducible apply lCons); first | (refine dv hs gw_ rfl rfl da_ ?_; clear hs hm a; rintro _ w ⟨g, rfl, -, hm⟩ a hs) | (refine stn hs rfl rfl ds_ ?_; clear hs hm a; rintro - w hm a hs) ) | (with_reducible first | apply lNilThen | apply lNilBlock | apply lNil | apply wp_seq | apply wp_region_lit | apply wp_block | apply cExit | apply cRet | apply cSkip | apply gThen | apply gBlock | apply eThen | apply eBlockHit | refine eBlock rfl ?_ | apply rThen | apply rBlock) | ((with_reducible apply cCond); first | refine cTrue hs rfl bd_ ?_ | refine cFalse hs rfl bd_ ?_))
      exact gRet1 hs rfl rfl ⟨rfl, hm.fr⟩
    · repeat (first | ((with_reducible refine toL hm ?_); (first | refine oneV hs gw_ rfl rfl (by intro w hm; exact kvR_) ?_ | refine oneN hs rfl rfl rfl rfl rfl rfl rfl ?_ | refine oneU hs rfl rfl rfl rfl rfl rfl ?_); clear hs a; intro a hs) | ((with_reducible apply lCons); first | (refine dv hs gw_ rfl rfl da_ ?_; clear hs hm a; rintro _ w ⟨g, rfl, -, hm⟩ a hs) | (refine stn hs rfl rfl ds_ ?_; clear hs hm a; rintro - w hm a hs) ) | (with_reducible first | apply lNilThen | apply lNilBlock | apply lNil | apply wp_seq | apply wp_region_lit | apply wp_block | apply cExit | apply cRet | apply cSkip | apply gThen | apply gBlock | apply eThen | apply eBlockHit | refine eBlock rfl ?_ | apply rThen | apply rBlock) | ((with_reducible apply cCond); first | refine cTrue hs rfl bd_ ?_ | refine cFalse hs rfl bd_ ?_))
      refine toL hm (oneV hs (Wnt.none rfl) rfl rfl (by intro w hm; exact r_idx hs rfl rfl rfl rfl tab rfl rfl rfl rfl (by omega) rfl) ?_)
      clear hs a
      intro a hs
      repeat (first | ((with_reducible refine toL hm ?_); (first | refine oneV hs gw_ rfl rfl (by intro w hm; exact kvR_) ?_ | refine oneN hs rfl rfl rfl rfl rfl rfl rfl ?_ | refine oneU hs rfl rfl rfl rfl rfl rfl ?_); clear hs a; intro a hs) | ((with_reducible apply lCons); first | (refine dv hs gw_ rfl rfl da_ ?_; clear hs hm a; rintro _ w ⟨g, rfl, -, hm⟩ a hs) | (refine stn hs rfl rfl ds_ ?_; clear hs hm a; rintro - w hm a hs) ) | (with_reducible first | apply lNilThen | apply lNilBlock | apply lNil | apply wp_seq | apply wp_region_lit | apply wp_block | apply cExit | apply cRet | apply cSkip | apply gThen | apply gBlock | apply eThen | apply eBlockHit | refine eBlock rfl ?_ | apply rThen | apply rBlock) | ((with_reducible apply cCond); first | refine cTrue hs rfl bd_ ?_ | refine cFalse hs rfl bd_ ?_))
      exact ⟨3 + 1, by omega, hs.sub (Has.all ⟨rfl, rfl, rfl, trivial⟩), hm, by omega, by omega⟩
  · have hb : fndB k = false := decide_eq_false (by omega)
    rw [hb]
    repeat (first | ((with_reducible refine toL hm ?_); (first | refine oneV hs gw_ rfl rfl (by intro w hm; exact kvR_) ?_ | refine oneN hs rfl rfl rfl rfl rfl rfl rfl ?_ | refine oneU hs rfl rfl rfl rfl rfl rfl ?_); clear hs a; intro a hs) | ((with_reducible apply lCons); first | (refine dv hs gw_ rfl rfl da_ ?_; clear hs hm a; rintro _ w ⟨g, rfl, -, hm⟩ a hs) | (refine stn hs rfl rfl ds_ ?_; clear hs hm a; rintro - w hm a hs) ) | (with_reducible first | apply lNilThen | apply lNilBlock | apply lNil | apply wp_seq | apply wp_region_lit | apply wp_block | apply cExit | apply cRet | apply cSkip | apply gThen | apply gBlock | apply eThen | apply eBlockHit | refine eBlock rfl ?_ | apply rThen | apply rBlock) | ((with_reducible apply cCond); first | refine cTrue hs rfl bd_ ?_ | refine cFalse hs rfl bd_ ?_))
    exact gRet1 hs rfl rfl ⟨rfl, hm.fr⟩
theorem hit_c (e : Ev) (g : Nat) (i : Int) (wB : World) (hg : Ro wB g 0 [.int .i64 i]) : Ret Tryd.prog 9 [evA e, .pointer (some ⟨g, 0, none⟩)] wB (fun u w' => u = .bool (hitB i e) ∧ Pu wB w') := by
  obtain ⟨a0, k, r, d⟩ := e
  unfold evA hitB
  dsimp only
  by_cases h1 : k = 1
  · by_cases h2 : d = i
    · rw [decide_eq_true h1, decide_eq_true h2]
      refine enterR Tryd.func9 rfl rfl rfl fun a hs hm => ?_
      repeat (first | ((with_reducible refine toL hm ?_); (first | refine oneV hs gw_ rfl rfl (by intro w hm; exact kvR_) ?_ | refine oneN hs rfl rfl rfl rfl rfl rfl rfl ?_ | refine oneU hs rfl rfl rfl rfl rfl rfl ?_); clear hs a; intro a hs) | ((with_reducible apply lCons); first | (refine dv hs gw_ rfl rfl da_ ?_; clear hs hm a; rintro _ w ⟨g, rfl, -, hm⟩ a hs) | (refine stn hs rfl rfl ds_ ?_; clear hs hm a; rintro - w hm a hs) ) | (with_reducible first | apply lNilThen | apply lNilBlock | apply lNil | apply wp_seq | apply wp_region_lit | apply wp_block | apply cExit | apply cRet | apply cSkip | apply gThen | apply gBlock | apply eThen | apply eBlockHit | refine eBlock rfl ?_ | apply rThen | apply rBlock) | ((with_reducible apply cCond); first | refine cTrue hs rfl bd_ ?_ | refine cFalse hs rfl bd_ ?_))
      exact gRet1 hs rfl rfl ⟨rfl, hm.fr⟩
    · rw [decide_eq_false h2, Bool.and_false]
      refine enterR Tryd.func9 rfl rfl rfl fun a hs hm => ?_
      repeat (first | ((with_reducible refine toL hm ?_); (first | refine oneV hs gw_ rfl rfl (by intro w hm; exact kvR_) ?_ | refine oneN hs rfl rfl rfl rfl rfl rfl rfl ?_ | refine oneU hs rfl rfl rfl rfl rfl rfl ?_); clear hs a; intro a hs) | ((with_reducible apply lCons); first | (refine dv hs gw_ rfl rfl da_ ?_; clear hs hm a; rintro _ w ⟨g, rfl, -, hm⟩ a hs) | (refine stn hs rfl rfl ds_ ?_; clear hs hm a; rintro - w hm a hs) ) | (with_reducible first | apply lNilThen | apply lNilBlock | apply lNil | apply wp_seq | apply wp_region_lit | apply wp_block | apply cExit | apply cRet | apply cSkip | apply gThen | apply gBlock | apply eThen | apply eBlockHit | refine eBlock rfl ?_ | apply rThen | apply rBlock) | ((with_reducible apply cCond); first | refine cTrue hs rfl bd_ ?_ | refine cFalse hs rfl bd_ ?_))
      exact gRet1 hs rfl rfl ⟨rfl, hm.fr⟩
  · rw [decide_eq_false h1, Bool.false_and]
    refine enterR Tryd.func9 rfl rfl rfl fun a hs hm => ?_
    repeat (first | ((with_reducible refine toL hm ?_); (first | refine oneV hs gw_ rfl rfl (by intro w hm; exact kvR_) ?_ | refine oneN hs rfl rfl rfl rfl rfl rfl rfl ?_ | refine oneU hs rfl rfl rfl rfl rfl rfl ?_); clear hs a; intro a hs) | ((with_reducible apply lCons); first | (refine dv hs gw_ rfl rfl da_ ?_; clear hs hm a; rintro _ w ⟨g, rfl, -, hm⟩ a hs) | (refine stn hs rfl rfl ds_ ?_; clear hs hm a; rintro - w hm a hs) ) | (with_reducible first | apply lNilThen | apply lNilBlock | apply lNil | apply wp_seq | apply wp_region_lit | apply wp_block | apply cExit | apply cRet | apply cSkip | apply gThen | apply gBlock | apply eThen | apply eBlockHit | refine eBlock rfl ?_ | apply rThen | apply rBlock) | ((with_reducible apply cCond); first | refine cTrue hs rfl bd_ ?_ | refine cFalse hs rfl bd_ ?_))
    exact gRet1 hs rfl rfl ⟨rfl, hm.fr⟩
theorem fou_c (e : Ev) (g : Nat) (f : Int × Int) (wB : World) (hg : Ro wB g 0 (flV f)) : Ret Tryd.prog 10 [evA e, .pointer (some ⟨g, 0, none⟩)] wB (fun u w' => u = .bool (fouB f.1 e) ∧ Pu wB w') := by
  obtain ⟨a0, k, r, d⟩ := e
  obtain ⟨fr, fk⟩ := f
  unfold evA fouB
  unfold flV at hg
  dsimp only at hg ⊢
  have hfn := fun w => finds_c k w
  by_cases h1 : r = fr
  · rw [decide_eq_true h1, Bool.true_and]
    generalize fndB k = b at *
    refine enterR Tryd.func10 rfl rfl rfl fun a hs hm => ?_
    repeat (first | ((with_reducible refine toL hm ?_); (first | refine oneV hs gw_ rfl rfl (by intro w hm; exact kvR_) ?_ | refine oneN hs rfl rfl rfl rfl rfl rfl rfl ?_ | refine oneU hs rfl rfl rfl rfl rfl rfl ?_); clear hs a; intro a hs) | ((with_reducible apply lCons); first | (refine dv hs gw_ rfl rfl da_ ?_; clear hs hm a; rintro _ w ⟨g, rfl, -, hm⟩ a hs) | (refine stn hs rfl rfl ds_ ?_; clear hs hm a; rintro - w hm a hs) | (refine dv hs gw_ rfl rfl (d_call hs rfl rfl rfl (pl 11 rfl) (hfn _)) ?_; clear hs a; rintro _ w ⟨rfl, hf⟩ a hs; replace hm := hm.pu hf; clear hf)) | (with_reducible first | apply lNilThen | apply lNilBlock | apply lNil | apply wp_seq | apply wp_region_lit | apply wp_block | apply cExit | apply cRet | apply cSkip | apply gThen | apply gBlock | apply eThen | apply eBlockHit | refine eBlock rfl ?_ | apply rThen | apply rBlock) | ((with_reducible apply cCond); first | refine cTrue hs rfl bd_ ?_ | refine cFalse hs rfl bd_ ?_))
    exact gRet1 hs rfl rfl ⟨rfl, hm.fr⟩
  · rw [decide_eq_false h1, Bool.false_and]
    refine enterR Tryd.func10 rfl rfl rfl fun a hs hm => ?_
    repeat (first | ((with_reducible refine toL hm ?_); (first | refine oneV hs gw_ rfl rfl (by intro w hm; exact kvR_) ?_ | refine oneN hs rfl rfl rfl rfl rfl rfl rfl ?_ | refine oneU hs rfl rfl rfl rfl rfl rfl ?_); clear hs a; intro a hs) | ((with_reducible apply lCons); first | (refine dv hs gw_ rfl rfl da_ ?_; clear hs hm a; rintro _ w ⟨g, rfl, -, hm⟩ a hs) | (refine stn hs rfl rfl ds_ ?_; clear hs hm a; rintro - w hm a hs) ) | (with_reducible first | apply lNilThen | apply lNilBlock | apply lNil | apply wp_seq | apply wp_region_lit | apply wp_block | apply cExit | apply cRet | apply cSkip | apply gThen | apply gBlock | apply eThen | apply eBlockHit | refine eBlock rfl ?_ | apply rThen | apply rBlock) | ((with_reducible apply cCond); first | refine cTrue hs rfl bd_ ?_ | refine cFalse hs rfl bd_ ?_))
    exact gRet1 hs rfl rfl ⟨rfl, hm.fr⟩
theorem rep_c (e : Ev) (g : Nat) (f : Int × Int) (wB : World) (hg : Ro wB g 0 (flV f)) : Ret Tryd.prog 12 [evA e, .pointer (some ⟨g, 0, none⟩)] wB (fun u w' => u = .bool (repB f.1 e) ∧ Pu wB w') := by
  obtain ⟨a0, k, r, d⟩ := e
  obtain ⟨fr, fk⟩ := f
  unfold evA repB
  unfold flV at hg
  dsimp only at hg ⊢
  by_cases h1 : r = fr
  · rw [decide_eq_true h1, Bool.true_and]
    by_cases h2 : k = 7
    · rw [decide_eq_true h2]
      refine enterR Tryd.func12 rfl rfl rfl fun a hs hm => ?_
      repeat (first | ((with_reducible refine toL hm ?_); (first | refine oneV hs gw_ rfl rfl (by intro w hm; exact kvR_) ?_ | refine oneN hs rfl rfl rfl rfl rfl rfl rfl ?_ | refine oneU hs rfl rfl rfl rfl rfl rfl ?_); clear hs a; intro a hs) | ((with_reducible apply lCons); first | (refine dv hs gw_ rfl rfl da_ ?_; clear hs hm a; rintro _ w ⟨g, rfl, -, hm⟩ a hs) | (refine stn hs rfl rfl ds_ ?_; clear hs hm a; rintro - w hm a hs) ) | (with_reducible first | apply lNilThen | apply lNilBlock | apply lNil | apply wp_seq | apply wp_region_lit | apply wp_block | apply cExit | apply cRet | apply cSkip | apply gThen | apply gBlock | apply eThen | apply eBlockHit | refine eBlock rfl ?_ | apply rThen | apply rBlock) | ((with_reducible apply cCond); first | refine cTrue hs rfl bd_ ?_ | refine cFalse hs rfl bd_ ?_))
      exact gRet1 hs rfl rfl ⟨rfl, hm.fr⟩
    · rw [decide_eq_false h2]
      refine enterR Tryd.func12 rfl rfl rfl fun a hs hm => ?_
      repeat (first | ((with_reducible refine toL hm ?_); (first | refine oneV hs gw_ rfl rfl (by intro w hm; exact kvR_) ?_ | refine oneN hs rfl rfl rfl rfl rfl rfl rfl ?_ | refine oneU hs rfl rfl rfl rfl rfl rfl ?_); clear hs a; intro a hs) | ((with_reducible apply lCons); first | (refine dv hs gw_ rfl rfl da_ ?_; clear hs hm a; rintro _ w ⟨g, rfl, -, hm⟩ a hs) | (refine stn hs rfl rfl ds_ ?_; clear hs hm a; rintro - w hm a hs) ) | (with_reducible first | apply lNilThen | apply lNilBlock | apply lNil | apply wp_seq | apply wp_region_lit | apply wp_block | apply cExit | apply cRet | apply cSkip | apply gThen | apply gBlock | apply eThen | apply eBlockHit | refine eBlock rfl ?_ | apply rThen | apply rBlock) | ((with_reducible apply cCond); first | refine cTrue hs rfl bd_ ?_ | refine cFalse hs rfl bd_ ?_))
      exact gRet1 hs rfl rfl ⟨rfl, hm.fr⟩
  · rw [decide_eq_false h1, Bool.false_and]
    refine enterR Tryd.func12 rfl rfl rfl fun a hs hm => ?_
    repeat (first | ((with_reducible refine toL hm ?_); (first | refine oneV hs gw_ rfl rfl (by intro w hm; exact kvR_) ?_ | refine oneN hs rfl rfl rfl rfl rfl rfl rfl ?_ | refine oneU hs rfl rfl rfl rfl rfl rfl ?_); clear hs a; intro a hs) | ((with_reducible apply lCons); first | (refine dv hs gw_ rfl rfl da_ ?_; clear hs hm a; rintro _ w ⟨g, rfl, -, hm⟩ a hs) | (refine stn hs rfl rfl ds_ ?_; clear hs hm a; rintro - w hm a hs) ) | (with_reducible first | apply lNilThen | apply lNilBlock | apply lNil | apply wp_seq | apply wp_region_lit | apply wp_block | apply cExit | apply cRet | apply cSkip | apply gThen | apply gBlock | apply eThen | apply eBlockHit | refine eBlock rfl ?_ | apply rThen | apply rBlock) | ((with_reducible apply cCond); first | refine cTrue hs rfl bd_ ?_ | refine cFalse hs rfl bd_ ?_))
    exact gRet1 hs rfl rfl ⟨rfl, hm.fr⟩
/-- where the first event from k on lies that fits; the number of events if none does -/
def aftF (p : Ev → Bool) : List Ev → Nat → Nat
  | [], _ => 0
  | _ :: t, k + 1 => aftF p t k + 1
  | e :: t, 0 => if p e then 0 else aftF p t 0 + 1
theorem aft_none {p : Ev → Bool} : ∀ {l : List Ev} {k m : Nat}, k ≤ l.length → (∀ j (h : j < l.length), k ≤ j → j < m → p l[j] = false) → k ≤ m → l.length ≤ m → aftF p l k = l.length
  | [], _, _, _, _, _, _ => rfl
  | e :: t, k + 1, m, hk, hno, hkm, hm => by
    simp only [aftF, List.length_cons]
    rw [aft_none (m := m - 1) (by simp at hk; omega) (fun j h h1 h2 => hno (j + 1) (by simp; omega) (by omega) (by omega)) (by omega) (by simp at hm; omega)]
  | e :: t, 0, m, hk, hno, hkm, hm => by
    simp only [aftF, List.length_cons]
    have h0 : p e = false := hno 0 (by simp) (Nat.le_refl _) (by simp at hm; omega)
    rw [h0, if_neg (by simp), aft_none (k := 0) (m := m - 1) (by omega) (fun j h h1 h2 => hno (j + 1) (by simp; omega) (by omega) (by omega)) (by omega) (by simp at hm; omega)]
theorem aft_at {p : Ev → Bool} : ∀ {l : List Ev} {k m : Nat} (hm : m < l.length), k ≤ m → (∀ j (h : j < l.length), k ≤ j → j < m → p l[j] = false) → p l[m] = true → aftF p l k = m
  | e :: t, k + 1, m + 1, hm, hk, hno, hp => by
    simp only [aftF]
    rw [aft_at (m := m) (by simp at hm; omega) (by omega) (fun j h h1 h2 => hno (j + 1) (by simp; omega) (by omega) (by omega)) (by simpa using hp)]
  | e :: t, 0, 0, hm, hk, hno, hp => by
    simp only [aftF]
    have h0 : p e = true := hp
    rw [if_pos h0]
  | e :: t, 0, m + 1, hm, hk, hno, hp => by
    simp only [aftF]
    have h0 : p e = false := hno 0 (by simp) (Nat.le_refl _) (by omega)
    rw [h0, if_neg (by simp), aft_at (k := 0) (m := m) (by simp at hm; omega) (by omega) (fun j h h1 h2 => hno (j + 1) (by simp; omega) (by omega) (by omega)) (by simpa using hp)]
theorem aft_le (p : Ev → Bool) : ∀ (l : List Ev) (k : Nat), aftF p l k ≤ l.length
  | [], _ => by simp [aftF]
  | e :: t, k + 1 => by have := aft_le p t k; simp only [aftF, List.length_cons]; omega
  | e :: t, 0 => by
    have := aft_le p t 0
    simp only [aftF, List.length_cons]
    split <;> omega
theorem aft_ge (p : Ev → Bool) : ∀ (l : List Ev) (k : Nat), k ≤ l.length → k ≤ aftF p l k
  | [], k, h => by simp at h; subst h; simp [aftF]
  | e :: t, k + 1, h => by have := aft_ge p t k (by simp at h; omega); simp only [aftF]; omega
  | e :: t, 0, h => by omega
set_option maxHeartbeats 2000000 in
theorem ahit_c (y : ES) (k : Nat) (g : Nat) (i : Int) (wB : World) (hy : y.ok wB) (hn : y.n ≤ 1000) (hk : k ≤ y.n) (hg : Ro wB g 0 [.int .i64 i]) :
    Ret Tryd.prog 13 [y.v, .int .i64 (k : Int), .func (.func 9) #[] #[.pointer (some ⟨g, 0, none⟩)]] wB (fun u w' => u = .int .i64 (aftF (hitB i) y.l k : Int) ∧ Pu wB w') := by
  obtain ⟨A, n, c, l⟩ := y
  have hl : l.length = n := hy.len
  unfold ES.v
  dsimp only at hn hk ⊢
  refine enterR Tryd.func13 rfl rfl rfl fun a hs hm => ?_
  repeat (first | ((with_reducible refine toL hm ?_); (first | refine oneV hs gw_ rfl rfl (by intro w hm; exact kvR_) ?_ | refine oneN hs rfl rfl rfl rfl rfl rfl rfl ?_ | refine oneU hs rfl rfl rfl rfl rfl rfl ?_); clear hs a; intro a hs) | ((with_reducible apply lCons); first | (refine dv hs gw_ rfl rfl da_ ?_; clear hs hm a; rintro _ w ⟨g, rfl, -, hm⟩ a hs) | (refine stn hs rfl rfl ds_ ?_; clear hs hm a; rintro - w hm a hs) ) | (with_reducible first | apply lNilThen | apply lNilBlock | apply lNil | apply wp_seq | apply wp_region_lit | apply wp_block | apply cExit | apply cRet | apply cSkip | apply gThen | apply gBlock | apply eThen | apply eBlockHit | refine eBlock rfl ?_ | apply rThen | apply rBlock) | ((with_reducible apply cCond); first | refine cTrue hs rfl bd_ ?_ | refine cFalse hs rfl bd_ ?_))
  refine cLoop (X := Nat) (fun m a w' => Sl Tryd.f13.ntmps [(0, .slice A n c), (2, .func (.func 9) #[] #[.pointer (some ⟨g, 0, none⟩)]), (7, .int .i64 (m : Int))] a ∧ Mm (fun _ => False) wB [] w' ∧ k ≤ m ∧ m ≤ n ∧ ∀ j (h : j < l.length), k ≤ j → j < m → (hitB i) l[j] = false) (fun m => n - m) k ⟨hs.sub (Has.all ⟨rfl, rfl, rfl, trivial⟩), hm, Nat.le_refl _, hk, fun j _ h1 h2 => by omega⟩ ?_
  clear hs hm a
  rintro m a w' ⟨hs, hm, hkm, hmn, hno⟩
  by_cases hlt : m < n
  · obtain ⟨b1, o1, rfl, hb1, r1⟩ := hy.rd.ro (by rw [flat_len evV 4 evV_len]; dsimp only; omega)
    dsimp only at r1
    have k1 : m < l.length := by omega
    have e1 := r1.flat evV_len k1
    have hcl := fun w'' (hf : Pu wB w'') => hit_c l[m] g i w'' (hg.pu_ hf)
    cases hb : (hitB i) l[m]
    · rw [hb] at hcl
      have hnx : ∀ j (h : j < l.length), k ≤ j → j < m + 1 → (hitB i) l[j] = false := fun j h h1 h2 => by
        by_cases e : j = m
        · subst e; exact hb
        · exact hno j h h1 (by omega)
      clear hb
      generalize l[m]'(_) = e at *
      obtain ⟨ea, ek, er, ed⟩ := e
      unfold evA at hcl
      unfold evV at e1
      dsimp only at e1 hcl
      repeat (first | ((with_reducible refine toL hm ?_); (first | refine oneV hs gw_ rfl rfl (by intro w hm; exact kvR_) ?_ | refine oneN hs rfl rfl rfl rfl rfl rfl rfl ?_ | refine oneU hs rfl rfl rfl rfl rfl rfl ?_); clear hs a; intro a hs) | ((with_reducible apply lCons); first | (refine dv hs gw_ rfl rfl da_ ?_; clear hs hm a; rintro _ w ⟨g, rfl, -, hm⟩ a hs) | (refine stn hs rfl rfl ds_ ?_; clear hs hm a; rintro - w hm a hs) | (refine dv hs gw_ rfl rfl (d_callC hs rfl rfl rfl (pl 9 rfl) (hcl _ hm.fr)) ?_; clear hs a; rintro _ w ⟨rfl, hf⟩ a hs; replace hm := hm.pu hf; clear hf)) | (with_reducible first | apply lNilThen | apply lNilBlock | apply lNil | apply wp_seq | apply wp_region_lit | apply wp_block | apply cExit | apply cRet | apply cSkip | apply gThen | apply gBlock | apply eThen | apply eBlockHit | refine eBlock rfl ?_ | apply rThen | apply rBlock) | ((with_reducible apply cCond); first | refine cTrue hs rfl bd_ ?_ | refine cFalse hs rfl bd_ ?_))
      exact ⟨m + 1, by omega, hs.sub (Has.all ⟨rfl, rfl, rfl, trivial⟩), hm, by omega, by omega, hnx⟩
    · rw [hb] at hcl
      rw [aft_at k1 hkm hno hb]
      clear hb
      generalize l[m]'(_) = e at *
      obtain ⟨ea, ek, er, ed⟩ := e
      unfold evA at hcl
      unfold evV at e1
      dsimp only at e1 hcl
      repeat (first | ((with_reducible refine toL hm ?_); (first | refine oneV hs gw_ rfl rfl (by intro w hm; exact kvR_) ?_ | refine oneN hs rfl rfl rfl rfl rfl rfl rfl ?_ | refine oneU hs rfl rfl rfl rfl rfl rfl ?_); clear hs a; intro a hs) | ((with_reducible apply lCons); first | (refine dv hs gw_ rfl rfl da_ ?_; clear hs hm a; rintro _ w ⟨g, rfl, -, hm⟩ a hs) | (refine stn hs rfl rfl ds_ ?_; clear hs hm a; rintro - w hm a hs) | (refine dv hs gw_ rfl rfl (d_callC hs rfl rfl rfl (pl 9 rfl) (hcl _ hm.fr)) ?_; clear hs a; rintro _ w ⟨rfl, hf⟩ a hs; replace hm := hm.pu hf; clear hf)) | (with_reducible first | apply lNilThen | apply lNilBlock | apply lNil | apply wp_seq | apply wp_region_lit | apply wp_block | apply cExit | apply cRet | apply cSkip | apply gThen | apply gBlock | apply eThen | apply eBlockHit | refine eBlock rfl ?_ | apply rThen | apply rBlock) | ((with_reducible apply cCond); first | refine cTrue hs rfl bd_ ?_ | refine cFalse hs rfl bd_ ?_))
      exact gRet1 hs rfl rfl ⟨rfl, hm.fr⟩
  · rw [aft_none (by omega) hno hkm (by omega)]
    repeat (first | ((with_reducible refine toL hm ?_); (first | refine oneV hs gw_ rfl rfl (by intro w hm; exact kvR_) ?_ | refine oneN hs rfl rfl rfl rfl rfl rfl rfl ?_ | refine oneU hs rfl rfl rfl rfl rfl rfl ?_); clear hs a; intro a hs) | ((with_reducible apply lCons); first | (refine dv hs gw_ rfl rfl da_ ?_; clear hs hm a; rintro _ w ⟨g, rfl, -, hm⟩ a hs) | (refine stn hs rfl rfl ds_ ?_; clear hs hm a; rintro - w hm a hs) ) | (with_reducible first | apply lNilThen | apply lNilBlock | apply lNil | apply wp_seq | apply wp_region_lit | apply wp_block | apply cExit | apply cRet | apply cSkip | apply gThen | apply gBlock | apply eThen | apply eBlockHit | refine eBlock rfl ?_ | apply rThen | apply rBlock) | ((with_reducible apply cCond); first | refine cTrue hs rfl bd_ ?_ | refine cFalse hs rfl bd_ ?_))
    exact gRet1 hs rfl rfl ⟨by rw [hl], hm.fr⟩
set_option maxHeartbeats 2000000 in
theorem afou_c (y : ES) (k : Nat) (g : Nat) (f : Int × Int) (wB : World) (hy : y.ok wB) (hn : y.n ≤ 1000) (hk : k ≤ y.n) (hg : Ro wB g 0 (flV f)) :
    Ret Tryd.prog 13 [y.v, .int .i64 (k : Int), .func (.func 10) #[] #[.pointer (some ⟨g, 0, none⟩)]] wB (fun u w' => u = .int .i64 (aftF (fouB f.1) y.l k : Int) ∧ Pu wB w') := by
  obtain ⟨A, n, c, l⟩ := y
  have hl : l.length = n := hy.len
  unfold ES.v
  dsimp only at hn hk ⊢
  refine enterR Tryd.func13 rfl rfl rfl fun a hs hm => ?_
  repeat (first | ((with_reducible refine toL hm ?_); (first | refine oneV hs gw_ rfl rfl (by intro w hm; exact kvR_) ?_ | refine oneN hs rfl rfl rfl rfl rfl rfl rfl ?_ | refine oneU hs rfl rfl rfl rfl rfl rfl ?_); clear hs a; intro a hs) | ((with_reducible apply lCons); first | (refine dv hs gw_ rfl rfl da_ ?_; clear hs hm a; rintro _ w ⟨g, rfl, -, hm⟩ a hs) | (refine stn hs rfl rfl ds_ ?_; clear hs hm a; rintro - w hm a hs) ) | (with_reducible first | apply lNilThen | apply lNilBlock | apply lNil | apply wp_seq | apply wp_region_lit | apply wp_block | apply cExit | apply cRet | apply cSkip | apply gThen | apply gBlock | apply eThen | apply eBlockHit | refine eBlock rfl ?_ | apply rThen | apply rBlock) | ((with_reducible apply cCond); first | refine cTrue hs rfl bd_ ?_ | refine cFalse hs rfl bd_ ?_))
  refine cLoop (X := Nat) (fun m a w' => Sl Tryd.f13.ntmps [(0, .slice A n c), (2, .func (.func 10) #[] #[.pointer (some ⟨g, 0, none⟩)]), (7, .int .i64 (m : Int))] a ∧ Mm (fun _ => False) wB [] w' ∧ k ≤ m ∧ m ≤ n ∧ ∀ j (h : j < l.length), k ≤ j → j < m → (fouB f.1) l[j] = false) (fun m => n - m) k ⟨hs.sub (Has.all ⟨rfl, rfl, rfl, trivial⟩), hm, Nat.le_refl _, hk, fun j _ h1 h2 => by omega⟩ ?_
  clear hs hm a
  rintro m a w' ⟨hs, hm, hkm, hmn, hno⟩
  by_cases hlt : m < n
  · obtain ⟨b1, o1, rfl, hb1, r1⟩ := hy.rd.ro (by rw [flat_len evV 4 evV_len]; dsimp only; omega)
    dsimp only at r1
    have k1 : m < l.length := by omega
    have e1 := r1.flat evV_len k1
    have hcl := fun w'' (hf : Pu wB w'') => fou_c l[m] g f w'' (hg.pu_ hf)
    cases hb : (fouB f.1) l[m]
    · rw [hb] at hcl
      have hnx : ∀ j (h : j < l.length), k ≤ j → j < m + 1 → (fouB f.1) l[j] = false := fun j h h1 h2 => by
        by_cases e : j = m
        · subst e; exact hb
        · exact hno j h h1 (by omega)
      clear hb
      generalize l[m]'(_) = e at *
      obtain ⟨ea, ek, er, ed⟩ := e
      unfold evA at hcl
      unfold evV at e1
      dsimp only at e1 hcl
      repeat (first | ((with_reducible refine toL hm ?_); (first | refine oneV hs gw_ rfl rfl (by intro w hm; exact kvR_) ?_ | refine oneN hs rfl rfl rfl rfl rfl rfl rfl ?_ | refine oneU hs rfl rfl rfl rfl rfl rfl ?_); clear hs a; intro a hs) | ((with_reducible apply lCons); first | (refine dv hs gw_ rfl rfl da_ ?_; clear hs hm a; rintro _ w ⟨g, rfl, -, hm⟩ a hs) | (refine stn hs rfl rfl ds_ ?_; clear hs hm a; rintro - w hm a hs) | (refine dv hs gw_ rfl rfl (d_callC hs rfl rfl rfl (pl 10 rfl) (hcl _ hm.fr)) ?_; clear hs a; rintro _ w ⟨rfl, hf⟩ a hs; replace hm := hm.pu hf; clear hf)) | (with_reducible first | apply lNilThen | apply lNilBlock | apply lNil | apply wp_seq | apply wp_region_lit | apply wp_block | apply cExit | apply cRet | apply cSkip | apply gThen | apply gBlock | apply eThen | apply eBlockHit | refine eBlock rfl ?_ | apply rThen | apply rBlock) | ((with_reducible apply cCond); first | refine cTrue hs rfl bd_ ?_ | refine cFalse hs rfl bd_ ?_))
      exact ⟨m + 1, by omega, hs.sub (Has.all ⟨rfl, rfl, rfl, trivial⟩), hm, by omega, by omega, hnx⟩
    · rw [hb] at hcl
      rw [aft_at k1 hkm hno hb]
      clear hb
      generalize l[m]'(_) = e at *
      obtain ⟨ea, ek, er, ed⟩ := e
      unfold evA at hcl
      unfold evV at e1
      dsimp only at e1 hcl
      repeat (first | ((with_reducible refine toL hm ?_); (first | refine oneV hs gw_ rfl rfl (by intro w hm; exact kvR_) ?_ | refine oneN hs rfl rfl rfl rfl rfl rfl rfl ?_ | refine oneU hs rfl rfl rfl rfl rfl rfl ?_); clear hs a; intro a hs) | ((with_reducible apply lCons); first | (refine dv hs gw_ rfl rfl da_ ?_; clear hs hm a; rintro _ w ⟨g, rfl, -, hm⟩ a hs) | (refine stn hs rfl rfl ds_ ?_; clear hs hm a; rintro - w hm a hs) | (refine dv hs gw_ rfl rfl (d_callC hs rfl rfl rfl (pl 10 rfl) (hcl _ hm.fr)) ?_; clear hs a; rintro _ w ⟨rfl, hf⟩ a hs; replace hm := hm.pu hf; clear hf)) | (with_reducible first | apply lNilThen | apply lNilBlock | apply lNil | apply wp_seq | apply wp_region_lit | apply wp_block | apply cExit | apply cRet | apply cSkip | apply gThen | apply gBlock | apply eThen | apply eBlockHit | refine eBlock rfl ?_ | apply rThen | apply rBlock) | ((with_reducible apply cCond); first | refine cTrue hs rfl bd_ ?_ | refine cFalse hs rfl bd_ ?_))
      exact gRet1 hs rfl rfl ⟨rfl, hm.fr⟩
  · rw [aft_none (by omega) hno hkm (by omega)]
    repeat (first | ((with_reducible refine toL hm ?_); (first | refine oneV hs gw_ rfl rfl (by intro w hm; exact kvR_) ?_ | refine oneN hs rfl rfl rfl rfl rfl rfl rfl ?_ | refine oneU hs rfl rfl rfl rfl rfl rfl ?_); clear hs a; intro a hs) | ((with_reducible apply lCons); first | (refine dv hs gw_ rfl rfl da_ ?_; clear hs hm a; rintro _ w ⟨g, rfl, -, hm⟩ a hs) | (refine stn hs rfl rfl ds_ ?_; clear hs hm a; rintro - w hm a hs) ) | (with_reducible first | apply lNilThen | apply lNilBlock | apply lNil | apply wp_seq | apply wp_region_lit | apply wp_block | apply cExit | apply cRet | apply cSkip | apply gThen | apply gBlock | apply eThen | apply eBlockHit | refine eBlock rfl ?_ | apply rThen | apply rBlock) | ((with_reducible apply cCond); first | refine cTrue hs rfl bd_ ?_ | refine cFalse hs rfl bd_ ?_))
    exact gRet1 hs rfl rfl ⟨by rw [hl], hm.fr⟩
set_option maxHeartbeats 2000000 in
theorem arep_c (y : ES) (k : Nat) (g : Nat) (f : Int × Int) (wB : World) (hy : y.ok wB) (hn : y.n ≤ 1000) (hk : k ≤ y.n) (hg : Ro wB g 0 (flV f)) :
    Ret Tryd.prog 13 [y.v, .int .i64 (k : Int), .func (.func 12) #[] #[.pointer (some ⟨g, 0, none⟩)]] wB (fun u w' => u = .int .i64 (aftF (repB f.1) y.l k : Int) ∧ Pu wB w') := by
  obtain ⟨A, n, c, l⟩ := y
  have hl : l.length = n := hy.len
  unfold ES.v
  dsimp only at hn hk ⊢
  refine enterR Tryd.func13 rfl rfl rfl fun a hs hm => ?_
  repeat (first | ((with_reducible refine toL hm ?_); (first | refine oneV hs gw_ rfl rfl (by intro w hm; exact kvR_) ?_ | refine oneN hs rfl rfl rfl rfl rfl rfl rfl ?_ | refine oneU hs rfl rfl rfl rfl rfl rfl ?_); clear hs a; intro a hs) | ((with_reducible apply lCons); first | (refine dv hs gw_ rfl rfl da_ ?_; clear hs hm a; rintro _ w ⟨g, rfl, -, hm⟩ a hs) | (refine stn hs rfl rfl ds_ ?_; clear hs hm a; rintro - w hm a hs) ) | (with_reducible first | apply lNilThen | apply lNilBlock | apply lNil | apply wp_seq | apply wp_region_lit | apply wp_block | apply cExit | apply cRet | apply cSkip | apply gThen | apply gBlock | apply eThen | apply eBlockHit | refine eBlock rfl ?_ | apply rThen | apply rBlock) | ((with_reducible apply cCond); first | refine cTrue hs rfl bd_ ?_ | refine cFalse hs rfl bd_ ?_))
  refine cLoop (X := Nat) (fun m a w' => Sl Tryd.f13.ntmps [(0, .slice A n c), (2, .func (.func 12) #[] #[.pointer (some ⟨g, 0, none⟩)]), (7, .int .i64 (m : Int))] a ∧ Mm (fun _ => False) wB [] w' ∧ k ≤ m ∧ m ≤ n ∧ ∀ j (h : j < l.length), k ≤ j → j < m → (repB f.1) l[j] = false) (fun m => n - m) k ⟨hs.sub (Has.all ⟨rfl, rfl, rfl, trivial⟩), hm, Nat.le_refl _, hk, fun j _ h1 h2 => by omega⟩ ?_
  clear hs hm a
  rintro m a w' ⟨hs, hm, hkm, hmn, hno⟩
  by_cases hlt : m < n
  · obtain ⟨b1, o1, rfl, hb1, r1⟩ := hy.rd.ro (by rw [flat_len evV 4 evV_len]; dsimp only; omega)
    dsimp only at r1
    have k1 : m < l.length := by omega
    have e1 := r1.flat evV_len k1
    have hcl := fun w'' (hf : Pu wB w'') => rep_c l[m] g f w'' (hg.pu_ hf)
    cases hb : (repB f.1) l[m]
    · rw [hb] at hcl
      have hnx : ∀ j (h : j < l.length), k ≤ j → j < m + 1 → (repB f.1) l[j] = false := fun j h h1 h2 => by
        by_cases e : j = m
        · subst e; exact hb
        · exact hno j h h1 (by omega)
      clear hb
      generalize l[m]'(_) = e at *
      obtain ⟨ea, ek, er, ed⟩ := e
      unfold evA at hcl
      unfold evV at e1
      dsimp only at e1 hcl
      repeat (first | ((with_reducible refine toL hm ?_); (first | refine oneV hs gw_ rfl rfl (by intro w hm; exact kvR_) ?_ | refine oneN hs rfl rfl rfl rfl rfl rfl rfl ?_ | refine oneU hs rfl rfl rfl rfl rfl rfl ?_); clear hs a; intro a hs) | ((with_reducible apply lCons); first | (refine dv hs gw_ rfl rfl da_ ?_; clear hs hm a; rintro _ w ⟨g, rfl, -, hm⟩ a hs) | (refine stn hs rfl rfl ds_ ?_; clear hs hm a; rintro - w hm a hs) | (refine dv hs gw_ rfl rfl (d_callC hs rfl rfl rfl (pl 12 rfl) (hcl _ hm.fr)) ?_; clear hs a; rintro _ w ⟨rfl, hf⟩ a hs; replace hm := hm.pu hf; clear hf)) | (with_reducible first | apply lNilThen | apply lNilBlock | apply lNil | apply wp_seq | apply wp_region_lit | apply wp_block | apply cExit | apply cRet | apply cSkip | apply gThen | apply gBlock | apply eThen | apply eBlockHit | refine eBlock rfl ?_ | apply rThen | apply rBlock) | ((with_reducible apply cCond); first | refine cTrue hs rfl bd_ ?_ | refine cFalse hs rfl bd_ ?_))
      exact ⟨m + 1, by omega, hs.sub (Has.all ⟨rfl, rfl, rfl, trivial⟩), hm, by omega, by omega, hnx⟩
    · rw [hb] at hcl
      rw [aft_at k1 hkm hno hb]
      clear hb
      generalize l[m]'(_) = e at *
      obtain ⟨ea, ek, er, ed⟩ := e
      unfold evA at hcl
      unfold evV at e1
      dsimp only at e1 hcl
      repeat (first | ((with_reducible refine toL hm ?_); (first | refine oneV hs gw_ rfl rfl (by intro w hm; exact kvR_) ?_ | refine oneN hs rfl rfl rfl rfl rfl rfl rfl ?_ | refine oneU hs rfl rfl rfl rfl rfl rfl ?_); clear hs a; intro a hs) | ((with_reducible apply lCons); first | (refine dv hs gw_ rfl rfl da_ ?_; clear hs hm a; rintro _ w ⟨g, rfl, -, hm⟩ a hs) | (refine stn hs rfl rfl ds_ ?_; clear hs hm a; rintro - w hm a hs) | (refine dv hs gw_ rfl rfl (d_callC hs rfl rfl rfl (pl 12 rfl) (hcl _ hm.fr)) ?_; clear hs a; rintro _ w ⟨rfl, hf⟩ a hs; replace hm := hm.pu hf; clear hf)) | (with_reducible first | apply lNilThen | apply lNilBlock | apply lNil | apply wp_seq | apply wp_region_lit | apply wp_block | apply cExit | apply cRet | apply cSkip | apply gThen | apply gBlock | apply eThen | apply eBlockHit | refine eBlock rfl ?_ | apply rThen | apply rBlock) | ((with_reducible apply cCond); first | refine cTrue hs rfl bd_ ?_ | refine cFalse hs rfl bd_ ?_))
      exact gRet1 hs rfl rfl ⟨rfl, hm.fr⟩
  · rw [aft_none (by omega) hno hkm (by omega)]
    repeat (first | ((with_reducible refine toL hm ?_); (first | refine oneV hs gw_ rfl rfl (by intro w hm; exact kvR_) ?_ | refine oneN hs rfl rfl rfl rfl rfl rfl rfl ?_ | refine oneU hs rfl rfl rfl rfl rfl rfl ?_); clear hs a; intro a hs) | ((with_reducible apply lCons); first | (refine dv hs gw_ rfl rfl da_ ?_; clear hs hm a; rintro _ w ⟨g, rfl, -, hm⟩ a hs) | (refine stn hs rfl rfl ds_ ?_; clear hs hm a; rintro - w hm a hs) ) | (with_reducible first | apply lNilThen | apply lNilBlock | apply lNil | apply wp_seq | apply wp_region_lit | apply wp_block | apply cExit | apply cRet | apply cSkip | apply gThen | apply gBlock | apply eThen | apply eBlockHit | refine eBlock rfl ?_ | apply rThen | apply rBlock) | ((with_reducible apply cCond); first | refine cTrue hs rfl bd_ ?_ | refine cFalse hs rfl bd_ ?_))
    exact gRet1 hs rfl rfl ⟨by rw [hl], hm.fr⟩
end Go.Proofs.YtlapnhpaedkgcaaDoor
