/- New locks; equal lists; equal locks. -/
import Derived.Test.YtfcmejcmijjnpaaLk9
namespace Go.Proofs.Ytfcmejcmijjnpaa
open Go.RowKit

def newA : Ab := ⟨List.replicate 4 (-1), List.replicate 4 []⟩
def NewR (w : World) (u : Value) (w' : World) : Prop := ∃ y : KS, u = y.v ∧ y.ok w' ∧ y.new w.heap.size ∧ y.ab = newA ∧ Pu w w'
def nilS : IS := ⟨none, 0, 0, []⟩
theorem nilS_ok (w : World) : nilS.ok w := ⟨rfl, fun h => by cases h⟩
set_option maxHeartbeats 2000000 in
theorem nw_c (wB : World) : Ret Try.prog 8 [] wB (fun u w' => NewR wB u w') := by
  refine enterR Try.func8 rfl rfl rfl fun a hs hm => ?_
  repeat (first | ((with_reducible refine toL hm ?_); (first | refine oneV hs gw_ rfl rfl (by intro w hm; exact kv_) ?_ | refine oneN hs rfl rfl rfl rfl rfl rfl rfl ?_ | refine oneU hs rfl rfl rfl rfl rfl rfl ?_); clear hs a; intro a hs) | ((with_reducible apply lCons); first | (refine dv hs gw_ rfl rfl (by first | exact da_ | exact d_makeSlice hs rfl rfl rfl tab rfl rfl rfl rfl rfl (by omega) rfl hm) ?_; clear hs hm a; rintro _ w ⟨g, rfl, -, hm⟩ a hs) | (refine stn hs rfl rfl ds_ ?_; clear hs hm a; rintro - w hm a hs) ) | (with_reducible first | apply lNilThen | apply lNilBlock | apply lNil | apply wp_seq | apply wp_region_lit | apply wp_block | apply cExit | apply cRet | apply cSkip | apply gThen | apply gBlock | apply eThen | apply eBlockHit | refine eBlock rfl ?_ | apply rThen | apply rBlock) | ((with_reducible apply cCond); first | refine cTrue hs rfl bd_ ?_ | refine cFalse hs rfl bd_ ?_))
  obtain ⟨g0, en_⟩ := hs.pt 0 (by exact rfl); subst en_
  refine cMid (fun a w => ∃ (g1 go gq : Nat), Sl Try.f8.ntmps [(0, .pointer (some ⟨g0, 0, none⟩)), (1, .pointer (some ⟨g1, 0, none⟩))] a ∧ Mm (fun _ => False) wB [⟨some g1, 27, [.slice (some ⟨go, 0, none⟩) 4 4, .slice (some ⟨gq, 0, none⟩) 4 4]⟩, ⟨some gq, 22, [.slice none 0 0, .slice none 0 0, .slice none 0 0, .slice none 0 0]⟩, ⟨some go, 3, ints (List.replicate 4 0)⟩, ⟨some g0, 27, [.slice none 0 0, .slice none 0 0]⟩] w) ?_ ?_
  · skip
    refine cDraw (n := 5) [] hm rfl rfl ?_
    clear hm
    intro w2 hm
    refine hEach [0, 1, 3] (by kernel_rfl) (eDo hs rfl (Wnt.none rfl) rfl rfl (d_makeSlice (n := 4) hs rfl rfl rfl tab rfl rfl rfl rfl rfl (by omega) rfl hm) ?_ (eDo hs rfl (Wnt.none rfl) rfl rfl (d_makeSlice (n := 4) hs rfl rfl rfl tab rfl rfl rfl rfl rfl (by omega) rfl hm) ?_ (eDo hs rfl (Wnt.none rfl) rfl rfl (by exact d_alloc rfl tab rfl rfl hm) ?_ eNil)))
    · skip
      clear hs
      rintro _ w1 ⟨go, rfl, -, hm⟩ a hs
      refine ⟨hm.sub sub_, ?_⟩
      refine hEach [1, 3] (by kernel_rfl) (eDo hs rfl (Wnt.none rfl) rfl rfl (d_makeSlice (n := 4) hs rfl rfl rfl tab rfl rfl rfl rfl rfl (by omega) rfl hm) ?_ (eDo hs rfl (Wnt.none rfl) rfl rfl (by exact d_alloc rfl tab rfl rfl hm) ?_ eNil))
      · skip
        clear hs
        rintro _ w1 ⟨gq, rfl, -, hm⟩ a hs
        refine ⟨hm.sub sub_, ?_⟩
        refine hTake 2 hs rfl (by kernel_rfl) (Wnt.none rfl) rfl rfl (by intro w hm; replace hm : Mm _ _ _ w := hm; exact r_val hs tab rfl) (hm.sub (List.nil_sublist _)) ?_; clear hs a; intro a hs
        refine hEach [3] (by kernel_rfl) (eDo hs rfl (Wnt.none rfl) rfl rfl (by exact d_alloc rfl tab rfl rfl hm) ?_ eNil)
        clear hs hm a
        rintro _ w23 ⟨g1, rfl, -, hm⟩ a hs
        refine ⟨hm.sub sub_, ?_⟩
        refine hEach [4] (by kernel_rfl) (eDoN hs rfl (Wnt.none rfl) rfl ds_ ?_ eNil)
        clear hs hm
        rintro - w24 hm a hs
        refine ⟨hm.sub sub_, ?_⟩
        refine hDone (by kernel_rfl) ?_
        refine And.intro rfl ⟨g1, go, gq, hs.sub (Has.all ⟨rfl, rfl, trivial⟩), ?_⟩
        first | exact hm.sel [0, 1, 2, 3] (by decide) rfl | exact hm.sel [0, 2, 1, 3] (by decide) rfl | exact hm.sel [1, 0, 2, 3] (by decide) rfl | exact hm.sel [2, 0, 1, 3] (by decide) rfl | exact hm.sel [1, 2, 0, 3] (by decide) rfl | exact hm.sel [2, 1, 0, 3] (by decide) rfl
      · skip
        clear hs hm a
        rintro _ w23 ⟨g1, rfl, -, hm⟩ a hs
        refine ⟨hm.sub sub_, ?_⟩
        refine hEach [1] (by kernel_rfl) (eDo hs rfl (Wnt.none rfl) rfl rfl (d_makeSlice (n := 4) hs rfl rfl rfl tab rfl rfl rfl rfl rfl (by omega) rfl hm) ?_ eNil)
        clear hs
        rintro _ w1 ⟨gq, rfl, -, hm⟩ a hs
        refine ⟨hm.sub sub_, ?_⟩
        refine hTake 2 hs rfl (by kernel_rfl) (Wnt.none rfl) rfl rfl (by intro w hm; replace hm : Mm _ _ _ w := hm; exact r_val hs tab rfl) (hm.sub (List.nil_sublist _)) ?_; clear hs a; intro a hs
        refine hEach [4] (by kernel_rfl) (eDoN hs rfl (Wnt.none rfl) rfl ds_ ?_ eNil)
        clear hs hm
        rintro - w24 hm a hs
        refine ⟨hm.sub sub_, ?_⟩
        refine hDone (by kernel_rfl) ?_
        refine And.intro rfl ⟨g1, go, gq, hs.sub (Has.all ⟨rfl, rfl, trivial⟩), ?_⟩
        first | exact hm.sel [0, 1, 2, 3] (by decide) rfl | exact hm.sel [0, 2, 1, 3] (by decide) rfl | exact hm.sel [1, 0, 2, 3] (by decide) rfl | exact hm.sel [2, 0, 1, 3] (by decide) rfl | exact hm.sel [1, 2, 0, 3] (by decide) rfl | exact hm.sel [2, 1, 0, 3] (by decide) rfl
    · skip
      clear hs
      rintro _ w1 ⟨gq, rfl, -, hm⟩ a hs
      refine ⟨hm.sub sub_, ?_⟩
      refine hEach [0, 3] (by kernel_rfl) (eDo hs rfl (Wnt.none rfl) rfl rfl (d_makeSlice (n := 4) hs rfl rfl rfl tab rfl rfl rfl rfl rfl (by omega) rfl hm) ?_ (eDo hs rfl (Wnt.none rfl) rfl rfl (by exact d_alloc rfl tab rfl rfl hm) ?_ eNil))
      · skip
        clear hs
        rintro _ w1 ⟨go, rfl, -, hm⟩ a hs
        refine ⟨hm.sub sub_, ?_⟩
        refine hTake 2 hs rfl (by kernel_rfl) (Wnt.none rfl) rfl rfl (by intro w hm; replace hm : Mm _ _ _ w := hm; exact r_val hs tab rfl) (hm.sub (List.nil_sublist _)) ?_; clear hs a; intro a hs
        refine hEach [3] (by kernel_rfl) (eDo hs rfl (Wnt.none rfl) rfl rfl (by exact d_alloc rfl tab rfl rfl hm) ?_ eNil)
        clear hs hm a
        rintro _ w23 ⟨g1, rfl, -, hm⟩ a hs
        refine ⟨hm.sub sub_, ?_⟩
        refine hEach [4] (by kernel_rfl) (eDoN hs rfl (Wnt.none rfl) rfl ds_ ?_ eNil)
        clear hs hm
        rintro - w24 hm a hs
        refine ⟨hm.sub sub_, ?_⟩
        refine hDone (by kernel_rfl) ?_
        refine And.intro rfl ⟨g1, go, gq, hs.sub (Has.all ⟨rfl, rfl, trivial⟩), ?_⟩
        first | exact hm.sel [0, 1, 2, 3] (by decide) rfl | exact hm.sel [0, 2, 1, 3] (by decide) rfl | exact hm.sel [1, 0, 2, 3] (by decide) rfl | exact hm.sel [2, 0, 1, 3] (by decide) rfl | exact hm.sel [1, 2, 0, 3] (by decide) rfl | exact hm.sel [2, 1, 0, 3] (by decide) rfl
      · skip
        clear hs hm a
        rintro _ w23 ⟨g1, rfl, -, hm⟩ a hs
        refine ⟨hm.sub sub_, ?_⟩
        refine hEach [0] (by kernel_rfl) (eDo hs rfl (Wnt.none rfl) rfl rfl (d_makeSlice (n := 4) hs rfl rfl rfl tab rfl rfl rfl rfl rfl (by omega) rfl hm) ?_ eNil)
        clear hs
        rintro _ w1 ⟨go, rfl, -, hm⟩ a hs
        refine ⟨hm.sub sub_, ?_⟩
        refine hTake 2 hs rfl (by kernel_rfl) (Wnt.none rfl) rfl rfl (by intro w hm; replace hm : Mm _ _ _ w := hm; exact r_val hs tab rfl) (hm.sub (List.nil_sublist _)) ?_; clear hs a; intro a hs
        refine hEach [4] (by kernel_rfl) (eDoN hs rfl (Wnt.none rfl) rfl ds_ ?_ eNil)
        clear hs hm
        rintro - w24 hm a hs
        refine ⟨hm.sub sub_, ?_⟩
        refine hDone (by kernel_rfl) ?_
        refine And.intro rfl ⟨g1, go, gq, hs.sub (Has.all ⟨rfl, rfl, trivial⟩), ?_⟩
        first | exact hm.sel [0, 1, 2, 3] (by decide) rfl | exact hm.sel [0, 2, 1, 3] (by decide) rfl | exact hm.sel [1, 0, 2, 3] (by decide) rfl | exact hm.sel [2, 0, 1, 3] (by decide) rfl | exact hm.sel [1, 2, 0, 3] (by decide) rfl | exact hm.sel [2, 1, 0, 3] (by decide) rfl
    · skip
      clear hs hm a
      rintro _ w23 ⟨g1, rfl, -, hm⟩ a hs
      refine ⟨hm.sub sub_, ?_⟩
      refine hEach [0, 1] (by kernel_rfl) (eDo hs rfl (Wnt.none rfl) rfl rfl (d_makeSlice (n := 4) hs rfl rfl rfl tab rfl rfl rfl rfl rfl (by omega) rfl hm) ?_ (eDo hs rfl (Wnt.none rfl) rfl rfl (d_makeSlice (n := 4) hs rfl rfl rfl tab rfl rfl rfl rfl rfl (by omega) rfl hm) ?_ eNil))
      · skip
        clear hs
        rintro _ w1 ⟨go, rfl, -, hm⟩ a hs
        refine ⟨hm.sub sub_, ?_⟩
        refine hEach [1] (by kernel_rfl) (eDo hs rfl (Wnt.none rfl) rfl rfl (d_makeSlice (n := 4) hs rfl rfl rfl tab rfl rfl rfl rfl rfl (by omega) rfl hm) ?_ eNil)
        clear hs
        rintro _ w1 ⟨gq, rfl, -, hm⟩ a hs
        refine ⟨hm.sub sub_, ?_⟩
        refine hTake 2 hs rfl (by kernel_rfl) (Wnt.none rfl) rfl rfl (by intro w hm; replace hm : Mm _ _ _ w := hm; exact r_val hs tab rfl) (hm.sub (List.nil_sublist _)) ?_; clear hs a; intro a hs
        refine hEach [4] (by kernel_rfl) (eDoN hs rfl (Wnt.none rfl) rfl ds_ ?_ eNil)
        clear hs hm
        rintro - w24 hm a hs
        refine ⟨hm.sub sub_, ?_⟩
        refine hDone (by kernel_rfl) ?_
        refine And.intro rfl ⟨g1, go, gq, hs.sub (Has.all ⟨rfl, rfl, trivial⟩), ?_⟩
        first | exact hm.sel [0, 1, 2, 3] (by decide) rfl | exact hm.sel [0, 2, 1, 3] (by decide) rfl | exact hm.sel [1, 0, 2, 3] (by decide) rfl | exact hm.sel [2, 0, 1, 3] (by decide) rfl | exact hm.sel [1, 2, 0, 3] (by decide) rfl | exact hm.sel [2, 1, 0, 3] (by decide) rfl
      · skip
        clear hs
        rintro _ w1 ⟨gq, rfl, -, hm⟩ a hs
        refine ⟨hm.sub sub_, ?_⟩
        refine hEach [0] (by kernel_rfl) (eDo hs rfl (Wnt.none rfl) rfl rfl (d_makeSlice (n := 4) hs rfl rfl rfl tab rfl rfl rfl rfl rfl (by omega) rfl hm) ?_ eNil)
        clear hs
        rintro _ w1 ⟨go, rfl, -, hm⟩ a hs
        refine ⟨hm.sub sub_, ?_⟩
        refine hTake 2 hs rfl (by kernel_rfl) (Wnt.none rfl) rfl rfl (by intro w hm; replace hm : Mm _ _ _ w := hm; exact r_val hs tab rfl) (hm.sub (List.nil_sublist _)) ?_; clear hs a; intro a hs
        refine hEach [4] (by kernel_rfl) (eDoN hs rfl (Wnt.none rfl) rfl ds_ ?_ eNil)
        clear hs hm
        rintro - w24 hm a hs
        refine ⟨hm.sub sub_, ?_⟩
        refine hDone (by kernel_rfl) ?_
        refine And.intro rfl ⟨g1, go, gq, hs.sub (Has.all ⟨rfl, rfl, trivial⟩), ?_⟩
        first | exact hm.sel [0, 1, 2, 3] (by decide) rfl | exact hm.sel [0, 2, 1, 3] (by decide) rfl | exact hm.sel [1, 0, 2, 3] (by decide) rfl | exact hm.sel [2, 0, 1, 3] (by decide) rfl | exact hm.sel [1, 2, 0, 3] (by decide) rfl | exact hm.sel [2, 1, 0, 3] (by decide) rfl
  clear hs hm a
  rintro a w ⟨g1, go, gq, hs, hm⟩
  repeat (first | ((with_reducible refine toL hm ?_); (first | refine oneV hs gw_ rfl rfl (by intro w hm; exact kv_) ?_ | refine oneN hs rfl rfl rfl rfl rfl rfl rfl ?_ | refine oneU hs rfl rfl rfl rfl rfl rfl ?_); clear hs a; intro a hs) | ((with_reducible apply lCons); first | (refine dv hs gw_ rfl rfl (by first | exact da_ | exact d_makeSlice hs rfl rfl rfl tab rfl rfl rfl rfl rfl (by omega) rfl hm) ?_; clear hs hm a; rintro _ w ⟨g, rfl, -, hm⟩ a hs) | (refine stn hs rfl rfl ds_ ?_; clear hs hm a; rintro - w hm a hs) ) | (with_reducible first | apply lNilThen | apply lNilBlock | apply lNil | apply wp_seq | apply wp_region_lit | apply wp_block | apply cExit | apply cRet | apply cSkip | apply gThen | apply gBlock | apply eThen | apply eBlockHit | refine eBlock rfl ?_ | apply rThen | apply rBlock) | ((with_reducible apply cCond); first | refine cTrue hs rfl bd_ ?_ | refine cFalse hs rfl bd_ ?_))
  refine cLoop (X := Nat × List Int) (fun X a w' => Sl Try.f8.ntmps [(0, .pointer (some ⟨g0, 0, none⟩)), (1, .pointer (some ⟨g1, 0, none⟩)), (8, .int .i64 4), (9, .int .i64 (X.1 : Int))] a ∧ Mm (fun _ => False) wB [⟨some g1, 27, [.slice (some ⟨go, 0, none⟩) 4 4, .slice (some ⟨gq, 0, none⟩) 4 4]⟩, ⟨some gq, 22, [.slice none 0 0, .slice none 0 0, .slice none 0 0, .slice none 0 0]⟩, ⟨some go, 3, ints X.2⟩, ⟨some g0, 27, [.slice none 0 0, .slice none 0 0]⟩] w' ∧ X.1 ≤ 4 ∧ X.2.length = 4 ∧ X.2.take X.1 = List.replicate X.1 (-1)) (fun X => 4 - X.1) (0, List.replicate 4 0) ⟨hs.sub (Has.all ⟨rfl, rfl, rfl, rfl, trivial⟩), hm, Nat.zero_le _, rfl, rfl⟩ ?_
  clear hs hm a
  rintro ⟨i, os⟩ a w' ⟨hs, hm, hi, hl, ht⟩
  dsimp only at *
  by_cases hlt : i < 4
  · have hix : i < (ints os).length := by rw [ints_len]; omega
    repeat (first | ((with_reducible refine toL hm ?_); (first | refine oneV hs gw_ rfl rfl (by intro w hm; exact kv_) ?_ | refine oneN hs rfl rfl rfl rfl rfl rfl rfl ?_ | refine oneU hs rfl rfl rfl rfl rfl rfl ?_); clear hs a; intro a hs) | ((with_reducible apply lCons); first | (refine dv hs gw_ rfl rfl (by first | exact da_ | exact d_makeSlice hs rfl rfl rfl tab rfl rfl rfl rfl rfl (by omega) rfl hm) ?_; clear hs hm a; rintro _ w ⟨g, rfl, -, hm⟩ a hs) | (refine stn hs rfl rfl ds_ ?_; clear hs hm a; rintro - w hm a hs) ) | (with_reducible first | apply lNilThen | apply lNilBlock | apply lNil | apply wp_seq | apply wp_region_lit | apply wp_block | apply cExit | apply cRet | apply cSkip | apply gThen | apply gBlock | apply eThen | apply eBlockHit | refine eBlock rfl ?_ | apply rThen | apply rBlock) | ((with_reducible apply cCond); first | refine cTrue hs rfl bd_ ?_ | refine cFalse hs rfl bd_ ?_))
    refine ⟨(i + 1, os.set i (-1)), by dsimp only; omega, hs.sub (Has.all ⟨rfl, rfl, rfl, rfl, trivial⟩), ?_, by dsimp only; omega, by dsimp only; rw [List.length_set]; exact hl, ?_⟩
    · dsimp only
      rw [show ints (os.set i (-1)) = (ints os).set i (.int .i64 (-1)) by simp [ints, List.map_set]]
      exact hm
    · dsimp only
      rw [take_set_snoc _ _ _ (by omega), ht, List.replicate_succ']
  · obtain rfl : i = 4 := by omega
    have hos : os = List.replicate 4 (-1) := by rw [← ht, List.take_of_length_le (by omega)]
    repeat (first | ((with_reducible refine toL hm ?_); (first | refine oneV hs gw_ rfl rfl (by intro w hm; exact kv_) ?_ | refine oneN hs rfl rfl rfl rfl rfl rfl rfl ?_ | refine oneU hs rfl rfl rfl rfl rfl rfl ?_); clear hs a; intro a hs) | ((with_reducible apply lCons); first | (refine dv hs gw_ rfl rfl (by first | exact da_ | exact d_makeSlice hs rfl rfl rfl tab rfl rfl rfl rfl rfl (by omega) rfl hm) ?_; clear hs hm a; rintro _ w ⟨g, rfl, -, hm⟩ a hs) | (refine stn hs rfl rfl ds_ ?_; clear hs hm a; rintro - w hm a hs) ) | (with_reducible first | apply lNilThen | apply lNilBlock | apply lNil | apply wp_seq | apply wp_region_lit | apply wp_block | apply cExit | apply cRet | apply cSkip | apply gThen | apply gBlock | apply eThen | apply eBlockHit | refine eBlock rfl ?_ | apply rThen | apply rBlock) | ((with_reducible apply cCond); first | refine cTrue hs rfl bd_ ?_ | refine cFalse hs rfl bd_ ?_))
    have hro : (RW.mk (some go) 4 (ints os) os).ok := by
      unfold RW.ok
      dsimp only
      rw [hl]
      exact ⟨(fun e => by cases e), Nat.le_refl _, by unfold maxLen; omega, by rw [ints_len, hl], by rw [ints_len, hl], by rw [List.take_of_length_le (by rw [ints_len]; omega)]⟩
    have hrq : Row (some gq) 4 4 1 ([nilS, nilS, nilS, nilS].map IS.v) [.slice none 0 0, .slice none 0 0, .slice none 0 0, .slice none 0 0] := ⟨(fun e => by cases e), Nat.le_refl _, by unfold maxLen; omega, rfl, rfl, rfl⟩
    refine gRetN tab hs rfl (.cons (.cells rfl rfl rfl rfl (hm.ro (k := 0) (n := 2) (g := g0) mem_ (cutF_ok rfl))) .nil) ⟨⟨RW.is ⟨some go, 4, ints os, os⟩, (some gq : Option Nat).map fun g => ⟨g, 0, none⟩, 4, [nilS, nilS, nilS, nilS]⟩, ?_, ks_mk hm mem_ hro mem_ hrq ?_, ks_new (o := ⟨some go, 4, ints os, os⟩) (qcs := [.slice none 0 0, .slice none 0 0, .slice none 0 0, .slice none 0 0]) hm mem_ mem_ ?_, ?_, hm.fr⟩
    · unfold KS.v
      dsimp only
      rw [RW.is_v]
      unfold RW.v
      dsimp only
      rw [hl]
      rfl
    · intro q hq
      have : q = nilS := by simpa using hq
      subst this
      exact nilS_ok _
    · intro q hq g hg
      have : q = nilS := by simpa using hq
      subst this
      exact absurd rfl hg.1
    · unfold KS.ab newA
      dsimp only
      rw [show (RW.is ⟨some go, 4, ints os, os⟩).xs = os from rfl, hos]
      rfl
set_option maxHeartbeats 2000000 in
theorem rnw_c (wB : World) : Ret Try.prog 22 [] wB (fun u w' => NewR wB u w') := by
  refine enterR Try.func22 rfl rfl rfl fun a hs hm => ?_
  repeat (first | ((with_reducible refine toL hm ?_); (first | refine oneV hs gw_ rfl rfl (by intro w hm; exact kv_) ?_ | refine oneN hs rfl rfl rfl rfl rfl rfl rfl ?_ | refine oneU hs rfl rfl rfl rfl rfl rfl ?_); clear hs a; intro a hs) | ((with_reducible apply lCons); first | (refine dv hs gw_ rfl rfl (by first | exact da_ | exact d_makeSlice hs rfl rfl rfl tab rfl rfl rfl rfl rfl (by omega) rfl hm) ?_; clear hs hm a; rintro _ w ⟨g, rfl, -, hm⟩ a hs) | (refine stn hs rfl rfl ds_ ?_; clear hs hm a; rintro - w hm a hs) ) | (with_reducible first | apply lNilThen | apply lNilBlock | apply lNil | apply wp_seq | apply wp_region_lit | apply wp_block | apply cExit | apply cRet | apply cSkip | apply gThen | apply gBlock | apply eThen | apply eBlockHit | refine eBlock rfl ?_ | apply rThen | apply rBlock) | ((with_reducible apply cCond); first | refine cTrue hs rfl bd_ ?_ | refine cFalse hs rfl bd_ ?_))
  obtain ⟨g0, en_⟩ := hs.pt 0 (by exact rfl); subst en_
  refine cMid (fun a w => ∃ (g1 go gq : Nat), Sl Try.f22.ntmps [(0, .pointer (some ⟨g0, 0, none⟩)), (1, .pointer (some ⟨g1, 0, none⟩))] a ∧ Mm (fun _ => False) wB [⟨some g1, 27, [.slice (some ⟨go, 0, none⟩) 4 4, .slice (some ⟨gq, 0, none⟩) 4 4]⟩, ⟨some gq, 22, [.slice none 0 0, .slice none 0 0, .slice none 0 0, .slice none 0 0]⟩, ⟨some go, 3, ints (List.replicate 4 0)⟩, ⟨some g0, 27, [.slice none 0 0, .slice none 0 0]⟩] w) ?_ ?_
  · skip
    refine cDraw (n := 5) [] hm rfl rfl ?_
    clear hm
    intro w2 hm
    refine hEach [0, 1, 3] (by kernel_rfl) (eDo hs rfl (Wnt.none rfl) rfl rfl (d_makeSlice (n := 4) hs rfl rfl rfl tab rfl rfl rfl rfl rfl (by omega) rfl hm) ?_ (eDo hs rfl (Wnt.none rfl) rfl rfl (d_makeSlice (n := 4) hs rfl rfl rfl tab rfl rfl rfl rfl rfl (by omega) rfl hm) ?_ (eDo hs rfl (Wnt.none rfl) rfl rfl (by exact d_alloc rfl tab rfl rfl hm) ?_ eNil)))
    · skip
      clear hs
      rintro _ w1 ⟨go, rfl, -, hm⟩ a hs
      refine ⟨hm.sub sub_, ?_⟩
      refine hEach [1, 3] (by kernel_rfl) (eDo hs rfl (Wnt.none rfl) rfl rfl (d_makeSlice (n := 4) hs rfl rfl rfl tab rfl rfl rfl rfl rfl (by omega) rfl hm) ?_ (eDo hs rfl (Wnt.none rfl) rfl rfl (by exact d_alloc rfl tab rfl rfl hm) ?_ eNil))
      · skip
        clear hs
        rintro _ w1 ⟨gq, rfl, -, hm⟩ a hs
        refine ⟨hm.sub sub_, ?_⟩
        refine hTake 2 hs rfl (by kernel_rfl) (Wnt.none rfl) rfl rfl (by intro w hm; replace hm : Mm _ _ _ w := hm; exact r_val hs tab rfl) (hm.sub (List.nil_sublist _)) ?_; clear hs a; intro a hs
        refine hEach [3] (by kernel_rfl) (eDo hs rfl (Wnt.none rfl) rfl rfl (by exact d_alloc rfl tab rfl rfl hm) ?_ eNil)
        clear hs hm a
        rintro _ w23 ⟨g1, rfl, -, hm⟩ a hs
        refine ⟨hm.sub sub_, ?_⟩
        refine hEach [4] (by kernel_rfl) (eDoN hs rfl (Wnt.none rfl) rfl ds_ ?_ eNil)
        clear hs hm
        rintro - w24 hm a hs
        refine ⟨hm.sub sub_, ?_⟩
        refine hDone (by kernel_rfl) ?_
        refine And.intro rfl ⟨g1, go, gq, hs.sub (Has.all ⟨rfl, rfl, trivial⟩), ?_⟩
        first | exact hm.sel [0, 1, 2, 3] (by decide) rfl | exact hm.sel [0, 2, 1, 3] (by decide) rfl | exact hm.sel [1, 0, 2, 3] (by decide) rfl | exact hm.sel [2, 0, 1, 3] (by decide) rfl | exact hm.sel [1, 2, 0, 3] (by decide) rfl | exact hm.sel [2, 1, 0, 3] (by decide) rfl
      · skip
        clear hs hm a
        rintro _ w23 ⟨g1, rfl, -, hm⟩ a hs
        refine ⟨hm.sub sub_, ?_⟩
        refine hEach [1] (by kernel_rfl) (eDo hs rfl (Wnt.none rfl) rfl rfl (d_makeSlice (n := 4) hs rfl rfl rfl tab rfl rfl rfl rfl rfl (by omega) rfl hm) ?_ eNil)
        clear hs
        rintro _ w1 ⟨gq, rfl, -, hm⟩ a hs
        refine ⟨hm.sub sub_, ?_⟩
        refine hTake 2 hs rfl (by kernel_rfl) (Wnt.none rfl) rfl rfl (by intro w hm; replace hm : Mm _ _ _ w := hm; exact r_val hs tab rfl) (hm.sub (List.nil_sublist _)) ?_; clear hs a; intro a hs
        refine hEach [4] (by kernel_rfl) (eDoN hs rfl (Wnt.none rfl) rfl ds_ ?_ eNil)
        clear hs hm
        rintro - w24 hm a hs
        refine ⟨hm.sub sub_, ?_⟩
        refine hDone (by kernel_rfl) ?_
        refine And.intro rfl ⟨g1, go, gq, hs.sub (Has.all ⟨rfl, rfl, trivial⟩), ?_⟩
        first | exact hm.sel [0, 1, 2, 3] (by decide) rfl | exact hm.sel [0, 2, 1, 3] (by decide) rfl | exact hm.sel [1, 0, 2, 3] (by decide) rfl | exact hm.sel [2, 0, 1, 3] (by decide) rfl | exact hm.sel [1, 2, 0, 3] (by decide) rfl | exact hm.sel [2, 1, 0, 3] (by decide) rfl
    · skip
      clear hs
      rintro _ w1 ⟨gq, rfl, -, hm⟩ a hs
      refine ⟨hm.sub sub_, ?_⟩
      refine hEach [0, 3] (by kernel_rfl) (eDo hs rfl (Wnt.none rfl) rfl rfl (d_makeSlice (n := 4) hs rfl rfl rfl tab rfl rfl rfl rfl rfl (by omega) rfl hm) ?_ (eDo hs rfl (Wnt.none rfl) rfl rfl (by exact d_alloc rfl tab rfl rfl hm) ?_ eNil))
      · skip
        clear hs
        rintro _ w1 ⟨go, rfl, -, hm⟩ a hs
        refine ⟨hm.sub sub_, ?_⟩
        refine hTake 2 hs rfl (by kernel_rfl) (Wnt.none rfl) rfl rfl (by intro w hm; replace hm : Mm _ _ _ w := hm; exact r_val hs tab rfl) (hm.sub (List.nil_sublist _)) ?_; clear hs a; intro a hs
        refine hEach [3] (by kernel_rfl) (eDo hs rfl (Wnt.none rfl) rfl rfl (by exact d_alloc rfl tab rfl rfl hm) ?_ eNil)
        clear hs hm a
        rintro _ w23 ⟨g1, rfl, -, hm⟩ a hs
        refine ⟨hm.sub sub_, ?_⟩
        refine hEach [4] (by kernel_rfl) (eDoN hs rfl (Wnt.none rfl) rfl ds_ ?_ eNil)
        clear hs hm
        rintro - w24 hm a hs
        refine ⟨hm.sub sub_, ?_⟩
        refine hDone (by kernel_rfl) ?_
        refine And.intro rfl ⟨g1, go, gq, hs.sub (Has.all ⟨rfl, rfl, trivial⟩), ?_⟩
        first | exact hm.sel [0, 1, 2, 3] (by decide) rfl | exact hm.sel [0, 2, 1, 3] (by decide) rfl | exact hm.sel [1, 0, 2, 3] (by decide) rfl | exact hm.sel [2, 0, 1, 3] (by decide) rfl | exact hm.sel [1, 2, 0, 3] (by decide) rfl | exact hm.sel [2, 1, 0, 3] (by decide) rfl
      · skip
        clear hs hm a
        rintro _ w23 ⟨g1, rfl, -, hm⟩ a hs
        refine ⟨hm.sub sub_, ?_⟩
        refine hEach [0] (by kernel_rfl) (eDo hs rfl (Wnt.none rfl) rfl rfl (d_makeSlice (n := 4) hs rfl rfl rfl tab rfl rfl rfl rfl rfl (by omega) rfl hm) ?_ eNil)
        clear hs
        rintro _ w1 ⟨go, rfl, -, hm⟩ a hs
        refine ⟨hm.sub sub_, ?_⟩
        refine hTake 2 hs rfl (by kernel_rfl) (Wnt.none rfl) rfl rfl (by intro w hm; replace hm : Mm _ _ _ w := hm; exact r_val hs tab rfl) (hm.sub (List.nil_sublist _)) ?_; clear hs a; intro a hs
        refine hEach [4] (by kernel_rfl) (eDoN hs rfl (Wnt.none rfl) rfl ds_ ?_ eNil)
        clear hs hm
        rintro - w24 hm a hs
        refine ⟨hm.sub sub_, ?_⟩
        refine hDone (by kernel_rfl) ?_
        refine And.intro rfl ⟨g1, go, gq, hs.sub (Has.all ⟨rfl, rfl, trivial⟩), ?_⟩
        first | exact hm.sel [0, 1, 2, 3] (by decide) rfl | exact hm.sel [0, 2, 1, 3] (by decide) rfl | exact hm.sel [1, 0, 2, 3] (by decide) rfl | exact hm.sel [2, 0, 1, 3] (by decide) rfl | exact hm.sel [1, 2, 0, 3] (by decide) rfl | exact hm.sel [2, 1, 0, 3] (by decide) rfl
    · skip
      clear hs hm a
      rintro _ w23 ⟨g1, rfl, -, hm⟩ a hs
      refine ⟨hm.sub sub_, ?_⟩
      refine hEach [0, 1] (by kernel_rfl) (eDo hs rfl (Wnt.none rfl) rfl rfl (d_makeSlice (n := 4) hs rfl rfl rfl tab rfl rfl rfl rfl rfl (by omega) rfl hm) ?_ (eDo hs rfl (Wnt.none rfl) rfl rfl (d_makeSlice (n := 4) hs rfl rfl rfl tab rfl rfl rfl rfl rfl (by omega) rfl hm) ?_ eNil))
      · skip
        clear hs
        rintro _ w1 ⟨go, rfl, -, hm⟩ a hs
        refine ⟨hm.sub sub_, ?_⟩
        refine hEach [1] (by kernel_rfl) (eDo hs rfl (Wnt.none rfl) rfl rfl (d_makeSlice (n := 4) hs rfl rfl rfl tab rfl rfl rfl rfl rfl (by omega) rfl hm) ?_ eNil)
        clear hs
        rintro _ w1 ⟨gq, rfl, -, hm⟩ a hs
        refine ⟨hm.sub sub_, ?_⟩
        refine hTake 2 hs rfl (by kernel_rfl) (Wnt.none rfl) rfl rfl (by intro w hm; replace hm : Mm _ _ _ w := hm; exact r_val hs tab rfl) (hm.sub (List.nil_sublist _)) ?_; clear hs a; intro a hs
        refine hEach [4] (by kernel_rfl) (eDoN hs rfl (Wnt.none rfl) rfl ds_ ?_ eNil)
        clear hs hm
        rintro - w24 hm a hs
        refine ⟨hm.sub sub_, ?_⟩
        refine hDone (by kernel_rfl) ?_
        refine And.intro rfl ⟨g1, go, gq, hs.sub (Has.all ⟨rfl, rfl, trivial⟩), ?_⟩
        first | exact hm.sel [0, 1, 2, 3] (by decide) rfl | exact hm.sel [0, 2, 1, 3] (by decide) rfl | exact hm.sel [1, 0, 2, 3] (by decide) rfl | exact hm.sel [2, 0, 1, 3] (by decide) rfl | exact hm.sel [1, 2, 0, 3] (by decide) rfl | exact hm.sel [2, 1, 0, 3] (by decide) rfl
      · skip
        clear hs
        rintro _ w1 ⟨gq, rfl, -, hm⟩ a hs
        refine ⟨hm.sub sub_, ?_⟩
        refine hEach [0] (by kernel_rfl) (eDo hs rfl (Wnt.none rfl) rfl rfl (d_makeSlice (n := 4) hs rfl rfl rfl tab rfl rfl rfl rfl rfl (by omega) rfl hm) ?_ eNil)
        clear hs
        rintro _ w1 ⟨go, rfl, -, hm⟩ a hs
        refine ⟨hm.sub sub_, ?_⟩
        refine hTake 2 hs rfl (by kernel_rfl) (Wnt.none rfl) rfl rfl (by intro w hm; replace hm : Mm _ _ _ w := hm; exact r_val hs tab rfl) (hm.sub (List.nil_sublist _)) ?_; clear hs a; intro a hs
        refine hEach [4] (by kernel_rfl) (eDoN hs rfl (Wnt.none rfl) rfl ds_ ?_ eNil)
        clear hs hm
        rintro - w24 hm a hs
        refine ⟨hm.sub sub_, ?_⟩
        refine hDone (by kernel_rfl) ?_
        refine And.intro rfl ⟨g1, go, gq, hs.sub (Has.all ⟨rfl, rfl, trivial⟩), ?_⟩
        first | exact hm.sel [0, 1, 2, 3] (by decide) rfl | exact hm.sel [0, 2, 1, 3] (by decide) rfl | exact hm.sel [1, 0, 2, 3] (by decide) rfl | exact hm.sel [2, 0, 1, 3] (by decide) rfl | exact hm.sel [1, 2, 0, 3] (by decide) rfl | exact hm.sel [2, 1, 0, 3] (by decide) rfl
  clear hs hm a
  rintro a w ⟨g1, go, gq, hs, hm⟩
  repeat (first | ((with_reducible refine toL hm ?_); (first | refine oneV hs gw_ rfl rfl (by intro w hm; exact kv_) ?_ | refine oneN hs rfl rfl rfl rfl rfl rfl rfl ?_ | refine oneU hs rfl rfl rfl rfl rfl rfl ?_); clear hs a; intro a hs) | ((with_reducible apply lCons); first | (refine dv hs gw_ rfl rfl (by first | exact da_ | exact d_makeSlice hs rfl rfl rfl tab rfl rfl rfl rfl rfl (by omega) rfl hm) ?_; clear hs hm a; rintro _ w ⟨g, rfl, -, hm⟩ a hs) | (refine stn hs rfl rfl ds_ ?_; clear hs hm a; rintro - w hm a hs) ) | (with_reducible first | apply lNilThen | apply lNilBlock | apply lNil | apply wp_seq | apply wp_region_lit | apply wp_block | apply cExit | apply cRet | apply cSkip | apply gThen | apply gBlock | apply eThen | apply eBlockHit | refine eBlock rfl ?_ | apply rThen | apply rBlock) | ((with_reducible apply cCond); first | refine cTrue hs rfl bd_ ?_ | refine cFalse hs rfl bd_ ?_))
  refine cLoop (X := Nat × List Int) (fun X a w' => Sl Try.f22.ntmps [(0, .pointer (some ⟨g0, 0, none⟩)), (1, .pointer (some ⟨g1, 0, none⟩)), (8, .int .i64 4), (9, .int .i64 (X.1 : Int))] a ∧ Mm (fun _ => False) wB [⟨some g1, 27, [.slice (some ⟨go, 0, none⟩) 4 4, .slice (some ⟨gq, 0, none⟩) 4 4]⟩, ⟨some gq, 22, [.slice none 0 0, .slice none 0 0, .slice none 0 0, .slice none 0 0]⟩, ⟨some go, 3, ints X.2⟩, ⟨some g0, 27, [.slice none 0 0, .slice none 0 0]⟩] w' ∧ X.1 ≤ 4 ∧ X.2.length = 4 ∧ X.2.take X.1 = List.replicate X.1 (-1)) (fun X => 4 - X.1) (0, List.replicate 4 0) ⟨hs.sub (Has.all ⟨rfl, rfl, rfl, rfl, trivial⟩), hm, Nat.zero_le _, rfl, rfl⟩ ?_
  clear hs hm a
  rintro ⟨i, os⟩ a w' ⟨hs, hm, hi, hl, ht⟩
  dsimp only at *
  by_cases hlt : i < 4
  · have hix : i < (ints os).length := by rw [ints_len]; omega
    repeat (first | ((with_reducible refine toL hm ?_); (first | refine oneV hs gw_ rfl rfl (by intro w hm; exact kv_) ?_ | refine oneN hs rfl rfl rfl rfl rfl rfl rfl ?_ | refine oneU hs rfl rfl rfl rfl rfl rfl ?_); clear hs a; intro a hs) | ((with_reducible apply lCons); first | (refine dv hs gw_ rfl rfl (by first | exact da_ | exact d_makeSlice hs rfl rfl rfl tab rfl rfl rfl rfl rfl (by omega) rfl hm) ?_; clear hs hm a; rintro _ w ⟨g, rfl, -, hm⟩ a hs) | (refine stn hs rfl rfl ds_ ?_; clear hs hm a; rintro - w hm a hs) ) | (with_reducible first | apply lNilThen | apply lNilBlock | apply lNil | apply wp_seq | apply wp_region_lit | apply wp_block | apply cExit | apply cRet | apply cSkip | apply gThen | apply gBlock | apply eThen | apply eBlockHit | refine eBlock rfl ?_ | apply rThen | apply rBlock) | ((with_reducible apply cCond); first | refine cTrue hs rfl bd_ ?_ | refine cFalse hs rfl bd_ ?_))
    refine ⟨(i + 1, os.set i (-1)), by dsimp only; omega, hs.sub (Has.all ⟨rfl, rfl, rfl, rfl, trivial⟩), ?_, by dsimp only; omega, by dsimp only; rw [List.length_set]; exact hl, ?_⟩
    · dsimp only
      rw [show ints (os.set i (-1)) = (ints os).set i (.int .i64 (-1)) by simp [ints, List.map_set]]
      exact hm
    · dsimp only
      rw [take_set_snoc _ _ _ (by omega), ht, List.replicate_succ']
  · obtain rfl : i = 4 := by omega
    have hos : os = List.replicate 4 (-1) := by rw [← ht, List.take_of_length_le (by omega)]
    repeat (first | ((with_reducible refine toL hm ?_); (first | refine oneV hs gw_ rfl rfl (by intro w hm; exact kv_) ?_ | refine oneN hs rfl rfl rfl rfl rfl rfl rfl ?_ | refine oneU hs rfl rfl rfl rfl rfl rfl ?_); clear hs a; intro a hs) | ((with_reducible apply lCons); first | (refine dv hs gw_ rfl rfl (by first | exact da_ | exact d_makeSlice hs rfl rfl rfl tab rfl rfl rfl rfl rfl (by omega) rfl hm) ?_; clear hs hm a; rintro _ w ⟨g, rfl, -, hm⟩ a hs) | (refine stn hs rfl rfl ds_ ?_; clear hs hm a; rintro - w hm a hs) ) | (with_reducible first | apply lNilThen | apply lNilBlock | apply lNil | apply wp_seq | apply wp_region_lit | apply wp_block | apply cExit | apply cRet | apply cSkip | apply gThen | apply gBlock | apply eThen | apply eBlockHit | refine eBlock rfl ?_ | apply rThen | apply rBlock) | ((with_reducible apply cCond); first | refine cTrue hs rfl bd_ ?_ | refine cFalse hs rfl bd_ ?_))
    have hro : (RW.mk (some go) 4 (ints os) os).ok := by
      unfold RW.ok
      dsimp only
      rw [hl]
      exact ⟨(fun e => by cases e), Nat.le_refl _, by unfold maxLen; omega, by rw [ints_len, hl], by rw [ints_len, hl], by rw [List.take_of_length_le (by rw [ints_len]; omega)]⟩
    have hrq : Row (some gq) 4 4 1 ([nilS, nilS, nilS, nilS].map IS.v) [.slice none 0 0, .slice none 0 0, .slice none 0 0, .slice none 0 0] := ⟨(fun e => by cases e), Nat.le_refl _, by unfold maxLen; omega, rfl, rfl, rfl⟩
    refine gRetN tab hs rfl (.cons (.cells rfl rfl rfl rfl (hm.ro (k := 0) (n := 2) (g := g0) mem_ (cutF_ok rfl))) .nil) ⟨⟨RW.is ⟨some go, 4, ints os, os⟩, (some gq : Option Nat).map fun g => ⟨g, 0, none⟩, 4, [nilS, nilS, nilS, nilS]⟩, ?_, ks_mk hm mem_ hro mem_ hrq ?_, ks_new (o := ⟨some go, 4, ints os, os⟩) (qcs := [.slice none 0 0, .slice none 0 0, .slice none 0 0, .slice none 0 0]) hm mem_ mem_ ?_, ?_, hm.fr⟩
    · unfold KS.v
      dsimp only
      rw [RW.is_v]
      unfold RW.v
      dsimp only
      rw [hl]
      rfl
    · intro q hq
      have : q = nilS := by simpa using hq
      subst this
      exact nilS_ok _
    · intro q hq g hg
      have : q = nilS := by simpa using hq
      subst this
      exact absurd rfl hg.1
    · unfold KS.ab newA
      dsimp only
      rw [show (RW.is ⟨some go, 4, ints os, os⟩).xs = os from rfl, hos]
      rfl
set_option maxHeartbeats 1000000 in
theorem sam_c (p q : IS) (w : World) (hp : p.ok w) (hq : q.ok w) (hn : p.n ≤ 100000) : Ret Try.prog 13 [.slice p.A p.n p.c, .slice q.A q.n q.c] w (fun u w' => u = .bool (decide (p.xs = q.xs)) ∧ Pu w w') := by
  have hpx := hp.1
  have hqx := hq.1
  by_cases hlen : p.n = q.n
  · refine enterR Try.func13 rfl rfl rfl fun a hs hm => ?_
    repeat (first | ((with_reducible refine toL hm ?_); (first | refine oneV hs gw_ rfl rfl (by intro w hm; exact kv_) ?_ | refine oneN hs rfl rfl rfl rfl rfl rfl rfl ?_ | refine oneU hs rfl rfl rfl rfl rfl rfl ?_); clear hs a; intro a hs) | ((with_reducible apply lCons); first | (refine dv hs gw_ rfl rfl da_ ?_; clear hs hm a; rintro _ w ⟨g, rfl, -, hm⟩ a hs) | (refine stn hs rfl rfl ds_ ?_; clear hs hm a; rintro - w hm a hs) ) | (with_reducible first | apply lNilThen | apply lNilBlock | apply lNil | apply wp_seq | apply wp_region_lit | apply wp_block | apply cExit | apply cRet | apply cSkip | apply gThen | apply gBlock | apply eThen | apply eBlockHit | refine eBlock rfl ?_ | apply rThen | apply rBlock) | ((with_reducible apply cCond); first | refine cTrue hs rfl bd_ ?_ | refine cFalse hs rfl bd_ ?_))
    refine cLoop (X := Nat) (fun k a w' => Sl Try.f13.ntmps [(0, .slice p.A p.n p.c), (1, .slice q.A q.n q.c), (12, .int .i64 (p.n : Int)), (13, .int .i64 (k : Int))] a ∧ Mm (fun _ => False) w [] w' ∧ k ≤ p.n ∧ ∀ j (h1 : j < p.xs.length) (h2 : j < q.xs.length), j < k → p.xs[j] = q.xs[j]) (fun k => p.n - k) 0 ⟨hs.sub (Has.all ⟨rfl, rfl, rfl, rfl, trivial⟩), hm, Nat.zero_le _, fun j _ _ hj => by omega⟩ ?_
    clear hs hm a
    rintro k a w' ⟨hs, hm, hk, hno⟩
    by_cases hlt : k < p.n
    · obtain ⟨b1, o1, hA, hb1, r1⟩ := hp.2.ro (by rw [ints_len]; omega)
      obtain ⟨b2, o2, hB, hb2, r2⟩ := hq.2.ro (by rw [ints_len]; omega)
      have e1 := ints_some (xs := p.xs) (k := k) (by omega)
      have e2 := ints_some (xs := q.xs) (k := k) (by omega)
      obtain ⟨v, hv⟩ : ∃ v, p.xs[k] = v := ⟨_, rfl⟩
      obtain ⟨u, hu⟩ : ∃ u, q.xs[k] = u := ⟨_, rfl⟩
      rw [hv] at e1
      rw [hu] at e2
      rw [hA, hB] at hs
      by_cases h : v = u
      · repeat (first | ((with_reducible first | refine toL hm ?_ | refine toQ ?_); (first | refine oneV hs gw_ rfl rfl (by intro w hm; exact kv_) ?_ | refine oneN hs rfl rfl rfl rfl rfl rfl rfl ?_ | refine oneU hs rfl rfl rfl rfl rfl rfl ?_); clear hs a; intro a hs) | ((with_reducible apply lCons); first | (refine dv hs gw_ rfl rfl da_ ?_; clear hs hm a; rintro _ w ⟨g, rfl, -, hm⟩ a hs) | (refine stn hs rfl rfl ds_ ?_; clear hs hm a; rintro - w hm a hs) ) | ((with_reducible apply qNil); clear hm; intro w hm) | ((with_reducible refine cQuiet hm ?_ ?_ ?_ ?_); rfl; kernel_rfl; kernel_rfl) | (with_reducible first | apply lNilThen | apply lNilBlock | apply lNil | apply wp_seq | apply wp_region_lit | apply wp_block | apply cExit | apply cRet | apply cSkip | apply gThen | apply gBlock | apply eThen | apply eBlockHit | refine eBlock rfl ?_ | apply rThen | apply rBlock) | ((with_reducible apply cCond); first | refine cTrue hs rfl bd_ ?_ | refine cFalse hs rfl bd_ ?_))
        rw [← hA, ← hB] at hs
        refine ⟨k + 1, by omega, hs.sub (Has.all ⟨rfl, rfl, rfl, rfl, trivial⟩), hm, by omega, fun j h1 h2 hjk => ?_⟩
        by_cases e : j = k
        · subst e; rw [hv, hu, h]
        · exact hno j h1 h2 (by omega)
      · rw [decide_eq_false (fun e => h (by rw [← hv, ← hu]; simp [e]))]
        repeat (first | ((with_reducible first | refine toL hm ?_ | refine toQ ?_); (first | refine oneV hs gw_ rfl rfl (by intro w hm; exact kv_) ?_ | refine oneN hs rfl rfl rfl rfl rfl rfl rfl ?_ | refine oneU hs rfl rfl rfl rfl rfl rfl ?_); clear hs a; intro a hs) | ((with_reducible apply lCons); first | (refine dv hs gw_ rfl rfl da_ ?_; clear hs hm a; rintro _ w ⟨g, rfl, -, hm⟩ a hs) | (refine stn hs rfl rfl ds_ ?_; clear hs hm a; rintro - w hm a hs) ) | ((with_reducible apply qNil); clear hm; intro w hm) | ((with_reducible refine cQuiet hm ?_ ?_ ?_ ?_); rfl; kernel_rfl; kernel_rfl) | (with_reducible first | apply lNilThen | apply lNilBlock | apply lNil | apply wp_seq | apply wp_region_lit | apply wp_block | apply cExit | apply cRet | apply cSkip | apply gThen | apply gBlock | apply eThen | apply eBlockHit | refine eBlock rfl ?_ | apply rThen | apply rBlock) | ((with_reducible apply cCond); first | refine cTrue hs rfl bd_ ?_ | refine cFalse hs rfl bd_ ?_))
        exact gRet1 hs rfl rfl ⟨rfl, hm.fr⟩
    · rw [decide_eq_true (List.ext_getElem (by omega) fun j h1 h2 => hno j h1 h2 (by omega))]
      repeat (first | ((with_reducible refine toL hm ?_); (first | refine oneV hs gw_ rfl rfl (by intro w hm; exact kv_) ?_ | refine oneN hs rfl rfl rfl rfl rfl rfl rfl ?_ | refine oneU hs rfl rfl rfl rfl rfl rfl ?_); clear hs a; intro a hs) | ((with_reducible apply lCons); first | (refine dv hs gw_ rfl rfl da_ ?_; clear hs hm a; rintro _ w ⟨g, rfl, -, hm⟩ a hs) | (refine stn hs rfl rfl ds_ ?_; clear hs hm a; rintro - w hm a hs) ) | (with_reducible first | apply lNilThen | apply lNilBlock | apply lNil | apply wp_seq | apply wp_region_lit | apply wp_block | apply cExit | apply cRet | apply cSkip | apply gThen | apply gBlock | apply eThen | apply eBlockHit | refine eBlock rfl ?_ | apply rThen | apply rBlock) | ((with_reducible apply cCond); first | refine cTrue hs rfl bd_ ?_ | refine cFalse hs rfl bd_ ?_))
      exact gRet1 hs rfl rfl ⟨rfl, hm.fr⟩
  · rw [decide_eq_false (fun e => hlen (by rw [← hpx, ← hqx, e]))]
    refine enterR Try.func13 rfl rfl rfl fun a hs hm => ?_
    repeat (first | ((with_reducible refine toL hm ?_); (first | refine oneV hs gw_ rfl rfl (by intro w hm; exact kv_) ?_ | refine oneN hs rfl rfl rfl rfl rfl rfl rfl ?_ | refine oneU hs rfl rfl rfl rfl rfl rfl ?_); clear hs a; intro a hs) | ((with_reducible apply lCons); first | (refine dv hs gw_ rfl rfl da_ ?_; clear hs hm a; rintro _ w ⟨g, rfl, -, hm⟩ a hs) | (refine stn hs rfl rfl ds_ ?_; clear hs hm a; rintro - w hm a hs) ) | (with_reducible first | apply lNilThen | apply lNilBlock | apply lNil | apply wp_seq | apply wp_region_lit | apply wp_block | apply cExit | apply cRet | apply cSkip | apply gThen | apply gBlock | apply eThen | apply eBlockHit | refine eBlock rfl ?_ | apply rThen | apply rBlock) | ((with_reducible apply cCond); first | refine cTrue hs rfl bd_ ?_ | refine cFalse hs rfl bd_ ?_))
    exact gRet1 hs rfl rfl ⟨rfl, hm.fr⟩
end Go.Proofs.Ytfcmejcmijjnpaa
