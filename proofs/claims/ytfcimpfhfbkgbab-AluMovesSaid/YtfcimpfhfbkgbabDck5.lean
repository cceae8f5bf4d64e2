/- The deck: proper cells. -/
import Derived.Test.YtfcimpfhfbkgbabDck4
namespace Go.Proofs.Ytfcimpfhfbkgbab
open Go.RowKit

theorem u16_bd (y : Int) : 0 ≤ IntKind.u16.wrap y ∧ IntKind.u16.wrap y ≤ 65535 := by simp [IntKind.wrap, IntKind.bits, IntKind.signed]; omega
theorem rawF_t (x : LS) (t v r o : Int) : (rawF x t v r o).1.1 = 0 ∨ (rawF x t v r o).1.1 = 1 ∨ (rawF x t v r o).1.1 = 2 := by
  unfold rawF
  split
  · split
    · exact .inl rfl
    · split
      · exact .inr (.inr rfl)
      · exact .inr (.inl rfl)
  · exact .inl rfl
theorem rawF_v (x : LS) (t v r o : Int) (hv : 0 ≤ v ∧ v ≤ 65535) : 0 ≤ (rawF x t v r o).1.2 ∧ (rawF x t v r o).1.2 ≤ 65535 := by
  unfold rawF
  split
  · split
    · exact hv
    · split
      · exact u16_bd _
      · exact u16_bd _
  · exact ⟨by show (0 : Int) ≤ 0; omega, by show (0 : Int) ≤ 65535; omega⟩

set_option maxHeartbeats 2000000 in
theorem ppr_c (gd : Nat) (A : Option Addr) (n c at_ : Nat) (xs : List Int) (x : LS) (w : World) (h : Dk gd A n c at_ xs w) (hx : x.ok w) (hne : x.ne gd) (h1n : 1 ≤ x.n) :
    Ret Try.prog 18 [.pointer (some ⟨gd, 0, none⟩), x.l, x.s] w (fun u w' => ∃ t v : Int, u = clV t v ∧ (t = 0 ∨ t = 1 ∨ t = 2) ∧ (0 ≤ v ∧ v ≤ 65535) ∧ DkR gd A n c xs w w') := by
  have hcn := fun a1 w'' (h : Dk gd A n c a1 xs w'') (hx : x.ok w'') => cnn_c gd A n c a1 xs x w'' h hx hne h1n
  have hrw := fun t v r o w'' (hx : x.ok w'') (ht : t = 0 ∨ t = 1 ∨ t = 2) => raw_c x t v r o w'' hx ht
  unfold LS.l LS.s cnV clV at *
  refine enterR Try.func18 rfl rfl rfl fun a hs hm => ?_
  clear hm
  have hm := h.in_
  repeat (first | ((with_reducible refine toL hm ?_); (first | refine oneV hs gw_ rfl rfl (by intro w hm; exact kvR_) ?_ | refine oneN hs rfl rfl rfl rfl rfl rfl rfl ?_ | refine oneU hs rfl rfl rfl rfl rfl rfl ?_); clear hs a; intro a hs) | ((with_reducible apply lCons); first | (refine dv hs gw_ rfl rfl da_ ?_; clear hs hm a; rintro _ w ⟨g, rfl, -, hm⟩ a hs) | (refine stn hs rfl rfl ds_ ?_; clear hs hm a; rintro - w hm a hs) ) | (with_reducible first | apply lNilThen | apply lNilBlock | apply lNil | apply wp_seq | apply wp_region_lit | apply wp_block | apply cExit | apply cRet | apply cSkip | apply gThen | apply gBlock | apply eThen | apply eBlockHit | refine eBlock rfl ?_ | apply rThen | apply rBlock) | ((with_reducible apply cCond); first | refine cTrue hs rfl bd_ ?_ | refine cFalse hs rfl bd_ ?_))
  rename Nat => g6
  refine cDraw (n := 12) [⟨some g, 30, [.slice x.A x.n x.c, .int .u16 x.key]⟩] hm rfl rfl ?_
  clear hm
  intro w2 hm
  refine hTake 0 hs rfl (by kernel_rfl) gw_ rfl rfl (by intro w hm; replace hm : Mm _ _ _ w := hm; exact kvR_) (hm.sub sub_) ?_; clear hs a; intro a hs
  refine hTake 1 hs rfl (by kernel_rfl) gw_ rfl rfl (by intro w hm; replace hm : Mm _ _ _ w := hm; exact kvR_) (hm.sub sub_) ?_; clear hs a; intro a hs
  refine hTake 2 hs rfl (by kernel_rfl) gw_ rfl rfl (by intro w hm; replace hm : Mm _ _ _ w := hm; exact kvR_) (hm.sub sub_) ?_; clear hs a; intro a hs
  refine hTake 3 hs rfl (by kernel_rfl) gw_ rfl rfl (by intro w hm; replace hm : Mm _ _ _ w := hm; exact kvR_) (hm.sub sub_) ?_; clear hs a; intro a hs
  refine hEach [4, 9] (by kernel_rfl) (eDo hs rfl (Wnt.none rfl) rfl rfl (by exact d_call hs rfl rfl rfl (pl 27 rfl) (hcn _ _ (h.now hm mem_) (hx.dk hne hm))) ?_ (eDo hs rfl (Wnt.none rfl) rfl rfl (by exact d_alloc rfl tab rfl rfl hm) ?_ eNil))
  · skip
    clear hs
    rintro _ w1 ⟨t, v, r, o, rfl, ht, hv, a1, k1, hf⟩ a hs
    replace hm := hm.dkt rep_ k1 hf
    clear hf
    refine ⟨hm.sub sub_, ?_⟩
    refine hEach [5, 9] (by kernel_rfl) (eDo hs rfl (Wnt.none rfl) rfl rfl (by exact d_call hs rfl rfl rfl (pl 26 rfl) (hrw _ _ _ _ _ (hx.dk hne hm) ht)) ?_ (eDo hs rfl (Wnt.none rfl) rfl rfl (by exact d_alloc rfl tab rfl rfl hm) ?_ eNil))
    · skip
      clear hs
      rintro _ w1 ⟨rfl, hf⟩ a hs
      replace hm := hm.pu hf
      clear hf
      refine ⟨hm.sub sub_, ?_⟩
      refine hTake 6 hs rfl (by kernel_rfl) gw_ rfl rfl (by intro w hm; replace hm : Mm _ _ _ w := hm; exact kvR_) (hm.sub sub_) ?_; clear hs a; intro a hs
      refine hTake 7 hs rfl (by kernel_rfl) gw_ rfl rfl (by intro w hm; replace hm : Mm _ _ _ w := hm; exact kvR_) (hm.sub sub_) ?_; clear hs a; intro a hs
      refine hTake 8 hs rfl (by kernel_rfl) gw_ rfl rfl (by intro w hm; replace hm : Mm _ _ _ w := hm; exact kvR_) (hm.sub sub_) ?_; clear hs a; intro a hs
      refine hEach [9] (by kernel_rfl) (eDo hs rfl (Wnt.none rfl) rfl rfl (by exact d_alloc rfl tab rfl rfl hm) ?_ eNil)
      clear hs hm a
      rintro _ w1 ⟨g7, rfl, -, hm⟩ a hs
      refine ⟨hm.sub sub_, ?_⟩
      refine hEach [10] (by kernel_rfl) (eDoN hs rfl (Wnt.none rfl) rfl (by exact d_store hs rfl rfl rfl tab rfl rfl rfl rfl hm rep_ rfl) ?_ eNil)
      clear hs hm
      rintro - w5 hm a hs
      refine ⟨hm.sub sub_, ?_⟩
      refine hTake 11 hs rfl (by kernel_rfl) gw_ rfl rfl (by intro w hm; replace hm : Mm _ _ _ w := hm; exact kvR_) (hm.sub sub_) ?_; clear hs a; intro a hs
      refine hDone (by kernel_rfl) ?_
      repeat (first | ((with_reducible refine toL hm ?_); (first | refine oneV hs gw_ rfl rfl (by intro w hm; exact kvR_) ?_ | refine oneN hs rfl rfl rfl rfl rfl rfl rfl ?_ | refine oneU hs rfl rfl rfl rfl rfl rfl ?_); clear hs a; intro a hs) | ((with_reducible apply lCons); first | (refine dv hs gw_ rfl rfl da_ ?_; clear hs hm a; rintro _ w ⟨g, rfl, -, hm⟩ a hs) | (refine stn hs rfl rfl ds_ ?_; clear hs hm a; rintro - w hm a hs) ) | (with_reducible first | apply lNilThen | apply lNilBlock | apply lNil | apply wp_seq | apply wp_region_lit | apply wp_block | apply cExit | apply cRet | apply cSkip | apply gThen | apply gBlock | apply eThen | apply eBlockHit | refine eBlock rfl ?_ | apply rThen | apply rBlock) | ((with_reducible apply cCond); first | refine cTrue hs rfl bd_ ?_ | refine cFalse hs rfl bd_ ?_))
      exact gRetN tab hs rfl (.cons (.cells rfl rfl rfl rfl (hm.ro (k := 0) (n := 2) mem_ (cutF_ok rfl))) .nil) ⟨_, _, rfl, rawF_t x t v r o, rawF_v x t v r o hv, _, h.now hm mem_, Dk.out hm⟩
    · skip
      clear hs hm a
      rintro _ w1 ⟨g7, rfl, -, hm⟩ a hs
      refine ⟨hm.sub sub_, ?_⟩
      refine hEach [5] (by kernel_rfl) (eDo hs rfl (Wnt.none rfl) rfl rfl (by exact d_call hs rfl rfl rfl (pl 26 rfl) (hrw _ _ _ _ _ (hx.dk hne hm) ht)) ?_ eNil)
      clear hs
      rintro _ w1 ⟨rfl, hf⟩ a hs
      replace hm := hm.pu hf
      clear hf
      refine ⟨hm.sub sub_, ?_⟩
      refine hTake 6 hs rfl (by kernel_rfl) gw_ rfl rfl (by intro w hm; replace hm : Mm _ _ _ w := hm; exact kvR_) (hm.sub sub_) ?_; clear hs a; intro a hs
      refine hTake 7 hs rfl (by kernel_rfl) gw_ rfl rfl (by intro w hm; replace hm : Mm _ _ _ w := hm; exact kvR_) (hm.sub sub_) ?_; clear hs a; intro a hs
      refine hTake 8 hs rfl (by kernel_rfl) gw_ rfl rfl (by intro w hm; replace hm : Mm _ _ _ w := hm; exact kvR_) (hm.sub sub_) ?_; clear hs a; intro a hs
      refine hEach [10] (by kernel_rfl) (eDoN hs rfl (Wnt.none rfl) rfl (by exact d_store hs rfl rfl rfl tab rfl rfl rfl rfl hm rep_ rfl) ?_ eNil)
      clear hs hm
      rintro - w5 hm a hs
      refine ⟨hm.sub sub_, ?_⟩
      refine hTake 11 hs rfl (by kernel_rfl) gw_ rfl rfl (by intro w hm; replace hm : Mm _ _ _ w := hm; exact kvR_) (hm.sub sub_) ?_; clear hs a; intro a hs
      refine hDone (by kernel_rfl) ?_
      repeat (first | ((with_reducible refine toL hm ?_); (first | refine oneV hs gw_ rfl rfl (by intro w hm; exact kvR_) ?_ | refine oneN hs rfl rfl rfl rfl rfl rfl rfl ?_ | refine oneU hs rfl rfl rfl rfl rfl rfl ?_); clear hs a; intro a hs) | ((with_reducible apply lCons); first | (refine dv hs gw_ rfl rfl da_ ?_; clear hs hm a; rintro _ w ⟨g, rfl, -, hm⟩ a hs) | (refine stn hs rfl rfl ds_ ?_; clear hs hm a; rintro - w hm a hs) ) | (with_reducible first | apply lNilThen | apply lNilBlock | apply lNil | apply wp_seq | apply wp_region_lit | apply wp_block | apply cExit | apply cRet | apply cSkip | apply gThen | apply gBlock | apply eThen | apply eBlockHit | refine eBlock rfl ?_ | apply rThen | apply rBlock) | ((with_reducible apply cCond); first | refine cTrue hs rfl bd_ ?_ | refine cFalse hs rfl bd_ ?_))
      exact gRetN tab hs rfl (.cons (.cells rfl rfl rfl rfl (hm.ro (k := 0) (n := 2) mem_ (cutF_ok rfl))) .nil) ⟨_, _, rfl, rawF_t x t v r o, rawF_v x t v r o hv, _, h.now hm mem_, Dk.out hm⟩
  · skip
    clear hs hm a
    rintro _ w1 ⟨g7, rfl, -, hm⟩ a hs
    refine ⟨hm.sub sub_, ?_⟩
    refine hEach [4] (by kernel_rfl) (eDo hs rfl (Wnt.none rfl) rfl rfl (by exact d_call hs rfl rfl rfl (pl 27 rfl) (hcn _ _ (h.now hm mem_) (hx.dk hne hm))) ?_ eNil)
    clear hs
    rintro _ w1 ⟨t, v, r, o, rfl, ht, hv, a1, k1, hf⟩ a hs
    replace hm := hm.dkt rep_ k1 hf
    clear hf
    refine ⟨hm.sub sub_, ?_⟩
    refine hEach [5] (by kernel_rfl) (eDo hs rfl (Wnt.none rfl) rfl rfl (by exact d_call hs rfl rfl rfl (pl 26 rfl) (hrw _ _ _ _ _ (hx.dk hne hm) ht)) ?_ eNil)
    clear hs
    rintro _ w1 ⟨rfl, hf⟩ a hs
    replace hm := hm.pu hf
    clear hf
    refine ⟨hm.sub sub_, ?_⟩
    refine hTake 6 hs rfl (by kernel_rfl) gw_ rfl rfl (by intro w hm; replace hm : Mm _ _ _ w := hm; exact kvR_) (hm.sub sub_) ?_; clear hs a; intro a hs
    refine hTake 7 hs rfl (by kernel_rfl) gw_ rfl rfl (by intro w hm; replace hm : Mm _ _ _ w := hm; exact kvR_) (hm.sub sub_) ?_; clear hs a; intro a hs
    refine hTake 8 hs rfl (by kernel_rfl) gw_ rfl rfl (by intro w hm; replace hm : Mm _ _ _ w := hm; exact kvR_) (hm.sub sub_) ?_; clear hs a; intro a hs
    refine hEach [10] (by kernel_rfl) (eDoN hs rfl (Wnt.none rfl) rfl (by exact d_store hs rfl rfl rfl tab rfl rfl rfl rfl hm rep_ rfl) ?_ eNil)
    clear hs hm
    rintro - w5 hm a hs
    refine ⟨hm.sub sub_, ?_⟩
    refine hTake 11 hs rfl (by kernel_rfl) gw_ rfl rfl (by intro w hm; replace hm : Mm _ _ _ w := hm; exact kvR_) (hm.sub sub_) ?_; clear hs a; intro a hs
    refine hDone (by kernel_rfl) ?_
    repeat (first | ((with_reducible refine toL hm ?_); (first | refine oneV hs gw_ rfl rfl (by intro w hm; exact kvR_) ?_ | refine oneN hs rfl rfl rfl rfl rfl rfl rfl ?_ | refine oneU hs rfl rfl rfl rfl rfl rfl ?_); clear hs a; intro a hs) | ((with_reducible apply lCons); first | (refine dv hs gw_ rfl rfl da_ ?_; clear hs hm a; rintro _ w ⟨g, rfl, -, hm⟩ a hs) | (refine stn hs rfl rfl ds_ ?_; clear hs hm a; rintro - w hm a hs) ) | (with_reducible first | apply lNilThen | apply lNilBlock | apply lNil | apply wp_seq | apply wp_region_lit | apply wp_block | apply cExit | apply cRet | apply cSkip | apply gThen | apply gBlock | apply eThen | apply eBlockHit | refine eBlock rfl ?_ | apply rThen | apply rBlock) | ((with_reducible apply cCond); first | refine cTrue hs rfl bd_ ?_ | refine cFalse hs rfl bd_ ?_))
    exact gRetN tab hs rfl (.cons (.cells rfl rfl rfl rfl (hm.ro (k := 0) (n := 2) mem_ (cutF_ok rfl))) .nil) ⟨_, _, rfl, rawF_t x t v r o, rawF_v x t v r o hv, _, h.now hm mem_, Dk.out hm⟩
end Go.Proofs.Ytfcimpfhfbkgbab
