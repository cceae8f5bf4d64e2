/- The deck: arbitrary cells. -/
import Derived.Test.YtfcimpfhfbkgbabDck5
namespace Go.Proofs.Ytfcimpfhfbkgbab
open Go.RowKit

set_option maxHeartbeats 2000000 in
theorem cel_c (gd : Nat) (A : Option Addr) (n c at_ : Nat) (xs : List Int) (w : World) (h : Dk gd A n c at_ xs w) :
    Ret Try.prog 17 [.pointer (some ⟨gd, 0, none⟩)] w (fun u w' => ∃ t v : Int, u = clV t v ∧ (t = 0 ∨ t = 1 ∨ t = 2) ∧ (0 ≤ v ∧ v ≤ 65535) ∧ DkR gd A n c xs w w') := by
  have htag : ∀ r : Nat, r < 5 → ∃ tv : Int, ([.int .i64 0, .int .i64 0, .int .i64 0, .int .i64 1, .int .i64 2] : List Value)[r]? = some (.int .i64 tv) ∧ (IntKind.u8.wrap tv = 0 ∨ IntKind.u8.wrap tv = 1 ∨ IntKind.u8.wrap tv = 2) := fun r hr => by
    rcases (by omega : r = 0 ∨ r = 1 ∨ r = 2 ∨ r = 3 ∨ r = 4) with rfl | rfl | rfl | rfl | rfl
    · exact ⟨0, rfl, .inl (by decide)⟩
    · exact ⟨0, rfl, .inl (by decide)⟩
    · exact ⟨0, rfl, .inl (by decide)⟩
    · exact ⟨1, rfl, .inr (.inl (by decide))⟩
    · exact ⟨2, rfl, .inr (.inr (by decide))⟩
  unfold clV
  refine enterR Try.func17 rfl rfl rfl fun a hs hm => ?_
  clear hm
  have hm := h.in_
  repeat (first | ((with_reducible refine toL hm ?_); (first | refine oneV hs gw_ rfl rfl (by intro w hm; (first | exact kv_ | exact r_b2s hs rfl rfl tab rfl rfl rfl rfl rfl rfl (by first | exact Fr.rd' hm.fr (by assumption) | exact Mm.rd_row hm mem_ (by assumption)) (by assumption))) ?_ | refine oneN hs rfl rfl rfl rfl rfl rfl rfl ?_ | refine oneU hs rfl rfl rfl rfl rfl rfl ?_); clear hs a; intro a hs) | ((with_reducible apply lCons); first | (refine dv hs gw_ rfl rfl da_ ?_; clear hs hm a; rintro _ w ⟨g, rfl, -, hm⟩ a hs) | (refine stn hs rfl rfl ds_ ?_; clear hs hm a; rintro - w hm a hs) ) | (with_reducible first | apply lNilThen | apply lNilBlock | apply lNil | apply wp_seq | apply wp_region_lit | apply wp_block | apply cExit | apply cRet | apply cSkip | apply gThen | apply gBlock | apply eThen | apply eBlockHit | refine eBlock rfl ?_ | apply rThen | apply rBlock) | ((with_reducible apply cCond); first | refine cTrue hs rfl bd_ ?_ | refine cFalse hs rfl bd_ ?_))
  rename Nat => g2
  refine cDraw (n := 10) [] hm rfl rfl ?_
  clear hm
  intro w2 hm
  refine hTake 1 hs rfl (by kernel_rfl) gw_ rfl rfl (by intro w hm; replace hm : Mm _ _ _ w := hm; (first | exact kv_ | exact r_b2s hs rfl rfl tab rfl rfl rfl rfl rfl rfl (by first | exact Fr.rd' hm.fr (by assumption) | exact Mm.rd_row hm mem_ (by assumption)) (by assumption))) (hm.sub sub_) ?_; clear hs a; intro a hs
  refine hTake 6 hs rfl (by kernel_rfl) gw_ rfl rfl (by intro w hm; replace hm : Mm _ _ _ w := hm; (first | exact kv_ | exact r_b2s hs rfl rfl tab rfl rfl rfl rfl rfl rfl (by first | exact Fr.rd' hm.fr (by assumption) | exact Mm.rd_row hm mem_ (by assumption)) (by assumption))) (hm.sub sub_) ?_; clear hs a; intro a hs
  refine hEach [0, 2] (by kernel_rfl) (eDo hs rfl (Wnt.none rfl) rfl rfl (by exact d_buildSlice hs rfl tab rfl rfl rfl rfl rfl rfl rfl rfl rfl hm) ?_ (eDo hs rfl (Wnt.none rfl) rfl rfl (by exact d_call hs rfl rfl rfl (pl 15 rfl) (nxt_c gd A n c _ xs 5 _ (h.now hm mem_) (by omega) (by omega))) ?_ eNil))
  · skip
    clear hs hm a
    rintro _ w1 ⟨g3, rfl, -, hm⟩ a hs
    refine ⟨hm.sub (List.nil_sublist _), ?_⟩
    refine hEach [2] (by kernel_rfl) (eDo hs rfl (Wnt.none rfl) rfl rfl (by exact d_call hs rfl rfl rfl (pl 15 rfl) (nxt_c gd A n c _ xs 5 _ (h.now hm mem_) (by omega) (by omega))) ?_ eNil)
    clear hs
    rintro _ w1 ⟨r, rfl, hr, a1, k1, hf⟩ a hs
    replace hm := hm.dkt rep_ k1 hf
    clear hf
    obtain ⟨tv, hcell, htv⟩ := htag r (by omega)
    refine ⟨hm.sub (List.nil_sublist _), ?_⟩
    refine hTake 3 hs rfl (by kernel_rfl) gw_ rfl rfl (by intro w hm; replace hm : Mm _ _ _ w := hm; (first | exact kv_ | exact r_b2s hs rfl rfl tab rfl rfl rfl rfl rfl rfl (by first | exact Fr.rd' hm.fr (by assumption) | exact Mm.rd_row hm mem_ (by assumption)) (by assumption))) (hm.sub sub_) ?_; clear hs a; intro a hs
    refine hEach [4, 7] (by kernel_rfl) (eDo hs rfl (Wnt.none rfl) rfl rfl (by exact RunV.does (r_load hs rfl rfl tab rfl rfl (hm.cl mem_ hcell))) ?_ (eDo hs rfl (Wnt.none rfl) rfl rfl (by exact d_call hs rfl rfl rfl (pl 8 rfl) (wrd_c gd A n c _ xs _ (h.now hm mem_))) ?_ eNil))
    · skip
      clear hs a
      rintro _ _ ⟨rfl, rfl⟩ a hs
      refine ⟨hm.sub (List.nil_sublist _), ?_⟩
      refine hTake 5 hs rfl (by kernel_rfl) gw_ rfl rfl (by intro w hm; replace hm : Mm _ _ _ w := hm; (first | exact kv_ | exact r_b2s hs rfl rfl tab rfl rfl rfl rfl rfl rfl (by first | exact Fr.rd' hm.fr (by assumption) | exact Mm.rd_row hm mem_ (by assumption)) (by assumption))) (hm.sub sub_) ?_; clear hs a; intro a hs
      refine hEach [7] (by kernel_rfl) (eDo hs rfl (Wnt.none rfl) rfl rfl (by exact d_call hs rfl rfl rfl (pl 8 rfl) (wrd_c gd A n c _ xs _ (h.now hm mem_))) ?_ eNil)
      clear hs
      rintro _ w1 ⟨y, rfl, hy, a2, k2, hf⟩ a hs
      replace hm := hm.dkt rep_ k2 hf
      clear hf
      refine ⟨hm.sub (List.nil_sublist _), ?_⟩
      refine hTake 8 hs rfl (by kernel_rfl) gw_ rfl rfl (by intro w hm; replace hm : Mm _ _ _ w := hm; (first | exact kv_ | exact r_b2s hs rfl rfl tab rfl rfl rfl rfl rfl rfl (by first | exact Fr.rd' hm.fr (by assumption) | exact Mm.rd_row hm mem_ (by assumption)) (by assumption))) (hm.sub sub_) ?_; clear hs a; intro a hs
      refine hEach [9] (by kernel_rfl) (eDoN hs rfl (Wnt.none rfl) rfl (by exact d_store hs rfl rfl rfl tab rfl rfl rfl rfl hm rep_ rfl) ?_ eNil)
      clear hs hm
      rintro - w5 hm a hs
      refine ⟨hm.sub (List.nil_sublist _), ?_⟩
      refine hDone (by kernel_rfl) ?_
      repeat (first | ((with_reducible refine toL hm ?_); (first | refine oneV hs gw_ rfl rfl (by intro w hm; (first | exact kv_ | exact r_b2s hs rfl rfl tab rfl rfl rfl rfl rfl rfl (by first | exact Fr.rd' hm.fr (by assumption) | exact Mm.rd_row hm mem_ (by assumption)) (by assumption))) ?_ | refine oneN hs rfl rfl rfl rfl rfl rfl rfl ?_ | refine oneU hs rfl rfl rfl rfl rfl rfl ?_); clear hs a; intro a hs) | ((with_reducible apply lCons); first | (refine dv hs gw_ rfl rfl da_ ?_; clear hs hm a; rintro _ w ⟨g, rfl, -, hm⟩ a hs) | (refine stn hs rfl rfl ds_ ?_; clear hs hm a; rintro - w hm a hs) ) | (with_reducible first | apply lNilThen | apply lNilBlock | apply lNil | apply wp_seq | apply wp_region_lit | apply wp_block | apply cExit | apply cRet | apply cSkip | apply gThen | apply gBlock | apply eThen | apply eBlockHit | refine eBlock rfl ?_ | apply rThen | apply rBlock) | ((with_reducible apply cCond); first | refine cTrue hs rfl bd_ ?_ | refine cFalse hs rfl bd_ ?_))
      exact gRetN tab hs rfl (.cons (.cells rfl rfl rfl rfl (hm.ro (k := 0) (n := 2) mem_ (cutF_ok rfl))) .nil) ⟨_, _, rfl, htv, hy, _, h.now hm mem_, Dk.out hm⟩
    · skip
      clear hs
      rintro _ w1 ⟨y, rfl, hy, a2, k2, hf⟩ a hs
      replace hm := hm.dkt rep_ k2 hf
      clear hf
      refine ⟨hm.sub (List.nil_sublist _), ?_⟩
      refine hEach [4] (by kernel_rfl) (eDo hs rfl (Wnt.none rfl) rfl rfl (by exact RunV.does (r_load hs rfl rfl tab rfl rfl (hm.cl mem_ hcell))) ?_ eNil)
      clear hs a
      rintro _ _ ⟨rfl, rfl⟩ a hs
      refine ⟨hm.sub (List.nil_sublist _), ?_⟩
      refine hTake 5 hs rfl (by kernel_rfl) gw_ rfl rfl (by intro w hm; replace hm : Mm _ _ _ w := hm; (first | exact kv_ | exact r_b2s hs rfl rfl tab rfl rfl rfl rfl rfl rfl (by first | exact Fr.rd' hm.fr (by assumption) | exact Mm.rd_row hm mem_ (by assumption)) (by assumption))) (hm.sub sub_) ?_; clear hs a; intro a hs
      refine hTake 8 hs rfl (by kernel_rfl) gw_ rfl rfl (by intro w hm; replace hm : Mm _ _ _ w := hm; (first | exact kv_ | exact r_b2s hs rfl rfl tab rfl rfl rfl rfl rfl rfl (by first | exact Fr.rd' hm.fr (by assumption) | exact Mm.rd_row hm mem_ (by assumption)) (by assumption))) (hm.sub sub_) ?_; clear hs a; intro a hs
      refine hEach [9] (by kernel_rfl) (eDoN hs rfl (Wnt.none rfl) rfl (by exact d_store hs rfl rfl rfl tab rfl rfl rfl rfl hm rep_ rfl) ?_ eNil)
      clear hs hm
      rintro - w5 hm a hs
      refine ⟨hm.sub (List.nil_sublist _), ?_⟩
      refine hDone (by kernel_rfl) ?_
      repeat (first | ((with_reducible refine toL hm ?_); (first | refine oneV hs gw_ rfl rfl (by intro w hm; (first | exact kv_ | exact r_b2s hs rfl rfl tab rfl rfl rfl rfl rfl rfl (by first | exact Fr.rd' hm.fr (by assumption) | exact Mm.rd_row hm mem_ (by assumption)) (by assumption))) ?_ | refine oneN hs rfl rfl rfl rfl rfl rfl rfl ?_ | refine oneU hs rfl rfl rfl rfl rfl rfl ?_); clear hs a; intro a hs) | ((with_reducible apply lCons); first | (refine dv hs gw_ rfl rfl da_ ?_; clear hs hm a; rintro _ w ⟨g, rfl, -, hm⟩ a hs) | (refine stn hs rfl rfl ds_ ?_; clear hs hm a; rintro - w hm a hs) ) | (with_reducible first | apply lNilThen | apply lNilBlock | apply lNil | apply wp_seq | apply wp_region_lit | apply wp_block | apply cExit | apply cRet | apply cSkip | apply gThen | apply gBlock | apply eThen | apply eBlockHit | refine eBlock rfl ?_ | apply rThen | apply rBlock) | ((with_reducible apply cCond); first | refine cTrue hs rfl bd_ ?_ | refine cFalse hs rfl bd_ ?_))
      exact gRetN tab hs rfl (.cons (.cells rfl rfl rfl rfl (hm.ro (k := 0) (n := 2) mem_ (cutF_ok rfl))) .nil) ⟨_, _, rfl, htv, hy, _, h.now hm mem_, Dk.out hm⟩
  · skip
    clear hs
    rintro _ w1 ⟨r, rfl, hr, a1, k1, hf⟩ a hs
    replace hm := hm.dkt rep_ k1 hf
    clear hf
    obtain ⟨tv, hcell, htv⟩ := htag r (by omega)
    refine ⟨hm.sub (List.nil_sublist _), ?_⟩
    refine hEach [0, 7] (by kernel_rfl) (eDo hs rfl (Wnt.none rfl) rfl rfl (by exact d_buildSlice hs rfl tab rfl rfl rfl rfl rfl rfl rfl rfl rfl hm) ?_ (eDo hs rfl (Wnt.none rfl) rfl rfl (by exact d_call hs rfl rfl rfl (pl 8 rfl) (wrd_c gd A n c _ xs _ (h.now hm mem_))) ?_ eNil))
    · skip
      clear hs hm a
      rintro _ w1 ⟨g3, rfl, -, hm⟩ a hs
      refine ⟨hm.sub (List.nil_sublist _), ?_⟩
      refine hTake 3 hs rfl (by kernel_rfl) gw_ rfl rfl (by intro w hm; replace hm : Mm _ _ _ w := hm; (first | exact kv_ | exact r_b2s hs rfl rfl tab rfl rfl rfl rfl rfl rfl (by first | exact Fr.rd' hm.fr (by assumption) | exact Mm.rd_row hm mem_ (by assumption)) (by assumption))) (hm.sub sub_) ?_; clear hs a; intro a hs
      refine hEach [4, 7] (by kernel_rfl) (eDo hs rfl (Wnt.none rfl) rfl rfl (by exact RunV.does (r_load hs rfl rfl tab rfl rfl (hm.cl mem_ hcell))) ?_ (eDo hs rfl (Wnt.none rfl) rfl rfl (by exact d_call hs rfl rfl rfl (pl 8 rfl) (wrd_c gd A n c _ xs _ (h.now hm mem_))) ?_ eNil))
      · skip
        clear hs a
        rintro _ _ ⟨rfl, rfl⟩ a hs
        refine ⟨hm.sub (List.nil_sublist _), ?_⟩
        refine hTake 5 hs rfl (by kernel_rfl) gw_ rfl rfl (by intro w hm; replace hm : Mm _ _ _ w := hm; (first | exact kv_ | exact r_b2s hs rfl rfl tab rfl rfl rfl rfl rfl rfl (by first | exact Fr.rd' hm.fr (by assumption) | exact Mm.rd_row hm mem_ (by assumption)) (by assumption))) (hm.sub sub_) ?_; clear hs a; intro a hs
        refine hEach [7] (by kernel_rfl) (eDo hs rfl (Wnt.none rfl) rfl rfl (by exact d_call hs rfl rfl rfl (pl 8 rfl) (wrd_c gd A n c _ xs _ (h.now hm mem_))) ?_ eNil)
        clear hs
        rintro _ w1 ⟨y, rfl, hy, a2, k2, hf⟩ a hs
        replace hm := hm.dkt rep_ k2 hf
        clear hf
        refine ⟨hm.sub (List.nil_sublist _), ?_⟩
        refine hTake 8 hs rfl (by kernel_rfl) gw_ rfl rfl (by intro w hm; replace hm : Mm _ _ _ w := hm; (first | exact kv_ | exact r_b2s hs rfl rfl tab rfl rfl rfl rfl rfl rfl (by first | exact Fr.rd' hm.fr (by assumption) | exact Mm.rd_row hm mem_ (by assumption)) (by assumption))) (hm.sub sub_) ?_; clear hs a; intro a hs
        refine hEach [9] (by kernel_rfl) (eDoN hs rfl (Wnt.none rfl) rfl (by exact d_store hs rfl rfl rfl tab rfl rfl rfl rfl hm rep_ rfl) ?_ eNil)
        clear hs hm
        rintro - w5 hm a hs
        refine ⟨hm.sub (List.nil_sublist _), ?_⟩
        refine hDone (by kernel_rfl) ?_
        repeat (first | ((with_reducible refine toL hm ?_); (first | refine oneV hs gw_ rfl rfl (by intro w hm; (first | exact kv_ | exact r_b2s hs rfl rfl tab rfl rfl rfl rfl rfl rfl (by first | exact Fr.rd' hm.fr (by assumption) | exact Mm.rd_row hm mem_ (by assumption)) (by assumption))) ?_ | refine oneN hs rfl rfl rfl rfl rfl rfl rfl ?_ | refine oneU hs rfl rfl rfl rfl rfl rfl ?_); clear hs a; intro a hs) | ((with_reducible apply lCons); first | (refine dv hs gw_ rfl rfl da_ ?_; clear hs hm a; rintro _ w ⟨g, rfl, -, hm⟩ a hs) | (refine stn hs rfl rfl ds_ ?_; clear hs hm a; rintro - w hm a hs) ) | (with_reducible first | apply lNilThen | apply lNilBlock | apply lNil | apply wp_seq | apply wp_region_lit | apply wp_block | apply cExit | apply cRet | apply cSkip | apply gThen | apply gBlock | apply eThen | apply eBlockHit | refine eBlock rfl ?_ | apply rThen | apply rBlock) | ((with_reducible apply cCond); first | refine cTrue hs rfl bd_ ?_ | refine cFalse hs rfl bd_ ?_))
        exact gRetN tab hs rfl (.cons (.cells rfl rfl rfl rfl (hm.ro (k := 0) (n := 2) mem_ (cutF_ok rfl))) .nil) ⟨_, _, rfl, htv, hy, _, h.now hm mem_, Dk.out hm⟩
      · skip
        clear hs
        rintro _ w1 ⟨y, rfl, hy, a2, k2, hf⟩ a hs
        replace hm := hm.dkt rep_ k2 hf
        clear hf
        refine ⟨hm.sub (List.nil_sublist _), ?_⟩
        refine hEach [4] (by kernel_rfl) (eDo hs rfl (Wnt.none rfl) rfl rfl (by exact RunV.does (r_load hs rfl rfl tab rfl rfl (hm.cl mem_ hcell))) ?_ eNil)
        clear hs a
        rintro _ _ ⟨rfl, rfl⟩ a hs
        refine ⟨hm.sub (List.nil_sublist _), ?_⟩
        refine hTake 5 hs rfl (by kernel_rfl) gw_ rfl rfl (by intro w hm; replace hm : Mm _ _ _ w := hm; (first | exact kv_ | exact r_b2s hs rfl rfl tab rfl rfl rfl rfl rfl rfl (by first | exact Fr.rd' hm.fr (by assumption) | exact Mm.rd_row hm mem_ (by assumption)) (by assumption))) (hm.sub sub_) ?_; clear hs a; intro a hs
        refine hTake 8 hs rfl (by kernel_rfl) gw_ rfl rfl (by intro w hm; replace hm : Mm _ _ _ w := hm; (first | exact kv_ | exact r_b2s hs rfl rfl tab rfl rfl rfl rfl rfl rfl (by first | exact Fr.rd' hm.fr (by assumption) | exact Mm.rd_row hm mem_ (by assumption)) (by assumption))) (hm.sub sub_) ?_; clear hs a; intro a hs
        refine hEach [9] (by kernel_rfl) (eDoN hs rfl (Wnt.none rfl) rfl (by exact d_store hs rfl rfl rfl tab rfl rfl rfl rfl hm rep_ rfl) ?_ eNil)
        clear hs hm
        rintro - w5 hm a hs
        refine ⟨hm.sub (List.nil_sublist _), ?_⟩
        refine hDone (by kernel_rfl) ?_
        repeat (first | ((with_reducible refine toL hm ?_); (first | refine oneV hs gw_ rfl rfl (by intro w hm; (first | exact kv_ | exact r_b2s hs rfl rfl tab rfl rfl rfl rfl rfl rfl (by first | exact Fr.rd' hm.fr (by assumption) | exact Mm.rd_row hm mem_ (by assumption)) (by assumption))) ?_ | refine oneN hs rfl rfl rfl rfl rfl rfl rfl ?_ | refine oneU hs rfl rfl rfl rfl rfl rfl ?_); clear hs a; intro a hs) | ((with_reducible apply lCons); first | (refine dv hs gw_ rfl rfl da_ ?_; clear hs hm a; rintro _ w ⟨g, rfl, -, hm⟩ a hs) | (refine stn hs rfl rfl ds_ ?_; clear hs hm a; rintro - w hm a hs) ) | (with_reducible first | apply lNilThen | apply lNilBlock | apply lNil | apply wp_seq | apply wp_region_lit | apply wp_block | apply cExit | apply cRet | apply cSkip | apply gThen | apply gBlock | apply eThen | apply eBlockHit | refine eBlock rfl ?_ | apply rThen | apply rBlock) | ((with_reducible apply cCond); first | refine cTrue hs rfl bd_ ?_ | refine cFalse hs rfl bd_ ?_))
        exact gRetN tab hs rfl (.cons (.cells rfl rfl rfl rfl (hm.ro (k := 0) (n := 2) mem_ (cutF_ok rfl))) .nil) ⟨_, _, rfl, htv, hy, _, h.now hm mem_, Dk.out hm⟩
    · skip
      clear hs
      rintro _ w1 ⟨y, rfl, hy, a2, k2, hf⟩ a hs
      replace hm := hm.dkt rep_ k2 hf
      clear hf
      refine ⟨hm.sub (List.nil_sublist _), ?_⟩
      refine hEach [0] (by kernel_rfl) (eDo hs rfl (Wnt.none rfl) rfl rfl (by exact d_buildSlice hs rfl tab rfl rfl rfl rfl rfl rfl rfl rfl rfl hm) ?_ eNil)
      clear hs hm a
      rintro _ w1 ⟨g3, rfl, -, hm⟩ a hs
      refine ⟨hm.sub (List.nil_sublist _), ?_⟩
      refine hTake 3 hs rfl (by kernel_rfl) gw_ rfl rfl (by intro w hm; replace hm : Mm _ _ _ w := hm; (first | exact kv_ | exact r_b2s hs rfl rfl tab rfl rfl rfl rfl rfl rfl (by first | exact Fr.rd' hm.fr (by assumption) | exact Mm.rd_row hm mem_ (by assumption)) (by assumption))) (hm.sub sub_) ?_; clear hs a; intro a hs
      refine hEach [4] (by kernel_rfl) (eDo hs rfl (Wnt.none rfl) rfl rfl (by exact RunV.does (r_load hs rfl rfl tab rfl rfl (hm.cl mem_ hcell))) ?_ eNil)
      clear hs a
      rintro _ _ ⟨rfl, rfl⟩ a hs
      refine ⟨hm.sub (List.nil_sublist _), ?_⟩
      refine hTake 5 hs rfl (by kernel_rfl) gw_ rfl rfl (by intro w hm; replace hm : Mm _ _ _ w := hm; (first | exact kv_ | exact r_b2s hs rfl rfl tab rfl rfl rfl rfl rfl rfl (by first | exact Fr.rd' hm.fr (by assumption) | exact Mm.rd_row hm mem_ (by assumption)) (by assumption))) (hm.sub sub_) ?_; clear hs a; intro a hs
      refine hTake 8 hs rfl (by kernel_rfl) gw_ rfl rfl (by intro w hm; replace hm : Mm _ _ _ w := hm; (first | exact kv_ | exact r_b2s hs rfl rfl tab rfl rfl rfl rfl rfl rfl (by first | exact Fr.rd' hm.fr (by assumption) | exact Mm.rd_row hm mem_ (by assumption)) (by assumption))) (hm.sub sub_) ?_; clear hs a; intro a hs
      refine hEach [9] (by kernel_rfl) (eDoN hs rfl (Wnt.none rfl) rfl (by exact d_store hs rfl rfl rfl tab rfl rfl rfl rfl hm rep_ rfl) ?_ eNil)
      clear hs hm
      rintro - w5 hm a hs
      refine ⟨hm.sub (List.nil_sublist _), ?_⟩
      refine hDone (by kernel_rfl) ?_
      repeat (first | ((with_reducible refine toL hm ?_); (first | refine oneV hs gw_ rfl rfl (by intro w hm; (first | exact kv_ | exact r_b2s hs rfl rfl tab rfl rfl rfl rfl rfl rfl (by first | exact Fr.rd' hm.fr (by assumption) | exact Mm.rd_row hm mem_ (by assumption)) (by assumption))) ?_ | refine oneN hs rfl rfl rfl rfl rfl rfl rfl ?_ | refine oneU hs rfl rfl rfl rfl rfl rfl ?_); clear hs a; intro a hs) | ((with_reducible apply lCons); first | (refine dv hs gw_ rfl rfl da_ ?_; clear hs hm a; rintro _ w ⟨g, rfl, -, hm⟩ a hs) | (refine stn hs rfl rfl ds_ ?_; clear hs hm a; rintro - w hm a hs) ) | (with_reducible first | apply lNilThen | apply lNilBlock | apply lNil | apply wp_seq | apply wp_region_lit | apply wp_block | apply cExit | apply cRet | apply cSkip | apply gThen | apply gBlock | apply eThen | apply eBlockHit | refine eBlock rfl ?_ | apply rThen | apply rBlock) | ((with_reducible apply cCond); first | refine cTrue hs rfl bd_ ?_ | refine cFalse hs rfl bd_ ?_))
      exact gRetN tab hs rfl (.cons (.cells rfl rfl rfl rfl (hm.ro (k := 0) (n := 2) mem_ (cutF_ok rfl))) .nil) ⟨_, _, rfl, htv, hy, _, h.now hm mem_, Dk.out hm⟩
end Go.Proofs.Ytfcimpfhfbkgbab
