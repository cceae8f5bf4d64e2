/- The check of sanity of layer 15. -/
import Derived.Test.YtfcmejcmijjnpaaLk10
namespace Go.Proofs.Ytfcmejcmijjnpaa
open Go.RowKit


theorem packK {w0 w : World} {M : List Hp} {x : KS} (hmB : Mm (fun _ => False) w0 M w) (hno : x.no M) : ∃ M3, Mm (fun _ => False) w0 M3 w ∧ Mm (own M3) w M w ∧ x.no M3 := ⟨M, hmB, hmB.rebase, hno⟩
theorem newA_sh : newA.sh := ⟨rfl, rfl, fun q hq => by rw [List.eq_of_mem_replicate hq]; simp⟩
def awA1 : Ab := ⟨[-1, 0, -1, -1], [[], [], [], []]⟩
def awA2 : Ab := ⟨[-1, 0, -1, -1], [[], [2], [], []]⟩
def awA3 : Ab := ⟨[-1, 0, -1, -1], [[], [2, 1], [], []]⟩
def awA4 : Ab := ⟨[-1, 2, -1, -1], [[], [1], [], []]⟩
theorem aw1 : takF newA 1 0 = (awA1, 0) := rfl
theorem aw2 : takF awA1 1 2 = (awA2, 1) := rfl
theorem aw3 : takF awA2 1 1 = (awA3, 1) := rfl
theorem aw4 : givF awA3 1 0 = (awA4, 2, true) := rfl
theorem awS1 : awA1.sh := ⟨rfl, rfl, fun q hq => by unfold awA1 at hq; simp at hq; rcases hq with rfl | hq <;> first | simp | (rcases hq with rfl | hq <;> simp [*])⟩
theorem awS2 : awA2.sh := ⟨rfl, rfl, fun q hq => by unfold awA2 at hq; simp at hq; rcases hq with rfl | hq <;> first | simp | (rcases hq with rfl | hq <;> simp [*])⟩
theorem awS3 : awA3.sh := ⟨rfl, rfl, fun q hq => by unfold awA3 at hq; simp at hq; rcases hq with rfl | hq <;> first | simp | (rcases hq with rfl | hq <;> simp [*])⟩
theorem awS4 : awA4.sh := ⟨rfl, rfl, fun q hq => by unfold awA4 at hq; simp at hq; rcases hq with rfl | hq <;> first | simp | (rcases hq with rfl | hq <;> simp [*])⟩
set_option maxHeartbeats 2000000 in
theorem awk_c (wB : World) : Ret Try.prog 14 [] wB (fun u w' => u = .bool true ∧ Pu wB w') := by
  refine enterR Try.func14 rfl rfl rfl fun a hs hm => ?_
  repeat (first | ((with_reducible refine toL hm ?_); (first | refine oneV hs gw_ rfl rfl (by intro w hm; exact kv_) ?_ | refine oneN hs rfl rfl rfl rfl rfl rfl rfl ?_ | refine oneU hs rfl rfl rfl rfl rfl rfl ?_); clear hs a; intro a hs) | ((with_reducible apply lCons); first | (refine dv hs gw_ rfl rfl da_ ?_; clear hs hm a; rintro _ w ⟨g, rfl, -, hm⟩ a hs) | (refine stn hs rfl rfl ds_ ?_; clear hs hm a; rintro - w hm a hs) ) | (with_reducible first | apply lNilThen | apply lNilBlock | apply lNil | apply wp_seq | apply wp_region_lit | apply wp_block | apply cExit | apply cRet | apply cSkip | apply gThen | apply gBlock | apply eThen | apply eBlockHit | refine eBlock rfl ?_ | apply rThen | apply rBlock) | ((with_reducible apply cCond); first | refine cTrue hs rfl bd_ ?_ | refine cFalse hs rfl bd_ ?_))
  have hmB := hm
  clear hm
  have hm := hmB.rebase
  refine st hs rfl rfl rfl (d_call hs rfl rfl rfl (pl 8 rfl) ((nw_c _))) ?_; clear hs a; rintro _ w1 ⟨y, rfl, hy, hyn, hya, hf⟩ a hs
  have hno := hyn.no hm
  have hno := hyn.no hm
  replace hm := hm.pu hf
  obtain ⟨M3, hpk⟩ := packK (hmB.trans hm) hno
  clear hmB hno hf hm
  obtain ⟨hmB, hm, hno⟩ := hpk
  refine st hs rfl rfl rfl (d_call hs rfl rfl rfl (pl 10 rfl) ((tak_c y 1 0 _ hy (by rw [hya]; exact newA_sh) (by omega)))) ?_; clear hs a; rintro _ w1 ⟨z, rfl, hz, hzn, hza, hf⟩ a hs
  rw [hya, aw1] at hza
  rw [hya, aw1] at hs
  clear hno
  have hno := hzn.no hm
  replace hm := hm.pu hf
  obtain ⟨M3, hpk⟩ := packK (hmB.trans hm) hno
  clear hmB hno hf hm
  obtain ⟨hmB, hm, hno⟩ := hpk
  clear hy hyn hya
  unfold KS.v at hs
  repeat (first | ((with_reducible refine toL hm ?_); (first | refine oneV hs gw_ rfl rfl (by intro w hm; exact kv_) ?_ | refine oneN hs rfl rfl rfl rfl rfl rfl rfl ?_ | refine oneU hs rfl rfl rfl rfl rfl rfl ?_); clear hs a; intro a hs) | ((with_reducible apply lCons); first | (refine dv hs gw_ rfl rfl da_ ?_; clear hs hm a; rintro _ w ⟨g, rfl, -, hm⟩ a hs) | (refine stn hs rfl rfl ds_ ?_; clear hs hm a; rintro - w hm a hs) ) | (with_reducible first | apply lNilThen | apply lNilBlock | apply lNil | apply wp_seq | apply wp_region_lit | apply wp_block | apply cExit | apply cRet | apply cSkip | apply gThen | apply gBlock | apply eThen | apply eBlockHit | refine eBlock rfl ?_ | apply rThen | apply rBlock) | ((with_reducible apply cCond); first | refine cTrue hs rfl bd_ ?_ | refine cFalse hs rfl bd_ ?_))
  have hno2 := hno.grow hz hm
  replace hz := hz.own hno hm
  obtain ⟨M4, hpk⟩ := packK (hmB.trans hm) hno2
  clear hmB hno hno2 hm
  obtain ⟨hmB, hm, hno⟩ := hpk
  refine st hs rfl rfl rfl (d_call hs rfl rfl rfl (pl 10 rfl) ((tak_c z 1 2 _ hz (by rw [hza]; exact awS1) (by omega)))) ?_; clear hs a; rintro _ w1 ⟨y, rfl, hy, hyn, hya, hf⟩ a hs
  rw [hza, aw2] at hya
  rw [hza, aw2] at hs
  clear hno
  have hno := hyn.no hm
  replace hm := hm.pu hf
  obtain ⟨M3, hpk⟩ := packK (hmB.trans hm) hno
  clear hmB hno hf hm
  obtain ⟨hmB, hm, hno⟩ := hpk
  clear hz hzn hza
  unfold KS.v at hs
  repeat (first | ((with_reducible refine toL hm ?_); (first | refine oneV hs gw_ rfl rfl (by intro w hm; exact kv_) ?_ | refine oneN hs rfl rfl rfl rfl rfl rfl rfl ?_ | refine oneU hs rfl rfl rfl rfl rfl rfl ?_); clear hs a; intro a hs) | ((with_reducible apply lCons); first | (refine dv hs gw_ rfl rfl da_ ?_; clear hs hm a; rintro _ w ⟨g, rfl, -, hm⟩ a hs) | (refine stn hs rfl rfl ds_ ?_; clear hs hm a; rintro - w hm a hs) ) | (with_reducible first | apply lNilThen | apply lNilBlock | apply lNil | apply wp_seq | apply wp_region_lit | apply wp_block | apply cExit | apply cRet | apply cSkip | apply gThen | apply gBlock | apply eThen | apply eBlockHit | refine eBlock rfl ?_ | apply rThen | apply rBlock) | ((with_reducible apply cCond); first | refine cTrue hs rfl bd_ ?_ | refine cFalse hs rfl bd_ ?_))
  have hno2 := hno.grow hy hm
  replace hy := hy.own hno hm
  obtain ⟨M4, hpk⟩ := packK (hmB.trans hm) hno2
  clear hmB hno hno2 hm
  obtain ⟨hmB, hm, hno⟩ := hpk
  refine st hs rfl rfl rfl (d_call hs rfl rfl rfl (pl 10 rfl) ((tak_c y 1 1 _ hy (by rw [hya]; exact awS2) (by omega)))) ?_; clear hs a; rintro _ w1 ⟨z, rfl, hz, hzn, hza, hf⟩ a hs
  rw [hya, aw3] at hza
  rw [hya, aw3] at hs
  clear hno
  have hno := hzn.no hm
  replace hm := hm.pu hf
  obtain ⟨M3, hpk⟩ := packK (hmB.trans hm) hno
  clear hmB hno hf hm
  obtain ⟨hmB, hm, hno⟩ := hpk
  clear hy hyn hya
  unfold KS.v at hs
  repeat (first | ((with_reducible refine toL hm ?_); (first | refine oneV hs gw_ rfl rfl (by intro w hm; exact kv_) ?_ | refine oneN hs rfl rfl rfl rfl rfl rfl rfl ?_ | refine oneU hs rfl rfl rfl rfl rfl rfl ?_); clear hs a; intro a hs) | ((with_reducible apply lCons); first | (refine dv hs gw_ rfl rfl da_ ?_; clear hs hm a; rintro _ w ⟨g, rfl, -, hm⟩ a hs) | (refine stn hs rfl rfl ds_ ?_; clear hs hm a; rintro - w hm a hs) ) | (with_reducible first | apply lNilThen | apply lNilBlock | apply lNil | apply wp_seq | apply wp_region_lit | apply wp_block | apply cExit | apply cRet | apply cSkip | apply gThen | apply gBlock | apply eThen | apply eBlockHit | refine eBlock rfl ?_ | apply rThen | apply rBlock) | ((with_reducible apply cCond); first | refine cTrue hs rfl bd_ ?_ | refine cFalse hs rfl bd_ ?_))
  have hno2 := hno.grow hz hm
  replace hz := hz.own hno hm
  obtain ⟨M4, hpk⟩ := packK (hmB.trans hm) hno2
  clear hmB hno hno2 hm
  obtain ⟨hmB, hm, hno⟩ := hpk
  refine st hs rfl rfl rfl (d_call hs rfl rfl rfl (pl 11 rfl) ((giv_c z 1 0 _ hz (by rw [hza]; exact awS3) (by omega)))) ?_; clear hs a; rintro _ w1 ⟨y, rfl, hy, hyn, hya, hf⟩ a hs
  rw [hza, aw4] at hya
  rw [hza, aw4] at hs
  clear hno
  have hno := hyn.no hm
  replace hm := hm.pu hf
  obtain ⟨M3, hpk⟩ := packK (hmB.trans hm) hno
  clear hmB hno hf hm
  obtain ⟨hmB, hm, hno⟩ := hpk
  obtain ⟨⟨oA, on, oc, os⟩, qA, qc, qs⟩ := y
  obtain ⟨hos, hqs⟩ := Ab.mk.inj hya
  dsimp only at hos
  subst hos
  have hon := hy.o.1
  dsimp only at hon
  obtain rfl : on = 4 := hon.symm
  obtain ⟨b1, o1, hA, hb1, r1⟩ := hy.o.2.ro (by rw [ints_len]; exact Nat.succ_pos _)
  dsimp only at hA r1
  subst hA
  have hb := hno b1 (.inl ⟨by simp, o1, rfl⟩)
  unfold KS.v IS.v at hs
  dsimp only at hs
  repeat (first | ((with_reducible refine toL hm ?_); (first | refine oneV hs gw_ rfl rfl (by intro w hm; exact kv_) ?_ | refine oneN hs rfl rfl rfl rfl rfl rfl rfl ?_ | refine oneU hs rfl rfl rfl rfl rfl rfl ?_); clear hs a; intro a hs) | ((with_reducible apply lCons); first | (refine dv hs gw_ rfl rfl da_ ?_; clear hs hm a; rintro _ w ⟨g, rfl, -, hm⟩ a hs) | (refine stn hs rfl rfl ds_ ?_; clear hs hm a; rintro - w hm a hs) ) | (with_reducible first | apply lNilThen | apply lNilBlock | apply lNil | apply wp_seq | apply wp_region_lit | apply wp_block | apply cExit | apply cRet | apply cSkip | apply gThen | apply gBlock | apply eThen | apply eBlockHit | refine eBlock rfl ?_ | apply rThen | apply rBlock) | ((with_reducible apply cCond); first | refine cTrue hs rfl bd_ ?_ | refine cFalse hs rfl bd_ ?_))
  exact gRet1 hs rfl rfl ⟨rfl, (hmB.trans hm).fr⟩
end Go.Proofs.Ytfcmejcmijjnpaa
