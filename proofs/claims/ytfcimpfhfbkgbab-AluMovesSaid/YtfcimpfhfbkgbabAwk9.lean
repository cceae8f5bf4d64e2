/- The check of sanity of layer 9. -/
import Derived.Test.YtfcimpfhfbkgbabLay7
import Derived.Test.YtfcimpfhfbkgbabEng17
namespace Go.Proofs.Ytfcimpfhfbkgbab
open Go.RowKit

theorem awkLS {S : Nat → Prop} {w0 w : World} {M : List Hp} {g6 g10 : Nat} {c1 c2 : List Value} (hm : Mm S w0 M w) (h1 : (⟨some g6, 3, .int .i64 10 :: c1⟩ : Hp) ∈ M) (h2 : (⟨some g10, 3, .int .i64 8 :: c2⟩ : Hp) ∈ M) : LS.ok ⟨some ⟨g6, 0, none⟩, 1, 1, [10], 0, some ⟨g10, 0, none⟩, 1, [8]⟩ w :=
  ⟨rfl, rfl, hm.rd h1 ⟨c1, rfl⟩, hm.rd h2 ⟨c2, rfl⟩, fun y hy => by rcases List.mem_singleton.1 hy with rfl; omega, fun y hy => by rcases List.mem_singleton.1 hy with rfl; omega, by show 1 ≤ 4; omega⟩
theorem awkDo1 (A B : Option Addr) : doF ⟨A, 1, 1, [10], 0, B, 1, [8]⟩ 4 1 13 1 15 = ((0, 65534), 0) := by
  simp [doF, aptF, resF, IntKind.wrap, IntKind.bits, IntKind.signed]
theorem awkDo2 (A B : Option Addr) : doF ⟨A, 1, 1, [10], 0, B, 1, [8]⟩ 5 1 13 0 2 = ((0, 0), 3) := by
  simp [doF]
set_option maxHeartbeats 2000000 in
theorem awk_c (wB : World) : Ret Try.prog 14 [] wB (fun u w' => u = .bool true ∧ Pu wB w') := by
  refine enterR Try.func14 rfl rfl rfl fun a hs hm => ?_
  repeat (first | ((with_reducible refine toL hm ?_); (first | refine oneV hs gw_ rfl rfl (by intro w hm; exact kv_) ?_ | refine oneN hs rfl rfl rfl rfl rfl rfl rfl ?_ | refine oneU hs rfl rfl rfl rfl rfl rfl ?_); clear hs a; intro a hs) | ((with_reducible apply lCons); first | (refine dv hs gw_ rfl rfl da_ ?_; clear hs hm a; rintro _ w ⟨g, rfl, -, hm⟩ a hs) | (refine stn hs rfl rfl ds_ ?_; clear hs hm a; rintro - w hm a hs) ) | (with_reducible first | apply lNilThen | apply lNilBlock | apply lNil | apply wp_seq | apply wp_region_lit | apply wp_block | apply cExit | apply cRet | apply cSkip | apply gThen | apply gBlock | apply eThen | apply eBlockHit | refine eBlock rfl ?_ | apply rThen | apply rBlock) | ((with_reducible apply cCond); first | refine cTrue hs rfl bd_ ?_ | refine cFalse hs rfl bd_ ?_))
  obtain ⟨g1, en_⟩ := hs.pt 1 (by exact rfl); subst en_
  obtain ⟨g6, en_⟩ := hs.ps 6 (by exact rfl); subst en_
  obtain ⟨g10, en_⟩ := hs.ps 10 (by exact rfl); subst en_
  refine st hs rfl rfl rfl (d_call hs rfl rfl rfl (pl 24 rfl) ((do_c ⟨some ⟨g6, 0, none⟩, 1, 1, [10], 0, some ⟨g10, 0, none⟩, 1, [8]⟩ 4 1 13 1 15 _ (awkLS hm mem_ mem_) (by omega) (by omega) (by omega) (by omega)))) ?_; clear hs a; rintro _ w1 ⟨rfl, hf⟩ a hs
  rw [awkDo1] at hs
  replace hm := hm.pu hf
  clear hf
  repeat (first | ((with_reducible refine toL hm ?_); (first | refine oneV hs gw_ rfl rfl (by intro w hm; exact kv_) ?_ | refine oneN hs rfl rfl rfl rfl rfl rfl rfl ?_ | refine oneU hs rfl rfl rfl rfl rfl rfl ?_); clear hs a; intro a hs) | ((with_reducible apply lCons); first | (refine dv hs gw_ rfl rfl da_ ?_; clear hs hm a; rintro _ w ⟨g, rfl, -, hm⟩ a hs) | (refine stn hs rfl rfl ds_ ?_; clear hs hm a; rintro - w hm a hs) ) | (with_reducible first | apply lNilThen | apply lNilBlock | apply lNil | apply wp_seq | apply wp_region_lit | apply wp_block | apply cExit | apply cRet | apply cSkip | apply gThen | apply gBlock | apply eThen | apply eBlockHit | refine eBlock rfl ?_ | apply rThen | apply rBlock) | ((with_reducible apply cCond); first | refine cTrue hs rfl bd_ ?_ | refine cFalse hs rfl bd_ ?_))
  obtain ⟨g18, en_⟩ := hs.ps 18 (by exact rfl); subst en_
  refine st hs rfl rfl rfl (d_call hs rfl rfl rfl (pl 24 rfl) ((do_c ⟨some ⟨g6, 0, none⟩, 1, 1, [10], 0, some ⟨g18, 0, none⟩, 1, [8]⟩ 5 1 13 0 2 _ (awkLS hm mem_ mem_) (by omega) (by omega) (by omega) (by omega)))) ?_; clear hs a; rintro _ w1 ⟨rfl, hf⟩ a hs
  rw [awkDo2] at hs
  replace hm := hm.pu hf
  clear hf
  repeat (first | ((with_reducible refine toL hm ?_); (first | refine oneV hs gw_ rfl rfl (by intro w hm; exact kv_) ?_ | refine oneN hs rfl rfl rfl rfl rfl rfl rfl ?_ | refine oneU hs rfl rfl rfl rfl rfl rfl ?_); clear hs a; intro a hs) | ((with_reducible apply lCons); first | (refine dv hs gw_ rfl rfl da_ ?_; clear hs hm a; rintro _ w ⟨g, rfl, -, hm⟩ a hs) | (refine stn hs rfl rfl ds_ ?_; clear hs hm a; rintro - w hm a hs) ) | (with_reducible first | apply lNilThen | apply lNilBlock | apply lNil | apply wp_seq | apply wp_region_lit | apply wp_block | apply cExit | apply cRet | apply cSkip | apply gThen | apply gBlock | apply eThen | apply eBlockHit | refine eBlock rfl ?_ | apply rThen | apply rBlock) | ((with_reducible apply cCond); first | refine cTrue hs rfl bd_ ?_ | refine cFalse hs rfl bd_ ?_))
  exact gRet1 hs rfl rfl ⟨rfl, hm.fr⟩
end Go.Proofs.Ytfcimpfhfbkgbab
