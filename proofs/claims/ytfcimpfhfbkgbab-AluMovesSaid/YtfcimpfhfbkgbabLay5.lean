/- Cells of the deck: proper ones, raw ones. -/
import Derived.Test.YtfcimpfhfbkgbabLay4
import Derived.Test.YtfcimpfhfbkgbabEng12
namespace Go.Proofs.Ytfcimpfhfbkgbab
open Go.RowKit


def cnV (t v r o : Int) : Value := .agg #[.int .u8 t, .int .u16 v, .int .i64 r, .int .i64 o]
def prpF (ss : List Int) (t v r o : Int) : Bool := if t = 1 then decide (v = 0) && insF ss r o else decide (r = 0) && decide (o = 0)
set_option maxHeartbeats 1000000 in
theorem rprp_c (x : LS) (t v r o : Int) (w : World) (hx : x.ok w) (ht : t = 0 ∨ t = 1 ∨ t = 2) :
    Ret Try.prog 33 [x.s, cnV t v r o] w (fun u w' => u = .bool (prpF x.ss t v r o) ∧ Pu w w') := by
  have hin := fun w'' (hf : Pu w w'') => rins_c x.B x.n x.d x.ss r o w'' hx.sl (hf.rd' hx.sr)
  unfold LS.s cnV prpF
  rcases ht with rfl | rfl | rfl
  · rw [if_neg (by omega)]
    by_cases h1 : r = 0
    · by_cases h2 : o = 0
      · rw [decide_eq_true h1, decide_eq_true h2]
        refine enterR Try.func33 rfl rfl rfl fun a hs hm => ?_
        repeat (first | ((with_reducible refine toL hm ?_); (first | refine oneV hs gw_ rfl rfl (by intro w hm; exact kvR_) ?_ | refine oneN hs rfl rfl rfl rfl rfl rfl rfl ?_ | refine oneU hs rfl rfl rfl rfl rfl rfl ?_); clear hs a; intro a hs) | ((with_reducible apply lCons); first | (refine dv hs gw_ rfl rfl da_ ?_; clear hs hm a; rintro _ w ⟨g, rfl, -, hm⟩ a hs) | (refine stn hs rfl rfl ds_ ?_; clear hs hm a; rintro - w hm a hs) ) | (with_reducible first | apply lNilThen | apply lNilBlock | apply lNil | apply wp_seq | apply wp_region_lit | apply wp_block | apply cExit | apply cRet | apply cSkip | apply gThen | apply gBlock | apply eThen | apply eBlockHit | refine eBlock rfl ?_ | apply rThen | apply rBlock) | ((with_reducible apply cCond); first | refine cTrue hs rfl bd_ ?_ | refine cFalse hs rfl bd_ ?_))
        exact gRet1 hs rfl rfl ⟨rfl, hm.fr⟩
      · rw [decide_eq_true h1, decide_eq_false h2]
        refine enterR Try.func33 rfl rfl rfl fun a hs hm => ?_
        repeat (first | ((with_reducible refine toL hm ?_); (first | refine oneV hs gw_ rfl rfl (by intro w hm; exact kvR_) ?_ | refine oneN hs rfl rfl rfl rfl rfl rfl rfl ?_ | refine oneU hs rfl rfl rfl rfl rfl rfl ?_); clear hs a; intro a hs) | ((with_reducible apply lCons); first | (refine dv hs gw_ rfl rfl da_ ?_; clear hs hm a; rintro _ w ⟨g, rfl, -, hm⟩ a hs) | (refine stn hs rfl rfl ds_ ?_; clear hs hm a; rintro - w hm a hs) ) | (with_reducible first | apply lNilThen | apply lNilBlock | apply lNil | apply wp_seq | apply wp_region_lit | apply wp_block | apply cExit | apply cRet | apply cSkip | apply gThen | apply gBlock | apply eThen | apply eBlockHit | refine eBlock rfl ?_ | apply rThen | apply rBlock) | ((with_reducible apply cCond); first | refine cTrue hs rfl bd_ ?_ | refine cFalse hs rfl bd_ ?_))
        exact gRet1 hs rfl rfl ⟨rfl, hm.fr⟩
    · rw [decide_eq_false h1]
      refine enterR Try.func33 rfl rfl rfl fun a hs hm => ?_
      repeat (first | ((with_reducible refine toL hm ?_); (first | refine oneV hs gw_ rfl rfl (by intro w hm; exact kvR_) ?_ | refine oneN hs rfl rfl rfl rfl rfl rfl rfl ?_ | refine oneU hs rfl rfl rfl rfl rfl rfl ?_); clear hs a; intro a hs) | ((with_reducible apply lCons); first | (refine dv hs gw_ rfl rfl da_ ?_; clear hs hm a; rintro _ w ⟨g, rfl, -, hm⟩ a hs) | (refine stn hs rfl rfl ds_ ?_; clear hs hm a; rintro - w hm a hs) ) | (with_reducible first | apply lNilThen | apply lNilBlock | apply lNil | apply wp_seq | apply wp_region_lit | apply wp_block | apply cExit | apply cRet | apply cSkip | apply gThen | apply gBlock | apply eThen | apply eBlockHit | refine eBlock rfl ?_ | apply rThen | apply rBlock) | ((with_reducible apply cCond); first | refine cTrue hs rfl bd_ ?_ | refine cFalse hs rfl bd_ ?_))
      exact gRet1 hs rfl rfl ⟨rfl, hm.fr⟩
  · rw [if_pos rfl]
    by_cases h1 : v = 0
    · rw [decide_eq_true h1]
      refine enterR Try.func33 rfl rfl rfl fun a hs hm => ?_
      repeat (first | ((with_reducible refine toL hm ?_); (first | refine oneV hs gw_ rfl rfl (by intro w hm; exact kvR_) ?_ | refine oneN hs rfl rfl rfl rfl rfl rfl rfl ?_ | refine oneU hs rfl rfl rfl rfl rfl rfl ?_); clear hs a; intro a hs) | ((with_reducible apply lCons); first | (refine dv hs gw_ rfl rfl da_ ?_; clear hs hm a; rintro _ w ⟨g, rfl, -, hm⟩ a hs) | (refine stn hs rfl rfl ds_ ?_; clear hs hm a; rintro - w hm a hs) | (refine dv hs gw_ rfl rfl (d_call hs rfl rfl rfl (pl 22 rfl) (hin _ hm.fr)) ?_; clear hs a; rintro _ w ⟨rfl, hf⟩ a hs; replace hm := hm.pu hf; clear hf)) | (with_reducible first | apply lNilThen | apply lNilBlock | apply lNil | apply wp_seq | apply wp_region_lit | apply wp_block | apply cExit | apply cRet | apply cSkip | apply gThen | apply gBlock | apply eThen | apply eBlockHit | refine eBlock rfl ?_ | apply rThen | apply rBlock) | ((with_reducible apply cCond); first | refine cTrue hs rfl bd_ ?_ | refine cFalse hs rfl bd_ ?_))
      exact gRet1 hs rfl rfl ⟨rfl, hm.fr⟩
    · rw [decide_eq_false h1]
      refine enterR Try.func33 rfl rfl rfl fun a hs hm => ?_
      repeat (first | ((with_reducible refine toL hm ?_); (first | refine oneV hs gw_ rfl rfl (by intro w hm; exact kvR_) ?_ | refine oneN hs rfl rfl rfl rfl rfl rfl rfl ?_ | refine oneU hs rfl rfl rfl rfl rfl rfl ?_); clear hs a; intro a hs) | ((with_reducible apply lCons); first | (refine dv hs gw_ rfl rfl da_ ?_; clear hs hm a; rintro _ w ⟨g, rfl, -, hm⟩ a hs) | (refine stn hs rfl rfl ds_ ?_; clear hs hm a; rintro - w hm a hs) ) | (with_reducible first | apply lNilThen | apply lNilBlock | apply lNil | apply wp_seq | apply wp_region_lit | apply wp_block | apply cExit | apply cRet | apply cSkip | apply gThen | apply gBlock | apply eThen | apply eBlockHit | refine eBlock rfl ?_ | apply rThen | apply rBlock) | ((with_reducible apply cCond); first | refine cTrue hs rfl bd_ ?_ | refine cFalse hs rfl bd_ ?_))
      exact gRet1 hs rfl rfl ⟨rfl, hm.fr⟩
  · rw [if_neg (by omega)]
    by_cases h1 : r = 0
    · by_cases h2 : o = 0
      · rw [decide_eq_true h1, decide_eq_true h2]
        refine enterR Try.func33 rfl rfl rfl fun a hs hm => ?_
        repeat (first | ((with_reducible refine toL hm ?_); (first | refine oneV hs gw_ rfl rfl (by intro w hm; exact kvR_) ?_ | refine oneN hs rfl rfl rfl rfl rfl rfl rfl ?_ | refine oneU hs rfl rfl rfl rfl rfl rfl ?_); clear hs a; intro a hs) | ((with_reducible apply lCons); first | (refine dv hs gw_ rfl rfl da_ ?_; clear hs hm a; rintro _ w ⟨g, rfl, -, hm⟩ a hs) | (refine stn hs rfl rfl ds_ ?_; clear hs hm a; rintro - w hm a hs) ) | (with_reducible first | apply lNilThen | apply lNilBlock | apply lNil | apply wp_seq | apply wp_region_lit | apply wp_block | apply cExit | apply cRet | apply cSkip | apply gThen | apply gBlock | apply eThen | apply eBlockHit | refine eBlock rfl ?_ | apply rThen | apply rBlock) | ((with_reducible apply cCond); first | refine cTrue hs rfl bd_ ?_ | refine cFalse hs rfl bd_ ?_))
        exact gRet1 hs rfl rfl ⟨rfl, hm.fr⟩
      · rw [decide_eq_true h1, decide_eq_false h2]
        refine enterR Try.func33 rfl rfl rfl fun a hs hm => ?_
        repeat (first | ((with_reducible refine toL hm ?_); (first | refine oneV hs gw_ rfl rfl (by intro w hm; exact kvR_) ?_ | refine oneN hs rfl rfl rfl rfl rfl rfl rfl ?_ | refine oneU hs rfl rfl rfl rfl rfl rfl ?_); clear hs a; intro a hs) | ((with_reducible apply lCons); first | (refine dv hs gw_ rfl rfl da_ ?_; clear hs hm a; rintro _ w ⟨g, rfl, -, hm⟩ a hs) | (refine stn hs rfl rfl ds_ ?_; clear hs hm a; rintro - w hm a hs) ) | (with_reducible first | apply lNilThen | apply lNilBlock | apply lNil | apply wp_seq | apply wp_region_lit | apply wp_block | apply cExit | apply cRet | apply cSkip | apply gThen | apply gBlock | apply eThen | apply eBlockHit | refine eBlock rfl ?_ | apply rThen | apply rBlock) | ((with_reducible apply cCond); first | refine cTrue hs rfl bd_ ?_ | refine cFalse hs rfl bd_ ?_))
        exact gRet1 hs rfl rfl ⟨rfl, hm.fr⟩
    · rw [decide_eq_false h1]
      refine enterR Try.func33 rfl rfl rfl fun a hs hm => ?_
      repeat (first | ((with_reducible refine toL hm ?_); (first | refine oneV hs gw_ rfl rfl (by intro w hm; exact kvR_) ?_ | refine oneN hs rfl rfl rfl rfl rfl rfl rfl ?_ | refine oneU hs rfl rfl rfl rfl rfl rfl ?_); clear hs a; intro a hs) | ((with_reducible apply lCons); first | (refine dv hs gw_ rfl rfl da_ ?_; clear hs hm a; rintro _ w ⟨g, rfl, -, hm⟩ a hs) | (refine stn hs rfl rfl ds_ ?_; clear hs hm a; rintro - w hm a hs) ) | (with_reducible first | apply lNilThen | apply lNilBlock | apply lNil | apply wp_seq | apply wp_region_lit | apply wp_block | apply cExit | apply cRet | apply cSkip | apply gThen | apply gBlock | apply eThen | apply eBlockHit | refine eBlock rfl ?_ | apply rThen | apply rBlock) | ((with_reducible apply cCond); first | refine cTrue hs rfl bd_ ?_ | refine cFalse hs rfl bd_ ?_))
      exact gRet1 hs rfl rfl ⟨rfl, hm.fr⟩
/-- the raw cell of a canonical one, and the error -/
def rawF (x : LS) (t v r o : Int) : (Int × Int) × Int :=
  if prpF x.ss t v r o = true then
    if t = 0 then ((0, v), 0) else if t = 2 then ((2, IntKind.u16.wrap (v + x.key)), 0) else ((1, IntKind.u16.wrap (x.bs.getD r.toNat 0 + o)), 0)
  else ((0, 0), 1)
set_option maxHeartbeats 1000000 in
theorem raw_c (x : LS) (t v r o : Int) (w : World) (hx : x.ok w) (ht : t = 0 ∨ t = 1 ∨ t = 2) :
    Ret Try.prog 26 [x.l, x.s, cnV t v r o] w (fun u w' => u = .tuple #[clV (rawF x t v r o).1.1 (rawF x t v r o).1.2, .int .i64 (rawF x t v r o).2] ∧ Pu w w') := by
  have hpr := fun w'' (hf : Pu w w'') => rprp_c x t v r o w'' (hx.pu hf) ht
  generalize hR : rawF x t v r o = R
  unfold rawF at hR
  unfold LS.l LS.s cnV clV at *
  cases hp : prpF x.ss t v r o
  · rw [hp] at hpr hR
    rw [if_neg (show ¬ false = true by simp)] at hR
    subst hR
    refine enterR Try.func26 rfl rfl rfl fun a hs hm => ?_
    repeat (first | ((with_reducible refine toL hm ?_); (first | refine oneV hs gw_ rfl rfl (by intro w hm; (first | exact kvR_ | exact r_b2s hs rfl rfl tab rfl rfl rfl rfl rfl rfl (by first | exact Fr.rd' hm.fr (by assumption) | exact Mm.rd_row hm mem_ (by assumption)) (by assumption))) ?_ | refine oneN hs rfl rfl rfl rfl rfl rfl rfl ?_ | refine oneU hs rfl rfl rfl rfl rfl rfl ?_); clear hs a; intro a hs) | ((with_reducible apply lCons); first | (refine dv hs gw_ rfl rfl da_ ?_; clear hs hm a; rintro _ w ⟨g, rfl, -, hm⟩ a hs) | (refine stn hs rfl rfl ds_ ?_; clear hs hm a; rintro - w hm a hs) | (refine dv hs gw_ rfl rfl (d_call hs rfl rfl rfl (pl 33 rfl) (hpr _ hm.fr)) ?_; clear hs a; rintro _ w ⟨rfl, hf⟩ a hs; replace hm := hm.pu hf; clear hf)) | (with_reducible first | apply lNilThen | apply lNilBlock | apply lNil | apply wp_seq | apply wp_region_lit | apply wp_block | apply cExit | apply cRet | apply cSkip | apply gThen | apply gBlock | apply eThen | apply eBlockHit | refine eBlock rfl ?_ | apply rThen | apply rBlock) | ((with_reducible apply cCond); first | refine cTrue hs rfl bd_ ?_ | refine cFalse hs rfl bd_ ?_))
    exact gRetN tab hs rfl (.cons (.cells rfl rfl rfl rfl (hm.ro (k := 0) (n := 2) mem_ (cutF_ok rfl))) (.cons (.tmp rfl) .nil)) ⟨rfl, hm.fr⟩
  · rw [hp] at hpr hR
    rw [if_pos (show true = true from rfl)] at hR
    rcases ht with rfl | rfl | rfl
    · rw [if_pos rfl] at hR
      subst hR
      refine enterR Try.func26 rfl rfl rfl fun a hs hm => ?_
      repeat (first | ((with_reducible refine toL hm ?_); (first | refine oneV hs gw_ rfl rfl (by intro w hm; (first | exact kvR_ | exact r_b2s hs rfl rfl tab rfl rfl rfl rfl rfl rfl (by first | exact Fr.rd' hm.fr (by assumption) | exact Mm.rd_row hm mem_ (by assumption)) (by assumption))) ?_ | refine oneN hs rfl rfl rfl rfl rfl rfl rfl ?_ | refine oneU hs rfl rfl rfl rfl rfl rfl ?_); clear hs a; intro a hs) | ((with_reducible apply lCons); first | (refine dv hs gw_ rfl rfl da_ ?_; clear hs hm a; rintro _ w ⟨g, rfl, -, hm⟩ a hs) | (refine stn hs rfl rfl ds_ ?_; clear hs hm a; rintro - w hm a hs) | (refine dv hs gw_ rfl rfl (d_call hs rfl rfl rfl (pl 33 rfl) (hpr _ hm.fr)) ?_; clear hs a; rintro _ w ⟨rfl, hf⟩ a hs; replace hm := hm.pu hf; clear hf)) | (with_reducible first | apply lNilThen | apply lNilBlock | apply lNil | apply wp_seq | apply wp_region_lit | apply wp_block | apply cExit | apply cRet | apply cSkip | apply gThen | apply gBlock | apply eThen | apply eBlockHit | refine eBlock rfl ?_ | apply rThen | apply rBlock) | ((with_reducible apply cCond); first | refine cTrue hs rfl bd_ ?_ | refine cFalse hs rfl bd_ ?_))
      exact gRetN tab hs rfl (.cons (.cells rfl rfl rfl rfl (hm.ro (k := 0) (n := 2) mem_ (cutF_ok rfl))) (.cons (.tmp rfl) .nil)) ⟨rfl, hm.fr⟩
    · rw [if_neg (by omega), if_neg (by omega)] at hR
      subst hR
      unfold prpF at hp
      rw [if_pos rfl, Bool.and_eq_true] at hp
      obtain ⟨i1, i2, i3, i4⟩ := insF_t.1 hp.2
      have hbl := hx.bl
      have hsl := hx.sl
      obtain ⟨k, rfl⟩ : ∃ k : Nat, r = (k : Int) := ⟨r.toNat, by omega⟩
      rw [Int.toNat_natCast] at i4 ⊢
      obtain ⟨b1, o1, hA, hb1, r1⟩ := hx.br.ro (by rw [ints_len]; omega)
      have e1 := ints_some (xs := x.bs) (k := k) (by omega)
      have hg1 := getI (l := x.bs) (k := k) (by omega)
      have hg2 := getI (l := x.ss) (k := k) (by omega)
      have hbk := hx.b x.bs[k] (List.getElem_mem (by omega))
      have hsk := hx.s x.ss[k] (List.getElem_mem (by omega))
      rw [hg2] at i4
      rw [hg1]
      rw [hA]
      generalize x.bs[k]'(_) = bk at *
      generalize x.ss[k]'(_) = sk at *
      refine enterR Try.func26 rfl rfl rfl fun a hs hm => ?_
      repeat (first | ((with_reducible refine toL hm ?_); (first | refine oneV hs gw_ rfl rfl (by intro w hm; (first | exact kvR_ | exact r_b2s hs rfl rfl tab rfl rfl rfl rfl rfl rfl (by first | exact Fr.rd' hm.fr (by assumption) | exact Mm.rd_row hm mem_ (by assumption)) (by assumption))) ?_ | refine oneN hs rfl rfl rfl rfl rfl rfl rfl ?_ | refine oneU hs rfl rfl rfl rfl rfl rfl ?_); clear hs a; intro a hs) | ((with_reducible apply lCons); first | (refine dv hs gw_ rfl rfl da_ ?_; clear hs hm a; rintro _ w ⟨g, rfl, -, hm⟩ a hs) | (refine stn hs rfl rfl ds_ ?_; clear hs hm a; rintro - w hm a hs) | (refine dv hs gw_ rfl rfl (d_call hs rfl rfl rfl (pl 33 rfl) (hpr _ hm.fr)) ?_; clear hs a; rintro _ w ⟨rfl, hf⟩ a hs; replace hm := hm.pu hf; clear hf)) | (with_reducible first | apply lNilThen | apply lNilBlock | apply lNil | apply wp_seq | apply wp_region_lit | apply wp_block | apply cExit | apply cRet | apply cSkip | apply gThen | apply gBlock | apply eThen | apply eBlockHit | refine eBlock rfl ?_ | apply rThen | apply rBlock) | ((with_reducible apply cCond); first | refine cTrue hs rfl bd_ ?_ | refine cFalse hs rfl bd_ ?_))
      rename_i g3 _ g5 _
      refine cDraw (n := 13) [⟨some g5, 63, [.int .u8 1, .int .u16 v, .int .i64 (k : Int), .int .i64 o]⟩, ⟨some g3, 30, [.slice (some ⟨b1, o1, none⟩) x.n x.c, .int .u16 x.key]⟩] hm rfl rfl ?_
      clear hm
      intro w2 hm
      refine hTake 0 hs rfl (by kernel_rfl) gw_ rfl rfl (by intro w hm; replace hm : Mm _ _ _ w := hm; (first | exact kvR_ | exact r_b2s hs rfl rfl tab rfl rfl rfl rfl rfl rfl (by first | exact Fr.rd' hm.fr (by assumption) | exact Mm.rd_row hm mem_ (by assumption)) (by assumption))) (hm.sub sub_) ?_; clear hs a; intro a hs
      refine hTake 1 hs rfl (by kernel_rfl) gw_ rfl rfl (by intro w hm; replace hm : Mm _ _ _ w := hm; (first | exact kvR_ | exact r_b2s hs rfl rfl tab rfl rfl rfl rfl rfl rfl (by first | exact Fr.rd' hm.fr (by assumption) | exact Mm.rd_row hm mem_ (by assumption)) (by assumption))) (hm.sub sub_) ?_; clear hs a; intro a hs
      refine hTake 2 hs rfl (by kernel_rfl) gw_ rfl rfl (by intro w hm; replace hm : Mm _ _ _ w := hm; (first | exact kvR_ | exact r_b2s hs rfl rfl tab rfl rfl rfl rfl rfl rfl (by first | exact Fr.rd' hm.fr (by assumption) | exact Mm.rd_row hm mem_ (by assumption)) (by assumption))) (hm.sub sub_) ?_; clear hs a; intro a hs
      refine hTake 3 hs rfl (by kernel_rfl) gw_ rfl rfl (by intro w hm; replace hm : Mm _ _ _ w := hm; (first | exact kvR_ | exact r_b2s hs rfl rfl tab rfl rfl rfl rfl rfl rfl (by first | exact Fr.rd' hm.fr (by assumption) | exact Mm.rd_row hm mem_ (by assumption)) (by assumption))) (hm.sub sub_) ?_; clear hs a; intro a hs
      refine hTake 4 hs rfl (by kernel_rfl) gw_ rfl rfl (by intro w hm; replace hm : Mm _ _ _ w := hm; (first | exact kvR_ | exact r_b2s hs rfl rfl tab rfl rfl rfl rfl rfl rfl (by first | exact Fr.rd' hm.fr (by assumption) | exact Mm.rd_row hm mem_ (by assumption)) (by assumption))) (hm.sub sub_) ?_; clear hs a; intro a hs
      refine hTake 5 hs rfl (by kernel_rfl) gw_ rfl rfl (by intro w hm; replace hm : Mm _ _ _ w := hm; (first | exact kvR_ | exact r_b2s hs rfl rfl tab rfl rfl rfl rfl rfl rfl (by first | exact Fr.rd' hm.fr (by assumption) | exact Mm.rd_row hm mem_ (by assumption)) (by assumption))) (hm.sub sub_) ?_; clear hs a; intro a hs
      refine hTake 6 hs rfl (by kernel_rfl) gw_ rfl rfl (by intro w hm; replace hm : Mm _ _ _ w := hm; (first | exact kvR_ | exact r_b2s hs rfl rfl tab rfl rfl rfl rfl rfl rfl (by first | exact Fr.rd' hm.fr (by assumption) | exact Mm.rd_row hm mem_ (by assumption)) (by assumption))) (hm.sub sub_) ?_; clear hs a; intro a hs
      refine hTake 7 hs rfl (by kernel_rfl) gw_ rfl rfl (by intro w hm; replace hm : Mm _ _ _ w := hm; (first | exact kvR_ | exact r_b2s hs rfl rfl tab rfl rfl rfl rfl rfl rfl (by first | exact Fr.rd' hm.fr (by assumption) | exact Mm.rd_row hm mem_ (by assumption)) (by assumption))) (hm.sub sub_) ?_; clear hs a; intro a hs
      refine hTake 8 hs rfl (by kernel_rfl) gw_ rfl rfl (by intro w hm; replace hm : Mm _ _ _ w := hm; (first | exact kvR_ | exact r_b2s hs rfl rfl tab rfl rfl rfl rfl rfl rfl (by first | exact Fr.rd' hm.fr (by assumption) | exact Mm.rd_row hm mem_ (by assumption)) (by assumption))) (hm.sub sub_) ?_; clear hs a; intro a hs
      refine hTake 9 hs rfl (by kernel_rfl) gw_ rfl rfl (by intro w hm; replace hm : Mm _ _ _ w := hm; (first | exact kvR_ | exact r_b2s hs rfl rfl tab rfl rfl rfl rfl rfl rfl (by first | exact Fr.rd' hm.fr (by assumption) | exact Mm.rd_row hm mem_ (by assumption)) (by assumption))) (hm.sub sub_) ?_; clear hs a; intro a hs
      refine hTake 10 hs rfl (by kernel_rfl) gw_ rfl rfl (by intro w hm; replace hm : Mm _ _ _ w := hm; (first | exact kvR_ | exact r_b2s hs rfl rfl tab rfl rfl rfl rfl rfl rfl (by first | exact Fr.rd' hm.fr (by assumption) | exact Mm.rd_row hm mem_ (by assumption)) (by assumption))) (hm.sub sub_) ?_; clear hs a; intro a hs
      refine hEach [11] (by kernel_rfl) (eDoN hs rfl (Wnt.none rfl) rfl (by exact d_store hs rfl rfl rfl tab rfl rfl rfl rfl hm rep_ rfl) ?_ eNil)
      clear hs hm
      rintro - w5 hm a hs
      refine ⟨hm.sub (List.Sublist.cons _ (List.Sublist.refl _)), ?_⟩
      refine hTake 12 hs rfl (by kernel_rfl) gw_ rfl rfl (by intro w hm; replace hm : Mm _ _ _ w := hm; (first | exact kvR_ | exact r_b2s hs rfl rfl tab rfl rfl rfl rfl rfl rfl (by first | exact Fr.rd' hm.fr (by assumption) | exact Mm.rd_row hm mem_ (by assumption)) (by assumption))) (hm.sub sub_) ?_; clear hs a; intro a hs
      refine hDone (by kernel_rfl) ?_
      repeat (first | ((with_reducible refine toL hm ?_); (first | refine oneV hs gw_ rfl rfl (by intro w hm; (first | exact kvR_ | exact r_b2s hs rfl rfl tab rfl rfl rfl rfl rfl rfl (by first | exact Fr.rd' hm.fr (by assumption) | exact Mm.rd_row hm mem_ (by assumption)) (by assumption))) ?_ | refine oneN hs rfl rfl rfl rfl rfl rfl rfl ?_ | refine oneU hs rfl rfl rfl rfl rfl rfl ?_); clear hs a; intro a hs) | ((with_reducible apply lCons); first | (refine dv hs gw_ rfl rfl da_ ?_; clear hs hm a; rintro _ w ⟨g, rfl, -, hm⟩ a hs) | (refine stn hs rfl rfl ds_ ?_; clear hs hm a; rintro - w hm a hs) ) | (with_reducible first | apply lNilThen | apply lNilBlock | apply lNil | apply wp_seq | apply wp_region_lit | apply wp_block | apply cExit | apply cRet | apply cSkip | apply gThen | apply gBlock | apply eThen | apply eBlockHit | refine eBlock rfl ?_ | apply rThen | apply rBlock) | ((with_reducible apply cCond); first | refine cTrue hs rfl bd_ ?_ | refine cFalse hs rfl bd_ ?_))
      exact gRetN tab hs rfl (.cons (.cells rfl rfl rfl rfl (hm.ro (k := 0) (n := 2) mem_ (cutF_ok rfl))) (.cons (.tmp rfl) .nil)) ⟨rfl, hm.fr⟩
    · rw [if_neg (by omega), if_pos rfl] at hR
      subst hR
      refine enterR Try.func26 rfl rfl rfl fun a hs hm => ?_
      repeat (first | ((with_reducible refine toL hm ?_); (first | refine oneV hs gw_ rfl rfl (by intro w hm; (first | exact kvR_ | exact r_b2s hs rfl rfl tab rfl rfl rfl rfl rfl rfl (by first | exact Fr.rd' hm.fr (by assumption) | exact Mm.rd_row hm mem_ (by assumption)) (by assumption))) ?_ | refine oneN hs rfl rfl rfl rfl rfl rfl rfl ?_ | refine oneU hs rfl rfl rfl rfl rfl rfl ?_); clear hs a; intro a hs) | ((with_reducible apply lCons); first | (refine dv hs gw_ rfl rfl da_ ?_; clear hs hm a; rintro _ w ⟨g, rfl, -, hm⟩ a hs) | (refine stn hs rfl rfl ds_ ?_; clear hs hm a; rintro - w hm a hs) | (refine dv hs gw_ rfl rfl (d_call hs rfl rfl rfl (pl 33 rfl) (hpr _ hm.fr)) ?_; clear hs a; rintro _ w ⟨rfl, hf⟩ a hs; replace hm := hm.pu hf; clear hf)) | (with_reducible first | apply lNilThen | apply lNilBlock | apply lNil | apply wp_seq | apply wp_region_lit | apply wp_block | apply cExit | apply cRet | apply cSkip | apply gThen | apply gBlock | apply eThen | apply eBlockHit | refine eBlock rfl ?_ | apply rThen | apply rBlock) | ((with_reducible apply cCond); first | refine cTrue hs rfl bd_ ?_ | refine cFalse hs rfl bd_ ?_))
      exact gRetN tab hs rfl (.cons (.cells rfl rfl rfl rfl (hm.ro (k := 0) (n := 2) mem_ (cutF_ok rfl))) (.cons (.tmp rfl) .nil)) ⟨rfl, hm.fr⟩
end Go.Proofs.Ytfcimpfhfbkgbab
