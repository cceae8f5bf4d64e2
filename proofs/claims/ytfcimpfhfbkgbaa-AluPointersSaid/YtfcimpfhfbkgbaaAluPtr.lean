/- AluPointers: the walk. -/
import Derived.Test.YtfcimpfhfbkgbaaPro9
import Derived.Test.YtfcimpfhfbkgbaaLay11
namespace Go.Proofs.Ytfcimpfhfbkgbaa
open Go.RowKit




structure PtX where
  i : Nat
  k : Int
  v : Int
  r : Nat
  o : Int
  at_ : Nat
set_option maxHeartbeats 16000000 in
theorem ptr_c (nn0 : Int) (A : Option Addr) (n c : Nat) (xs : List Int) (w0 : World) (hI : IsInts .i64 w0 A n c xs) (hnn0 : 0 ≤ nn0 ∧ nn0 ≤ 65535) :
    Ret Try.prog 5 [.slice A n c, .int .u16 nn0] w0 (fun v w' => v = .bool true ∧ Pu w0 w') := by
  obtain ⟨hl, hnc, hc63, hrx, hwx⟩ := hI
  have hn63 := r_of64 hnc hc63
  refine enterR Try.func5 rfl rfl rfl fun a hs hm => ?_
  repeat (first | ((with_reducible refine toL hm ?_); (first | refine oneV hs gw_ rfl rfl (by intro w hm; (first | exact kvR_ | exact r_quo64 hs rfl rfl rfl (by omega) (by omega) | exact r_quo hs rfl rfl rfl (by omega) | exact r_remH hs rfl rfl rfl (by assumption) (by omega) (by omega) | exact r_rem64 hs rfl rfl rfl (by omega) (by omega) | exact r_rem hs rfl rfl rfl (by omega) | exact r_b2s hs rfl rfl tab rfl rfl rfl rfl rfl rfl (by first | exact Fr.rd' hm.fr (by assumption) | exact Mm.rd_row hm mem_ (by assumption)) (by assumption) | exact r_neqSt (fl := [(true, 0, 5), (true, 1, 22)]) hs rfl rfl rfl tab (by kernel_rfl) (by kernel_rfl) (by kernel_rfl) (by kernel_rfl) rfl)) ?_ | refine oneN hs rfl rfl rfl rfl rfl rfl rfl ?_ | refine oneU hs rfl rfl rfl rfl rfl rfl ?_); clear hs a; intro a hs) | ((with_reducible apply lCons); first | (refine dv hs gw_ rfl rfl da_ ?_; clear hs hm a; rintro _ w ⟨g, rfl, -, hm⟩ a hs) | (refine stn hs rfl rfl ds_ ?_; clear hs hm a; rintro - w hm a hs) ) | (with_reducible first | apply lNilThen | apply lNilBlock | apply lNil | apply wp_seq | apply wp_region_lit | apply wp_block | apply cExit | apply cRet | apply cSkip | apply gThen | apply gBlock | apply eThen | apply eBlockHit | refine eBlock rfl ?_ | apply rThen | apply rBlock) | ((with_reducible apply cCond); first | refine cTrue hs rfl bd_ ?_ | refine cFalse hs rfl bd_ ?_))
  have hrA := hm.fr.rd' hrx
  refine st hs rfl rfl rfl (d_call hs rfl rfl rfl (pl 9 rfl) ((mk_c A n c _))) ?_; clear hs a; rintro _ w1 ⟨gd, rfl, hN, hf⟩ a hs
  have hD := Dk.start hl hrA hn63 hN hf
  replace hm := hm.gain hf hN
  clear hN hf hrA
  repeat (first | ((with_reducible refine toL hm ?_); (first | refine oneV hs gw_ rfl rfl (by intro w hm; (first | exact kvR_ | exact r_quo64 hs rfl rfl rfl (by omega) (by omega) | exact r_quo hs rfl rfl rfl (by omega) | exact r_remH hs rfl rfl rfl (by assumption) (by omega) (by omega) | exact r_rem64 hs rfl rfl rfl (by omega) (by omega) | exact r_rem hs rfl rfl rfl (by omega) | exact r_b2s hs rfl rfl tab rfl rfl rfl rfl rfl rfl (by first | exact Fr.rd' hm.fr (by assumption) | exact Mm.rd_row hm mem_ (by assumption)) (by assumption) | exact r_neqSt (fl := [(true, 0, 5), (true, 1, 22)]) hs rfl rfl rfl tab (by kernel_rfl) (by kernel_rfl) (by kernel_rfl) (by kernel_rfl) rfl)) ?_ | refine oneN hs rfl rfl rfl rfl rfl rfl rfl ?_ | refine oneU hs rfl rfl rfl rfl rfl rfl ?_); clear hs a; intro a hs) | ((with_reducible apply lCons); first | (refine dv hs gw_ rfl rfl da_ ?_; clear hs hm a; rintro _ w ⟨g, rfl, -, hm⟩ a hs) | (refine stn hs rfl rfl ds_ ?_; clear hs hm a; rintro - w hm a hs) ) | (with_reducible first | apply lNilThen | apply lNilBlock | apply lNil | apply wp_seq | apply wp_region_lit | apply wp_block | apply cExit | apply cRet | apply cSkip | apply gThen | apply gBlock | apply eThen | apply eBlockHit | refine eBlock rfl ?_ | apply rThen | apply rBlock) | ((with_reducible apply cCond); first | refine cTrue hs rfl bd_ ?_ | refine cFalse hs rfl bd_ ?_))
  refine st hs rfl rfl rfl (d_call hs rfl rfl rfl (pl 10 rfl) ((siz_c gd A n c 0 xs _ hD))) ?_; clear hs a; rintro _ w2 ⟨gs, m, ms, ss, rfl, hsl, hSz, hrs, hgs, a1, k1, hf⟩ a hs
  have hneS : ∀ b o, (some ⟨gs, 0, none⟩ : Option Addr) = some ⟨b, o, none⟩ → b ≠ gd := fun b o e hb => hm.notown hgs ⟨_, List.Mem.head _, by cases e; rw [hb]; rfl⟩
  have hnoS := fun M' (r : Rep _ (dk gd A n c 0) (dk gd A n c a1) M') h => hm.notown hgs (own_rep r rfl h)
  replace hm := hm.dkt (Rep.head _ _ _) k1 hf
  clear hf hD hgs
  replace hnoS := hnoS _ (Rep.head _ _ _)
  have hmB := hm
  clear hm
  have hm := hmB.rebase
  repeat (first | ((with_reducible refine toL hm ?_); (first | refine oneV hs gw_ rfl rfl (by intro w hm; (first | exact kvR_ | exact r_quo64 hs rfl rfl rfl (by omega) (by omega) | exact r_quo hs rfl rfl rfl (by omega) | exact r_remH hs rfl rfl rfl (by assumption) (by omega) (by omega) | exact r_rem64 hs rfl rfl rfl (by omega) (by omega) | exact r_rem hs rfl rfl rfl (by omega) | exact r_b2s hs rfl rfl tab rfl rfl rfl rfl rfl rfl (by first | exact Fr.rd' hm.fr (by assumption) | exact Mm.rd_row hm mem_ (by assumption)) (by assumption) | exact r_neqSt (fl := [(true, 0, 5), (true, 1, 22)]) hs rfl rfl rfl tab (by kernel_rfl) (by kernel_rfl) (by kernel_rfl) (by kernel_rfl) rfl)) ?_ | refine oneN hs rfl rfl rfl rfl rfl rfl rfl ?_ | refine oneU hs rfl rfl rfl rfl rfl rfl ?_); clear hs a; intro a hs) | ((with_reducible apply lCons); first | (refine dv hs gw_ rfl rfl da_ ?_; clear hs hm a; rintro _ w ⟨g, rfl, -, hm⟩ a hs) | (refine stn hs rfl rfl ds_ ?_; clear hs hm a; rintro - w hm a hs) ) | (with_reducible first | apply lNilThen | apply lNilBlock | apply lNil | apply wp_seq | apply wp_region_lit | apply wp_block | apply cExit | apply cRet | apply cSkip | apply gThen | apply gBlock | apply eThen | apply eBlockHit | refine eBlock rfl ?_ | apply rThen | apply rBlock) | ((with_reducible apply cCond); first | refine cTrue hs rfl bd_ ?_ | refine cFalse hs rfl bd_ ?_))
  refine st hs rfl rfl rfl (d_call hs rfl rfl rfl (pl 11 rfl) ((lay_c gd A n c a1 xs (some ⟨gs, 0, none⟩) m ms ss _ k1 hsl hSz hrs hneS))) ?_; clear hs a; rintro _ w3 ⟨x, rfl, hLy, a2, k2, hf⟩ a hs
  have hnoA := fun b o (e : x.A = some ⟨b, o, none⟩) => hm.notown (hLy.new b o e)
  replace hm := hm.dkt (Rep.head _ _ _) k2 hf
  obtain ⟨rfl, rfl, hxB, rfl, hx, hap, -⟩ := hLy
  have hxn : 1 ≤ x.n := by have := hSz.one; rw [hx.sl] at this; exact this
  have hno : x.no _ := LS.no.rep (M := _) ⟨hnoA, fun b o e => by rw [hxB] at e; cases e; exact hnoS⟩ (Rep.head _ _ (dk gd A n c a2)) rfl
  rw [← hxB] at hs
  replace hmB := hmB.trans hm
  clear hm hf hnoA hnoS hneS hrs k1
  have hneg : x.ne gd := hno.ne (List.Mem.head _)
  obtain ⟨M3, hpk⟩ := pack9 hmB hno
  clear hmB hno
  obtain ⟨hmB, hm, hno⟩ := hpk
  unfold LS.l at hs
  have hn4 := hx.n
  have hbl := hx.bl
  repeat (first | ((with_reducible refine toL hm ?_); (first | refine oneV hs gw_ rfl rfl (by intro w hm; (first | exact kvR_ | exact r_quo64 hs rfl rfl rfl (by omega) (by omega) | exact r_quo hs rfl rfl rfl (by omega) | exact r_remH hs rfl rfl rfl (by assumption) (by omega) (by omega) | exact r_rem64 hs rfl rfl rfl (by omega) (by omega) | exact r_rem hs rfl rfl rfl (by omega) | exact r_b2s hs rfl rfl tab rfl rfl rfl rfl rfl rfl (by first | exact Fr.rd' hm.fr (by assumption) | exact Mm.rd_row hm mem_ (by assumption)) (by assumption) | exact r_neqSt (fl := [(true, 0, 5), (true, 1, 22)]) hs rfl rfl rfl tab (by kernel_rfl) (by kernel_rfl) (by kernel_rfl) (by kernel_rfl) rfl)) ?_ | refine oneN hs rfl rfl rfl rfl rfl rfl rfl ?_ | refine oneU hs rfl rfl rfl rfl rfl rfl ?_); clear hs a; intro a hs) | ((with_reducible apply lCons); first | (refine dv hs gw_ rfl rfl da_ ?_; clear hs hm a; rintro _ w ⟨g, rfl, -, hm⟩ a hs) | (refine stn hs rfl rfl ds_ ?_; clear hs hm a; rintro - w hm a hs) ) | (with_reducible first | apply lNilThen | apply lNilBlock | apply lNil | apply wp_seq | apply wp_region_lit | apply wp_block | apply cExit | apply cRet | apply cSkip | apply gThen | apply gBlock | apply eThen | apply eBlockHit | refine eBlock rfl ?_ | apply rThen | apply rBlock) | ((with_reducible apply cCond); first | refine cTrue hs rfl bd_ ?_ | refine cFalse hs rfl bd_ ?_))
  obtain ⟨g7, en_⟩ := hs.pt 7 (by exact rfl); subst en_
  obtain ⟨b1, o1, hA, hb1, r1⟩ := hx.br.ro (by rw [ints_len]; omega)
  have hnb1 := hno.a b1 o1 hA
  rw [hA] at hs hm
  refine cMid (fun a w => ∃ (r g8 a9 : Nat), r < x.n ∧ Sl Try.f5.ntmps [(1, .int .u16 nn0), (4, .bool false), (5, .pointer (some ⟨gd, 0, none⟩)), (6, .slice x.B x.n x.d), (7, .pointer (some ⟨g7, 0, none⟩)), (8, .pointer (some ⟨g8, 0, none⟩))] a ∧ Mm (own M3) w3 [⟨some g8, 24, [.int .u8 1, .int .u16 (x.bs.getD r 0)]⟩, ⟨some g7, 30, [.slice x.A x.n x.c, .int .u16 x.key]⟩, dk gd A n c a9] w) ?_ ?_
  · skip
    refine cDraw (n := 12) [⟨some g7, 30, [.slice (some ⟨b1, o1, none⟩) x.n x.c, .int .u16 x.key]⟩] hm rfl rfl ?_
    clear hm
    intro w2 hm
    refine hTake 0 hs rfl (by kernel_rfl) (Wnt.none rfl) rfl rfl (by intro w hm; replace hm : Mm _ _ _ w := hm; exact r_val hs tab rfl) (hm.sub sub_) ?_; clear hs a; intro a hs
    refine hTake 1 hs rfl (by kernel_rfl) (Wnt.none rfl) rfl rfl (by intro w hm; replace hm : Mm _ _ _ w := hm; exact klR_) (hm.sub sub_) ?_; clear hs a; intro a hs
    refine hTake 2 hs rfl (by kernel_rfl) (Wnt.none rfl) rfl rfl (by intro w hm; replace hm : Mm _ _ _ w := hm; exact r_val hs tab rfl) (hm.sub sub_) ?_; clear hs a; intro a hs
    refine hTake 3 hs rfl (by kernel_rfl) (Wnt.none rfl) rfl rfl (by intro w hm; replace hm : Mm _ _ _ w := hm; exact r_val hs tab rfl) (hm.sub sub_) ?_; clear hs a; intro a hs
    refine hTake 4 hs rfl (by kernel_rfl) (Wnt.none rfl) rfl rfl (by intro w hm; replace hm : Mm _ _ _ w := hm; (first | exact r_val hs tab rfl | exact r_bi hs rfl | exact r_pick hs rfl rfl rfl rfl)) (hm.sub sub_) ?_; clear hs a; intro a hs
    refine hEach [5, 10] (by kernel_rfl) (eDo hs rfl (Wnt.none rfl) rfl rfl (by exact d_call hs rfl rfl rfl (pl 19 rfl) ((nxt_c gd A n c _ xs (x.n : Int) _ (Dk.at (hmB.trans hm) mem_ hl hrx hn63) (by omega) (by omega)))) ?_ (eDo hs rfl (Wnt.none rfl) rfl rfl (by exact d_alloc rfl tab rfl rfl hm) ?_ eNil))
    · skip
      clear hs
      rintro _ w1 ⟨rr, rfl, hrr, a3, k3, hf⟩ a hs
      replace hm := hm.dkt rep_ k3 hf
      clear hf
      have e1 := ints_some (xs := x.bs) (k := rr) (by omega)
      have hwr := wrap16s (v := x.bs[rr]'(by omega)) (by have := hap.b rr (by omega); rw [getI (by omega)] at this; omega)
      refine ⟨hm.sub sub_, ?_⟩
      refine hTake 6 hs rfl (by kernel_rfl) (Wnt.none rfl) rfl rfl (by intro w hm; replace hm : Mm _ _ _ w := hm; (first | exact r_iz hs tab rfl rfl (by omega) | exact r_iy hs tab rfl rfl (by omega))) (hm.sub sub_) ?_; clear hs a; intro a hs
      refine hTake 7 hs rfl (by kernel_rfl) (Wnt.none rfl) rfl rfl (by intro w hm; replace hm : Mm _ _ _ w := hm; exact klR_) (hm.sub sub_) ?_; clear hs a; intro a hs
      refine hTake 8 hs rfl (by kernel_rfl) (Wnt.none rfl) rfl rfl (by intro w hm; replace hm : Mm _ _ _ w := hm; exact r_val hs tab rfl) (hm.sub sub_) ?_; clear hs a; intro a hs
      refine hTake 9 hs rfl (by kernel_rfl) (Wnt.none rfl) rfl rfl (by intro w hm; replace hm : Mm _ _ _ w := hm; exact r_val hs tab rfl) (hm.sub sub_) ?_; clear hs a; intro a hs
      refine hEach [10] (by kernel_rfl) (eDo hs rfl (Wnt.none rfl) rfl rfl (by exact d_alloc rfl tab rfl rfl hm) ?_ eNil)
      clear hs hm a
      rintro _ w30 ⟨g8, rfl, -, hm⟩ a hs
      refine ⟨hm.sub sub_, ?_⟩
      refine hEach [11] (by kernel_rfl) (eDoN hs rfl (Wnt.none rfl) rfl (by exact d_store hs rfl rfl rfl tab rfl rfl rfl rfl hm rep_ rfl) ?_ eNil)
      clear hs hm
      rintro - w31 hm a hs
      refine ⟨hm.sub sub_, ?_⟩
      refine hDone (by kernel_rfl) ?_
      rw [hwr, ← getI (l := x.bs) (k := rr) (by omega)] at hm
      rw [← hA] at hm hs
      exact And.intro rfl ⟨rr, g8, _, by omega, hs.sub (Has.all ⟨rfl, rfl, rfl, rfl, rfl, rfl, trivial⟩), hm⟩
    · skip
      clear hs hm a
      rintro _ w30 ⟨g8, rfl, -, hm⟩ a hs
      refine ⟨hm.sub sub_, ?_⟩
      refine hEach [5] (by kernel_rfl) (eDo hs rfl (Wnt.none rfl) rfl rfl (by exact d_call hs rfl rfl rfl (pl 19 rfl) ((nxt_c gd A n c _ xs (x.n : Int) _ (Dk.at (hmB.trans hm) mem_ hl hrx hn63) (by omega) (by omega)))) ?_ eNil)
      clear hs
      rintro _ w1 ⟨rr, rfl, hrr, a3, k3, hf⟩ a hs
      replace hm := hm.dkt rep_ k3 hf
      clear hf
      have e1 := ints_some (xs := x.bs) (k := rr) (by omega)
      have hwr := wrap16s (v := x.bs[rr]'(by omega)) (by have := hap.b rr (by omega); rw [getI (by omega)] at this; omega)
      refine ⟨hm.sub sub_, ?_⟩
      refine hTake 6 hs rfl (by kernel_rfl) (Wnt.none rfl) rfl rfl (by intro w hm; replace hm : Mm _ _ _ w := hm; (first | exact r_iz hs tab rfl rfl (by omega) | exact r_iy hs tab rfl rfl (by omega))) (hm.sub sub_) ?_; clear hs a; intro a hs
      refine hTake 7 hs rfl (by kernel_rfl) (Wnt.none rfl) rfl rfl (by intro w hm; replace hm : Mm _ _ _ w := hm; exact klR_) (hm.sub sub_) ?_; clear hs a; intro a hs
      refine hTake 8 hs rfl (by kernel_rfl) (Wnt.none rfl) rfl rfl (by intro w hm; replace hm : Mm _ _ _ w := hm; exact r_val hs tab rfl) (hm.sub sub_) ?_; clear hs a; intro a hs
      refine hTake 9 hs rfl (by kernel_rfl) (Wnt.none rfl) rfl rfl (by intro w hm; replace hm : Mm _ _ _ w := hm; exact r_val hs tab rfl) (hm.sub sub_) ?_; clear hs a; intro a hs
      refine hEach [11] (by kernel_rfl) (eDoN hs rfl (Wnt.none rfl) rfl (by exact d_store hs rfl rfl rfl tab rfl rfl rfl rfl hm rep_ rfl) ?_ eNil)
      clear hs hm
      rintro - w31 hm a hs
      refine ⟨hm.sub sub_, ?_⟩
      refine hDone (by kernel_rfl) ?_
      rw [hwr, ← getI (l := x.bs) (k := rr) (by omega)] at hm
      rw [← hA] at hm hs
      exact And.intro rfl ⟨rr, g8, _, by omega, hs.sub (Has.all ⟨rfl, rfl, rfl, rfl, rfl, rfl, trivial⟩), hm⟩
  clear hs hm a
  rintro a w ⟨r, g8, a9, hrn, hs, hm⟩
  have hp0 := PtrIn.mk' (x := x) (o := 0) hap hrn (by omega) (by have := hx.ssb hrn; omega)
  rw [Int.add_zero] at hp0
  repeat (first | ((with_reducible refine toL hm ?_); (first | refine oneV hs gw_ rfl rfl (by intro w hm; (first | exact kvR_ | exact r_quo64 hs rfl rfl rfl (by omega) (by omega) | exact r_quo hs rfl rfl rfl (by omega) | exact r_remH hs rfl rfl rfl (by assumption) (by omega) (by omega) | exact r_rem64 hs rfl rfl rfl (by omega) (by omega) | exact r_rem hs rfl rfl rfl (by omega) | exact r_b2s hs rfl rfl tab rfl rfl rfl rfl rfl rfl (by first | exact Fr.rd' hm.fr (by assumption) | exact Mm.rd_row hm mem_ (by assumption)) (by assumption) | exact r_neqSt (fl := [(true, 0, 5), (true, 1, 22)]) hs rfl rfl rfl tab (by kernel_rfl) (by kernel_rfl) (by kernel_rfl) (by kernel_rfl) rfl)) ?_ | refine oneN hs rfl rfl rfl rfl rfl rfl rfl ?_ | refine oneU hs rfl rfl rfl rfl rfl rfl ?_); clear hs a; intro a hs) | ((with_reducible apply lCons); first | (refine dv hs gw_ rfl rfl da_ ?_; clear hs hm a; rintro _ w ⟨g, rfl, -, hm⟩ a hs) | (refine stn hs rfl rfl ds_ ?_; clear hs hm a; rintro - w hm a hs) ) | (with_reducible first | apply lNilThen | apply lNilBlock | apply lNil | apply wp_seq | apply wp_region_lit | apply wp_block | apply cExit | apply cRet | apply cSkip | apply gThen | apply gBlock | apply eThen | apply eBlockHit | refine eBlock rfl ?_ | apply rThen | apply rBlock) | ((with_reducible apply cCond); first | refine cTrue hs rfl bd_ ?_ | refine cFalse hs rfl bd_ ?_))
  refine cLoop (X := PtX) (fun X a w' => Sl Try.f5.ntmps [(1, .int .u16 X.k), (4, .bool false), (5, .pointer (some ⟨gd, 0, none⟩)), (6, .slice x.B x.n x.d), (7, .pointer (some ⟨g7, 0, none⟩)), (8, .pointer (some ⟨g8, 0, none⟩)), (41, .int .i64 (X.i : Int))] a ∧ Mm (own M3) w3 [⟨some g8, 24, [.int .u8 1, .int .u16 X.v]⟩, ⟨some g7, 30, [.slice x.A x.n x.c, .int .u16 x.key]⟩, dk gd A n c X.at_] w' ∧ X.i ≤ 4 ∧ PtrIn x X.v X.r X.o ∧ 0 ≤ X.k ∧ X.k ≤ 65535) (fun X => 4 - X.i) ⟨0, nn0, x.bs.getD r 0, r, 0, a9⟩ ⟨hs.sub (Has.all ⟨rfl, rfl, rfl, rfl, rfl, rfl, rfl, trivial⟩), hm, by dsimp only; omega, hp0, hnn0⟩ ?_
  clear hs hm a hp0 hrn
  rintro ⟨i, nn, v, r, o, at_⟩ a w' ⟨hs, hm, hi, hp, hk1, hk2⟩
  dsimp only at *
  by_cases hi4 : i < 4
  · have hvb := hp.bd hx hap
    have hbb1 : (((1 : Int) == 1) && ((v == v) && true)) = true := by simp
    have hbb2 : (((0 : Int) == 0) && ((nn % 16 == nn % 16) && true)) = true := by simp
    have c1 := fun w (h : x.ok w) => mov_c x 1 v (nn % 16) false w h (by omega) (by omega)
    rcases movF_step hp hx hap (k := nn % 16) (by omega) with e | ⟨q, e1, hq, e2, e3, e4, e5⟩
    · rw [e] at c1
      unfold LS.l LS.s clV at c1
      dsimp only at c1
      repeat (first | ((with_reducible refine toL hm ?_); (first | refine oneV hs gw_ rfl rfl (by intro w hm; (first | exact kvR_ | exact r_quo64 hs rfl rfl rfl (by omega) (by omega) | exact r_quo hs rfl rfl rfl (by omega) | exact r_remH hs rfl rfl rfl (by assumption) (by omega) (by omega) | exact r_rem64 hs rfl rfl rfl (by omega) (by omega) | exact r_rem hs rfl rfl rfl (by omega) | exact r_b2s hs rfl rfl tab rfl rfl rfl rfl rfl rfl (by first | exact Fr.rd' hm.fr (by assumption) | exact Mm.rd_row hm mem_ (by assumption)) (by assumption) | exact r_neqSt (fl := [(true, 0, 5), (true, 1, 22)]) hs rfl rfl rfl tab (by kernel_rfl) (by kernel_rfl) (by kernel_rfl) (by kernel_rfl) rfl)) ?_ | refine oneN hs rfl rfl rfl rfl rfl rfl rfl ?_ | refine oneU hs rfl rfl rfl rfl rfl rfl ?_); clear hs a; intro a hs) | ((with_reducible apply lCons); first | (refine dv hs gw_ rfl rfl da_ ?_; clear hs hm a; rintro _ w ⟨g, rfl, -, hm⟩ a hs) | (refine stn hs rfl rfl ds_ ?_; clear hs hm a; rintro - w hm a hs) | (refine dv hs gw_ rfl rfl (d_call hs rfl rfl rfl (pl 22 rfl) (c1 _ (hx.own hno hm))) ?_; clear hs a; rintro _ w ⟨rfl, hf⟩ a hs; replace hm := hm.pu hf; clear hf)) | (with_reducible first | apply lNilThen | apply lNilBlock | apply lNil | apply wp_seq | apply wp_region_lit | apply wp_block | apply cExit | apply cRet | apply cSkip | apply gThen | apply gBlock | apply eThen | apply eBlockHit | refine eBlock rfl ?_ | apply rThen | apply rBlock) | ((with_reducible apply cCond); first | refine cTrue hs rfl bd_ ?_ | refine cFalse hs rfl bd_ ?_))
      refine st hs rfl rfl rfl (d_call hs rfl rfl rfl (pl 23 rfl) ((wrd_c gd A n c _ xs _ (Dk.at (hmB.trans hm) mem_ hl hrx hn63)))) ?_; clear hs a; rintro _ w1 ⟨y, rfl, hy, a4, k4, hf⟩ a hs
      replace hm := hm.dkt rep_ k4 hf
      clear hf
      repeat (first | ((with_reducible refine toL hm ?_); (first | refine oneV hs gw_ rfl rfl (by intro w hm; (first | exact kvR_ | exact r_quo64 hs rfl rfl rfl (by omega) (by omega) | exact r_quo hs rfl rfl rfl (by omega) | exact r_remH hs rfl rfl rfl (by assumption) (by omega) (by omega) | exact r_rem64 hs rfl rfl rfl (by omega) (by omega) | exact r_rem hs rfl rfl rfl (by omega) | exact r_b2s hs rfl rfl tab rfl rfl rfl rfl rfl rfl (by first | exact Fr.rd' hm.fr (by assumption) | exact Mm.rd_row hm mem_ (by assumption)) (by assumption) | exact r_neqSt (fl := [(true, 0, 5), (true, 1, 22)]) hs rfl rfl rfl tab (by kernel_rfl) (by kernel_rfl) (by kernel_rfl) (by kernel_rfl) rfl)) ?_ | refine oneN hs rfl rfl rfl rfl rfl rfl rfl ?_ | refine oneU hs rfl rfl rfl rfl rfl rfl ?_); clear hs a; intro a hs) | ((with_reducible apply lCons); first | (refine dv hs gw_ rfl rfl da_ ?_; clear hs hm a; rintro _ w ⟨g, rfl, -, hm⟩ a hs) | (refine stn hs rfl rfl ds_ ?_; clear hs hm a; rintro - w hm a hs) ) | (with_reducible first | apply lNilThen | apply lNilBlock | apply lNil | apply wp_seq | apply wp_region_lit | apply wp_block | apply cExit | apply cRet | apply cSkip | apply gThen | apply gBlock | apply eThen | apply eBlockHit | refine eBlock rfl ?_ | apply rThen | apply rBlock) | ((with_reducible apply cCond); first | refine cTrue hs rfl bd_ ?_ | refine cFalse hs rfl bd_ ?_))
      exact ⟨⟨i + 1, _, v, r, o, a4⟩, by dsimp only; omega, hs.sub (Has.all ⟨rfl, rfl, rfl, rfl, rfl, rfl, rfl, trivial⟩), hm.sub sub_, by dsimp only; omega, hp, u16_bd _⟩
    · rw [e1] at c1
      have hqb := hq.bd hx hap
      by_cases hk0 : 0 < nn % 16
      · skip
        rw [if_pos hk0] at e4
        rw [if_neg (by omega)] at e5
        have c2 := fun w (h : x.ok w) => mov_c x 1 q (nn % 16) true w h (by omega) (by omega)
        rw [e2] at c2
        have c3 := fun w (h : x.ok w) => do_c x 4 1 q 1 v w h (by omega) (by omega) (by omega) (by omega)
        rw [e3] at c3
        have c4 := fun w (h : x.ok w) => do_c x 13 1 v 1 q w h (by omega) (by omega) (by omega) (by omega)
        rw [e4] at c4
        have c5 := fun w (h : x.ok w) => do_c x 14 1 v 1 q w h (by omega) (by omega) (by omega) (by omega)
        rw [e5] at c5
        have c6 := fun w (h : x.ok w) => h.rrsv (v := v) (by omega) w (Fr.refl _ w)
        rw [hp.res] at c6
        have c7 := fun w (h : x.ok w) => h.rrsv (v := q) (by omega) w (Fr.refl _ w)
        rw [hq.res] at c7
        unfold LS.l LS.s dV clV rsvV at *
        dsimp only at c1 c2 c3 c4 c5 c6 c7
        repeat (first | ((with_reducible refine toL hm ?_); (first | refine oneV hs gw_ rfl rfl (by intro w hm; (first | exact kvR_ | exact r_quo64 hs rfl rfl rfl (by omega) (by omega) | exact r_quo hs rfl rfl rfl (by omega) | exact r_remH hs rfl rfl rfl (by assumption) (by omega) (by omega) | exact r_rem64 hs rfl rfl rfl (by omega) (by omega) | exact r_rem hs rfl rfl rfl (by omega) | exact r_b2s hs rfl rfl tab rfl rfl rfl rfl rfl rfl (by first | exact Fr.rd' hm.fr (by assumption) | exact Mm.rd_row hm mem_ (by assumption)) (by assumption) | exact r_neqSt (fl := [(true, 0, 5), (true, 1, 22)]) hs rfl rfl rfl tab (by kernel_rfl) (by kernel_rfl) (by kernel_rfl) (by kernel_rfl) rfl)) ?_ | refine oneN hs rfl rfl rfl rfl rfl rfl rfl ?_ | refine oneU hs rfl rfl rfl rfl rfl rfl ?_); clear hs a; intro a hs) | ((with_reducible apply lCons); first | (refine dv hs gw_ rfl rfl da_ ?_; clear hs hm a; rintro _ w ⟨g, rfl, -, hm⟩ a hs) | (refine stn hs rfl rfl ds_ ?_; clear hs hm a; rintro - w hm a hs) | (refine dv hs gw_ rfl rfl (d_call hs rfl rfl rfl (pl 22 rfl) (c1 _ (hx.own hno hm))) ?_; clear hs a; rintro _ w ⟨rfl, hf⟩ a hs; replace hm := hm.pu hf; clear hf)) | (with_reducible first | apply lNilThen | apply lNilBlock | apply lNil | apply wp_seq | apply wp_region_lit | apply wp_block | apply cExit | apply cRet | apply cSkip | apply gThen | apply gBlock | apply eThen | apply eBlockHit | refine eBlock rfl ?_ | apply rThen | apply rBlock) | ((with_reducible apply cCond); first | refine cTrue hs rfl bd_ ?_ | refine cFalse hs rfl bd_ ?_))
        refine st hs rfl rfl rfl (d_call hs rfl rfl rfl (pl 23 rfl) ((wrd_c gd A n c _ xs _ (Dk.at (hmB.trans hm) mem_ hl hrx hn63)))) ?_; clear hs a; rintro _ w1 ⟨y, rfl, hy, a4, k4, hf⟩ a hs
        replace hm := hm.dkt rep_ k4 hf
        clear hf
        repeat (first | ((with_reducible refine toL hm ?_); (first | refine oneV hs gw_ rfl rfl (by intro w hm; (first | exact kvR_ | exact r_quo64 hs rfl rfl rfl (by omega) (by omega) | exact r_quo hs rfl rfl rfl (by omega) | exact r_remH hs rfl rfl rfl (by assumption) (by omega) (by omega) | exact r_rem64 hs rfl rfl rfl (by omega) (by omega) | exact r_rem hs rfl rfl rfl (by omega) | exact r_b2s hs rfl rfl tab rfl rfl rfl rfl rfl rfl (by first | exact Fr.rd' hm.fr (by assumption) | exact Mm.rd_row hm mem_ (by assumption)) (by assumption) | exact r_neqSt (fl := [(true, 0, 5), (true, 1, 22)]) hs rfl rfl rfl tab (by kernel_rfl) (by kernel_rfl) (by kernel_rfl) (by kernel_rfl) rfl)) ?_ | refine oneN hs rfl rfl rfl rfl rfl rfl rfl ?_ | refine oneU hs rfl rfl rfl rfl rfl rfl ?_); clear hs a; intro a hs) | ((with_reducible apply lCons); first | (refine dv hs gw_ rfl rfl da_ ?_; clear hs hm a; rintro _ w ⟨g, rfl, -, hm⟩ a hs) | (refine stn hs rfl rfl ds_ ?_; clear hs hm a; rintro - w hm a hs) | (refine dv hs gw_ rfl rfl (d_call hs rfl rfl rfl (pl 22 rfl) (c2 _ (hx.own hno hm))) ?_; clear hs a; rintro _ w ⟨rfl, hf⟩ a hs; replace hm := hm.pu hf; clear hf) | (refine dv hs gw_ rfl rfl (d_call hs rfl rfl rfl (pl 13 rfl) (c3 _ (hx.own hno hm))) ?_; clear hs a; rintro _ w ⟨rfl, hf⟩ a hs; replace hm := hm.pu hf; clear hf) | (refine dv hs gw_ rfl rfl (d_call hs rfl rfl rfl (pl 13 rfl) (c4 _ (hx.own hno hm))) ?_; clear hs a; rintro _ w ⟨rfl, hf⟩ a hs; replace hm := hm.pu hf; clear hf) | (refine dv hs gw_ rfl rfl (d_call hs rfl rfl rfl (pl 13 rfl) (c5 _ (hx.own hno hm))) ?_; clear hs a; rintro _ w ⟨rfl, hf⟩ a hs; replace hm := hm.pu hf; clear hf) | (refine dv hs gw_ rfl rfl (d_call hs rfl rfl rfl (pl 24 rfl) (c6 _ (hx.own hno hm))) ?_; clear hs a; rintro _ w ⟨rfl, hf⟩ a hs; replace hm := hm.pu hf; clear hf) | (refine dv hs gw_ rfl rfl (d_call hs rfl rfl rfl (pl 24 rfl) (c7 _ (hx.own hno hm))) ?_; clear hs a; rintro _ w ⟨rfl, hf⟩ a hs; replace hm := hm.pu hf; clear hf)) | (with_reducible first | apply lNilThen | apply lNilBlock | apply lNil | apply wp_seq | apply wp_region_lit | apply wp_block | apply cExit | apply cRet | apply cSkip | apply gThen | apply gBlock | apply eThen | apply eBlockHit | refine eBlock rfl ?_ | apply rThen | apply rBlock) | ((with_reducible apply cCond); first | refine cTrue hs rfl bd_ ?_ | refine cFalse hs rfl bd_ ?_))
        rw [hbb1] at hs
        repeat (first | ((with_reducible refine toL hm ?_); (first | refine oneV hs gw_ rfl rfl (by intro w hm; (first | exact kvR_ | exact r_quo64 hs rfl rfl rfl (by omega) (by omega) | exact r_quo hs rfl rfl rfl (by omega) | exact r_remH hs rfl rfl rfl (by assumption) (by omega) (by omega) | exact r_rem64 hs rfl rfl rfl (by omega) (by omega) | exact r_rem hs rfl rfl rfl (by omega) | exact r_b2s hs rfl rfl tab rfl rfl rfl rfl rfl rfl (by first | exact Fr.rd' hm.fr (by assumption) | exact Mm.rd_row hm mem_ (by assumption)) (by assumption) | exact r_neqSt (fl := [(true, 0, 5), (true, 1, 22)]) hs rfl rfl rfl tab (by kernel_rfl) (by kernel_rfl) (by kernel_rfl) (by kernel_rfl) rfl)) ?_ | refine oneN hs rfl rfl rfl rfl rfl rfl rfl ?_ | refine oneU hs rfl rfl rfl rfl rfl rfl ?_); clear hs a; intro a hs) | ((with_reducible apply lCons); first | (refine dv hs gw_ rfl rfl da_ ?_; clear hs hm a; rintro _ w ⟨g, rfl, -, hm⟩ a hs) | (refine stn hs rfl rfl ds_ ?_; clear hs hm a; rintro - w hm a hs) ) | (with_reducible first | apply lNilThen | apply lNilBlock | apply lNil | apply wp_seq | apply wp_region_lit | apply wp_block | apply cExit | apply cRet | apply cSkip | apply gThen | apply gBlock | apply eThen | apply eBlockHit | refine eBlock rfl ?_ | apply rThen | apply rBlock) | ((with_reducible apply cCond); first | refine cTrue hs rfl bd_ ?_ | refine cFalse hs rfl bd_ ?_))
        rw [hbb2] at hs
        repeat (first | ((with_reducible refine toL hm ?_); (first | refine oneV hs gw_ rfl rfl (by intro w hm; (first | exact kvR_ | exact r_quo64 hs rfl rfl rfl (by omega) (by omega) | exact r_quo hs rfl rfl rfl (by omega) | exact r_remH hs rfl rfl rfl (by assumption) (by omega) (by omega) | exact r_rem64 hs rfl rfl rfl (by omega) (by omega) | exact r_rem hs rfl rfl rfl (by omega) | exact r_b2s hs rfl rfl tab rfl rfl rfl rfl rfl rfl (by first | exact Fr.rd' hm.fr (by assumption) | exact Mm.rd_row hm mem_ (by assumption)) (by assumption) | exact r_neqSt (fl := [(true, 0, 5), (true, 1, 22)]) hs rfl rfl rfl tab (by kernel_rfl) (by kernel_rfl) (by kernel_rfl) (by kernel_rfl) rfl)) ?_ | refine oneN hs rfl rfl rfl rfl rfl rfl rfl ?_ | refine oneU hs rfl rfl rfl rfl rfl rfl ?_); clear hs a; intro a hs) | ((with_reducible apply lCons); first | (refine dv hs gw_ rfl rfl da_ ?_; clear hs hm a; rintro _ w ⟨g, rfl, -, hm⟩ a hs) | (refine stn hs rfl rfl ds_ ?_; clear hs hm a; rintro - w hm a hs) ) | (with_reducible first | apply lNilThen | apply lNilBlock | apply lNil | apply wp_seq | apply wp_region_lit | apply wp_block | apply cExit | apply cRet | apply cSkip | apply gThen | apply gBlock | apply eThen | apply eBlockHit | refine eBlock rfl ?_ | apply rThen | apply rBlock) | ((with_reducible apply cCond); first | refine cTrue hs rfl bd_ ?_ | refine cFalse hs rfl bd_ ?_))
        exact ⟨⟨i + 1, _, q, r, o + nn % 16, a4⟩, by dsimp only; omega, hs.sub (Has.all ⟨rfl, rfl, rfl, rfl, rfl, rfl, rfl, trivial⟩), hm.sub sub_, by dsimp only; omega, hq, u16_bd _⟩
      · skip
        rw [if_neg hk0] at e4
        rw [if_pos (by omega)] at e5
        have c2 := fun w (h : x.ok w) => mov_c x 1 q (nn % 16) true w h (by omega) (by omega)
        rw [e2] at c2
        have c3 := fun w (h : x.ok w) => do_c x 4 1 q 1 v w h (by omega) (by omega) (by omega) (by omega)
        rw [e3] at c3
        have c4 := fun w (h : x.ok w) => do_c x 13 1 v 1 q w h (by omega) (by omega) (by omega) (by omega)
        rw [e4] at c4
        have c5 := fun w (h : x.ok w) => do_c x 14 1 v 1 q w h (by omega) (by omega) (by omega) (by omega)
        rw [e5] at c5
        have c6 := fun w (h : x.ok w) => h.rrsv (v := v) (by omega) w (Fr.refl _ w)
        rw [hp.res] at c6
        have c7 := fun w (h : x.ok w) => h.rrsv (v := q) (by omega) w (Fr.refl _ w)
        rw [hq.res] at c7
        unfold LS.l LS.s dV clV rsvV at *
        dsimp only at c1 c2 c3 c4 c5 c6 c7
        repeat (first | ((with_reducible refine toL hm ?_); (first | refine oneV hs gw_ rfl rfl (by intro w hm; (first | exact kvR_ | exact r_quo64 hs rfl rfl rfl (by omega) (by omega) | exact r_quo hs rfl rfl rfl (by omega) | exact r_remH hs rfl rfl rfl (by assumption) (by omega) (by omega) | exact r_rem64 hs rfl rfl rfl (by omega) (by omega) | exact r_rem hs rfl rfl rfl (by omega) | exact r_b2s hs rfl rfl tab rfl rfl rfl rfl rfl rfl (by first | exact Fr.rd' hm.fr (by assumption) | exact Mm.rd_row hm mem_ (by assumption)) (by assumption) | exact r_neqSt (fl := [(true, 0, 5), (true, 1, 22)]) hs rfl rfl rfl tab (by kernel_rfl) (by kernel_rfl) (by kernel_rfl) (by kernel_rfl) rfl)) ?_ | refine oneN hs rfl rfl rfl rfl rfl rfl rfl ?_ | refine oneU hs rfl rfl rfl rfl rfl rfl ?_); clear hs a; intro a hs) | ((with_reducible apply lCons); first | (refine dv hs gw_ rfl rfl da_ ?_; clear hs hm a; rintro _ w ⟨g, rfl, -, hm⟩ a hs) | (refine stn hs rfl rfl ds_ ?_; clear hs hm a; rintro - w hm a hs) | (refine dv hs gw_ rfl rfl (d_call hs rfl rfl rfl (pl 22 rfl) (c1 _ (hx.own hno hm))) ?_; clear hs a; rintro _ w ⟨rfl, hf⟩ a hs; replace hm := hm.pu hf; clear hf)) | (with_reducible first | apply lNilThen | apply lNilBlock | apply lNil | apply wp_seq | apply wp_region_lit | apply wp_block | apply cExit | apply cRet | apply cSkip | apply gThen | apply gBlock | apply eThen | apply eBlockHit | refine eBlock rfl ?_ | apply rThen | apply rBlock) | ((with_reducible apply cCond); first | refine cTrue hs rfl bd_ ?_ | refine cFalse hs rfl bd_ ?_))
        refine st hs rfl rfl rfl (d_call hs rfl rfl rfl (pl 23 rfl) ((wrd_c gd A n c _ xs _ (Dk.at (hmB.trans hm) mem_ hl hrx hn63)))) ?_; clear hs a; rintro _ w1 ⟨y, rfl, hy, a4, k4, hf⟩ a hs
        replace hm := hm.dkt rep_ k4 hf
        clear hf
        repeat (first | ((with_reducible refine toL hm ?_); (first | refine oneV hs gw_ rfl rfl (by intro w hm; (first | exact kvR_ | exact r_quo64 hs rfl rfl rfl (by omega) (by omega) | exact r_quo hs rfl rfl rfl (by omega) | exact r_remH hs rfl rfl rfl (by assumption) (by omega) (by omega) | exact r_rem64 hs rfl rfl rfl (by omega) (by omega) | exact r_rem hs rfl rfl rfl (by omega) | exact r_b2s hs rfl rfl tab rfl rfl rfl rfl rfl rfl (by first | exact Fr.rd' hm.fr (by assumption) | exact Mm.rd_row hm mem_ (by assumption)) (by assumption) | exact r_neqSt (fl := [(true, 0, 5), (true, 1, 22)]) hs rfl rfl rfl tab (by kernel_rfl) (by kernel_rfl) (by kernel_rfl) (by kernel_rfl) rfl)) ?_ | refine oneN hs rfl rfl rfl rfl rfl rfl rfl ?_ | refine oneU hs rfl rfl rfl rfl rfl rfl ?_); clear hs a; intro a hs) | ((with_reducible apply lCons); first | (refine dv hs gw_ rfl rfl da_ ?_; clear hs hm a; rintro _ w ⟨g, rfl, -, hm⟩ a hs) | (refine stn hs rfl rfl ds_ ?_; clear hs hm a; rintro - w hm a hs) | (refine dv hs gw_ rfl rfl (d_call hs rfl rfl rfl (pl 22 rfl) (c2 _ (hx.own hno hm))) ?_; clear hs a; rintro _ w ⟨rfl, hf⟩ a hs; replace hm := hm.pu hf; clear hf) | (refine dv hs gw_ rfl rfl (d_call hs rfl rfl rfl (pl 13 rfl) (c3 _ (hx.own hno hm))) ?_; clear hs a; rintro _ w ⟨rfl, hf⟩ a hs; replace hm := hm.pu hf; clear hf) | (refine dv hs gw_ rfl rfl (d_call hs rfl rfl rfl (pl 13 rfl) (c4 _ (hx.own hno hm))) ?_; clear hs a; rintro _ w ⟨rfl, hf⟩ a hs; replace hm := hm.pu hf; clear hf) | (refine dv hs gw_ rfl rfl (d_call hs rfl rfl rfl (pl 13 rfl) (c5 _ (hx.own hno hm))) ?_; clear hs a; rintro _ w ⟨rfl, hf⟩ a hs; replace hm := hm.pu hf; clear hf) | (refine dv hs gw_ rfl rfl (d_call hs rfl rfl rfl (pl 24 rfl) (c6 _ (hx.own hno hm))) ?_; clear hs a; rintro _ w ⟨rfl, hf⟩ a hs; replace hm := hm.pu hf; clear hf) | (refine dv hs gw_ rfl rfl (d_call hs rfl rfl rfl (pl 24 rfl) (c7 _ (hx.own hno hm))) ?_; clear hs a; rintro _ w ⟨rfl, hf⟩ a hs; replace hm := hm.pu hf; clear hf)) | (with_reducible first | apply lNilThen | apply lNilBlock | apply lNil | apply wp_seq | apply wp_region_lit | apply wp_block | apply cExit | apply cRet | apply cSkip | apply gThen | apply gBlock | apply eThen | apply eBlockHit | refine eBlock rfl ?_ | apply rThen | apply rBlock) | ((with_reducible apply cCond); first | refine cTrue hs rfl bd_ ?_ | refine cFalse hs rfl bd_ ?_))
        rw [hbb1] at hs
        repeat (first | ((with_reducible refine toL hm ?_); (first | refine oneV hs gw_ rfl rfl (by intro w hm; (first | exact kvR_ | exact r_quo64 hs rfl rfl rfl (by omega) (by omega) | exact r_quo hs rfl rfl rfl (by omega) | exact r_remH hs rfl rfl rfl (by assumption) (by omega) (by omega) | exact r_rem64 hs rfl rfl rfl (by omega) (by omega) | exact r_rem hs rfl rfl rfl (by omega) | exact r_b2s hs rfl rfl tab rfl rfl rfl rfl rfl rfl (by first | exact Fr.rd' hm.fr (by assumption) | exact Mm.rd_row hm mem_ (by assumption)) (by assumption) | exact r_neqSt (fl := [(true, 0, 5), (true, 1, 22)]) hs rfl rfl rfl tab (by kernel_rfl) (by kernel_rfl) (by kernel_rfl) (by kernel_rfl) rfl)) ?_ | refine oneN hs rfl rfl rfl rfl rfl rfl rfl ?_ | refine oneU hs rfl rfl rfl rfl rfl rfl ?_); clear hs a; intro a hs) | ((with_reducible apply lCons); first | (refine dv hs gw_ rfl rfl da_ ?_; clear hs hm a; rintro _ w ⟨g, rfl, -, hm⟩ a hs) | (refine stn hs rfl rfl ds_ ?_; clear hs hm a; rintro - w hm a hs) ) | (with_reducible first | apply lNilThen | apply lNilBlock | apply lNil | apply wp_seq | apply wp_region_lit | apply wp_block | apply cExit | apply cRet | apply cSkip | apply gThen | apply gBlock | apply eThen | apply eBlockHit | refine eBlock rfl ?_ | apply rThen | apply rBlock) | ((with_reducible apply cCond); first | refine cTrue hs rfl bd_ ?_ | refine cFalse hs rfl bd_ ?_))
        rw [hbb2] at hs
        repeat (first | ((with_reducible refine toL hm ?_); (first | refine oneV hs gw_ rfl rfl (by intro w hm; (first | exact kvR_ | exact r_quo64 hs rfl rfl rfl (by omega) (by omega) | exact r_quo hs rfl rfl rfl (by omega) | exact r_remH hs rfl rfl rfl (by assumption) (by omega) (by omega) | exact r_rem64 hs rfl rfl rfl (by omega) (by omega) | exact r_rem hs rfl rfl rfl (by omega) | exact r_b2s hs rfl rfl tab rfl rfl rfl rfl rfl rfl (by first | exact Fr.rd' hm.fr (by assumption) | exact Mm.rd_row hm mem_ (by assumption)) (by assumption) | exact r_neqSt (fl := [(true, 0, 5), (true, 1, 22)]) hs rfl rfl rfl tab (by kernel_rfl) (by kernel_rfl) (by kernel_rfl) (by kernel_rfl) rfl)) ?_ | refine oneN hs rfl rfl rfl rfl rfl rfl rfl ?_ | refine oneU hs rfl rfl rfl rfl rfl rfl ?_); clear hs a; intro a hs) | ((with_reducible apply lCons); first | (refine dv hs gw_ rfl rfl da_ ?_; clear hs hm a; rintro _ w ⟨g, rfl, -, hm⟩ a hs) | (refine stn hs rfl rfl ds_ ?_; clear hs hm a; rintro - w hm a hs) ) | (with_reducible first | apply lNilThen | apply lNilBlock | apply lNil | apply wp_seq | apply wp_region_lit | apply wp_block | apply cExit | apply cRet | apply cSkip | apply gThen | apply gBlock | apply eThen | apply eBlockHit | refine eBlock rfl ?_ | apply rThen | apply rBlock) | ((with_reducible apply cCond); first | refine cTrue hs rfl bd_ ?_ | refine cFalse hs rfl bd_ ?_))
        exact ⟨⟨i + 1, _, q, r, o + nn % 16, a4⟩, by dsimp only; omega, hs.sub (Has.all ⟨rfl, rfl, rfl, rfl, rfl, rfl, rfl, trivial⟩), hm.sub sub_, by dsimp only; omega, hq, u16_bd _⟩
  · repeat (first | ((with_reducible refine toL hm ?_); (first | refine oneV hs gw_ rfl rfl (by intro w hm; (first | exact kvR_ | exact r_quo64 hs rfl rfl rfl (by omega) (by omega) | exact r_quo hs rfl rfl rfl (by omega) | exact r_remH hs rfl rfl rfl (by assumption) (by omega) (by omega) | exact r_rem64 hs rfl rfl rfl (by omega) (by omega) | exact r_rem hs rfl rfl rfl (by omega) | exact r_b2s hs rfl rfl tab rfl rfl rfl rfl rfl rfl (by first | exact Fr.rd' hm.fr (by assumption) | exact Mm.rd_row hm mem_ (by assumption)) (by assumption) | exact r_neqSt (fl := [(true, 0, 5), (true, 1, 22)]) hs rfl rfl rfl tab (by kernel_rfl) (by kernel_rfl) (by kernel_rfl) (by kernel_rfl) rfl)) ?_ | refine oneN hs rfl rfl rfl rfl rfl rfl rfl ?_ | refine oneU hs rfl rfl rfl rfl rfl rfl ?_); clear hs a; intro a hs) | ((with_reducible apply lCons); first | (refine dv hs gw_ rfl rfl da_ ?_; clear hs hm a; rintro _ w ⟨g, rfl, -, hm⟩ a hs) | (refine stn hs rfl rfl ds_ ?_; clear hs hm a; rintro - w hm a hs) | (refine dv hs gw_ rfl rfl (d_call hs rfl rfl rfl (pl 15 rfl) (awk_c _)) ?_; clear hs a; rintro _ w ⟨rfl, hf⟩ a hs; replace hm := hm.pu hf; clear hf)) | (with_reducible first | apply lNilThen | apply lNilBlock | apply lNil | apply wp_seq | apply wp_region_lit | apply wp_block | apply cExit | apply cRet | apply cSkip | apply gThen | apply gBlock | apply eThen | apply eBlockHit | refine eBlock rfl ?_ | apply rThen | apply rBlock) | ((with_reducible apply cCond); first | refine cTrue hs rfl bd_ ?_ | refine cFalse hs rfl bd_ ?_))
    exact gRet1 hs rfl rfl ⟨rfl, ((hmB.trans hm).pu (Fr.refl _ _)).fr⟩
theorem walk_AluPointers (A : Option Addr) (n c : Nat) (xs : List Int) (nn : Int) (w : World) (h : IsInts .i64 w A n c xs) (h0 : (Lit.int .u16 nn).wf = true) : Calls Try.prog 5 #[.slice A n c, .int .u16 nn] w (fun e w' => e = .returned (.bool true) ∧ Pu w w') :=
  (ptr_c nn A n c xs w h (by simpa [Lit.wf, IntKind.min, IntKind.max, IntKind.signed, IntKind.bits] using h0)).law
end Go.Proofs.Ytfcimpfhfbkgbaa
