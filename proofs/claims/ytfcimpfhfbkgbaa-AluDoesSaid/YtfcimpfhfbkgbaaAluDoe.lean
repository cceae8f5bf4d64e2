/- AluDoes: the walk. -/
import Derived.Test.YtfcimpfhfbkgbaaPro9
import Derived.Test.YtfcimpfhfbkgbaaLay10
namespace Go.Proofs.Ytfcimpfhfbkgbaa
open Go.RowKit





set_option maxHeartbeats 16000000 in
theorem does_c (tb vb tc vc op : Int) (A : Option Addr) (n c : Nat) (xs : List Int) (w0 : World) (hb : (0 ≤ tb ∧ tb ≤ 255) ∧ 0 ≤ vb ∧ vb ≤ 65535) (hc : (0 ≤ tc ∧ tc ≤ 255) ∧ 0 ≤ vc ∧ vc ≤ 65535) (hI : IsInts .i64 w0 A n c xs) :
    Ret Try.prog 3 [clV tb vb, clV tc vc, .slice A n c, .int .i64 op] w0 (fun v w' => v = .bool true ∧ Pu w0 w') := by
  obtain ⟨hl, hnc, hc63, hrx, hwx⟩ := hI
  have hn63 := r_of64 hnc hc63
  have hcl := fun gd at_ (x : LS) w (h : Dk gd A n c at_ xs w) (hx : x.ok w) (hne : x.ne gd) (h1n : 1 ≤ x.n) => cll_c gd A n c at_ xs x w h hx hne h1n
  unfold LS.l LS.s at hcl
  unfold clV
  refine enterR Try.func3 rfl rfl rfl fun a hs hm => ?_
  repeat (first | ((with_reducible refine toL hm ?_); (first | refine oneV hs gw_ rfl rfl (by intro w hm; (first | exact kvR_ | exact r_remH hs rfl rfl rfl (by assumption) (by omega) (by omega) | exact r_rem64 hs rfl rfl rfl (by omega) (by omega) | exact r_rem hs rfl rfl rfl (by omega) | exact r_neqSt (fl := [(true, 0, 5), (true, 1, 22)]) hs rfl rfl rfl tab (by kernel_rfl) (by kernel_rfl) (by kernel_rfl) (by kernel_rfl) rfl | exact r_eqlSt (fl := [(true, 0, 5), (true, 1, 22)]) hs rfl rfl rfl tab (by kernel_rfl) (by kernel_rfl) (by kernel_rfl) (by kernel_rfl) rfl)) ?_ | refine oneN hs rfl rfl rfl rfl rfl rfl rfl ?_ | refine oneU hs rfl rfl rfl rfl rfl rfl ?_); clear hs a; intro a hs) | ((with_reducible apply lCons); first | (refine dv hs gw_ rfl rfl da_ ?_; clear hs hm a; rintro _ w ⟨g, rfl, -, hm⟩ a hs) | (refine stn hs rfl rfl ds_ ?_; clear hs hm a; rintro - w hm a hs) ) | (with_reducible first | apply lNilThen | apply lNilBlock | apply lNil | apply wp_seq | apply wp_region_lit | apply wp_block | apply cExit | apply cRet | apply cSkip | apply gThen | apply gBlock | apply eThen | apply eBlockHit | refine eBlock rfl ?_ | apply rThen | apply rBlock) | ((with_reducible apply cCond); first | refine cTrue hs rfl bd_ ?_ | refine cFalse hs rfl bd_ ?_))
  have hrA := hm.fr.rd' hrx
  refine st hs rfl rfl rfl (d_call hs rfl rfl rfl (pl 9 rfl) ((mk_c A n c _))) ?_; clear hs a; rintro _ w1 ⟨gd, rfl, hN, hf⟩ a hs
  have hD := Dk.start hl hrA hn63 hN hf
  replace hm := hm.gain hf hN
  clear hN hf hrA
  repeat (first | ((with_reducible refine toL hm ?_); (first | refine oneV hs gw_ rfl rfl (by intro w hm; (first | exact kvR_ | exact r_remH hs rfl rfl rfl (by assumption) (by omega) (by omega) | exact r_rem64 hs rfl rfl rfl (by omega) (by omega) | exact r_rem hs rfl rfl rfl (by omega) | exact r_neqSt (fl := [(true, 0, 5), (true, 1, 22)]) hs rfl rfl rfl tab (by kernel_rfl) (by kernel_rfl) (by kernel_rfl) (by kernel_rfl) rfl | exact r_eqlSt (fl := [(true, 0, 5), (true, 1, 22)]) hs rfl rfl rfl tab (by kernel_rfl) (by kernel_rfl) (by kernel_rfl) (by kernel_rfl) rfl)) ?_ | refine oneN hs rfl rfl rfl rfl rfl rfl rfl ?_ | refine oneU hs rfl rfl rfl rfl rfl rfl ?_); clear hs a; intro a hs) | ((with_reducible apply lCons); first | (refine dv hs gw_ rfl rfl da_ ?_; clear hs hm a; rintro _ w ⟨g, rfl, -, hm⟩ a hs) | (refine stn hs rfl rfl ds_ ?_; clear hs hm a; rintro - w hm a hs) ) | (with_reducible first | apply lNilThen | apply lNilBlock | apply lNil | apply wp_seq | apply wp_region_lit | apply wp_block | apply cExit | apply cRet | apply cSkip | apply gThen | apply gBlock | apply eThen | apply eBlockHit | refine eBlock rfl ?_ | apply rThen | apply rBlock) | ((with_reducible apply cCond); first | refine cTrue hs rfl bd_ ?_ | refine cFalse hs rfl bd_ ?_))
  refine st hs rfl rfl rfl (d_call hs rfl rfl rfl (pl 10 rfl) ((siz_c gd A n c 0 xs _ hD))) ?_; clear hs a; rintro _ w2 ⟨gs, m, ms, ss, rfl, hsl, hSz, hrs, hgs, a1, k1, hf⟩ a hs
  have hneS : ∀ b o, (some ⟨gs, 0, none⟩ : Option Addr) = some ⟨b, o, none⟩ → b ≠ gd := fun b o e hb => hm.notown hgs ⟨_, List.Mem.head _, by cases e; rw [hb]; rfl⟩
  have hnoS := fun M' (r : Rep _ (dk gd A n c 0) (dk gd A n c a1) M') h => hm.notown hgs (own_rep r rfl h)
  replace hm := hm.dkt (Rep.head _ _ _) k1 hf
  clear hf hD hgs
  replace hnoS := hnoS _ (Rep.head _ _ _)
  have hmB := hm
  clear hm
  have hm := hmB.rebase
  repeat (first | ((with_reducible refine toL hm ?_); (first | refine oneV hs gw_ rfl rfl (by intro w hm; (first | exact kvR_ | exact r_remH hs rfl rfl rfl (by assumption) (by omega) (by omega) | exact r_rem64 hs rfl rfl rfl (by omega) (by omega) | exact r_rem hs rfl rfl rfl (by omega) | exact r_neqSt (fl := [(true, 0, 5), (true, 1, 22)]) hs rfl rfl rfl tab (by kernel_rfl) (by kernel_rfl) (by kernel_rfl) (by kernel_rfl) rfl | exact r_eqlSt (fl := [(true, 0, 5), (true, 1, 22)]) hs rfl rfl rfl tab (by kernel_rfl) (by kernel_rfl) (by kernel_rfl) (by kernel_rfl) rfl)) ?_ | refine oneN hs rfl rfl rfl rfl rfl rfl rfl ?_ | refine oneU hs rfl rfl rfl rfl rfl rfl ?_); clear hs a; intro a hs) | ((with_reducible apply lCons); first | (refine dv hs gw_ rfl rfl da_ ?_; clear hs hm a; rintro _ w ⟨g, rfl, -, hm⟩ a hs) | (refine stn hs rfl rfl ds_ ?_; clear hs hm a; rintro - w hm a hs) ) | (with_reducible first | apply lNilThen | apply lNilBlock | apply lNil | apply wp_seq | apply wp_region_lit | apply wp_block | apply cExit | apply cRet | apply cSkip | apply gThen | apply gBlock | apply eThen | apply eBlockHit | refine eBlock rfl ?_ | apply rThen | apply rBlock) | ((with_reducible apply cCond); first | refine cTrue hs rfl bd_ ?_ | refine cFalse hs rfl bd_ ?_))
  refine st hs rfl rfl rfl (d_call hs rfl rfl rfl (pl 11 rfl) ((lay_c gd A n c a1 xs (some ⟨gs, 0, none⟩) m ms ss _ k1 hsl hSz hrs hneS))) ?_; clear hs a; rintro _ w3 ⟨x, rfl, hLy, a2, k2, hf⟩ a hs
  have hnoA := fun b o (e : x.A = some ⟨b, o, none⟩) => hm.notown (hLy.new b o e)
  replace hm := hm.dkt (Rep.head _ _ _) k2 hf
  obtain ⟨rfl, rfl, hxB, rfl, hx, hap, -⟩ := hLy
  have hxn : 1 ≤ x.n := by have := hSz.one; rw [hx.sl] at this; exact this
  have hno : x.no _ := LS.no.rep (M := _) ⟨hnoA, fun b o e => by rw [hxB] at e; cases e; exact hnoS⟩ (Rep.head _ _ (dk gd A n c a2)) rfl
  rw [← hxB] at hs
  replace hmB := hmB.trans hm
  clear hm hf hnoA hnoS hneS hrs k1
  have hneg : x.ne gd := hno.ne (List.Mem.head _)
  obtain ⟨M3, hpk⟩ := pack9 hmB hno
  clear hmB hno
  obtain ⟨hmB, hm, hno⟩ := hpk
  unfold LS.l at hs
  repeat (first | ((with_reducible refine toL hm ?_); (first | refine oneV hs gw_ rfl rfl (by intro w hm; (first | exact kvR_ | exact r_remH hs rfl rfl rfl (by assumption) (by omega) (by omega) | exact r_rem64 hs rfl rfl rfl (by omega) (by omega) | exact r_rem hs rfl rfl rfl (by omega) | exact r_neqSt (fl := [(true, 0, 5), (true, 1, 22)]) hs rfl rfl rfl tab (by kernel_rfl) (by kernel_rfl) (by kernel_rfl) (by kernel_rfl) rfl | exact r_eqlSt (fl := [(true, 0, 5), (true, 1, 22)]) hs rfl rfl rfl tab (by kernel_rfl) (by kernel_rfl) (by kernel_rfl) (by kernel_rfl) rfl)) ?_ | refine oneN hs rfl rfl rfl rfl rfl rfl rfl ?_ | refine oneU hs rfl rfl rfl rfl rfl rfl ?_); clear hs a; intro a hs) | ((with_reducible apply lCons); first | (refine dv hs gw_ rfl rfl da_ ?_; clear hs hm a; rintro _ w ⟨g, rfl, -, hm⟩ a hs) | (refine stn hs rfl rfl ds_ ?_; clear hs hm a; rintro - w hm a hs) ) | (with_reducible first | apply lNilThen | apply lNilBlock | apply lNil | apply wp_seq | apply wp_region_lit | apply wp_block | apply cExit | apply cRet | apply cSkip | apply gThen | apply gBlock | apply eThen | apply eBlockHit | refine eBlock rfl ?_ | apply rThen | apply rBlock) | ((with_reducible apply cCond); first | refine cTrue hs rfl bd_ ?_ | refine cFalse hs rfl bd_ ?_))
  obtain ⟨g4, en_⟩ := hs.pt 4 (by exact rfl); subst en_
  obtain ⟨g5, en_⟩ := hs.pt 5 (by exact rfl); subst en_
  obtain ⟨g11, en_⟩ := hs.pt 11 (by exact rfl); subst en_
  refine cMid (fun a w => Sl Try.f3.ntmps [(9, .pointer (some ⟨gd, 0, none⟩)), (3, .int .i64 op), (4, .pointer (some ⟨g4, 0, none⟩)), (5, .pointer (some ⟨g5, 0, none⟩)), (8, .bool false), (10, .slice x.B x.n x.d), (11, .pointer (some ⟨g11, 0, none⟩))] a ∧ Mm (own M3) w3 [⟨some g11, 30, [.slice x.A x.n x.c, .int .u16 x.key]⟩, dk gd A n c a2, ⟨some g5, 24, [.int .u8 (tc % 3), .int .u16 vc]⟩, ⟨some g4, 24, [.int .u8 (tb % 3), .int .u16 vb]⟩] w) ?_ ?_
  · skip
    refine cDraw (n := 10) [] hm rfl rfl ?_
    clear hm
    intro w2 hm
    refine hTake 0 hs rfl (by kernel_rfl) (Wnt.none rfl) rfl rfl (by intro w hm; replace hm : Mm _ _ _ w := hm; exact r_val hs tab rfl) (hm.sub (List.nil_sublist _)) ?_; clear hs a; intro a hs
    refine hTake 3 hs rfl (by kernel_rfl) (Wnt.none rfl) rfl rfl (by intro w hm; replace hm : Mm _ _ _ w := hm; exact r_val hs tab rfl) (hm.sub (List.nil_sublist _)) ?_; clear hs a; intro a hs
    refine hEach [1, 4] (by kernel_rfl) (eDo hs rfl (Wnt.none rfl) rfl rfl (RunV.does kvR_) ?_ (eDo hs rfl (Wnt.none rfl) rfl rfl (RunV.does kvR_) ?_ eNil))
    · skip
      clear hs a
      rintro _ _ ⟨rfl, rfl⟩ a hs
      refine ⟨hm.sub sub_, ?_⟩
      refine hTake 2 hs rfl (by kernel_rfl) (Wnt.none rfl) rfl rfl (by intro w hm; replace hm : Mm _ _ _ w := hm; (first | exact r_remH hs rfl rfl rfl (by assumption) (by omega) (by omega) | exact r_rem64 hs rfl rfl rfl (by omega) (by omega) | exact r_rem hs rfl rfl rfl (by omega) | exact r_bi hs rfl)) (hm.sub (List.nil_sublist _)) ?_; clear hs a; intro a hs
      refine hTake 6 hs rfl (by kernel_rfl) (Wnt.none rfl) rfl rfl (by intro w hm; replace hm : Mm _ _ _ w := hm; exact r_val hs tab rfl) (hm.sub (List.nil_sublist _)) ?_; clear hs a; intro a hs
      refine hEach [4, 7] (by kernel_rfl) (eDo hs rfl (Wnt.none rfl) rfl rfl (RunV.does kvR_) ?_ (eDoN hs rfl (Wnt.none rfl) rfl (by exact d_store hs rfl rfl rfl tab rfl rfl rfl rfl hm rep_ rfl) ?_ eNil))
      · skip
        clear hs a
        rintro _ _ ⟨rfl, rfl⟩ a hs
        refine ⟨hm.sub sub_, ?_⟩
        refine hTake 5 hs rfl (by kernel_rfl) (Wnt.none rfl) rfl rfl (by intro w hm; replace hm : Mm _ _ _ w := hm; (first | exact r_remH hs rfl rfl rfl (by assumption) (by omega) (by omega) | exact r_rem64 hs rfl rfl rfl (by omega) (by omega) | exact r_rem hs rfl rfl rfl (by omega) | exact r_bi hs rfl)) (hm.sub (List.nil_sublist _)) ?_; clear hs a; intro a hs
        refine hEach [7] (by kernel_rfl) (eDoN hs rfl (Wnt.none rfl) rfl (by exact d_store hs rfl rfl rfl tab rfl rfl rfl rfl hm rep_ rfl) ?_ eNil)
        clear hs hm
        rintro - w27 hm a hs
        refine ⟨hm.sub sub_, ?_⟩
        refine hTake 8 hs rfl (by kernel_rfl) (Wnt.none rfl) rfl rfl (by intro w hm; replace hm : Mm _ _ _ w := hm; exact r_val hs tab rfl) (hm.sub (List.nil_sublist _)) ?_; clear hs a; intro a hs
        refine hEach [9] (by kernel_rfl) (eDoN hs rfl (Wnt.none rfl) rfl (by exact d_store hs rfl rfl rfl tab rfl rfl rfl rfl hm rep_ rfl) ?_ eNil)
        clear hs hm
        rintro - w29 hm a hs
        refine ⟨hm.sub sub_, ?_⟩
        refine hDone (by kernel_rfl) ?_
        exact And.intro rfl ⟨hs.sub (Has.all ⟨rfl, rfl, rfl, rfl, rfl, rfl, rfl, trivial⟩), hm⟩
      · skip
        clear hs hm
        rintro - w27 hm a hs
        refine ⟨hm.sub sub_, ?_⟩
        refine hEach [4] (by kernel_rfl) (eDo hs rfl (Wnt.none rfl) rfl rfl (RunV.does kvR_) ?_ eNil)
        clear hs a
        rintro _ _ ⟨rfl, rfl⟩ a hs
        refine ⟨hm.sub sub_, ?_⟩
        refine hTake 5 hs rfl (by kernel_rfl) (Wnt.none rfl) rfl rfl (by intro w hm; replace hm : Mm _ _ _ w := hm; (first | exact r_remH hs rfl rfl rfl (by assumption) (by omega) (by omega) | exact r_rem64 hs rfl rfl rfl (by omega) (by omega) | exact r_rem hs rfl rfl rfl (by omega) | exact r_bi hs rfl)) (hm.sub (List.nil_sublist _)) ?_; clear hs a; intro a hs
        refine hTake 8 hs rfl (by kernel_rfl) (Wnt.none rfl) rfl rfl (by intro w hm; replace hm : Mm _ _ _ w := hm; exact r_val hs tab rfl) (hm.sub (List.nil_sublist _)) ?_; clear hs a; intro a hs
        refine hEach [9] (by kernel_rfl) (eDoN hs rfl (Wnt.none rfl) rfl (by exact d_store hs rfl rfl rfl tab rfl rfl rfl rfl hm rep_ rfl) ?_ eNil)
        clear hs hm
        rintro - w29 hm a hs
        refine ⟨hm.sub sub_, ?_⟩
        refine hDone (by kernel_rfl) ?_
        exact And.intro rfl ⟨hs.sub (Has.all ⟨rfl, rfl, rfl, rfl, rfl, rfl, rfl, trivial⟩), hm⟩
    · skip
      clear hs a
      rintro _ _ ⟨rfl, rfl⟩ a hs
      refine ⟨hm.sub sub_, ?_⟩
      refine hTake 5 hs rfl (by kernel_rfl) (Wnt.none rfl) rfl rfl (by intro w hm; replace hm : Mm _ _ _ w := hm; (first | exact r_remH hs rfl rfl rfl (by assumption) (by omega) (by omega) | exact r_rem64 hs rfl rfl rfl (by omega) (by omega) | exact r_rem hs rfl rfl rfl (by omega) | exact r_bi hs rfl)) (hm.sub (List.nil_sublist _)) ?_; clear hs a; intro a hs
      refine hEach [1] (by kernel_rfl) (eDo hs rfl (Wnt.none rfl) rfl rfl (RunV.does kvR_) ?_ eNil)
      clear hs a
      rintro _ _ ⟨rfl, rfl⟩ a hs
      refine ⟨hm.sub sub_, ?_⟩
      refine hTake 2 hs rfl (by kernel_rfl) (Wnt.none rfl) rfl rfl (by intro w hm; replace hm : Mm _ _ _ w := hm; (first | exact r_remH hs rfl rfl rfl (by assumption) (by omega) (by omega) | exact r_rem64 hs rfl rfl rfl (by omega) (by omega) | exact r_rem hs rfl rfl rfl (by omega) | exact r_bi hs rfl)) (hm.sub (List.nil_sublist _)) ?_; clear hs a; intro a hs
      refine hTake 6 hs rfl (by kernel_rfl) (Wnt.none rfl) rfl rfl (by intro w hm; replace hm : Mm _ _ _ w := hm; exact r_val hs tab rfl) (hm.sub (List.nil_sublist _)) ?_; clear hs a; intro a hs
      refine hEach [7] (by kernel_rfl) (eDoN hs rfl (Wnt.none rfl) rfl (by exact d_store hs rfl rfl rfl tab rfl rfl rfl rfl hm rep_ rfl) ?_ eNil)
      clear hs hm
      rintro - w27 hm a hs
      refine ⟨hm.sub sub_, ?_⟩
      refine hTake 8 hs rfl (by kernel_rfl) (Wnt.none rfl) rfl rfl (by intro w hm; replace hm : Mm _ _ _ w := hm; exact r_val hs tab rfl) (hm.sub (List.nil_sublist _)) ?_; clear hs a; intro a hs
      refine hEach [9] (by kernel_rfl) (eDoN hs rfl (Wnt.none rfl) rfl (by exact d_store hs rfl rfl rfl tab rfl rfl rfl rfl hm rep_ rfl) ?_ eNil)
      clear hs hm
      rintro - w29 hm a hs
      refine ⟨hm.sub sub_, ?_⟩
      refine hDone (by kernel_rfl) ?_
      exact And.intro rfl ⟨hs.sub (Has.all ⟨rfl, rfl, rfl, rfl, rfl, rfl, rfl, trivial⟩), hm⟩
  clear hs hm a
  rintro a w ⟨hs, hm⟩
  repeat (first | ((with_reducible refine toL hm ?_); (first | refine oneV hs gw_ rfl rfl (by intro w hm; (first | exact kvR_ | exact r_remH hs rfl rfl rfl (by assumption) (by omega) (by omega) | exact r_rem64 hs rfl rfl rfl (by omega) (by omega) | exact r_rem hs rfl rfl rfl (by omega) | exact r_neqSt (fl := [(true, 0, 5), (true, 1, 22)]) hs rfl rfl rfl tab (by kernel_rfl) (by kernel_rfl) (by kernel_rfl) (by kernel_rfl) rfl | exact r_eqlSt (fl := [(true, 0, 5), (true, 1, 22)]) hs rfl rfl rfl tab (by kernel_rfl) (by kernel_rfl) (by kernel_rfl) (by kernel_rfl) rfl)) ?_ | refine oneN hs rfl rfl rfl rfl rfl rfl rfl ?_ | refine oneU hs rfl rfl rfl rfl rfl rfl ?_); clear hs a; intro a hs) | ((with_reducible apply lCons); first | (refine dv hs gw_ rfl rfl da_ ?_; clear hs hm a; rintro _ w ⟨g, rfl, -, hm⟩ a hs) | (refine stn hs rfl rfl ds_ ?_; clear hs hm a; rintro - w hm a hs) ) | (with_reducible first | apply lNilThen | apply lNilBlock | apply lNil | apply wp_seq | apply wp_region_lit | apply wp_block | apply cExit | apply cRet | apply cSkip | apply gThen | apply gBlock | apply eThen | apply eBlockHit | refine eBlock rfl ?_ | apply rThen | apply rBlock) | ((with_reducible apply cCond); first | refine cTrue hs rfl bd_ ?_ | refine cFalse hs rfl bd_ ?_))
  obtain ⟨ttb, htb⟩ : ∃ z, tb % 3 = z := ⟨_, rfl⟩
  obtain ⟨ttc, htc⟩ : ∃ z, tc % 3 = z := ⟨_, rfl⟩
  rw [htb, htc] at hm
  have ht0 : ttb = 0 ∨ ttb = 1 ∨ ttb = 2 := by omega
  have ht5 : ttc = 0 ∨ ttc = 1 ∨ ttc = 2 := by omega
  refine cMid (fun a w => ∃ (t1 v1 t2 v2 t3 v3 t4 v4 : Int) (g58 a9 : Nat), (t1 = 0 ∨ t1 = 1 ∨ t1 = 2) ∧ (0 ≤ v1 ∧ v1 ≤ 65535) ∧ (t2 = 0 ∨ t2 = 1 ∨ t2 = 2) ∧ (0 ≤ v2 ∧ v2 ≤ 65535) ∧ (t3 = 0 ∨ t3 = 1 ∨ t3 = 2) ∧ (0 ≤ v3 ∧ v3 ≤ 65535) ∧ (t4 = 0 ∨ t4 = 1 ∨ t4 = 2) ∧ (0 ≤ v4 ∧ v4 ≤ 65535) ∧ Sl Try.f3.ntmps [(3, .int .i64 op), (4, .pointer (some ⟨g4, 0, none⟩)), (5, .pointer (some ⟨g5, 0, none⟩)), (8, .bool false), (10, .slice x.B x.n x.d), (11, .pointer (some ⟨g11, 0, none⟩)), (12, .slice (some ⟨g58, 0, none⟩) 6 6)] a ∧ Mm (own M3) w3 [⟨some g58, 24, [.int .u8 ttb, .int .u16 vb, .int .u8 ttc, .int .u16 vc, .int .u8 t1, .int .u16 v1, .int .u8 t2, .int .u16 v2, .int .u8 t3, .int .u16 v3, .int .u8 t4, .int .u16 v4]⟩, ⟨some g11, 30, [.slice x.A x.n x.c, .int .u16 x.key]⟩, dk gd A n c a9, ⟨some g5, 24, [.int .u8 ttc, .int .u16 vc]⟩, ⟨some g4, 24, [.int .u8 ttb, .int .u16 vb]⟩] w) ?_ ?_
  · skip
    refine cDraw (n := 20) [⟨some g11, 30, [.slice x.A x.n x.c, .int .u16 x.key]⟩, ⟨some g5, 24, [.int .u8 ttc, .int .u16 vc]⟩, ⟨some g4, 24, [.int .u8 ttb, .int .u16 vb]⟩] hm rfl rfl ?_
    clear hm
    intro w2 hm
    refine hTake 0 hs rfl (by kernel_rfl) (Wnt.none rfl) rfl rfl (by intro w hm; replace hm : Mm _ _ _ w := hm; exact klR_) (hm.sub sub_) ?_; clear hs a; intro a hs
    refine hTake 1 hs rfl (by kernel_rfl) (Wnt.none rfl) rfl rfl (by intro w hm; replace hm : Mm _ _ _ w := hm; exact klR_) (hm.sub sub_) ?_; clear hs a; intro a hs
    refine hTake 2 hs rfl (by kernel_rfl) (Wnt.none rfl) rfl rfl (by intro w hm; replace hm : Mm _ _ _ w := hm; exact r_val hs tab rfl) (hm.sub sub_) ?_; clear hs a; intro a hs
    refine hTake 3 hs rfl (by kernel_rfl) (Wnt.none rfl) rfl rfl (by intro w hm; replace hm : Mm _ _ _ w := hm; exact klR_) (hm.sub sub_) ?_; clear hs a; intro a hs
    refine hTake 4 hs rfl (by kernel_rfl) (Wnt.none rfl) rfl rfl (by intro w hm; replace hm : Mm _ _ _ w := hm; exact r_val hs tab rfl) (hm.sub sub_) ?_; clear hs a; intro a hs
    refine hTake 6 hs rfl (by kernel_rfl) (Wnt.none rfl) rfl rfl (by intro w hm; replace hm : Mm _ _ _ w := hm; exact r_val hs tab rfl) (hm.sub sub_) ?_; clear hs a; intro a hs
    refine hTake 7 hs rfl (by kernel_rfl) (Wnt.none rfl) rfl rfl (by intro w hm; replace hm : Mm _ _ _ w := hm; exact klR_) (hm.sub sub_) ?_; clear hs a; intro a hs
    refine hTake 8 hs rfl (by kernel_rfl) (Wnt.none rfl) rfl rfl (by intro w hm; replace hm : Mm _ _ _ w := hm; exact r_val hs tab rfl) (hm.sub sub_) ?_; clear hs a; intro a hs
    refine hTake 10 hs rfl (by kernel_rfl) (Wnt.none rfl) rfl rfl (by intro w hm; replace hm : Mm _ _ _ w := hm; exact r_val hs tab rfl) (hm.sub sub_) ?_; clear hs a; intro a hs
    refine hTake 11 hs rfl (by kernel_rfl) (Wnt.none rfl) rfl rfl (by intro w hm; replace hm : Mm _ _ _ w := hm; exact klR_) (hm.sub sub_) ?_; clear hs a; intro a hs
    refine hTake 12 hs rfl (by kernel_rfl) (Wnt.none rfl) rfl rfl (by intro w hm; replace hm : Mm _ _ _ w := hm; exact r_val hs tab rfl) (hm.sub sub_) ?_; clear hs a; intro a hs
    refine hTake 14 hs rfl (by kernel_rfl) (Wnt.none rfl) rfl rfl (by intro w hm; replace hm : Mm _ _ _ w := hm; exact r_val hs tab rfl) (hm.sub sub_) ?_; clear hs a; intro a hs
    refine hTake 15 hs rfl (by kernel_rfl) (Wnt.none rfl) rfl rfl (by intro w hm; replace hm : Mm _ _ _ w := hm; exact klR_) (hm.sub sub_) ?_; clear hs a; intro a hs
    refine hTake 16 hs rfl (by kernel_rfl) (Wnt.none rfl) rfl rfl (by intro w hm; replace hm : Mm _ _ _ w := hm; exact r_val hs tab rfl) (hm.sub sub_) ?_; clear hs a; intro a hs
    refine hEach [5] (by kernel_rfl) (eDo hs rfl (Wnt.none rfl) rfl rfl (by exact d_call hs rfl rfl rfl (pl 12 rfl) ((hcl gd _ x _ (Dk.at (hmB.trans hm) mem_ hl hrx hn63) (hx.own hno hm) hneg hxn))) ?_ eNil)
    clear hs
    rintro _ w1 ⟨t1, v1, rfl, ht1, hv1, a3, k3, hf⟩ a hs
    replace hm := hm.dkt rep_ k3 hf
    clear hf
    refine ⟨hm.sub sub_, ?_⟩
    refine hEach [9] (by kernel_rfl) (eDo hs rfl (Wnt.none rfl) rfl rfl (by exact d_call hs rfl rfl rfl (pl 12 rfl) ((hcl gd _ x _ (Dk.at (hmB.trans hm) mem_ hl hrx hn63) (hx.own hno hm) hneg hxn))) ?_ eNil)
    clear hs
    rintro _ w1 ⟨t2, v2, rfl, ht2, hv2, a4, k4, hf⟩ a hs
    replace hm := hm.dkt rep_ k4 hf
    clear hf
    refine ⟨hm.sub sub_, ?_⟩
    refine hEach [13] (by kernel_rfl) (eDo hs rfl (Wnt.none rfl) rfl rfl (by exact d_call hs rfl rfl rfl (pl 12 rfl) ((hcl gd _ x _ (Dk.at (hmB.trans hm) mem_ hl hrx hn63) (hx.own hno hm) hneg hxn))) ?_ eNil)
    clear hs
    rintro _ w1 ⟨t3, v3, rfl, ht3, hv3, a5, k5, hf⟩ a hs
    replace hm := hm.dkt rep_ k5 hf
    clear hf
    refine ⟨hm.sub sub_, ?_⟩
    refine hEach [17] (by kernel_rfl) (eDo hs rfl (Wnt.none rfl) rfl rfl (by exact d_call hs rfl rfl rfl (pl 12 rfl) ((hcl gd _ x _ (Dk.at (hmB.trans hm) mem_ hl hrx hn63) (hx.own hno hm) hneg hxn))) ?_ eNil)
    clear hs
    rintro _ w1 ⟨t4, v4, rfl, ht4, hv4, a6, k6, hf⟩ a hs
    replace hm := hm.dkt rep_ k6 hf
    clear hf
    refine ⟨hm.sub sub_, ?_⟩
    refine hEach [18] (by kernel_rfl) (eDo hs rfl (Wnt.none rfl) rfl rfl (by exact d_buildSlice hs rfl tab rfl rfl rfl rfl rfl rfl rfl rfl rfl hm) ?_ eNil)
    clear hs hm a
    rintro _ w38 ⟨g58, rfl, -, hm⟩ a hs
    refine ⟨hm.sub sub_, ?_⟩
    refine hTake 19 hs rfl (by kernel_rfl) (Wnt.none rfl) rfl rfl (by intro w hm; replace hm : Mm _ _ _ w := hm; exact r_val hs tab rfl) (hm.sub sub_) ?_; clear hs a; intro a hs
    refine hDone (by kernel_rfl) ?_
    exact And.intro rfl ⟨t1, v1, t2, v2, t3, v3, t4, v4, g58, _, ht1, hv1, ht2, hv2, ht3, hv3, ht4, hv4, hs.sub (Has.all ⟨rfl, rfl, rfl, rfl, rfl, rfl, rfl, trivial⟩), hm⟩
  clear hs hm a
  rintro a w ⟨t1, v1, t2, v2, t3, v3, t4, v4, g58, a9, ht1, hv1, ht2, hv2, ht3, hv3, ht4, hv4, hs, hm⟩
  replace hx := hx.own hno hm
  have hF := (hmB.trans hm).fr
  have q4 := hm.ro (k := 0) (n := 2) (g := g4) mem_ (cutF_ok rfl)
  have q5 := hm.ro (k := 0) (n := 2) (g := g5) mem_ (cutF_ok rfl)
  have q11 := hm.ro (k := 0) (n := 2) (g := g11) mem_ (cutF_ok rfl)
  have r0 := hm.ro (k := (0*2)) (n := 2) (g := g58) mem_ (cutF_ok rfl)
  have r1 := hm.ro (k := (1*2)) (n := 2) (g := g58) mem_ (cutF_ok rfl)
  have r2 := hm.ro (k := (2*2)) (n := 2) (g := g58) mem_ (cutF_ok rfl)
  have r3 := hm.ro (k := (3*2)) (n := 2) (g := g58) mem_ (cutF_ok rfl)
  have r4 := hm.ro (k := (4*2)) (n := 2) (g := g58) mem_ (cutF_ok rfl)
  have r5 := hm.ro (k := (5*2)) (n := 2) (g := g58) mem_ (cutF_ok rfl)
  have hcell : ∀ i, i < 6 → ∃ (t v : Int), Ro w g58 (i * 2) [.int .u8 t, .int .u16 v] ∧ (t = 0 ∨ t = 1 ∨ t = 2) ∧ (0 ≤ v ∧ v ≤ 65535) := fun i hi => by
    rcases (by omega : i = 0 ∨ i = 1 ∨ i = 2 ∨ i = 3 ∨ i = 4 ∨ i = 5) with rfl | rfl | rfl | rfl | rfl | rfl
    · exact ⟨ttb, vb, r0, ht0, by omega⟩
    · exact ⟨ttc, vc, r1, ht5, by omega⟩
    · exact ⟨t1, v1, r2, ht1, hv1⟩
    · exact ⟨t2, v2, r3, ht2, hv2⟩
    · exact ⟨t3, v3, r4, ht3, hv3⟩
    · exact ⟨t4, v4, r5, ht4, hv4⟩
  clear hm hmB hno k2 r0 r1 r2 r3 r4 r5
  rename World => wC
  have hm := Mm.nil (fun _ => False) wC
  repeat (first | ((with_reducible refine toL hm ?_); (first | refine oneV hs gw_ rfl rfl (by intro w hm; (first | exact kvR_ | exact r_remH hs rfl rfl rfl (by assumption) (by omega) (by omega) | exact r_rem64 hs rfl rfl rfl (by omega) (by omega) | exact r_rem hs rfl rfl rfl (by omega) | exact r_neqSt (fl := [(true, 0, 5), (true, 1, 22)]) hs rfl rfl rfl tab (by kernel_rfl) (by kernel_rfl) (by kernel_rfl) (by kernel_rfl) rfl | exact r_eqlSt (fl := [(true, 0, 5), (true, 1, 22)]) hs rfl rfl rfl tab (by kernel_rfl) (by kernel_rfl) (by kernel_rfl) (by kernel_rfl) rfl)) ?_ | refine oneN hs rfl rfl rfl rfl rfl rfl rfl ?_ | refine oneU hs rfl rfl rfl rfl rfl rfl ?_); clear hs a; intro a hs) | ((with_reducible apply lCons); first | (refine dv hs gw_ rfl rfl da_ ?_; clear hs hm a; rintro _ w ⟨g, rfl, -, hm⟩ a hs) | (refine stn hs rfl rfl ds_ ?_; clear hs hm a; rintro - w hm a hs) ) | (with_reducible first | apply lNilThen | apply lNilBlock | apply lNil | apply wp_seq | apply wp_region_lit | apply wp_block | apply cExit | apply cRet | apply cSkip | apply gThen | apply gBlock | apply eThen | apply eBlockHit | refine eBlock rfl ?_ | apply rThen | apply rBlock) | ((with_reducible apply cCond); first | refine cTrue hs rfl bd_ ?_ | refine cFalse hs rfl bd_ ?_))
  refine cLoop (X := Nat) (fun k a w' => Sl Try.f3.ntmps [(3, .int .i64 op), (4, .pointer (some ⟨g4, 0, none⟩)), (5, .pointer (some ⟨g5, 0, none⟩)), (8, .bool false), (10, .slice x.B x.n x.d), (11, .pointer (some ⟨g11, 0, none⟩)), (12, .slice (some ⟨g58, 0, none⟩) 6 6), (13, .int .i64 (k : Int))] a ∧ Mm (fun _ => False) wC [] w' ∧ 2 ≤ k ∧ k ≤ 16) (fun k => 16 - k) 2 ⟨hs.sub (Has.all ⟨rfl, rfl, rfl, rfl, rfl, rfl, rfl, rfl, trivial⟩), hm, by omega, by omega⟩ ?_
  clear hs hm a
  rintro k a w' ⟨hs, hm, hk2, hk⟩
  by_cases hk15 : k ≤ 15
  · repeat (first | ((with_reducible refine toL hm ?_); (first | refine oneV hs gw_ rfl rfl (by intro w hm; (first | exact kvR_ | exact r_remH hs rfl rfl rfl (by assumption) (by omega) (by omega) | exact r_rem64 hs rfl rfl rfl (by omega) (by omega) | exact r_rem hs rfl rfl rfl (by omega) | exact r_neqSt (fl := [(true, 0, 5), (true, 1, 22)]) hs rfl rfl rfl tab (by kernel_rfl) (by kernel_rfl) (by kernel_rfl) (by kernel_rfl) rfl | exact r_eqlSt (fl := [(true, 0, 5), (true, 1, 22)]) hs rfl rfl rfl tab (by kernel_rfl) (by kernel_rfl) (by kernel_rfl) (by kernel_rfl) rfl)) ?_ | refine oneN hs rfl rfl rfl rfl rfl rfl rfl ?_ | refine oneU hs rfl rfl rfl rfl rfl rfl ?_); clear hs a; intro a hs) | ((with_reducible apply lCons); first | (refine dv hs gw_ rfl rfl da_ ?_; clear hs hm a; rintro _ w ⟨g, rfl, -, hm⟩ a hs) | (refine stn hs rfl rfl ds_ ?_; clear hs hm a; rintro - w hm a hs) ) | (with_reducible first | apply lNilThen | apply lNilBlock | apply lNil | apply wp_seq | apply wp_region_lit | apply wp_block | apply cExit | apply cRet | apply cSkip | apply gThen | apply gBlock | apply eThen | apply eBlockHit | refine eBlock rfl ?_ | apply rThen | apply rBlock) | ((with_reducible apply cCond); first | refine cTrue hs rfl bd_ ?_ | refine cFalse hs rfl bd_ ?_))
    refine cLoop (X := Nat) (fun i a w' => Sl Try.f3.ntmps [(3, .int .i64 op), (4, .pointer (some ⟨g4, 0, none⟩)), (5, .pointer (some ⟨g5, 0, none⟩)), (8, .bool false), (10, .slice x.B x.n x.d), (11, .pointer (some ⟨g11, 0, none⟩)), (12, .slice (some ⟨g58, 0, none⟩) 6 6), (13, .int .i64 (k : Int)), (63, .slice (some ⟨g58, 0, none⟩) 6 6), (64, .int .i64 6), (65, .int .i64 (i : Int))] a ∧ Mm (fun _ => False) wC [] w' ∧ i ≤ 6) (fun i => 6 - i) 0 ⟨hs.sub (Has.all ⟨rfl, rfl, rfl, rfl, rfl, rfl, rfl, rfl, rfl, rfl, rfl, trivial⟩), hm, by omega⟩ ?_
    clear hs hm a
    rintro i a w' ⟨hs, hm, hi⟩
    by_cases hi6 : i < 6
    · obtain ⟨t, v, hra, ht, hv⟩ := hcell i hi6
      obtain ⟨i2, hi2⟩ : ∃ i2 : Nat, ((i : Int) + 1) % 6 = (i2 : Int) := ⟨(((i : Int) + 1) % 6).toNat, by omega⟩
      obtain ⟨s, u, hrb, hs1, hu⟩ := hcell i2 (by omega)
      have c1 := fun w (hf : Pu wC w) => do_c x (k : Int) t v s u w (hx.pu hf) ht hs1 hv hu
      have c2 := fun w (hf : Pu wC w) => rdo_c x (k : Int) t v s u w (hx.pu hf) ht hs1 hv hu
      generalize doF x (k : Int) t v s u = R at c1 c2
      obtain ⟨⟨R1, R2⟩, R3⟩ := R
      have hbb : ((R1 == R1) && ((R2 == R2) && true)) = true := by simp
      unfold LS.l LS.s dV clV at c1 c2
      dsimp only at c1 c2
      repeat (first | ((with_reducible refine toL hm ?_); (first | refine oneV hs gw_ rfl rfl (by intro w hm; (first | exact kvR_ | exact r_remH hs rfl rfl rfl (by assumption) (by omega) (by omega) | exact r_rem64 hs rfl rfl rfl (by omega) (by omega) | exact r_rem hs rfl rfl rfl (by omega) | exact r_neqSt (fl := [(true, 0, 5), (true, 1, 22)]) hs rfl rfl rfl tab (by kernel_rfl) (by kernel_rfl) (by kernel_rfl) (by kernel_rfl) rfl | exact r_eqlSt (fl := [(true, 0, 5), (true, 1, 22)]) hs rfl rfl rfl tab (by kernel_rfl) (by kernel_rfl) (by kernel_rfl) (by kernel_rfl) rfl)) ?_ | refine oneN hs rfl rfl rfl rfl rfl rfl rfl ?_ | refine oneU hs rfl rfl rfl rfl rfl rfl ?_); clear hs a; intro a hs) | ((with_reducible apply lCons); first | (refine dv hs gw_ rfl rfl da_ ?_; clear hs hm a; rintro _ w ⟨g, rfl, -, hm⟩ a hs) | (refine stn hs rfl rfl ds_ ?_; clear hs hm a; rintro - w hm a hs) | (refine dv hs gw_ rfl rfl (d_call hs rfl rfl rfl (pl 13 rfl) (c1 _ hm.fr)) ?_; clear hs a; rintro _ w ⟨rfl, hf⟩ a hs; replace hm := hm.pu hf; clear hf) | (refine dv hs gw_ rfl rfl (d_call hs rfl rfl rfl (pl 14 rfl) (c2 _ hm.fr)) ?_; clear hs a; rintro _ w ⟨rfl, hf⟩ a hs; replace hm := hm.pu hf; clear hf)) | (with_reducible first | apply lNilThen | apply lNilBlock | apply lNil | apply wp_seq | apply wp_region_lit | apply wp_block | apply cExit | apply cRet | apply cSkip | apply gThen | apply gBlock | apply eThen | apply eBlockHit | refine eBlock rfl ?_ | apply rThen | apply rBlock) | ((with_reducible apply cCond); first | refine cTrue hs rfl bd_ ?_ | refine cFalse hs rfl bd_ ?_))
      rw [hbb] at hs
      repeat (first | ((with_reducible refine toL hm ?_); (first | refine oneV hs gw_ rfl rfl (by intro w hm; (first | exact kvR_ | exact r_remH hs rfl rfl rfl (by assumption) (by omega) (by omega) | exact r_rem64 hs rfl rfl rfl (by omega) (by omega) | exact r_rem hs rfl rfl rfl (by omega) | exact r_neqSt (fl := [(true, 0, 5), (true, 1, 22)]) hs rfl rfl rfl tab (by kernel_rfl) (by kernel_rfl) (by kernel_rfl) (by kernel_rfl) rfl | exact r_eqlSt (fl := [(true, 0, 5), (true, 1, 22)]) hs rfl rfl rfl tab (by kernel_rfl) (by kernel_rfl) (by kernel_rfl) (by kernel_rfl) rfl)) ?_ | refine oneN hs rfl rfl rfl rfl rfl rfl rfl ?_ | refine oneU hs rfl rfl rfl rfl rfl rfl ?_); clear hs a; intro a hs) | ((with_reducible apply lCons); first | (refine dv hs gw_ rfl rfl da_ ?_; clear hs hm a; rintro _ w ⟨g, rfl, -, hm⟩ a hs) | (refine stn hs rfl rfl ds_ ?_; clear hs hm a; rintro - w hm a hs) ) | (with_reducible first | apply lNilThen | apply lNilBlock | apply lNil | apply wp_seq | apply wp_region_lit | apply wp_block | apply cExit | apply cRet | apply cSkip | apply gThen | apply gBlock | apply eThen | apply eBlockHit | refine eBlock rfl ?_ | apply rThen | apply rBlock) | ((with_reducible apply cCond); first | refine cTrue hs rfl bd_ ?_ | refine cFalse hs rfl bd_ ?_))
      exact ⟨i + 1, by omega, hs.sub (Has.all ⟨rfl, rfl, rfl, rfl, rfl, rfl, rfl, rfl, rfl, rfl, rfl, trivial⟩), hm.sub (List.nil_sublist _), by omega⟩
    · repeat (first | ((with_reducible refine toL hm ?_); (first | refine oneV hs gw_ rfl rfl (by intro w hm; (first | exact kvR_ | exact r_remH hs rfl rfl rfl (by assumption) (by omega) (by omega) | exact r_rem64 hs rfl rfl rfl (by omega) (by omega) | exact r_rem hs rfl rfl rfl (by omega) | exact r_neqSt (fl := [(true, 0, 5), (true, 1, 22)]) hs rfl rfl rfl tab (by kernel_rfl) (by kernel_rfl) (by kernel_rfl) (by kernel_rfl) rfl | exact r_eqlSt (fl := [(true, 0, 5), (true, 1, 22)]) hs rfl rfl rfl tab (by kernel_rfl) (by kernel_rfl) (by kernel_rfl) (by kernel_rfl) rfl)) ?_ | refine oneN hs rfl rfl rfl rfl rfl rfl rfl ?_ | refine oneU hs rfl rfl rfl rfl rfl rfl ?_); clear hs a; intro a hs) | ((with_reducible apply lCons); first | (refine dv hs gw_ rfl rfl da_ ?_; clear hs hm a; rintro _ w ⟨g, rfl, -, hm⟩ a hs) | (refine stn hs rfl rfl ds_ ?_; clear hs hm a; rintro - w hm a hs) ) | (with_reducible first | apply lNilThen | apply lNilBlock | apply lNil | apply wp_seq | apply wp_region_lit | apply wp_block | apply cExit | apply cRet | apply cSkip | apply gThen | apply gBlock | apply eThen | apply eBlockHit | refine eBlock rfl ?_ | apply rThen | apply rBlock) | ((with_reducible apply cCond); first | refine cTrue hs rfl bd_ ?_ | refine cFalse hs rfl bd_ ?_))
      exact ⟨k + 1, by omega, hs.sub (Has.all ⟨rfl, rfl, rfl, rfl, rfl, rfl, rfl, rfl, trivial⟩), hm.sub (List.nil_sublist _), by omega, by omega⟩
  · have c1 := fun w (hf : Pu wC w) => do_c x op ttb vb ttc vc w (hx.pu hf) ht0 ht5 (by omega) (by omega)
    have c2 := fun w (hf : Pu wC w) => rdo_c x op ttb vb ttc vc w (hx.pu hf) ht0 ht5 (by omega) (by omega)
    generalize doF x op ttb vb ttc vc = R at c1 c2
    obtain ⟨⟨R1, R2⟩, R3⟩ := R
    have hbb : ((R1 == R1) && ((R2 == R2) && true)) = true := by simp
    unfold LS.l LS.s dV clV at c1 c2
    dsimp only at c1 c2
    repeat (first | ((with_reducible refine toL hm ?_); (first | refine oneV hs gw_ rfl rfl (by intro w hm; (first | exact kvR_ | exact r_remH hs rfl rfl rfl (by assumption) (by omega) (by omega) | exact r_rem64 hs rfl rfl rfl (by omega) (by omega) | exact r_rem hs rfl rfl rfl (by omega) | exact r_neqSt (fl := [(true, 0, 5), (true, 1, 22)]) hs rfl rfl rfl tab (by kernel_rfl) (by kernel_rfl) (by kernel_rfl) (by kernel_rfl) rfl | exact r_eqlSt (fl := [(true, 0, 5), (true, 1, 22)]) hs rfl rfl rfl tab (by kernel_rfl) (by kernel_rfl) (by kernel_rfl) (by kernel_rfl) rfl)) ?_ | refine oneN hs rfl rfl rfl rfl rfl rfl rfl ?_ | refine oneU hs rfl rfl rfl rfl rfl rfl ?_); clear hs a; intro a hs) | ((with_reducible apply lCons); first | (refine dv hs gw_ rfl rfl da_ ?_; clear hs hm a; rintro _ w ⟨g, rfl, -, hm⟩ a hs) | (refine stn hs rfl rfl ds_ ?_; clear hs hm a; rintro - w hm a hs) | (refine dv hs gw_ rfl rfl (d_call hs rfl rfl rfl (pl 13 rfl) (c1 _ hm.fr)) ?_; clear hs a; rintro _ w ⟨rfl, hf⟩ a hs; replace hm := hm.pu hf; clear hf) | (refine dv hs gw_ rfl rfl (d_call hs rfl rfl rfl (pl 14 rfl) (c2 _ hm.fr)) ?_; clear hs a; rintro _ w ⟨rfl, hf⟩ a hs; replace hm := hm.pu hf; clear hf)) | (with_reducible first | apply lNilThen | apply lNilBlock | apply lNil | apply wp_seq | apply wp_region_lit | apply wp_block | apply cExit | apply cRet | apply cSkip | apply gThen | apply gBlock | apply eThen | apply eBlockHit | refine eBlock rfl ?_ | apply rThen | apply rBlock) | ((with_reducible apply cCond); first | refine cTrue hs rfl bd_ ?_ | refine cFalse hs rfl bd_ ?_))
    rw [hbb] at hs
    repeat (first | ((with_reducible refine toL hm ?_); (first | refine oneV hs gw_ rfl rfl (by intro w hm; (first | exact kvR_ | exact r_remH hs rfl rfl rfl (by assumption) (by omega) (by omega) | exact r_rem64 hs rfl rfl rfl (by omega) (by omega) | exact r_rem hs rfl rfl rfl (by omega) | exact r_neqSt (fl := [(true, 0, 5), (true, 1, 22)]) hs rfl rfl rfl tab (by kernel_rfl) (by kernel_rfl) (by kernel_rfl) (by kernel_rfl) rfl | exact r_eqlSt (fl := [(true, 0, 5), (true, 1, 22)]) hs rfl rfl rfl tab (by kernel_rfl) (by kernel_rfl) (by kernel_rfl) (by kernel_rfl) rfl)) ?_ | refine oneN hs rfl rfl rfl rfl rfl rfl rfl ?_ | refine oneU hs rfl rfl rfl rfl rfl rfl ?_); clear hs a; intro a hs) | ((with_reducible apply lCons); first | (refine dv hs gw_ rfl rfl da_ ?_; clear hs hm a; rintro _ w ⟨g, rfl, -, hm⟩ a hs) | (refine stn hs rfl rfl ds_ ?_; clear hs hm a; rintro - w hm a hs) | (refine dv hs gw_ rfl rfl (d_call hs rfl rfl rfl (pl 15 rfl) (awk_c _)) ?_; clear hs a; rintro _ w ⟨rfl, hf⟩ a hs; replace hm := hm.pu hf; clear hf)) | (with_reducible first | apply lNilThen | apply lNilBlock | apply lNil | apply wp_seq | apply wp_region_lit | apply wp_block | apply cExit | apply cRet | apply cSkip | apply gThen | apply gBlock | apply eThen | apply eBlockHit | refine eBlock rfl ?_ | apply rThen | apply rBlock) | ((with_reducible apply cCond); first | refine cTrue hs rfl bd_ ?_ | refine cFalse hs rfl bd_ ?_))
    exact gRet1 hs rfl rfl ⟨rfl, hF.pu hm.fr⟩
theorem walk_AluDoes (x0 x1 y0 y1 : Int) (A : Option Addr) (n c : Nat) (xs : List Int) (op : Int) (w : World) (h0 : (Lit.int .u8 x0).wf = true ∧ (Lit.int .u16 x1).wf = true) (h1 : (Lit.int .u8 y0).wf = true ∧ (Lit.int .u16 y1).wf = true) (h : IsInts .i64 w A n c xs) (_ho : (Lit.int .i64 op).wf = true) : Calls Try.prog 3 #[.agg #[.int .u8 x0, .int .u16 x1], .agg #[.int .u8 y0, .int .u16 y1], .slice A n c, .int .i64 op] w (fun e w' => e = .returned (.bool true) ∧ Pu w w') :=
  (does_c x0 x1 y0 y1 op A n c xs w (by simpa [Lit.wf, IntKind.min, IntKind.max, IntKind.signed, IntKind.bits] using h0) (by simpa [Lit.wf, IntKind.min, IntKind.max, IntKind.signed, IntKind.bits] using h1) h).law
end Go.Proofs.Ytfcimpfhfbkgbaa
