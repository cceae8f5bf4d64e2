/- AluLayouts: the walk. -/
import Derived.Test.YtfcimpfhfbkgbaaLay12
namespace Go.Proofs.Ytfcimpfhfbkgbaa
open Go.RowKit




theorem pack92 {w0 w : World} {M : List Hp} {x y : LS} (hmB : Mm (fun _ => False) w0 M w) (hno : x.no M) (hny : y.no M) : ∃ M3, Mm (fun _ => False) w0 M3 w ∧ Mm (own M3) w M w ∧ x.no M3 ∧ y.no M3 := ⟨M, hmB, hmB.rebase, hno, hny⟩
theorem LS.eta {x y : LS} (hn : y.n = x.n) (hd : y.d = x.d) (hB : y.B = x.B) : y.s = x.s := by unfold LS.s; rw [hn, hd, hB]
set_option maxHeartbeats 16000000 in
theorem lays_c (seed op : Int) (A : Option Addr) (n c : Nat) (xs : List Int) (w0 : World) (hI : IsInts .i64 w0 A n c xs) :
    Ret Try.prog 4 [.slice A n c, .int .i64 seed, .int .i64 op] w0 (fun v w' => v = .bool true ∧ Pu w0 w') := by
  obtain ⟨hl, hnc, hc63, hrx, hwx⟩ := hI
  have hn63 := r_of64 hnc hc63
  have hmd := fun (v m : Int) w (h1 : 0 < m) (h2 : m ≤ 2000000) => mod_c v m w h1 h2
  refine enterR Try.func4 rfl rfl rfl fun a hs hm => ?_
  repeat (first | ((with_reducible refine toL hm ?_); (first | refine oneV hs gw_ rfl rfl (by intro w hm; (first | exact kvR_ | exact r_neqSt (fl := [(true, 0, 5), (true, 1, 22), (true, 2, 3), (true, 3, 3)]) hs rfl rfl rfl tab (by kernel_rfl) (by kernel_rfl) (by kernel_rfl) (by kernel_rfl) rfl)) ?_ | refine oneN hs rfl rfl rfl rfl rfl rfl rfl ?_ | refine oneU hs rfl rfl rfl rfl rfl rfl ?_); clear hs a; intro a hs) | ((with_reducible apply lCons); first | (refine dv hs gw_ rfl rfl da_ ?_; clear hs hm a; rintro _ w ⟨g, rfl, -, hm⟩ a hs) | (refine stn hs rfl rfl ds_ ?_; clear hs hm a; rintro - w hm a hs) ) | (with_reducible first | apply lNilThen | apply lNilBlock | apply lNil | apply wp_seq | apply wp_region_lit | apply wp_block | apply cExit | apply cRet | apply cSkip | apply gThen | apply gBlock | apply eThen | apply eBlockHit | refine eBlock rfl ?_ | apply rThen | apply rBlock) | ((with_reducible apply cCond); first | refine cTrue hs rfl bd_ ?_ | refine cFalse hs rfl bd_ ?_))
  have hrA := hm.fr.rd' hrx
  refine st hs rfl rfl rfl (d_call hs rfl rfl rfl (pl 9 rfl) ((mk_c A n c _))) ?_; clear hs a; rintro _ w1 ⟨gd, rfl, hN, hf⟩ a hs
  have hD := Dk.start hl hrA hn63 hN hf
  replace hm := hm.gain hf hN
  clear hN hf hrA
  repeat (first | ((with_reducible refine toL hm ?_); (first | refine oneV hs gw_ rfl rfl (by intro w hm; (first | exact kvR_ | exact r_neqSt (fl := [(true, 0, 5), (true, 1, 22), (true, 2, 3), (true, 3, 3)]) hs rfl rfl rfl tab (by kernel_rfl) (by kernel_rfl) (by kernel_rfl) (by kernel_rfl) rfl)) ?_ | refine oneN hs rfl rfl rfl rfl rfl rfl rfl ?_ | refine oneU hs rfl rfl rfl rfl rfl rfl ?_); clear hs a; intro a hs) | ((with_reducible apply lCons); first | (refine dv hs gw_ rfl rfl da_ ?_; clear hs hm a; rintro _ w ⟨g, rfl, -, hm⟩ a hs) | (refine stn hs rfl rfl ds_ ?_; clear hs hm a; rintro - w hm a hs) ) | (with_reducible first | apply lNilThen | apply lNilBlock | apply lNil | apply wp_seq | apply wp_region_lit | apply wp_block | apply cExit | apply cRet | apply cSkip | apply gThen | apply gBlock | apply eThen | apply eBlockHit | refine eBlock rfl ?_ | apply rThen | apply rBlock) | ((with_reducible apply cCond); first | refine cTrue hs rfl bd_ ?_ | refine cFalse hs rfl bd_ ?_))
  refine st hs rfl rfl rfl (d_call hs rfl rfl rfl (pl 10 rfl) ((siz_c gd A n c 0 xs _ hD))) ?_; clear hs a; rintro _ w2 ⟨gs, m, ms, ss, rfl, hsl, hSz, hrs, hgs, a1, k1, hf⟩ a hs
  have hneS : ∀ b o, (some ⟨gs, 0, none⟩ : Option Addr) = some ⟨b, o, none⟩ → b ≠ gd := fun b o e hb => hm.notown hgs ⟨_, List.Mem.head _, by cases e; rw [hb]; rfl⟩
  have hnoS := fun M' (r : Rep _ (dk gd A n c 0) (dk gd A n c a1) M') h => hm.notown hgs (own_rep r rfl h)
  replace hm := hm.dkt (Rep.head _ _ _) k1 hf
  clear hf hD hgs
  replace hnoS := hnoS _ (Rep.head _ _ _)
  have hmB := hm
  clear hm
  have hm := hmB.rebase
  repeat (first | ((with_reducible refine toL hm ?_); (first | refine oneV hs gw_ rfl rfl (by intro w hm; (first | exact kvR_ | exact r_neqSt (fl := [(true, 0, 5), (true, 1, 22), (true, 2, 3), (true, 3, 3)]) hs rfl rfl rfl tab (by kernel_rfl) (by kernel_rfl) (by kernel_rfl) (by kernel_rfl) rfl)) ?_ | refine oneN hs rfl rfl rfl rfl rfl rfl rfl ?_ | refine oneU hs rfl rfl rfl rfl rfl rfl ?_); clear hs a; intro a hs) | ((with_reducible apply lCons); first | (refine dv hs gw_ rfl rfl da_ ?_; clear hs hm a; rintro _ w ⟨g, rfl, -, hm⟩ a hs) | (refine stn hs rfl rfl ds_ ?_; clear hs hm a; rintro - w hm a hs) ) | (with_reducible first | apply lNilThen | apply lNilBlock | apply lNil | apply wp_seq | apply wp_region_lit | apply wp_block | apply cExit | apply cRet | apply cSkip | apply gThen | apply gBlock | apply eThen | apply eBlockHit | refine eBlock rfl ?_ | apply rThen | apply rBlock) | ((with_reducible apply cCond); first | refine cTrue hs rfl bd_ ?_ | refine cFalse hs rfl bd_ ?_))
  refine st hs rfl rfl rfl (d_call hs rfl rfl rfl (pl 11 rfl) ((lay_c gd A n c a1 xs (some ⟨gs, 0, none⟩) m ms ss _ k1 hsl hSz hrs hneS))) ?_; clear hs a; rintro _ w3 ⟨x, rfl, hLy, a2, k2, hf⟩ a hs
  have hnoA := fun b o (e : x.A = some ⟨b, o, none⟩) => hm.notown (hLy.new b o e)
  replace hm := hm.dkt (Rep.head _ _ _) k2 hf
  obtain ⟨rfl, rfl, hxB, rfl, hx, hap, -⟩ := hLy
  have hxn : 1 ≤ x.n := by have := hSz.one; rw [hx.sl] at this; exact this
  have hno : x.no _ := LS.no.rep (M := _) ⟨hnoA, fun b o e => by rw [hxB] at e; cases e; exact hnoS⟩ (Rep.head _ _ (dk gd A n c a2)) rfl
  rw [← hxB] at hs
  replace hmB := hmB.trans hm
  clear hm hf hnoA hnoS hneS hrs k1
  have hneg : x.ne gd := hno.ne (List.Mem.head _)
  obtain ⟨M3, hpk⟩ := pack9 hmB hno
  clear hmB hno
  obtain ⟨hmB, hm, hno⟩ := hpk
  unfold LS.l at hs
  repeat (first | ((with_reducible refine toL hm ?_); (first | refine oneV hs gw_ rfl rfl (by intro w hm; (first | exact kvR_ | exact r_neqSt (fl := [(true, 0, 5), (true, 1, 22), (true, 2, 3), (true, 3, 3)]) hs rfl rfl rfl tab (by kernel_rfl) (by kernel_rfl) (by kernel_rfl) (by kernel_rfl) rfl)) ?_ | refine oneN hs rfl rfl rfl rfl rfl rfl rfl ?_ | refine oneU hs rfl rfl rfl rfl rfl rfl ?_); clear hs a; intro a hs) | ((with_reducible apply lCons); first | (refine dv hs gw_ rfl rfl da_ ?_; clear hs hm a; rintro _ w ⟨g, rfl, -, hm⟩ a hs) | (refine stn hs rfl rfl ds_ ?_; clear hs hm a; rintro - w hm a hs) ) | (with_reducible first | apply lNilThen | apply lNilBlock | apply lNil | apply wp_seq | apply wp_region_lit | apply wp_block | apply cExit | apply cRet | apply cSkip | apply gThen | apply gBlock | apply eThen | apply eBlockHit | refine eBlock rfl ?_ | apply rThen | apply rBlock) | ((with_reducible apply cCond); first | refine cTrue hs rfl bd_ ?_ | refine cFalse hs rfl bd_ ?_))
  obtain ⟨g9, en_⟩ := hs.pt 9 (by exact rfl); subst en_
  obtain ⟨sd, hsd, hsd2⟩ : ∃ sd : Nat, modF seed 1048576 = (sd : Int) ∧ sd ≤ 1048576 := ⟨(modF seed 1048576).toNat, by have := modF_bd seed (m := 1048576) (by omega); omega, by have := modF_bd seed (m := 1048576) (by omega); omega⟩
  have hm1 := fun w => hmd seed 1048576 w (by omega) (by omega)
  rw [hsd] at hm1
  repeat (first | ((with_reducible refine toL hm ?_); (first | refine oneV hs gw_ rfl rfl (by intro w hm; (first | exact kvR_ | exact r_neqSt (fl := [(true, 0, 5), (true, 1, 22), (true, 2, 3), (true, 3, 3)]) hs rfl rfl rfl tab (by kernel_rfl) (by kernel_rfl) (by kernel_rfl) (by kernel_rfl) rfl)) ?_ | refine oneN hs rfl rfl rfl rfl rfl rfl rfl ?_ | refine oneU hs rfl rfl rfl rfl rfl rfl ?_); clear hs a; intro a hs) | ((with_reducible apply lCons); first | (refine dv hs gw_ rfl rfl da_ ?_; clear hs hm a; rintro _ w ⟨g, rfl, -, hm⟩ a hs) | (refine stn hs rfl rfl ds_ ?_; clear hs hm a; rintro - w hm a hs) | (refine dv hs gw_ rfl rfl (d_call hs rfl rfl rfl (pl 17 rfl) (hm1 _)) ?_; clear hs a; rintro _ w ⟨rfl, hf⟩ a hs; replace hm := hm.pu hf; clear hf)) | (with_reducible first | apply lNilThen | apply lNilBlock | apply lNil | apply wp_seq | apply wp_region_lit | apply wp_block | apply cExit | apply cRet | apply cSkip | apply gThen | apply gBlock | apply eThen | apply eBlockHit | refine eBlock rfl ?_ | apply rThen | apply rBlock) | ((with_reducible apply cCond); first | refine cTrue hs rfl bd_ ?_ | refine cFalse hs rfl bd_ ?_))
  have hxo := hx.own hno hm
  have hng := hno.grow hx hxn hm
  refine st hs rfl rfl rfl (d_call hs rfl rfl rfl (pl 16 rfl) ((mke_c x.B x.n x.d x.ss sd _ hxo.sl hxo.sr hSz hsd2))) ?_; clear hs a; rintro _ w2 ⟨gb, key, bs, rfl, hgb, hrb, hkb, ⟨v, hI⟩, hf⟩ a hs
  have hnoY := hm.notown hgb
  replace hm := hm.pu hf
  have hyL := mkLS (d := x.d) (s := sd) (v := v) hxo.sl hSz hrb (hf.rd' hxo.sr) hkb hI hgb
  obtain ⟨y, hyd⟩ : ∃ y : LS, y = LS.mk (some ⟨gb, 0, none⟩) x.n x.n bs key x.B x.d x.ss := ⟨_, rfl⟩
  rw [← hyd] at hyL
  have hyl : .agg #[.slice (some ⟨gb, 0, none⟩) x.n x.n, .int .u16 key] = y.l := by rw [hyd]; rfl
  have hny : y.no _ := LS.no.mk (fun b o e h => hnoY (by rw [hyd] at e; cases e; exact h)) (fun b o e h => hng.b b o (by rw [hyd] at e; exact e) h)
  rw [hyl] at hs
  unfold LS.l at hs
  replace hx := hxo.pu hf
  have hy := hyL.ok
  have hya := hyL.apt
  have hys := hyL.ss
  have hyn := hyL.n
  have hye := LS.eta hyL.n hyL.d hyL.B
  replace hmB := hmB.trans hm
  obtain ⟨M4, hpk⟩ := pack92 hmB hng hny
  clear hmB hno hng hny hm hf hxo hnoY hgb hrb hkb hI hyl hyL hyd hsd hsd2 hm1
  obtain ⟨hmB, hm, hno, hny⟩ := hpk
  have hcn := fun a1 w'' (h : Dk gd A n c a1 xs w'') (hx : x.ok w'') => cnn_c gd A n c a1 xs x w'' h hx hneg hxn
  unfold LS.s cnV at hcn
  repeat (first | ((with_reducible refine toL hm ?_); (first | refine oneV hs gw_ rfl rfl (by intro w hm; (first | exact kvR_ | exact r_neqSt (fl := [(true, 0, 5), (true, 1, 22), (true, 2, 3), (true, 3, 3)]) hs rfl rfl rfl tab (by kernel_rfl) (by kernel_rfl) (by kernel_rfl) (by kernel_rfl) rfl)) ?_ | refine oneN hs rfl rfl rfl rfl rfl rfl rfl ?_ | refine oneU hs rfl rfl rfl rfl rfl rfl ?_); clear hs a; intro a hs) | ((with_reducible apply lCons); first | (refine dv hs gw_ rfl rfl da_ ?_; clear hs hm a; rintro _ w ⟨g, rfl, -, hm⟩ a hs) | (refine stn hs rfl rfl ds_ ?_; clear hs hm a; rintro - w hm a hs) ) | (with_reducible first | apply lNilThen | apply lNilBlock | apply lNil | apply wp_seq | apply wp_region_lit | apply wp_block | apply cExit | apply cRet | apply cSkip | apply gThen | apply gBlock | apply eThen | apply eBlockHit | refine eBlock rfl ?_ | apply rThen | apply rBlock) | ((with_reducible apply cCond); first | refine cTrue hs rfl bd_ ?_ | refine cFalse hs rfl bd_ ?_))
  obtain ⟨g10, en_⟩ := hs.pt 10 (by exact rfl); subst en_
  refine cLoop (X := Nat × Nat) (fun X a w' => Sl Try.f4.ntmps [(2, .int .i64 op), (6, .bool false), (7, .pointer (some ⟨gd, 0, none⟩)), (8, .slice x.B x.n x.d), (9, .pointer (some ⟨g9, 0, none⟩)), (10, .pointer (some ⟨g10, 0, none⟩)), (41, .int .i64 (X.1 : Int))] a ∧ Mm (own M4) w2 [⟨some g10, 30, [.slice y.A y.n y.c, .int .u16 y.key]⟩, ⟨some g9, 30, [.slice x.A x.n x.c, .int .u16 x.key]⟩, dk gd A n c X.2] w' ∧ X.1 ≤ 5) (fun X => 5 - X.1) (0, a2) ⟨hs.sub (Has.all ⟨rfl, rfl, rfl, rfl, rfl, rfl, rfl, trivial⟩), hm, by dsimp only; omega⟩ ?_
  clear hs hm a
  rintro ⟨i, at_⟩ a w' ⟨hs, hm, hi⟩
  dsimp only at *
  by_cases hi5 : i < 5
  · repeat (first | ((with_reducible refine toL hm ?_); (first | refine oneV hs gw_ rfl rfl (by intro w hm; (first | exact kvR_ | exact r_neqSt (fl := [(true, 0, 5), (true, 1, 22), (true, 2, 3), (true, 3, 3)]) hs rfl rfl rfl tab (by kernel_rfl) (by kernel_rfl) (by kernel_rfl) (by kernel_rfl) rfl)) ?_ | refine oneN hs rfl rfl rfl rfl rfl rfl rfl ?_ | refine oneU hs rfl rfl rfl rfl rfl rfl ?_); clear hs a; intro a hs) | ((with_reducible apply lCons); first | (refine dv hs gw_ rfl rfl da_ ?_; clear hs hm a; rintro _ w ⟨g, rfl, -, hm⟩ a hs) | (refine stn hs rfl rfl ds_ ?_; clear hs hm a; rintro - w hm a hs) ) | (with_reducible first | apply lNilThen | apply lNilBlock | apply lNil | apply wp_seq | apply wp_region_lit | apply wp_block | apply cExit | apply cRet | apply cSkip | apply gThen | apply gBlock | apply eThen | apply eBlockHit | refine eBlock rfl ?_ | apply rThen | apply rBlock) | ((with_reducible apply cCond); first | refine cTrue hs rfl bd_ ?_ | refine cFalse hs rfl bd_ ?_))
    refine st hs rfl rfl rfl (d_call hs rfl rfl rfl (pl 18 rfl) ((hcn _ _ (Dk.at (hmB.trans hm) mem_ hl hrx hn63) (hx.own hno hm)))) ?_; clear hs a; rintro _ w1 ⟨ta, va, ra, oa, rfl, hta, hva, a3, k3, hf⟩ a hs
    replace hm := hm.dkt rep_ k3 hf
    clear hf
    repeat (first | ((with_reducible refine toL hm ?_); (first | refine oneV hs gw_ rfl rfl (by intro w hm; (first | exact kvR_ | exact r_neqSt (fl := [(true, 0, 5), (true, 1, 22), (true, 2, 3), (true, 3, 3)]) hs rfl rfl rfl tab (by kernel_rfl) (by kernel_rfl) (by kernel_rfl) (by kernel_rfl) rfl)) ?_ | refine oneN hs rfl rfl rfl rfl rfl rfl rfl ?_ | refine oneU hs rfl rfl rfl rfl rfl rfl ?_); clear hs a; intro a hs) | ((with_reducible apply lCons); first | (refine dv hs gw_ rfl rfl da_ ?_; clear hs hm a; rintro _ w ⟨g, rfl, -, hm⟩ a hs) | (refine stn hs rfl rfl ds_ ?_; clear hs hm a; rintro - w hm a hs) ) | (with_reducible first | apply lNilThen | apply lNilBlock | apply lNil | apply wp_seq | apply wp_region_lit | apply wp_block | apply cExit | apply cRet | apply cSkip | apply gThen | apply gBlock | apply eThen | apply eBlockHit | refine eBlock rfl ?_ | apply rThen | apply rBlock) | ((with_reducible apply cCond); first | refine cTrue hs rfl bd_ ?_ | refine cFalse hs rfl bd_ ?_))
    refine st hs rfl rfl rfl (d_call hs rfl rfl rfl (pl 18 rfl) ((hcn _ _ (Dk.at (hmB.trans hm) mem_ hl hrx hn63) (hx.own hno hm)))) ?_; clear hs a; rintro _ w1 ⟨tb, vb, rb, ob, rfl, htb, hvb, a3, k3, hf⟩ a hs
    replace hm := hm.dkt rep_ k3 hf
    clear hf
    repeat (first | ((with_reducible refine toL hm ?_); (first | refine oneV hs gw_ rfl rfl (by intro w hm; (first | exact kvR_ | exact r_neqSt (fl := [(true, 0, 5), (true, 1, 22), (true, 2, 3), (true, 3, 3)]) hs rfl rfl rfl tab (by kernel_rfl) (by kernel_rfl) (by kernel_rfl) (by kernel_rfl) rfl)) ?_ | refine oneN hs rfl rfl rfl rfl rfl rfl rfl ?_ | refine oneU hs rfl rfl rfl rfl rfl rfl ?_); clear hs a; intro a hs) | ((with_reducible apply lCons); first | (refine dv hs gw_ rfl rfl da_ ?_; clear hs hm a; rintro _ w ⟨g, rfl, -, hm⟩ a hs) | (refine stn hs rfl rfl ds_ ?_; clear hs hm a; rintro - w hm a hs) ) | (with_reducible first | apply lNilThen | apply lNilBlock | apply lNil | apply wp_seq | apply wp_region_lit | apply wp_block | apply cExit | apply cRet | apply cSkip | apply gThen | apply gBlock | apply eThen | apply eBlockHit | refine eBlock rfl ?_ | apply rThen | apply rBlock) | ((with_reducible apply cCond); first | refine cTrue hs rfl bd_ ?_ | refine cFalse hs rfl bd_ ?_))
    refine st hs rfl rfl rfl (d_call hs rfl rfl rfl (pl 19 rfl) ((nxt_c gd A n c _ xs 12 _ (Dk.at (hmB.trans hm) mem_ hl hrx hn63) (by omega) (by omega)))) ?_; clear hs a; rintro _ w1 ⟨rr, rfl, hrr, a4, k4, hf⟩ a hs
    replace hm := hm.dkt rep_ k4 hf
    clear hf
    repeat (first | ((with_reducible refine toL hm ?_); (first | refine oneV hs gw_ rfl rfl (by intro w hm; (first | exact kvR_ | exact r_neqSt (fl := [(true, 0, 5), (true, 1, 22), (true, 2, 3), (true, 3, 3)]) hs rfl rfl rfl tab (by kernel_rfl) (by kernel_rfl) (by kernel_rfl) (by kernel_rfl) rfl)) ?_ | refine oneN hs rfl rfl rfl rfl rfl rfl rfl ?_ | refine oneU hs rfl rfl rfl rfl rfl rfl ?_); clear hs a; intro a hs) | ((with_reducible apply lCons); first | (refine dv hs gw_ rfl rfl da_ ?_; clear hs hm a; rintro _ w ⟨g, rfl, -, hm⟩ a hs) | (refine stn hs rfl rfl ds_ ?_; clear hs hm a; rintro - w hm a hs) ) | (with_reducible first | apply lNilThen | apply lNilBlock | apply lNil | apply wp_seq | apply wp_region_lit | apply wp_block | apply cExit | apply cRet | apply cSkip | apply gThen | apply gBlock | apply eThen | apply eBlockHit | refine eBlock rfl ?_ | apply rThen | apply rBlock) | ((with_reducible apply cCond); first | refine cTrue hs rfl bd_ ?_ | refine cFalse hs rfl bd_ ?_))
    refine st hs rfl rfl rfl (d_call hs rfl rfl rfl (pl 17 rfl) ((hmd _ 12 _ (by omega) (by omega)))) ?_; clear hs a; rintro _ w1 ⟨rfl, hf⟩ a hs
    replace hm := hm.pu hf
    clear hf
    have hkb := modF_bd (IntKind.i64.wrap (op + (rr : Int))) (m := 12) (by omega)
    obtain ⟨kk, hkk⟩ : ∃ kk, modF (IntKind.i64.wrap (op + (rr : Int))) 12 = kk := ⟨_, rfl⟩
    rw [hkk] at hs hkb
    clear hkk
    have c1 := fun w (h : x.ok w) => raw_c x ta va ra oa w h hta
    have c2 := fun w (h : y.ok w) => raw_c y ta va ra oa w h hta
    have c3 := fun w (h : x.ok w) => raw_c x tb vb rb ob w h htb
    have c4 := fun w (h : y.ok w) => raw_c y tb vb rb ob w h htb
    have hr1 := Rel.raw hx hap hya hy hys hyn ta va ra oa hta
    have hr2 := Rel.raw hx hap hya hy hys hyn tb vb rb ob htb
    have p1 := rawF_t x ta va ra oa
    have p2 := rawF_t y ta va ra oa
    have p3 := rawF_t x tb vb rb ob
    have p4 := rawF_t y tb vb rb ob
    have q1 := rawF_v x ta va ra oa hva
    have q2 := rawF_v y ta va ra oa hva
    have q3 := rawF_v x tb vb rb ob hvb
    have q4 := rawF_v y tb vb rb ob hvb
    rw [hye] at c2 c4
    generalize rawF x ta va ra oa = P1 at c1 hr1 p1 q1
    generalize rawF y ta va ra oa = P2 at c2 hr1 p2 q2
    generalize rawF x tb vb rb ob = P3 at c3 hr2 p3 q3
    generalize rawF y tb vb rb ob = P4 at c4 hr2 p4 q4
    have hag := do_agr hx hap hya hy hys (3 + kk) hr1 hr2
    have c5 := fun w (h : x.ok w) => do_c x (3 + kk) P1.1.1 P1.1.2 P3.1.1 P3.1.2 w h p1 p3 q1 q3
    have c6 := fun w (h : y.ok w) => do_c y (3 + kk) P2.1.1 P2.1.2 P4.1.1 P4.1.2 w h p2 p4 q2 q4
    rw [hye] at c6
    generalize doF x (3 + kk) P1.1.1 P1.1.2 P3.1.1 P3.1.2 = D1 at c5 hag
    generalize doF y (3 + kk) P2.1.1 P2.1.2 P4.1.1 P4.1.2 = D2 at c6 hag
    obtain ⟨⟨a1, b1⟩, e1⟩ := D1
    obtain ⟨⟨a2, b2⟩, e2⟩ := D2
    obtain ⟨he, hrel⟩ := hag
    dsimp only at he hrel
    subst he
    have c7 := fun w (h : x.ok w) (h1 : e1 = 0) => can_c x a1 b1 w h (hrel h1).tag.2 ((hrel h1).bd hx hap hya hy).1
    have c8 := fun w (h : y.ok w) (h1 : e1 = 0) => can_c y a2 b2 w h (by rw [(hrel h1).tag.1]; exact (hrel h1).tag.2) ((hrel h1).bd hx hap hya hy).2
    rw [hye] at c8
    unfold LS.l LS.s dV clV cnV at *
    dsimp only at c5 c6
    repeat (first | ((with_reducible refine toL hm ?_); (first | refine oneV hs gw_ rfl rfl (by intro w hm; (first | exact kvR_ | exact r_neqSt (fl := [(true, 0, 5), (true, 1, 22), (true, 2, 3), (true, 3, 3)]) hs rfl rfl rfl tab (by kernel_rfl) (by kernel_rfl) (by kernel_rfl) (by kernel_rfl) rfl)) ?_ | refine oneN hs rfl rfl rfl rfl rfl rfl rfl ?_ | refine oneU hs rfl rfl rfl rfl rfl rfl ?_); clear hs a; intro a hs) | ((with_reducible apply lCons); first | (refine dv hs gw_ rfl rfl da_ ?_; clear hs hm a; rintro _ w ⟨g, rfl, -, hm⟩ a hs) | (refine stn hs rfl rfl ds_ ?_; clear hs hm a; rintro - w hm a hs) | (refine dv hs gw_ rfl rfl (d_call hs rfl rfl rfl (pl 20 rfl) (c1 _ (hx.own hno hm))) ?_; clear hs a; rintro _ w ⟨rfl, hf⟩ a hs; replace hm := hm.pu hf; clear hf) | (refine dv hs gw_ rfl rfl (d_call hs rfl rfl rfl (pl 20 rfl) (c2 _ (hy.own hny hm))) ?_; clear hs a; rintro _ w ⟨rfl, hf⟩ a hs; replace hm := hm.pu hf; clear hf) | (refine dv hs gw_ rfl rfl (d_call hs rfl rfl rfl (pl 20 rfl) (c3 _ (hx.own hno hm))) ?_; clear hs a; rintro _ w ⟨rfl, hf⟩ a hs; replace hm := hm.pu hf; clear hf) | (refine dv hs gw_ rfl rfl (d_call hs rfl rfl rfl (pl 20 rfl) (c4 _ (hy.own hny hm))) ?_; clear hs a; rintro _ w ⟨rfl, hf⟩ a hs; replace hm := hm.pu hf; clear hf) | (refine dv hs gw_ rfl rfl (d_call hs rfl rfl rfl (pl 13 rfl) (c5 _ (hx.own hno hm))) ?_; clear hs a; rintro _ w ⟨rfl, hf⟩ a hs; replace hm := hm.pu hf; clear hf) | (refine dv hs gw_ rfl rfl (d_call hs rfl rfl rfl (pl 13 rfl) (c6 _ (hy.own hny hm))) ?_; clear hs a; rintro _ w ⟨rfl, hf⟩ a hs; replace hm := hm.pu hf; clear hf)) | (with_reducible first | apply lNilThen | apply lNilBlock | apply lNil | apply wp_seq | apply wp_region_lit | apply wp_block | apply cExit | apply cRet | apply cSkip | apply gThen | apply gBlock | apply eThen | apply eBlockHit | refine eBlock rfl ?_ | apply rThen | apply rBlock) | ((with_reducible apply cCond); first | refine cTrue hs rfl bd_ ?_ | refine cFalse hs rfl bd_ ?_))
    by_cases he0 : e1 = 0
    · have hcan := (hrel he0).can
      rw [← hcan] at c8
      generalize canF x a1 b1 = C at c7 c8
      have hbb : ((C.1 == C.1) && ((C.2.1 == C.2.1) && ((C.2.2.1 == C.2.2.1) && ((C.2.2.2 == C.2.2.2) && true)))) = true := by simp
      repeat (first | ((with_reducible first | refine toL hm ?_ | refine toQ ?_); (first | refine oneV hs gw_ rfl rfl (by intro w hm; (first | exact kvR_ | exact r_neqSt (fl := [(true, 0, 5), (true, 1, 22), (true, 2, 3), (true, 3, 3)]) hs rfl rfl rfl tab (by kernel_rfl) (by kernel_rfl) (by kernel_rfl) (by kernel_rfl) rfl)) ?_ | refine oneN hs rfl rfl rfl rfl rfl rfl rfl ?_ | refine oneU hs rfl rfl rfl rfl rfl rfl ?_); clear hs a; intro a hs) | ((with_reducible apply lCons); first | (refine dv hs gw_ rfl rfl da_ ?_; clear hs hm a; rintro _ w ⟨g, rfl, -, hm⟩ a hs) | (refine stn hs rfl rfl ds_ ?_; clear hs hm a; rintro - w hm a hs) | (refine dv hs gw_ rfl rfl (d_call hs rfl rfl rfl (pl 21 rfl) (c7 _ (hx.own hno hm) he0)) ?_; clear hs a; rintro _ w ⟨rfl, hf⟩ a hs; replace hm := hm.pu hf; clear hf) | (refine dv hs gw_ rfl rfl (d_call hs rfl rfl rfl (pl 21 rfl) (c8 _ (hy.own hny hm) he0)) ?_; clear hs a; rintro _ w ⟨rfl, hf⟩ a hs; replace hm := hm.pu hf; clear hf)) | ((with_reducible apply qCons); first | (refine qwcall hs gw_ rfl rfl rfl rfl rfl (pl 21 rfl) (by intro w hm; exact Ret.mono (c7 _ (hx.own hno hm) he0) (fun _ _ ⟨h1, h2⟩ => ⟨h1, hm.pu h2⟩)) ?_; clear hs a; intro a hs) | (refine qwcall hs gw_ rfl rfl rfl rfl rfl (pl 21 rfl) (by intro w hm; exact Ret.mono (c8 _ (hy.own hny hm) he0) (fun _ _ ⟨h1, h2⟩ => ⟨h1, hm.pu h2⟩)) ?_; clear hs a; intro a hs)) | ((with_reducible apply qNil); clear hm; intro w hm) | ((with_reducible refine cQuiet hm ?_ ?_ ?_ ?_); rfl; kernel_rfl; kernel_rfl) | (with_reducible first | apply lNilThen | apply lNilBlock | apply lNil | apply wp_seq | apply wp_region_lit | apply wp_block | apply cExit | apply cRet | apply cSkip | apply gThen | apply gBlock | apply eThen | apply eBlockHit | refine eBlock rfl ?_ | apply rThen | apply rBlock) | ((with_reducible apply cCond); first | refine cTrue hs rfl bd_ ?_ | refine cFalse hs rfl bd_ ?_))
      rw [hbb] at hs
      repeat (first | ((with_reducible first | refine toL hm ?_ | refine toQ ?_); (first | refine oneV hs gw_ rfl rfl (by intro w hm; (first | exact kvR_ | exact r_neqSt (fl := [(true, 0, 5), (true, 1, 22), (true, 2, 3), (true, 3, 3)]) hs rfl rfl rfl tab (by kernel_rfl) (by kernel_rfl) (by kernel_rfl) (by kernel_rfl) rfl)) ?_ | refine oneN hs rfl rfl rfl rfl rfl rfl rfl ?_ | refine oneU hs rfl rfl rfl rfl rfl rfl ?_); clear hs a; intro a hs) | ((with_reducible apply lCons); first | (refine dv hs gw_ rfl rfl da_ ?_; clear hs hm a; rintro _ w ⟨g, rfl, -, hm⟩ a hs) | (refine stn hs rfl rfl ds_ ?_; clear hs hm a; rintro - w hm a hs) ) | ((with_reducible apply qNil); clear hm; intro w hm) | ((with_reducible refine cQuiet hm ?_ ?_ ?_ ?_); rfl; kernel_rfl; kernel_rfl) | (with_reducible first | apply lNilThen | apply lNilBlock | apply lNil | apply wp_seq | apply wp_region_lit | apply wp_block | apply cExit | apply cRet | apply cSkip | apply gThen | apply gBlock | apply eThen | apply eBlockHit | refine eBlock rfl ?_ | apply rThen | apply rBlock) | ((with_reducible apply cCond); first | refine cTrue hs rfl bd_ ?_ | refine cFalse hs rfl bd_ ?_))
      exact ⟨(i + 1, a4), by dsimp only; omega, hs.sub (Has.all ⟨rfl, rfl, rfl, rfl, rfl, rfl, rfl, trivial⟩), hm.sub sub_, by dsimp only; omega⟩
    · repeat (first | ((with_reducible first | refine toL hm ?_ | refine toQ ?_); (first | refine oneV hs gw_ rfl rfl (by intro w hm; (first | exact kvR_ | exact r_neqSt (fl := [(true, 0, 5), (true, 1, 22), (true, 2, 3), (true, 3, 3)]) hs rfl rfl rfl tab (by kernel_rfl) (by kernel_rfl) (by kernel_rfl) (by kernel_rfl) rfl)) ?_ | refine oneN hs rfl rfl rfl rfl rfl rfl rfl ?_ | refine oneU hs rfl rfl rfl rfl rfl rfl ?_); clear hs a; intro a hs) | ((with_reducible apply lCons); first | (refine dv hs gw_ rfl rfl da_ ?_; clear hs hm a; rintro _ w ⟨g, rfl, -, hm⟩ a hs) | (refine stn hs rfl rfl ds_ ?_; clear hs hm a; rintro - w hm a hs) ) | ((with_reducible apply qNil); clear hm; intro w hm) | ((with_reducible refine cQuiet hm ?_ ?_ ?_ ?_); rfl; kernel_rfl; kernel_rfl) | (with_reducible first | apply lNilThen | apply lNilBlock | apply lNil | apply wp_seq | apply wp_region_lit | apply wp_block | apply cExit | apply cRet | apply cSkip | apply gThen | apply gBlock | apply eThen | apply eBlockHit | refine eBlock rfl ?_ | apply rThen | apply rBlock) | ((with_reducible apply cCond); first | refine cTrue hs rfl bd_ ?_ | refine cFalse hs rfl bd_ ?_))
      exact ⟨(i + 1, a4), by dsimp only; omega, hs.sub (Has.all ⟨rfl, rfl, rfl, rfl, rfl, rfl, rfl, trivial⟩), hm.sub sub_, by dsimp only; omega⟩
  · repeat (first | ((with_reducible refine toL hm ?_); (first | refine oneV hs gw_ rfl rfl (by intro w hm; (first | exact kvR_ | exact r_neqSt (fl := [(true, 0, 5), (true, 1, 22), (true, 2, 3), (true, 3, 3)]) hs rfl rfl rfl tab (by kernel_rfl) (by kernel_rfl) (by kernel_rfl) (by kernel_rfl) rfl)) ?_ | refine oneN hs rfl rfl rfl rfl rfl rfl rfl ?_ | refine oneU hs rfl rfl rfl rfl rfl rfl ?_); clear hs a; intro a hs) | ((with_reducible apply lCons); first | (refine dv hs gw_ rfl rfl da_ ?_; clear hs hm a; rintro _ w ⟨g, rfl, -, hm⟩ a hs) | (refine stn hs rfl rfl ds_ ?_; clear hs hm a; rintro - w hm a hs) | (refine dv hs gw_ rfl rfl (d_call hs rfl rfl rfl (pl 15 rfl) (awk_c _)) ?_; clear hs a; rintro _ w ⟨rfl, hf⟩ a hs; replace hm := hm.pu hf; clear hf)) | (with_reducible first | apply lNilThen | apply lNilBlock | apply lNil | apply wp_seq | apply wp_region_lit | apply wp_block | apply cExit | apply cRet | apply cSkip | apply gThen | apply gBlock | apply eThen | apply eBlockHit | refine eBlock rfl ?_ | apply rThen | apply rBlock) | ((with_reducible apply cCond); first | refine cTrue hs rfl bd_ ?_ | refine cFalse hs rfl bd_ ?_))
    exact gRet1 hs rfl rfl ⟨rfl, (hmB.trans hm).fr⟩
theorem walk_AluLayouts (A : Option Addr) (n c : Nat) (xs : List Int) (seed op : Int) (w : World) (h : IsInts .i64 w A n c xs) (_h0 : (Lit.int .i64 seed).wf = true) (_h1 : (Lit.int .i64 op).wf = true) : Calls Try.prog 4 #[.slice A n c, .int .i64 seed, .int .i64 op] w (fun e w' => e = .returned (.bool true) ∧ Pu w w') :=
  (lays_c seed op A n c xs w h).law
end Go.Proofs.Ytfcimpfhfbkgbaa
