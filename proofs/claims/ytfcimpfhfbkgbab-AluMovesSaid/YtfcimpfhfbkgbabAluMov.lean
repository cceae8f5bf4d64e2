/- AluMoves: the walk. -/
import Derived.Test.YtfcimpfhfbkgbabPro9
import Derived.Test.YtfcimpfhfbkgbabLay13
namespace Go.Proofs.Ytfcimpfhfbkgbab
open Go.RowKit




theorem wrap16m {v : Int} (h : 0 ≤ v ∧ v ≤ 65535) : IntKind.u16.wrap v = v := by simp [IntKind.wrap, IntKind.bits, IntKind.signed]; omega
theorem nown1 {S : Nat → Prop} {w0 w : World} {M : List Hp} {g gd n c a : Nat} {A : Option Addr} {t : TypeId} {cs : List Value} (hm : Mm S w0 M w) (idx : List Nat) (hn : idx.Nodup) (he : [dk gd A n c a, ⟨some g, t, cs⟩] = idx.filterMap (fun i => M[i]?)) : ¬ own [dk gd A n c a] g := fun ⟨z, hz, e⟩ => by
  rcases List.mem_singleton.1 hz with rfl
  have := (hm.sel idx hn he).dj.1 _ (List.Mem.head _) gd rfl
  exact this (by show some g = some gd; exact e.symm)
theorem LS.ne.no {x : LS} {g n c a : Nat} {A : Option Addr} (h : x.ne g) : x.no [dk g A n c a] :=
  ⟨fun b o e ⟨z, hz, eg⟩ => by rcases List.mem_singleton.1 hz with rfl; exact h.a b o e (Option.some.inj eg).symm, fun b o e ⟨z, hz, eg⟩ => by rcases List.mem_singleton.1 hz with rfl; exact h.b b o e (Option.some.inj eg).symm⟩
set_option maxHeartbeats 16000000 in
theorem movs_c (tb vb nn kk : Int) (back : Bool) (A : Option Addr) (n c : Nat) (xs : List Int) (w0 : World) (hb : (0 ≤ tb ∧ tb ≤ 255) ∧ 0 ≤ vb ∧ vb ≤ 65535) (hnn : 0 ≤ nn ∧ nn ≤ 65535) (hI : IsInts .i64 w0 A n c xs) :
    Ret Try.prog 3 [clV tb vb, .int .u16 nn, .bool back, .int .i64 kk, .slice A n c] w0 (fun v w' => v = .bool true ∧ Pu w0 w') := by
  obtain ⟨hl, hnc, hc63, hrx, hwx⟩ := hI
  have hn63 := r_of64 hnc hc63
  have hcl := fun gd at_ (x : LS) w (h : Dk gd A n c at_ xs w) (hx : x.ok w) (hne : x.ne gd) (h1n : 1 ≤ x.n) => cll_c gd A n c at_ xs x w h hx hne h1n
  unfold LS.l LS.s at hcl
  have hmk := modF_bd kk (m := 40) (by omega)
  obtain ⟨km, hkm⟩ : ∃ z, modF kk 40 = z := ⟨_, rfl⟩
  have hmd := fun w => mod_c kk 40 w (by omega) (by omega)
  rw [hkm] at hmd hmk
  clear hkm
  unfold clV at *
  refine enterR Try.func3 rfl rfl rfl fun a hs hm => ?_
  repeat (first | ((with_reducible refine toL hm ?_); (first | refine oneV hs gw_ rfl rfl (by intro w hm; (first | exact kvR_ | exact r_remH hs rfl rfl rfl (by assumption) (by omega) (by omega) | exact r_rem64 hs rfl rfl rfl (by omega) (by omega) | exact r_rem hs rfl rfl rfl (by omega) | exact r_b2s hs rfl rfl tab rfl rfl rfl rfl rfl rfl (by first | exact Fr.rd' hm.fr (by assumption) | exact Mm.rd_row hm mem_ (by assumption)) (by assumption) | exact r_neqSt (fl := [(true, 0, 5), (true, 1, 22)]) hs rfl rfl rfl tab (by kernel_rfl) (by kernel_rfl) (by kernel_rfl) (by kernel_rfl) rfl)) ?_ | refine oneN hs rfl rfl rfl rfl rfl rfl rfl ?_ | refine oneU hs rfl rfl rfl rfl rfl rfl ?_); clear hs a; intro a hs) | ((with_reducible apply lCons); first | (refine dv hs gw_ rfl rfl da_ ?_; clear hs hm a; rintro _ w ⟨g, rfl, -, hm⟩ a hs) | (refine stn hs rfl rfl ds_ ?_; clear hs hm a; rintro - w hm a hs) ) | (with_reducible first | apply lNilThen | apply lNilBlock | apply lNil | apply wp_seq | apply wp_region_lit | apply wp_block | apply cExit | apply cRet | apply cSkip | apply gThen | apply gBlock | apply eThen | apply eBlockHit | refine eBlock rfl ?_ | apply rThen | apply rBlock) | ((with_reducible apply cCond); first | refine cTrue hs rfl bd_ ?_ | refine cFalse hs rfl bd_ ?_))
  have hrA := hm.fr.rd' hrx
  refine st hs rfl rfl rfl (d_call hs rfl rfl rfl (pl 4 rfl) ((mk_c A n c _))) ?_; clear hs a; rintro _ w1 ⟨gd, rfl, hN, hf⟩ a hs
  have hD := Dk.start hl hrA hn63 hN hf
  replace hm := hm.gain hf hN
  clear hN hf hrA
  repeat (first | ((with_reducible refine toL hm ?_); (first | refine oneV hs gw_ rfl rfl (by intro w hm; (first | exact kvR_ | exact r_remH hs rfl rfl rfl (by assumption) (by omega) (by omega) | exact r_rem64 hs rfl rfl rfl (by omega) (by omega) | exact r_rem hs rfl rfl rfl (by omega) | exact r_b2s hs rfl rfl tab rfl rfl rfl rfl rfl rfl (by first | exact Fr.rd' hm.fr (by assumption) | exact Mm.rd_row hm mem_ (by assumption)) (by assumption) | exact r_neqSt (fl := [(true, 0, 5), (true, 1, 22)]) hs rfl rfl rfl tab (by kernel_rfl) (by kernel_rfl) (by kernel_rfl) (by kernel_rfl) rfl)) ?_ | refine oneN hs rfl rfl rfl rfl rfl rfl rfl ?_ | refine oneU hs rfl rfl rfl rfl rfl rfl ?_); clear hs a; intro a hs) | ((with_reducible apply lCons); first | (refine dv hs gw_ rfl rfl da_ ?_; clear hs hm a; rintro _ w ⟨g, rfl, -, hm⟩ a hs) | (refine stn hs rfl rfl ds_ ?_; clear hs hm a; rintro - w hm a hs) ) | (with_reducible first | apply lNilThen | apply lNilBlock | apply lNil | apply wp_seq | apply wp_region_lit | apply wp_block | apply cExit | apply cRet | apply cSkip | apply gThen | apply gBlock | apply eThen | apply eBlockHit | refine eBlock rfl ?_ | apply rThen | apply rBlock) | ((with_reducible apply cCond); first | refine cTrue hs rfl bd_ ?_ | refine cFalse hs rfl bd_ ?_))
  refine st hs rfl rfl rfl (d_call hs rfl rfl rfl (pl 5 rfl) ((siz_c gd A n c 0 xs _ hD))) ?_; clear hs a; rintro _ w2 ⟨gs, m, ms, ss, rfl, hsl, hSz, hrs, hgs, a1, k1, hf⟩ a hs
  have hneS : ∀ b o, (some ⟨gs, 0, none⟩ : Option Addr) = some ⟨b, o, none⟩ → b ≠ gd := fun b o e hb => hm.notown hgs ⟨_, List.Mem.head _, by cases e; rw [hb]; rfl⟩
  have hnoS := fun M' (r : Rep _ (dk gd A n c 0) (dk gd A n c a1) M') h => hm.notown hgs (own_rep r rfl h)
  replace hm := hm.dkt (Rep.head _ _ _) k1 hf
  clear hf hD hgs
  replace hnoS := hnoS _ (Rep.head _ _ _)
  have hmB := hm
  clear hm
  have hm := hmB.rebase
  repeat (first | ((with_reducible refine toL hm ?_); (first | refine oneV hs gw_ rfl rfl (by intro w hm; (first | exact kvR_ | exact r_remH hs rfl rfl rfl (by assumption) (by omega) (by omega) | exact r_rem64 hs rfl rfl rfl (by omega) (by omega) | exact r_rem hs rfl rfl rfl (by omega) | exact r_b2s hs rfl rfl tab rfl rfl rfl rfl rfl rfl (by first | exact Fr.rd' hm.fr (by assumption) | exact Mm.rd_row hm mem_ (by assumption)) (by assumption) | exact r_neqSt (fl := [(true, 0, 5), (true, 1, 22)]) hs rfl rfl rfl tab (by kernel_rfl) (by kernel_rfl) (by kernel_rfl) (by kernel_rfl) rfl)) ?_ | refine oneN hs rfl rfl rfl rfl rfl rfl rfl ?_ | refine oneU hs rfl rfl rfl rfl rfl rfl ?_); clear hs a; intro a hs) | ((with_reducible apply lCons); first | (refine dv hs gw_ rfl rfl da_ ?_; clear hs hm a; rintro _ w ⟨g, rfl, -, hm⟩ a hs) | (refine stn hs rfl rfl ds_ ?_; clear hs hm a; rintro - w hm a hs) ) | (with_reducible first | apply lNilThen | apply lNilBlock | apply lNil | apply wp_seq | apply wp_region_lit | apply wp_block | apply cExit | apply cRet | apply cSkip | apply gThen | apply gBlock | apply eThen | apply eBlockHit | refine eBlock rfl ?_ | apply rThen | apply rBlock) | ((with_reducible apply cCond); first | refine cTrue hs rfl bd_ ?_ | refine cFalse hs rfl bd_ ?_))
  refine st hs rfl rfl rfl (d_call hs rfl rfl rfl (pl 6 rfl) ((lay_c gd A n c a1 xs (some ⟨gs, 0, none⟩) m ms ss _ k1 hsl hSz hrs hneS))) ?_; clear hs a; rintro _ w3 ⟨x, rfl, hLy, a2, k2, hf⟩ a hs
  have hnoA := fun b o (e : x.A = some ⟨b, o, none⟩) => hm.notown (hLy.new b o e)
  replace hm := hm.dkt (Rep.head _ _ _) k2 hf
  obtain ⟨rfl, rfl, hxB, rfl, hx, hap, -⟩ := hLy
  have hxn : 1 ≤ x.n := by have := hSz.one; rw [hx.sl] at this; exact this
  have hno : x.no _ := LS.no.rep (M := _) ⟨hnoA, fun b o e => by rw [hxB] at e; cases e; exact hnoS⟩ (Rep.head _ _ (dk gd A n c a2)) rfl
  rw [← hxB] at hs
  replace hmB := hmB.trans hm
  clear hm hf hnoA hnoS hneS hrs k1
  have hneg : x.ne gd := hno.ne (List.Mem.head _)
  obtain ⟨M3, hpk⟩ := pack9 hmB hno
  clear hmB hno
  obtain ⟨hmB, hm, hno⟩ := hpk
  unfold LS.l at hs
  repeat (first | ((with_reducible refine toL hm ?_); (first | refine oneV hs gw_ rfl rfl (by intro w hm; (first | exact kvR_ | exact r_remH hs rfl rfl rfl (by assumption) (by omega) (by omega) | exact r_rem64 hs rfl rfl rfl (by omega) (by omega) | exact r_rem hs rfl rfl rfl (by omega) | exact r_b2s hs rfl rfl tab rfl rfl rfl rfl rfl rfl (by first | exact Fr.rd' hm.fr (by assumption) | exact Mm.rd_row hm mem_ (by assumption)) (by assumption) | exact r_neqSt (fl := [(true, 0, 5), (true, 1, 22)]) hs rfl rfl rfl tab (by kernel_rfl) (by kernel_rfl) (by kernel_rfl) (by kernel_rfl) rfl)) ?_ | refine oneN hs rfl rfl rfl rfl rfl rfl rfl ?_ | refine oneU hs rfl rfl rfl rfl rfl rfl ?_); clear hs a; intro a hs) | ((with_reducible apply lCons); first | (refine dv hs gw_ rfl rfl da_ ?_; clear hs hm a; rintro _ w ⟨g, rfl, -, hm⟩ a hs) | (refine stn hs rfl rfl ds_ ?_; clear hs hm a; rintro - w hm a hs) ) | (with_reducible first | apply lNilThen | apply lNilBlock | apply lNil | apply wp_seq | apply wp_region_lit | apply wp_block | apply cExit | apply cRet | apply cSkip | apply gThen | apply gBlock | apply eThen | apply eBlockHit | refine eBlock rfl ?_ | apply rThen | apply rBlock) | ((with_reducible apply cCond); first | refine cTrue hs rfl bd_ ?_ | refine cFalse hs rfl bd_ ?_))
  obtain ⟨g5, en_⟩ := hs.pt 5 (by exact rfl); subst en_
  obtain ⟨g13, en_⟩ := hs.pt 13 (by exact rfl); subst en_
  obtain ⟨ttb, htb⟩ : ∃ z, tb % 3 = z := ⟨_, rfl⟩
  rw [htb] at hm
  have ht0 : ttb = 0 ∨ ttb = 1 ∨ ttb = 2 := by omega
  have hbl := hx.bl
  have hn4 := hx.n
  obtain ⟨b1, o1, hA, hb1, r1⟩ := hx.br.ro (by rw [ints_len]; omega)
  have hnb1 := hno.a b1 o1 hA
  have e1 := ints_some (xs := x.bs) (k := 0) (by omega)
  have hb0 := hap.b 0 (by omega)
  rw [getI (by omega)] at hb0
  have hwr := wrap16m (v := x.bs[0]'(by omega)) (by omega)
  generalize x.bs[0]'(_) = bz at *
  have hcx := fun at_ w (h : Dk gd A n c at_ xs w) (hx : x.ok w) => hcl gd at_ x w h hx hneg hxn
  rw [hA] at hs hm hcx
  refine cMid (fun a w => ∃ (t1 v1 t2 v2 : Int) (g54 a9 : Nat), (t1 = 0 ∨ t1 = 1 ∨ t1 = 2) ∧ (0 ≤ v1 ∧ v1 ≤ 65535) ∧ (t2 = 0 ∨ t2 = 1 ∨ t2 = 2) ∧ (0 ≤ v2 ∧ v2 ≤ 65535) ∧ Sl Try.f3.ntmps [(1, .int .u16 nn), (2, .bool back), (3, .int .i64 kk), (10, .bool false), (11, .pointer (some ⟨gd, 0, none⟩)), (12, .slice x.B x.n x.d), (13, .pointer (some ⟨g13, 0, none⟩)), (54, .slice (some ⟨g54, 0, none⟩) 4 4), (55, .int .i64 4), (56, .int .i64 0)] a ∧ Mm (own M3) w3 [⟨some g54, 24, [.int .u8 ttb, .int .u16 vb, .int .u8 t1, .int .u16 v1, .int .u8 t2, .int .u16 v2, .int .u8 1, .int .u16 bz]⟩, ⟨some g13, 30, [.slice x.A x.n x.c, .int .u16 x.key]⟩, dk gd A n c a9, ⟨some g5, 24, [.int .u8 ttb, .int .u16 vb]⟩] w) ?_ ?_
  · skip
    refine cDraw (n := 18) [⟨some g13, 30, [.slice (some ⟨b1, o1, none⟩) x.n x.c, .int .u16 x.key]⟩, ⟨some g5, 24, [.int .u8 ttb, .int .u16 vb]⟩] hm rfl rfl ?_
    clear hm
    intro w2 hm
    refine hTake 0 hs rfl (by kernel_rfl) (Wnt.none rfl) rfl rfl (by intro w hm; replace hm : Mm _ _ _ w := hm; exact klR_) (hm.sub sub_) ?_; clear hs a; intro a hs
    refine hTake 1 hs rfl (by kernel_rfl) (Wnt.none rfl) rfl rfl (by intro w hm; replace hm : Mm _ _ _ w := hm; exact r_val hs tab rfl) (hm.sub sub_) ?_; clear hs a; intro a hs
    refine hTake 2 hs rfl (by kernel_rfl) (Wnt.none rfl) rfl rfl (by intro w hm; replace hm : Mm _ _ _ w := hm; exact klR_) (hm.sub sub_) ?_; clear hs a; intro a hs
    refine hTake 3 hs rfl (by kernel_rfl) (Wnt.none rfl) rfl rfl (by intro w hm; replace hm : Mm _ _ _ w := hm; exact r_val hs tab rfl) (hm.sub sub_) ?_; clear hs a; intro a hs
    refine hTake 5 hs rfl (by kernel_rfl) (Wnt.none rfl) rfl rfl (by intro w hm; replace hm : Mm _ _ _ w := hm; exact r_val hs tab rfl) (hm.sub sub_) ?_; clear hs a; intro a hs
    refine hTake 6 hs rfl (by kernel_rfl) (Wnt.none rfl) rfl rfl (by intro w hm; replace hm : Mm _ _ _ w := hm; exact klR_) (hm.sub sub_) ?_; clear hs a; intro a hs
    refine hTake 7 hs rfl (by kernel_rfl) (Wnt.none rfl) rfl rfl (by intro w hm; replace hm : Mm _ _ _ w := hm; exact r_val hs tab rfl) (hm.sub sub_) ?_; clear hs a; intro a hs
    refine hTake 9 hs rfl (by kernel_rfl) (Wnt.none rfl) rfl rfl (by intro w hm; replace hm : Mm _ _ _ w := hm; exact r_val hs tab rfl) (hm.sub sub_) ?_; clear hs a; intro a hs
    refine hTake 10 hs rfl (by kernel_rfl) (Wnt.none rfl) rfl rfl (by intro w hm; replace hm : Mm _ _ _ w := hm; exact klR_) (hm.sub sub_) ?_; clear hs a; intro a hs
    refine hTake 11 hs rfl (by kernel_rfl) (Wnt.none rfl) rfl rfl (by intro w hm; replace hm : Mm _ _ _ w := hm; (first | exact r_iz hs tab rfl rfl (by omega) | exact r_iy hs tab rfl rfl (by omega))) (hm.sub sub_) ?_; clear hs a; intro a hs
    refine hTake 12 hs rfl (by kernel_rfl) (Wnt.none rfl) rfl rfl (by intro w hm; replace hm : Mm _ _ _ w := hm; exact klR_) (hm.sub sub_) ?_; clear hs a; intro a hs
    refine hTake 13 hs rfl (by kernel_rfl) (Wnt.none rfl) rfl rfl (by intro w hm; replace hm : Mm _ _ _ w := hm; exact r_val hs tab rfl) (hm.sub sub_) ?_; clear hs a; intro a hs
    refine hTake 14 hs rfl (by kernel_rfl) (Wnt.none rfl) rfl rfl (by intro w hm; replace hm : Mm _ _ _ w := hm; exact r_val hs tab rfl) (hm.sub sub_) ?_; clear hs a; intro a hs
    refine hTake 17 hs rfl (by kernel_rfl) (Wnt.none rfl) rfl rfl (by intro w hm; replace hm : Mm _ _ _ w := hm; exact r_val hs tab rfl) (hm.sub sub_) ?_; clear hs a; intro a hs
    refine hEach [4] (by kernel_rfl) (eDo hs rfl (Wnt.none rfl) rfl rfl (by exact d_call hs rfl rfl rfl (pl 7 rfl) ((hcx _ _ (Dk.at (hmB.trans hm) mem_ hl hrx hn63) (hx.own hno hm)))) ?_ eNil)
    clear hs
    rintro _ w1 ⟨t1, v1, rfl, ht1, hv1, a3, k3, hf⟩ a hs
    replace hm := hm.dkt rep_ k3 hf
    clear hf
    refine ⟨hm.sub sub_, ?_⟩
    refine hEach [8] (by kernel_rfl) (eDo hs rfl (Wnt.none rfl) rfl rfl (by exact d_call hs rfl rfl rfl (pl 7 rfl) ((hcx _ _ (Dk.at (hmB.trans hm) mem_ hl hrx hn63) (hx.own hno hm)))) ?_ eNil)
    clear hs
    rintro _ w1 ⟨t2, v2, rfl, ht2, hv2, a4, k4, hf⟩ a hs
    replace hm := hm.dkt rep_ k4 hf
    clear hf
    refine ⟨hm.sub sub_, ?_⟩
    refine hEach [15] (by kernel_rfl) (eDo hs rfl (Wnt.none rfl) rfl rfl (by exact d_buildSlice hs rfl tab rfl rfl rfl rfl rfl rfl rfl rfl rfl hm) ?_ eNil)
    clear hs hm a
    rintro _ w35 ⟨g54, rfl, -, hm⟩ a hs
    refine ⟨hm.sub sub_, ?_⟩
    refine hTake 16 hs rfl (by kernel_rfl) (Wnt.none rfl) rfl rfl (by intro w hm; replace hm : Mm _ _ _ w := hm; (first | exact r_val hs tab rfl | exact r_bi hs rfl | exact r_pick hs rfl rfl rfl rfl)) (hm.sub sub_) ?_; clear hs a; intro a hs
    refine hDone (by kernel_rfl) ?_
    rw [hwr] at hm
    rw [← hA] at hm hs
    exact And.intro rfl ⟨t1, v1, t2, v2, g54, _, ht1, hv1, ht2, hv2, hs.sub (Has.all ⟨rfl, rfl, rfl, rfl, rfl, rfl, rfl, rfl, rfl, rfl, trivial⟩), hm⟩
  clear hs hm a
  rintro a w ⟨t1, v1, t2, v2, g54, a9, ht1, hv1, ht2, hv2, hs, hm⟩
  replace hx := hx.own hno hm
  have hmC := hmB.trans hm
  have q13 := hm.ro (k := 0) (n := 2) (g := g13) mem_ (cutF_ok rfl)
  have r0 := hm.ro (k := (0*2)) (n := 2) (g := g54) mem_ (cutF_ok rfl)
  have r1 := hm.ro (k := (1*2)) (n := 2) (g := g54) mem_ (cutF_ok rfl)
  have r2 := hm.ro (k := (2*2)) (n := 2) (g := g54) mem_ (cutF_ok rfl)
  have r3 := hm.ro (k := (3*2)) (n := 2) (g := g54) mem_ (cutF_ok rfl)
  have hn13 := nown1 (g := g13) hmC [2, 1] (by decide) rfl
  have hn54 := nown1 (g := g54) hmC [2, 0] (by decide) rfl
  have hcell : ∀ i, i < 4 → ∃ (t v : Int), Ro w g54 (i * 2) [.int .u8 t, .int .u16 v] ∧ (t = 0 ∨ t = 1 ∨ t = 2) ∧ (0 ≤ v ∧ v ≤ 65535) := fun i hi => by
    rcases (by omega : i = 0 ∨ i = 1 ∨ i = 2 ∨ i = 3) with rfl | rfl | rfl | rfl
    · exact ⟨ttb, vb, r0, ht0, by omega⟩
    · exact ⟨t1, v1, r1, ht1, hv1⟩
    · exact ⟨t2, v2, r2, ht2, hv2⟩
    · exact ⟨1, bz, r3, by omega, by omega⟩
  clear hno hmB r0 r1 r2 r3 k2 hm hnb1 e1 hA hb1
  have hmB := hmC.sel (M' := [dk gd A n c a9]) [2] (by decide) rfl
  have hm := hmB.rebase
  have hno : x.no [dk gd A n c a9] := hneg.no
  clear hmC
  rename World => wC
  repeat (first | ((with_reducible refine toL hm ?_); (first | refine oneV hs gw_ rfl rfl (by intro w hm; (first | exact kvR_ | exact r_remH hs rfl rfl rfl (by assumption) (by omega) (by omega) | exact r_rem64 hs rfl rfl rfl (by omega) (by omega) | exact r_rem hs rfl rfl rfl (by omega) | exact r_b2s hs rfl rfl tab rfl rfl rfl rfl rfl rfl (by first | exact Fr.rd' hm.fr (by assumption) | exact Mm.rd_row hm mem_ (by assumption)) (by assumption) | exact r_neqSt (fl := [(true, 0, 5), (true, 1, 22)]) hs rfl rfl rfl tab (by kernel_rfl) (by kernel_rfl) (by kernel_rfl) (by kernel_rfl) rfl)) ?_ | refine oneN hs rfl rfl rfl rfl rfl rfl rfl ?_ | refine oneU hs rfl rfl rfl rfl rfl rfl ?_); clear hs a; intro a hs) | ((with_reducible apply lCons); first | (refine dv hs gw_ rfl rfl da_ ?_; clear hs hm a; rintro _ w ⟨g, rfl, -, hm⟩ a hs) | (refine stn hs rfl rfl ds_ ?_; clear hs hm a; rintro - w hm a hs) ) | (with_reducible first | apply lNilThen | apply lNilBlock | apply lNil | apply wp_seq | apply wp_region_lit | apply wp_block | apply cExit | apply cRet | apply cSkip | apply gThen | apply gBlock | apply eThen | apply eBlockHit | refine eBlock rfl ?_ | apply rThen | apply rBlock) | ((with_reducible apply cCond); first | refine cTrue hs rfl bd_ ?_ | refine cFalse hs rfl bd_ ?_))
  refine cLoop (X := Nat × Nat) (fun X a w' => Sl Try.f3.ntmps [(1, .int .u16 nn), (2, .bool back), (3, .int .i64 kk), (10, .bool false), (11, .pointer (some ⟨gd, 0, none⟩)), (12, .slice x.B x.n x.d), (13, .pointer (some ⟨g13, 0, none⟩)), (54, .slice (some ⟨g54, 0, none⟩) 4 4), (55, .int .i64 4), (56, .int .i64 (X.1 : Int))] a ∧ Mm (own [dk gd A n c a9]) wC [dk gd A n c X.2] w' ∧ X.1 ≤ 4) (fun X => 4 - X.1) (0, a9) ⟨hs.sub (Has.all ⟨rfl, rfl, rfl, rfl, rfl, rfl, rfl, rfl, rfl, rfl, trivial⟩), hm, by dsimp only; omega⟩ ?_
  clear hs hm a
  rintro ⟨i, at_⟩ a w' ⟨hs, hm, hi⟩
  dsimp only at *
  by_cases hi4 : i < 4
  · obtain ⟨t, v, hra, ht, hv⟩ := hcell i hi4
    repeat (first | ((with_reducible refine toL hm ?_); (first | refine oneV hs gw_ rfl rfl (by intro w hm; (first | exact kvR_ | exact r_remH hs rfl rfl rfl (by assumption) (by omega) (by omega) | exact r_rem64 hs rfl rfl rfl (by omega) (by omega) | exact r_rem hs rfl rfl rfl (by omega) | exact r_b2s hs rfl rfl tab rfl rfl rfl rfl rfl rfl (by first | exact Fr.rd' hm.fr (by assumption) | exact Mm.rd_row hm mem_ (by assumption)) (by assumption) | exact r_neqSt (fl := [(true, 0, 5), (true, 1, 22)]) hs rfl rfl rfl tab (by kernel_rfl) (by kernel_rfl) (by kernel_rfl) (by kernel_rfl) rfl)) ?_ | refine oneN hs rfl rfl rfl rfl rfl rfl rfl ?_ | refine oneU hs rfl rfl rfl rfl rfl rfl ?_); clear hs a; intro a hs) | ((with_reducible apply lCons); first | (refine dv hs gw_ rfl rfl da_ ?_; clear hs hm a; rintro _ w ⟨g, rfl, -, hm⟩ a hs) | (refine stn hs rfl rfl ds_ ?_; clear hs hm a; rintro - w hm a hs) ) | (with_reducible first | apply lNilThen | apply lNilBlock | apply lNil | apply wp_seq | apply wp_region_lit | apply wp_block | apply cExit | apply cRet | apply cSkip | apply gThen | apply gBlock | apply eThen | apply eBlockHit | refine eBlock rfl ?_ | apply rThen | apply rBlock) | ((with_reducible apply cCond); first | refine cTrue hs rfl bd_ ?_ | refine cFalse hs rfl bd_ ?_))
    obtain ⟨g15, en_⟩ := hs.pt 15 (by exact rfl); subst en_
    refine st hs rfl rfl rfl (d_call hs rfl rfl rfl (pl 8 rfl) ((wrd_c gd A n c _ xs _ (Dk.at (hmB.trans hm) mem_ hl hrx hn63)))) ?_; clear hs a; rintro _ w1 ⟨y, rfl, hy, a4, k4, hf⟩ a hs
    replace hm := hm.dkt rep_ k4 hf
    clear hf
    repeat (first | ((with_reducible refine toL hm ?_); (first | refine oneV hs gw_ rfl rfl (by intro w hm; (first | exact kvR_ | exact r_remH hs rfl rfl rfl (by assumption) (by omega) (by omega) | exact r_rem64 hs rfl rfl rfl (by omega) (by omega) | exact r_rem hs rfl rfl rfl (by omega) | exact r_b2s hs rfl rfl tab rfl rfl rfl rfl rfl rfl (by first | exact Fr.rd' hm.fr (by assumption) | exact Mm.rd_row hm mem_ (by assumption)) (by assumption) | exact r_neqSt (fl := [(true, 0, 5), (true, 1, 22)]) hs rfl rfl rfl tab (by kernel_rfl) (by kernel_rfl) (by kernel_rfl) (by kernel_rfl) rfl)) ?_ | refine oneN hs rfl rfl rfl rfl rfl rfl rfl ?_ | refine oneU hs rfl rfl rfl rfl rfl rfl ?_); clear hs a; intro a hs) | ((with_reducible apply lCons); first | (refine dv hs gw_ rfl rfl da_ ?_; clear hs hm a; rintro _ w ⟨g, rfl, -, hm⟩ a hs) | (refine stn hs rfl rfl ds_ ?_; clear hs hm a; rintro - w hm a hs) ) | (with_reducible first | apply lNilThen | apply lNilBlock | apply lNil | apply wp_seq | apply wp_region_lit | apply wp_block | apply cExit | apply cRet | apply cSkip | apply gThen | apply gBlock | apply eThen | apply eBlockHit | refine eBlock rfl ?_ | apply rThen | apply rBlock) | ((with_reducible apply cCond); first | refine cTrue hs rfl bd_ ?_ | refine cFalse hs rfl bd_ ?_))
    obtain ⟨g65, en_⟩ := hs.ps 65 (by exact rfl); subst en_
    have hwd : ∀ j, j < 3 → ∃ m : Int, (0 ≤ m ∧ m ≤ 65535) ∧ ([.int .u16 nn, .int .u16 y, .int .u16 (nn % 40)] : List Value)[j]? = some (.int .u16 m) := fun j hj => by
      rcases (by omega : j = 0 ∨ j = 1 ∨ j = 2) with rfl | rfl | rfl
      · exact ⟨nn, hnn, rfl⟩
      · exact ⟨y, hy, rfl⟩
      · exact ⟨nn % 40, by omega, rfl⟩
    refine cLoop (X := Nat) (fun j a w' => Sl Try.f3.ntmps [(1, .int .u16 nn), (2, .bool back), (3, .int .i64 kk), (10, .bool false), (11, .pointer (some ⟨gd, 0, none⟩)), (12, .slice x.B x.n x.d), (13, .pointer (some ⟨g13, 0, none⟩)), (54, .slice (some ⟨g54, 0, none⟩) 4 4), (55, .int .i64 4), (56, .int .i64 (i : Int)), (15, .pointer (some ⟨g15, 0, none⟩)), (65, .slice (some ⟨g65, 0, none⟩) 3 3), (66, .int .i64 3), (67, .int .i64 (j : Int))] a ∧ Mm (own [dk gd A n c a9]) wC [⟨some g65, 22, [.int .u16 nn, .int .u16 y, .int .u16 (nn % 40)]⟩, ⟨some g15, 24, [.int .u8 t, .int .u16 v]⟩, dk gd A n c a4] w' ∧ j ≤ 3) (fun j => 3 - j) 0 ⟨hs.sub (Has.all ⟨rfl, rfl, rfl, rfl, rfl, rfl, rfl, rfl, rfl, rfl, rfl, rfl, rfl, rfl, trivial⟩), hm.sub sub_, by omega⟩ ?_
    clear hs hm a
    rintro j a w' ⟨hs, hm, hj⟩
    by_cases hj3 : j < 3
    · obtain ⟨m, hmb, hmc⟩ := hwd j hj3
      have c1 := fun w (h : x.ok w) => mov_c x t v m back w h hv hmb
      have c2 := fun w (h : x.ok w) => rmov_c x t v m back w h hv hmb
      generalize movF x t v m back = R at c1 c2
      obtain ⟨⟨R1, R2⟩, R3⟩ := R
      have hbb : ((R1 == R1) && ((R2 == R2) && true)) = true := by simp
      unfold LS.l LS.s clV at *
      dsimp only at c1 c2
      repeat (first | ((with_reducible refine toL hm ?_); (first | refine oneV hs gw_ rfl rfl (by intro w hm; (first | exact kvR_ | exact r_remH hs rfl rfl rfl (by assumption) (by omega) (by omega) | exact r_rem64 hs rfl rfl rfl (by omega) (by omega) | exact r_rem hs rfl rfl rfl (by omega) | exact r_b2s hs rfl rfl tab rfl rfl rfl rfl rfl rfl (by first | exact Fr.rd' hm.fr (by assumption) | exact Mm.rd_row hm mem_ (by assumption)) (by assumption) | exact r_neqSt (fl := [(true, 0, 5), (true, 1, 22)]) hs rfl rfl rfl tab (by kernel_rfl) (by kernel_rfl) (by kernel_rfl) (by kernel_rfl) rfl)) ?_ | refine oneN hs rfl rfl rfl rfl rfl rfl rfl ?_ | refine oneU hs rfl rfl rfl rfl rfl rfl ?_); clear hs a; intro a hs) | ((with_reducible apply lCons); first | (refine dv hs gw_ rfl rfl da_ ?_; clear hs hm a; rintro _ w ⟨g, rfl, -, hm⟩ a hs) | (refine stn hs rfl rfl ds_ ?_; clear hs hm a; rintro - w hm a hs) | (refine dv hs gw_ rfl rfl (d_call hs rfl rfl rfl (pl 9 rfl) (c1 _ (hx.own hno hm))) ?_; clear hs a; rintro _ w ⟨rfl, hf⟩ a hs; replace hm := hm.pu hf; clear hf) | (refine dv hs gw_ rfl rfl (d_call hs rfl rfl rfl (pl 10 rfl) (c2 _ (hx.own hno hm))) ?_; clear hs a; rintro _ w ⟨rfl, hf⟩ a hs; replace hm := hm.pu hf; clear hf)) | (with_reducible first | apply lNilThen | apply lNilBlock | apply lNil | apply wp_seq | apply wp_region_lit | apply wp_block | apply cExit | apply cRet | apply cSkip | apply gThen | apply gBlock | apply eThen | apply eBlockHit | refine eBlock rfl ?_ | apply rThen | apply rBlock) | ((with_reducible apply cCond); first | refine cTrue hs rfl bd_ ?_ | refine cFalse hs rfl bd_ ?_))
      rw [hbb] at hs
      repeat (first | ((with_reducible refine toL hm ?_); (first | refine oneV hs gw_ rfl rfl (by intro w hm; (first | exact kvR_ | exact r_remH hs rfl rfl rfl (by assumption) (by omega) (by omega) | exact r_rem64 hs rfl rfl rfl (by omega) (by omega) | exact r_rem hs rfl rfl rfl (by omega) | exact r_b2s hs rfl rfl tab rfl rfl rfl rfl rfl rfl (by first | exact Fr.rd' hm.fr (by assumption) | exact Mm.rd_row hm mem_ (by assumption)) (by assumption) | exact r_neqSt (fl := [(true, 0, 5), (true, 1, 22)]) hs rfl rfl rfl tab (by kernel_rfl) (by kernel_rfl) (by kernel_rfl) (by kernel_rfl) rfl)) ?_ | refine oneN hs rfl rfl rfl rfl rfl rfl rfl ?_ | refine oneU hs rfl rfl rfl rfl rfl rfl ?_); clear hs a; intro a hs) | ((with_reducible apply lCons); first | (refine dv hs gw_ rfl rfl da_ ?_; clear hs hm a; rintro _ w ⟨g, rfl, -, hm⟩ a hs) | (refine stn hs rfl rfl ds_ ?_; clear hs hm a; rintro - w hm a hs) ) | (with_reducible first | apply lNilThen | apply lNilBlock | apply lNil | apply wp_seq | apply wp_region_lit | apply wp_block | apply cExit | apply cRet | apply cSkip | apply gThen | apply gBlock | apply eThen | apply eBlockHit | refine eBlock rfl ?_ | apply rThen | apply rBlock) | ((with_reducible apply cCond); first | refine cTrue hs rfl bd_ ?_ | refine cFalse hs rfl bd_ ?_))
      exact ⟨j + 1, by omega, hs.sub (Has.all ⟨rfl, rfl, rfl, rfl, rfl, rfl, rfl, rfl, rfl, rfl, rfl, rfl, rfl, rfl, trivial⟩), hm.sub sub_, by omega⟩
    · clear hwd
      repeat (first | ((with_reducible refine toL hm ?_); (first | refine oneV hs gw_ rfl rfl (by intro w hm; (first | exact kvR_ | exact r_remH hs rfl rfl rfl (by assumption) (by omega) (by omega) | exact r_rem64 hs rfl rfl rfl (by omega) (by omega) | exact r_rem hs rfl rfl rfl (by omega) | exact r_b2s hs rfl rfl tab rfl rfl rfl rfl rfl rfl (by first | exact Fr.rd' hm.fr (by assumption) | exact Mm.rd_row hm mem_ (by assumption)) (by assumption) | exact r_neqSt (fl := [(true, 0, 5), (true, 1, 22)]) hs rfl rfl rfl tab (by kernel_rfl) (by kernel_rfl) (by kernel_rfl) (by kernel_rfl) rfl)) ?_ | refine oneN hs rfl rfl rfl rfl rfl rfl rfl ?_ | refine oneU hs rfl rfl rfl rfl rfl rfl ?_); clear hs a; intro a hs) | ((with_reducible apply lCons); first | (refine dv hs gw_ rfl rfl da_ ?_; clear hs hm a; rintro _ w ⟨g, rfl, -, hm⟩ a hs) | (refine stn hs rfl rfl ds_ ?_; clear hs hm a; rintro - w hm a hs) | (refine dv hs gw_ rfl rfl (d_call hs rfl rfl rfl (pl 11 rfl) (hmd _)) ?_; clear hs a; rintro _ w ⟨rfl, hf⟩ a hs; replace hm := hm.pu hf; clear hf)) | (with_reducible first | apply lNilThen | apply lNilBlock | apply lNil | apply wp_seq | apply wp_region_lit | apply wp_block | apply cExit | apply cRet | apply cSkip | apply gThen | apply gBlock | apply eThen | apply eBlockHit | refine eBlock rfl ?_ | apply rThen | apply rBlock) | ((with_reducible apply cCond); first | refine cTrue hs rfl bd_ ?_ | refine cFalse hs rfl bd_ ?_))
      obtain ⟨g102, en_⟩ := hs.ps 102 (by exact rfl); subst en_
      have hwd : ∀ j, j < 2 → ∃ m : Int, ([.int .i64 kk, .int .i64 (km - 2)] : List Value)[j]? = some (.int .i64 m) := fun j hj => by
        rcases (by omega : j = 0 ∨ j = 1) with rfl | rfl
        · exact ⟨kk, rfl⟩
        · exact ⟨km - 2, rfl⟩
      refine cLoop (X := Nat) (fun j a w' => Sl Try.f3.ntmps [(1, .int .u16 nn), (2, .bool back), (3, .int .i64 kk), (10, .bool false), (11, .pointer (some ⟨gd, 0, none⟩)), (12, .slice x.B x.n x.d), (13, .pointer (some ⟨g13, 0, none⟩)), (54, .slice (some ⟨g54, 0, none⟩) 4 4), (55, .int .i64 4), (56, .int .i64 (i : Int)), (15, .pointer (some ⟨g15, 0, none⟩)), (102, .slice (some ⟨g102, 0, none⟩) 2 2), (103, .int .i64 2), (104, .int .i64 (j : Int))] a ∧ Mm (own [dk gd A n c a9]) wC [⟨some g102, 3, [.int .i64 kk, .int .i64 (km - 2)]⟩, ⟨some g15, 24, [.int .u8 t, .int .u16 v]⟩, dk gd A n c a4] w' ∧ j ≤ 2) (fun j => 2 - j) 0 ⟨hs.sub (Has.all ⟨rfl, rfl, rfl, rfl, rfl, rfl, rfl, rfl, rfl, rfl, rfl, rfl, rfl, rfl, trivial⟩), hm.sub sub_, by omega⟩ ?_
      clear hs hm a
      rintro j a w' ⟨hs, hm, hj⟩
      by_cases hj2 : j < 2
      · obtain ⟨m, hmc⟩ := hwd j hj2
        have c1 := fun w (h : x.ok w) => wi_c x t v m w h hv
        have c2 := fun w (h : x.ok w) => rwi_c x t v m w h hv
        generalize wiF x t v m = R at c1 c2
        unfold LS.l LS.s clV at *
        repeat (first | ((with_reducible refine toL hm ?_); (first | refine oneV hs gw_ rfl rfl (by intro w hm; (first | exact kvR_ | exact r_remH hs rfl rfl rfl (by assumption) (by omega) (by omega) | exact r_rem64 hs rfl rfl rfl (by omega) (by omega) | exact r_rem hs rfl rfl rfl (by omega) | exact r_b2s hs rfl rfl tab rfl rfl rfl rfl rfl rfl (by first | exact Fr.rd' hm.fr (by assumption) | exact Mm.rd_row hm mem_ (by assumption)) (by assumption) | exact r_neqSt (fl := [(true, 0, 5), (true, 1, 22)]) hs rfl rfl rfl tab (by kernel_rfl) (by kernel_rfl) (by kernel_rfl) (by kernel_rfl) rfl)) ?_ | refine oneN hs rfl rfl rfl rfl rfl rfl rfl ?_ | refine oneU hs rfl rfl rfl rfl rfl rfl ?_); clear hs a; intro a hs) | ((with_reducible apply lCons); first | (refine dv hs gw_ rfl rfl da_ ?_; clear hs hm a; rintro _ w ⟨g, rfl, -, hm⟩ a hs) | (refine stn hs rfl rfl ds_ ?_; clear hs hm a; rintro - w hm a hs) | (refine dv hs gw_ rfl rfl (d_call hs rfl rfl rfl (pl 12 rfl) (c1 _ (hx.own hno hm))) ?_; clear hs a; rintro _ w ⟨rfl, hf⟩ a hs; replace hm := hm.pu hf; clear hf) | (refine dv hs gw_ rfl rfl (d_call hs rfl rfl rfl (pl 13 rfl) (c2 _ (hx.own hno hm))) ?_; clear hs a; rintro _ w ⟨rfl, hf⟩ a hs; replace hm := hm.pu hf; clear hf)) | (with_reducible first | apply lNilThen | apply lNilBlock | apply lNil | apply wp_seq | apply wp_region_lit | apply wp_block | apply cExit | apply cRet | apply cSkip | apply gThen | apply gBlock | apply eThen | apply eBlockHit | refine eBlock rfl ?_ | apply rThen | apply rBlock) | ((with_reducible apply cCond); first | refine cTrue hs rfl bd_ ?_ | refine cFalse hs rfl bd_ ?_))
        exact ⟨j + 1, by omega, hs.sub (Has.all ⟨rfl, rfl, rfl, rfl, rfl, rfl, rfl, rfl, rfl, rfl, rfl, rfl, rfl, rfl, trivial⟩), hm.sub sub_, by omega⟩
      · repeat (first | ((with_reducible refine toL hm ?_); (first | refine oneV hs gw_ rfl rfl (by intro w hm; (first | exact kvR_ | exact r_remH hs rfl rfl rfl (by assumption) (by omega) (by omega) | exact r_rem64 hs rfl rfl rfl (by omega) (by omega) | exact r_rem hs rfl rfl rfl (by omega) | exact r_b2s hs rfl rfl tab rfl rfl rfl rfl rfl rfl (by first | exact Fr.rd' hm.fr (by assumption) | exact Mm.rd_row hm mem_ (by assumption)) (by assumption) | exact r_neqSt (fl := [(true, 0, 5), (true, 1, 22)]) hs rfl rfl rfl tab (by kernel_rfl) (by kernel_rfl) (by kernel_rfl) (by kernel_rfl) rfl)) ?_ | refine oneN hs rfl rfl rfl rfl rfl rfl rfl ?_ | refine oneU hs rfl rfl rfl rfl rfl rfl ?_); clear hs a; intro a hs) | ((with_reducible apply lCons); first | (refine dv hs gw_ rfl rfl da_ ?_; clear hs hm a; rintro _ w ⟨g, rfl, -, hm⟩ a hs) | (refine stn hs rfl rfl ds_ ?_; clear hs hm a; rintro - w hm a hs) ) | (with_reducible first | apply lNilThen | apply lNilBlock | apply lNil | apply wp_seq | apply wp_region_lit | apply wp_block | apply cExit | apply cRet | apply cSkip | apply gThen | apply gBlock | apply eThen | apply eBlockHit | refine eBlock rfl ?_ | apply rThen | apply rBlock) | ((with_reducible apply cCond); first | refine cTrue hs rfl bd_ ?_ | refine cFalse hs rfl bd_ ?_))
        exact ⟨(i + 1, a4), by dsimp only; omega, hs.sub (Has.all ⟨rfl, rfl, rfl, rfl, rfl, rfl, rfl, rfl, rfl, rfl, trivial⟩), hm.sub sub_, by dsimp only; omega⟩
  · repeat (first | ((with_reducible refine toL hm ?_); (first | refine oneV hs gw_ rfl rfl (by intro w hm; (first | exact kvR_ | exact r_remH hs rfl rfl rfl (by assumption) (by omega) (by omega) | exact r_rem64 hs rfl rfl rfl (by omega) (by omega) | exact r_rem hs rfl rfl rfl (by omega) | exact r_b2s hs rfl rfl tab rfl rfl rfl rfl rfl rfl (by first | exact Fr.rd' hm.fr (by assumption) | exact Mm.rd_row hm mem_ (by assumption)) (by assumption) | exact r_neqSt (fl := [(true, 0, 5), (true, 1, 22)]) hs rfl rfl rfl tab (by kernel_rfl) (by kernel_rfl) (by kernel_rfl) (by kernel_rfl) rfl)) ?_ | refine oneN hs rfl rfl rfl rfl rfl rfl rfl ?_ | refine oneU hs rfl rfl rfl rfl rfl rfl ?_); clear hs a; intro a hs) | ((with_reducible apply lCons); first | (refine dv hs gw_ rfl rfl da_ ?_; clear hs hm a; rintro _ w ⟨g, rfl, -, hm⟩ a hs) | (refine stn hs rfl rfl ds_ ?_; clear hs hm a; rintro - w hm a hs) | (refine dv hs gw_ rfl rfl (d_call hs rfl rfl rfl (pl 14 rfl) (awk_c _)) ?_; clear hs a; rintro _ w ⟨rfl, hf⟩ a hs; replace hm := hm.pu hf; clear hf)) | (with_reducible first | apply lNilThen | apply lNilBlock | apply lNil | apply wp_seq | apply wp_region_lit | apply wp_block | apply cExit | apply cRet | apply cSkip | apply gThen | apply gBlock | apply eThen | apply eBlockHit | refine eBlock rfl ?_ | apply rThen | apply rBlock) | ((with_reducible apply cCond); first | refine cTrue hs rfl bd_ ?_ | refine cFalse hs rfl bd_ ?_))
    exact gRet1 hs rfl rfl ⟨rfl, (hmB.trans hm).fr⟩
theorem walk_AluMoves (x0 x1 nn : Int) (back : Bool) (kk : Int) (A : Option Addr) (n c : Nat) (xs : List Int) (w : World) (h0 : (Lit.int .u8 x0).wf = true ∧ (Lit.int .u16 x1).wf = true) (h1 : (Lit.int .u16 nn).wf = true) (_hk : (Lit.int .i64 kk).wf = true) (h : IsInts .i64 w A n c xs) : Calls Try.prog 3 #[.agg #[.int .u8 x0, .int .u16 x1], .int .u16 nn, .bool back, .int .i64 kk, .slice A n c] w (fun e w' => e = .returned (.bool true) ∧ Pu w w') :=
  (movs_c x0 x1 nn kk back A n c xs w (by simpa [Lit.wf, IntKind.min, IntKind.max, IntKind.signed, IntKind.bits] using h0) (by simpa [Lit.wf, IntKind.min, IntKind.max, IntKind.signed, IntKind.bits] using h1) h).law
end Go.Proofs.Ytfcimpfhfbkgbab
