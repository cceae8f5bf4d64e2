/- LockBack: the walk. -/
import Derived.Test.YtfcmejcmijjnpaaLk16
import Derived.Test.YtfcmejcmijjnpaaOpen
namespace Go.Proofs.Ytfcmejcmijjnpaa
open Go.RowKit


theorem back_cases {a : Ab} {k : Nat} {t : Int} (h : VA a) (hk : k < 4) :
    takF a k t = (a, 2) ∨ ((takF a k t).2 = 1 ∧ ¬ a.os.getD k 0 = -1) ∨ (takF a k t = (⟨a.os.set k t, a.qs⟩, 0) ∧ a.os.getD k 0 = -1 ∧ givF ⟨a.os.set k t, a.qs⟩ k t = (a, -1, true) ∧ givF a k t = (a, -1, false)) := by
  have ho := h.o
  unfold takF
  by_cases c1 : a.os.getD k 0 = t
  · rw [if_pos c1]; exact .inl rfl
  rw [if_neg c1]
  by_cases c2 : a.wt t = true
  · rw [if_pos c2]; exact .inl rfl
  rw [if_neg c2]
  by_cases c3 : a.os.getD k 0 = -1
  · rw [if_pos c3]
    refine .inr (.inr ⟨rfl, c3, ?_, ?_⟩)
    · unfold givF
      dsimp only
      rw [getD_set (by omega), if_pos rfl, if_pos rfl, h.e k hk c3]
      dsimp only
      rw [List.set_set]
      have : a.os.set k (-1) = a.os := by
        rw [← c3, getI (by omega)]
        exact List.set_getElem_self _
      rw [this]
    · unfold givF
      rw [if_neg c1]
  · rw [if_neg c3]; exact .inr (.inl ⟨rfl, c3⟩)

set_option maxHeartbeats 8000000 in
theorem back_c (A : Option Addr) (n c : Nat) (xs : List Int) (kk tt : Int) (w0 : World) (hI : IsInts .i64 w0 A n c xs) :
    Ret Try.prog 4 [.slice A n c, .int .i64 kk, .int .i64 tt] w0 (fun v w' => v = .bool true ∧ Pu w0 w') := by
  obtain ⟨hl, hnc, hc63, hrx, hwx⟩ := hI
  have hn63 : n ≤ 9223372036854775807 := by omega
  obtain ⟨k, hk, hk4⟩ : ∃ k : Nat, modF kk 4 = (k : Int) ∧ k < 4 := ⟨(modF kk 4).toNat, by have := modF_bd kk (m := 4) (by omega); omega, by have := modF_bd kk (m := 4) (by omega); omega⟩
  obtain ⟨t, ht, ht4⟩ : ∃ t : Int, modF tt 4 = t ∧ 0 ≤ t ∧ t < 4 := ⟨_, rfl, modF_bd tt (m := 4) (by omega)⟩
  have m1 := fun w => mod_c kk 4 w (by omega) (by omega)
  have m2 := fun w => mod_c tt 4 w (by omega) (by omega)
  rw [hk] at m1
  rw [ht] at m2
  refine enterR Try.func4 rfl rfl rfl fun a hs hm => ?_
  repeat (first | ((with_reducible refine toL hm ?_); (first | refine oneV hs gw_ rfl rfl (by intro w hm; exact kvR_) ?_ | refine oneN hs rfl rfl rfl rfl rfl rfl rfl ?_ | refine oneU hs rfl rfl rfl rfl rfl rfl ?_); clear hs a; intro a hs) | ((with_reducible apply lCons); first | (refine dv hs gw_ rfl rfl da_ ?_; clear hs hm a; rintro _ w ⟨g, rfl, -, hm⟩ a hs) | (refine stn hs rfl rfl ds_ ?_; clear hs hm a; rintro - w hm a hs) ) | (with_reducible first | apply lNilThen | apply lNilBlock | apply lNil | apply wp_seq | apply wp_region_lit | apply wp_block | apply cExit | apply cRet | apply cSkip | apply gThen | apply gBlock | apply eThen | apply eBlockHit | refine eBlock rfl ?_ | apply rThen | apply rBlock) | ((with_reducible apply cCond); first | refine cTrue hs rfl bd_ ?_ | refine cFalse hs rfl bd_ ?_))
  have hrA := hm.fr.rd' hrx
  refine st hs rfl rfl rfl (d_call hs rfl rfl rfl (pl 7 rfl) ((mk_c A n c _))) ?_; clear hs a; rintro _ w1 ⟨gd, rfl, hN, hf⟩ a hs
  have hD := Dk.start hl hrA hn63 hN hf
  replace hm := hm.gain hf hN
  clear hN hf hrA
  refine st hs rfl rfl rfl (d_call hs rfl rfl rfl (pl 15 rfl) ((lks_c gd A n c 0 xs _ hD))) ?_; clear hs a; rintro _ w2 ⟨x, rfl, hx, -, hva, a1, k1, hf⟩ a hs
  replace hm := hm.dkt (Rep.head _ _ _) k1 hf
  have hF := hm.fr
  clear hm hf k1 hD
  have hm := Mm.nil (fun _ => False) w2
  have hs0 := hva.o
  have hq0 := hva.q
  have hxo := hx.o.1
  obtain ⟨⟨oA, on, oc, os⟩, qA, qc, qs⟩ := x
  unfold KS.ab at hs0 hq0
  dsimp only at hs0 hq0 hxo
  rw [List.length_map] at hq0
  obtain rfl : on = 4 := by omega
  obtain ⟨b1, o1, hoA, hb1, r1⟩ := hx.o.2.ro (by rw [ints_len]; dsimp only; omega)
  dsimp only at hoA r1
  subst hoA
  replace hva : VA ⟨os, qs.map IS.xs⟩ := hva
  have hsm := KS.sm_of hx hva.sh
  unfold KS.v IS.v at hs
  dsimp only at hs
  repeat (first | ((with_reducible refine toL hm ?_); (first | refine oneV hs gw_ rfl rfl (by intro w hm; exact kvR_) ?_ | refine oneN hs rfl rfl rfl rfl rfl rfl rfl ?_ | refine oneU hs rfl rfl rfl rfl rfl rfl ?_); clear hs a; intro a hs) | ((with_reducible apply lCons); first | (refine dv hs gw_ rfl rfl da_ ?_; clear hs hm a; rintro _ w ⟨g, rfl, -, hm⟩ a hs) | (refine stn hs rfl rfl ds_ ?_; clear hs hm a; rintro - w hm a hs) | (refine dv hs gw_ rfl rfl (d_call hs rfl rfl rfl (pl 16 rfl) (m1 _)) ?_; clear hs a; rintro _ w ⟨rfl, hf⟩ a hs; replace hm := hm.pu hf; clear hf) | (refine dv hs gw_ rfl rfl (d_call hs rfl rfl rfl (pl 16 rfl) (m2 _)) ?_; clear hs a; rintro _ w ⟨rfl, hf⟩ a hs; replace hm := hm.pu hf; clear hf)) | (with_reducible first | apply lNilThen | apply lNilBlock | apply lNil | apply wp_seq | apply wp_region_lit | apply wp_block | apply cExit | apply cRet | apply cSkip | apply gThen | apply gBlock | apply eThen | apply eBlockHit | refine eBlock rfl ?_ | apply rThen | apply rBlock) | ((with_reducible apply cCond); first | refine cTrue hs rfl bd_ ?_ | refine cFalse hs rfl bd_ ?_))
  refine st hs rfl rfl rfl (d_call hs rfl rfl rfl (pl 10 rfl) ((tak_c ⟨⟨some ⟨b1, o1, none⟩, 4, oc, os⟩, qA, qc, qs⟩ k t _ (hx.pu hm.fr) hva.sh hk4))) ?_; clear hs a; rintro _ w3 ⟨y, rfl, hy, -, hya, hf⟩ a hs
  replace hm := hm.pu hf
  clear hf
  obtain ⟨g7, en_⟩ := hs.pt 7 (by exact rfl); subst en_
  have q7 := hm.ro (k := 0) (n := 2) (g := g7) mem_ (cutF_ok rfl)
  replace hx := hx.pu hm.fr
  replace hF := hF.pu hm.fr
  replace r1 := r1.ro hm (fun t => t)
  clear hm
  rename World => wD
  have hm := Mm.nil (fun _ => False) wD
  have hvy : VA y.ab := by rw [hya]; exact tak_va hva hk4 ht4
  have hsy := KS.sm_of hy hvy.sh
  have hyl : y.qs.length = 4 := by
    have := hvy.q
    unfold KS.ab at this
    rwa [List.length_map] at this
  obtain ⟨v, hv⟩ : ∃ v, os[k] = v := ⟨_, rfl⟩
  have e1 := ints_some (xs := os) (k := k) (by omega)
  have hgd := getI (l := os) (k := k) (by omega)
  rw [hv] at e1 hgd
  rcases back_cases hva hk4 (t := t) with e | ⟨e, hne⟩ | ⟨e, hmi, eg, eg2⟩
  · have e' : takF (KS.ab ⟨⟨some ⟨b1, o1, none⟩, 4, oc, os⟩, qA, qc, qs⟩) k t = _ := e
    rw [e'] at hya hs
    have cS := fun w (hf : Pu wD w) => sme_c y ⟨⟨some ⟨b1, o1, none⟩, 4, oc, os⟩, qA, qc, qs⟩ w (hy.pu hf) (hx.pu hf) hyl hq0 hsy
    rw [decide_eq_true ⟨by rw [hya]; rfl, by rw [hya]; rfl⟩] at cS
    unfold KS.v IS.v at *
    dsimp only at cS hs
    repeat (first | ((with_reducible refine toL hm ?_); (first | refine oneV hs gw_ rfl rfl (by intro w hm; exact kvR_) ?_ | refine oneN hs rfl rfl rfl rfl rfl rfl rfl ?_ | refine oneU hs rfl rfl rfl rfl rfl rfl ?_); clear hs a; intro a hs) | ((with_reducible apply lCons); first | (refine dv hs gw_ rfl rfl da_ ?_; clear hs hm a; rintro _ w ⟨g, rfl, -, hm⟩ a hs) | (refine stn hs rfl rfl ds_ ?_; clear hs hm a; rintro - w hm a hs) | (refine dv hs gw_ rfl rfl (d_call hs rfl rfl rfl (pl 17 rfl) (cS _ hm.fr)) ?_; clear hs a; rintro _ w ⟨rfl, hf⟩ a hs; replace hm := hm.pu hf; clear hf) | (refine dv hs gw_ rfl rfl (d_call hs rfl rfl rfl (pl 14 rfl) (awk_c _)) ?_; clear hs a; rintro _ w ⟨rfl, hf⟩ a hs; replace hm := hm.pu hf; clear hf)) | (with_reducible first | apply lNilThen | apply lNilBlock | apply lNil | apply wp_seq | apply wp_region_lit | apply wp_block | apply cExit | apply cRet | apply cSkip | apply gThen | apply gBlock | apply eThen | apply eBlockHit | refine eBlock rfl ?_ | apply rThen | apply rBlock) | ((with_reducible apply cCond); first | refine cTrue hs rfl bd_ ?_ | refine cFalse hs rfl bd_ ?_))
    exact gRet1 hs rfl rfl ⟨rfl, hF.pu hm.fr⟩
  · have e' : (takF (KS.ab ⟨⟨some ⟨b1, o1, none⟩, 4, oc, os⟩, qA, qc, qs⟩) k t).2 = 1 := e
    rw [e'] at hs
    dsimp only at hne
    rw [hgd] at hne
    have cV := fun w (hf : Pu wD w) => val_c y w (hy.pu hf) hvy
    unfold KS.v IS.v at *
    repeat (first | ((with_reducible refine toL hm ?_); (first | refine oneV hs gw_ rfl rfl (by intro w hm; exact kvR_) ?_ | refine oneN hs rfl rfl rfl rfl rfl rfl rfl ?_ | refine oneU hs rfl rfl rfl rfl rfl rfl ?_); clear hs a; intro a hs) | ((with_reducible apply lCons); first | (refine dv hs gw_ rfl rfl da_ ?_; clear hs hm a; rintro _ w ⟨g, rfl, -, hm⟩ a hs) | (refine stn hs rfl rfl ds_ ?_; clear hs hm a; rintro - w hm a hs) | (refine dv hs gw_ rfl rfl (d_call hs rfl rfl rfl (pl 12 rfl) (cV _ hm.fr)) ?_; clear hs a; rintro _ w ⟨rfl, hf⟩ a hs; replace hm := hm.pu hf; clear hf) | (refine dv hs gw_ rfl rfl (d_call hs rfl rfl rfl (pl 14 rfl) (awk_c _)) ?_; clear hs a; rintro _ w ⟨rfl, hf⟩ a hs; replace hm := hm.pu hf; clear hf)) | (with_reducible first | apply lNilThen | apply lNilBlock | apply lNil | apply wp_seq | apply wp_region_lit | apply wp_block | apply cExit | apply cRet | apply cSkip | apply gThen | apply gBlock | apply eThen | apply eBlockHit | refine eBlock rfl ?_ | apply rThen | apply rBlock) | ((with_reducible apply cCond); first | refine cTrue hs rfl bd_ ?_ | refine cFalse hs rfl bd_ ?_))
    exact gRet1 hs rfl rfl ⟨rfl, hF.pu hm.fr⟩
  · have e' : takF (KS.ab ⟨⟨some ⟨b1, o1, none⟩, 4, oc, os⟩, qA, qc, qs⟩) k t = _ := e
    rw [e'] at hya hs
    dsimp only at hmi hya eg eg2
    rw [hgd] at hmi
    unfold KS.v IS.v at hs
    repeat (first | ((with_reducible refine toL hm ?_); (first | refine oneV hs gw_ rfl rfl (by intro w hm; exact kvR_) ?_ | refine oneN hs rfl rfl rfl rfl rfl rfl rfl ?_ | refine oneU hs rfl rfl rfl rfl rfl rfl ?_); clear hs a; intro a hs) | ((with_reducible apply lCons); first | (refine dv hs gw_ rfl rfl da_ ?_; clear hs hm a; rintro _ w ⟨g, rfl, -, hm⟩ a hs) | (refine stn hs rfl rfl ds_ ?_; clear hs hm a; rintro - w hm a hs) ) | (with_reducible first | apply lNilThen | apply lNilBlock | apply lNil | apply wp_seq | apply wp_region_lit | apply wp_block | apply cExit | apply cRet | apply cSkip | apply gThen | apply gBlock | apply eThen | apply eBlockHit | refine eBlock rfl ?_ | apply rThen | apply rBlock) | ((with_reducible apply cCond); first | refine cTrue hs rfl bd_ ?_ | refine cFalse hs rfl bd_ ?_))
    refine st hs rfl rfl rfl (d_call hs rfl rfl rfl (pl 11 rfl) ((giv_c y k t _ (hy.pu hm.fr) hvy.sh hk4))) ?_; clear hs a; rintro _ w4 ⟨z, rfl, hz, -, hza, hf⟩ a hs
    replace hm := hm.pu hf
    clear hf
    rw [hya, eg] at hza hs
    dsimp only at hza
    have hvz : VA z.ab := by rw [hza]; exact hva
    have hsz := KS.sm_of hz hvz.sh
    have hzl : z.qs.length = 4 := by
      have := hvz.q
      unfold KS.ab at this
      rwa [List.length_map] at this
    have p7 := q7.ro hm (fun t => t)
    replace hx := hx.pu hm.fr
    replace hF := hF.pu hm.fr
    replace r1 := r1.ro hm (fun t => t)
    clear hm q7
    rename World => wE
    have hm := Mm.nil (fun _ => False) wE
    unfold KS.v IS.v at hs
    repeat (first | ((with_reducible refine toL hm ?_); (first | refine oneV hs gw_ rfl rfl (by intro w hm; exact kvR_) ?_ | refine oneN hs rfl rfl rfl rfl rfl rfl rfl ?_ | refine oneU hs rfl rfl rfl rfl rfl rfl ?_); clear hs a; intro a hs) | ((with_reducible apply lCons); first | (refine dv hs gw_ rfl rfl da_ ?_; clear hs hm a; rintro _ w ⟨g, rfl, -, hm⟩ a hs) | (refine stn hs rfl rfl ds_ ?_; clear hs hm a; rintro - w hm a hs) ) | (with_reducible first | apply lNilThen | apply lNilBlock | apply lNil | apply wp_seq | apply wp_region_lit | apply wp_block | apply cExit | apply cRet | apply cSkip | apply gThen | apply gBlock | apply eThen | apply eBlockHit | refine eBlock rfl ?_ | apply rThen | apply rBlock) | ((with_reducible apply cCond); first | refine cTrue hs rfl bd_ ?_ | refine cFalse hs rfl bd_ ?_))
    refine st hs rfl rfl rfl (d_call hs rfl rfl rfl (pl 11 rfl) ((giv_c z k t _ (hz.pu hm.fr) hvz.sh hk4))) ?_; clear hs a; rintro _ w4 ⟨z2, rfl, hz2, -, hz2a, hf⟩ a hs
    replace hm := hm.pu hf
    clear hf
    rw [hza, eg2] at hz2a hs
    have cS := fun w (hf : Pu wE w) => sme_c z ⟨⟨some ⟨b1, o1, none⟩, 4, oc, os⟩, qA, qc, qs⟩ w (hz.pu hf) (hx.pu hf) hzl hq0 hsz
    rw [decide_eq_true ⟨by rw [hza]; rfl, by rw [hza]; rfl⟩] at cS
    unfold KS.v IS.v at *
    dsimp only at cS
    repeat (first | ((with_reducible refine toL hm ?_); (first | refine oneV hs gw_ rfl rfl (by intro w hm; exact kvR_) ?_ | refine oneN hs rfl rfl rfl rfl rfl rfl rfl ?_ | refine oneU hs rfl rfl rfl rfl rfl rfl ?_); clear hs a; intro a hs) | ((with_reducible apply lCons); first | (refine dv hs gw_ rfl rfl da_ ?_; clear hs hm a; rintro _ w ⟨g, rfl, -, hm⟩ a hs) | (refine stn hs rfl rfl ds_ ?_; clear hs hm a; rintro - w hm a hs) | (refine dv hs gw_ rfl rfl (d_call hs rfl rfl rfl (pl 17 rfl) (cS _ hm.fr)) ?_; clear hs a; rintro _ w ⟨rfl, hf⟩ a hs; replace hm := hm.pu hf; clear hf) | (refine dv hs gw_ rfl rfl (d_call hs rfl rfl rfl (pl 14 rfl) (awk_c _)) ?_; clear hs a; rintro _ w ⟨rfl, hf⟩ a hs; replace hm := hm.pu hf; clear hf)) | (with_reducible first | apply lNilThen | apply lNilBlock | apply lNil | apply wp_seq | apply wp_region_lit | apply wp_block | apply cExit | apply cRet | apply cSkip | apply gThen | apply gBlock | apply eThen | apply eBlockHit | refine eBlock rfl ?_ | apply rThen | apply rBlock) | ((with_reducible apply cCond); first | refine cTrue hs rfl bd_ ?_ | refine cFalse hs rfl bd_ ?_))
    exact gRet1 hs rfl rfl ⟨rfl, hF.pu hm.fr⟩
theorem walk_LockBack (A : Option Addr) (n c : Nat) (xs : List Int) (kk tt : Int) (w : World) (h : IsInts .i64 w A n c xs) (_h0 : (Lit.int .i64 kk).wf = true) (_h1 : (Lit.int .i64 tt).wf = true) : Calls Try.prog 4 #[.slice A n c, .int .i64 kk, .int .i64 tt] w (fun e w' => e = .returned (.bool true) ∧ Pu w w') :=
  (back_c A n c xs kk tt w h).law
end Go.Proofs.Ytfcmejcmijjnpaa
