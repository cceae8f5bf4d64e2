/- LockApart: the walk. -/
import Derived.Test.YtfcmejcmijjnpaaLk16
import Derived.Test.YtfcmejcmijjnpaaOpen
namespace Go.Proofs.Ytfcmejcmijjnpaa
open Go.RowKit


theorem KS.open_ {x : KS} {w : World} (hx : x.ok w) (h : VA x.ab) : ∃ b1 o1 oc os b2 o2 qc qs, x = ⟨⟨some ⟨b1, o1, none⟩, 4, oc, os⟩, some ⟨b2, o2, none⟩, qc, qs⟩ ∧ os.length = 4 ∧ qs.length = 4 ∧ Ro w b1 o1 (ints os) ∧ Ro w b2 o2 (qs.map IS.v) := by
  have hs0 := h.o
  have hq0 := h.q
  have hxo := hx.o.1
  obtain ⟨⟨oA, on, oc, os⟩, qA, qc, qs⟩ := x
  unfold KS.ab at hs0 hq0
  dsimp only at hs0 hq0 hxo
  rw [List.length_map] at hq0
  obtain rfl : on = 4 := by omega
  obtain ⟨b1, o1, hoA, hb1, r1⟩ := hx.o.2.ro (by rw [ints_len]; dsimp only; omega)
  obtain ⟨b2, o2, hqA, hb2, r2⟩ := hx.q.ro (by rw [List.length_map]; dsimp only; omega)
  dsimp only at hoA hqA r1 r2
  subst hoA
  subst hqA
  exact ⟨b1, o1, oc, os, b2, o2, qc, qs, rfl, hs0, hq0, r1, r2⟩
theorem tak_apart {a : Ab} {k i : Nat} {t : Int} (h : VA a) (hk : k < 4) (hi : i ≠ k) : (takF a k t).1.os.getD i 0 = a.os.getD i 0 ∧ (takF a k t).1.qs.getD i [] = a.qs.getD i [] := by
  have ho := h.o
  have hq := h.q
  unfold takF
  by_cases c1 : a.os.getD k 0 = t
  · rw [if_pos c1]; exact ⟨rfl, rfl⟩
  rw [if_neg c1]
  by_cases c2 : a.wt t = true
  · rw [if_pos c2]; exact ⟨rfl, rfl⟩
  rw [if_neg c2]
  by_cases c3 : a.os.getD k 0 = -1
  · rw [if_pos c3]; dsimp only; rw [getD_set (by omega), if_neg (Ne.symm hi)]; exact ⟨rfl, rfl⟩
  · rw [if_neg c3]; dsimp only; rw [getQ_set (by omega), if_neg (Ne.symm hi)]; exact ⟨rfl, rfl⟩
theorem giv_apart {a : Ab} {k i : Nat} {t : Int} (h : VA a) (hk : k < 4) (hi : i ≠ k) : (givF a k t).1.os.getD i 0 = a.os.getD i 0 ∧ (givF a k t).1.qs.getD i [] = a.qs.getD i [] := by
  have ho := h.o
  have hq := h.q
  unfold givF
  by_cases c1 : a.os.getD k 0 = t
  · rw [if_pos c1]
    cases hx : a.qs.getD k [] with
    | nil => dsimp only; rw [getD_set (by omega), if_neg (Ne.symm hi)]; exact ⟨rfl, rfl⟩
    | cons u l => dsimp only; rw [getD_set (by omega), if_neg (Ne.symm hi), getQ_set (by omega), if_neg (Ne.symm hi)]; exact ⟨rfl, rfl⟩
  · rw [if_neg c1]; exact ⟨rfl, rfl⟩
theorem qs_at {qs : List IS} {i : Nat} (h : i < qs.length) : (qs.map IS.xs).getD i [] = qs[i].xs := by
  rw [List.getD_eq_getElem?_getD, List.getElem?_map, List.getElem?_eq_getElem h]; rfl
theorem qv_at {qs : List IS} {i : Nat} (h : i < qs.length) : (qs.map IS.v)[i]? = some (.slice qs[i].A qs[i].n qs[i].c) := by
  rw [List.getElem?_map, List.getElem?_eq_getElem h]; rfl

set_option maxHeartbeats 8000000 in
theorem apart_c (A : Option Addr) (n c : Nat) (xs : List Int) (kk tt : Int) (w0 : World) (hI : IsInts .i64 w0 A n c xs) :
    Ret Try.prog 5 [.slice A n c, .int .i64 kk, .int .i64 tt] w0 (fun v w' => v = .bool true ∧ Pu w0 w') := by
  obtain ⟨hl, hnc, hc63, hrx, hwx⟩ := hI
  have hn63 : n ≤ 9223372036854775807 := by omega
  obtain ⟨k, hk, hk4⟩ : ∃ k : Nat, modF kk 4 = (k : Int) ∧ k < 4 := ⟨(modF kk 4).toNat, by have := modF_bd kk (m := 4) (by omega); omega, by have := modF_bd kk (m := 4) (by omega); omega⟩
  obtain ⟨t, ht, ht4⟩ : ∃ t : Int, modF tt 4 = t ∧ 0 ≤ t ∧ t < 4 := ⟨_, rfl, modF_bd tt (m := 4) (by omega)⟩
  have m1 := fun w => mod_c kk 4 w (by omega) (by omega)
  have m2 := fun w => mod_c tt 4 w (by omega) (by omega)
  rw [hk] at m1
  rw [ht] at m2
  refine enterR Try.func5 rfl rfl rfl fun a hs hm => ?_
  repeat (first | ((with_reducible refine toL hm ?_); (first | refine oneV hs gw_ rfl rfl (by intro w hm; exact kvR_) ?_ | refine oneN hs rfl rfl rfl rfl rfl rfl rfl ?_ | refine oneU hs rfl rfl rfl rfl rfl rfl ?_); clear hs a; intro a hs) | ((with_reducible apply lCons); first | (refine dv hs gw_ rfl rfl da_ ?_; clear hs hm a; rintro _ w ⟨g, rfl, -, hm⟩ a hs) | (refine stn hs rfl rfl ds_ ?_; clear hs hm a; rintro - w hm a hs) ) | (with_reducible first | apply lNilThen | apply lNilBlock | apply lNil | apply wp_seq | apply wp_region_lit | apply wp_block | apply cExit | apply cRet | apply cSkip | apply gThen | apply gBlock | apply eThen | apply eBlockHit | refine eBlock rfl ?_ | apply rThen | apply rBlock) | ((with_reducible apply cCond); first | refine cTrue hs rfl bd_ ?_ | refine cFalse hs rfl bd_ ?_))
  have hrA := hm.fr.rd' hrx
  refine st hs rfl rfl rfl (d_call hs rfl rfl rfl (pl 7 rfl) ((mk_c A n c _))) ?_; clear hs a; rintro _ w1 ⟨gd, rfl, hN, hf⟩ a hs
  have hD := Dk.start hl hrA hn63 hN hf
  replace hm := hm.gain hf hN
  clear hN hf hrA
  refine st hs rfl rfl rfl (d_call hs rfl rfl rfl (pl 15 rfl) ((lks_c gd A n c 0 xs _ hD))) ?_; clear hs a; rintro _ w2 ⟨x, rfl, hx, -, hva, a1, k1, hf⟩ a hs
  replace hm := hm.dkt (Rep.head _ _ _) k1 hf
  have hF := hm.fr
  clear hm hf k1 hD
  have hm := Mm.nil (fun _ => False) w2
  unfold KS.v IS.v at hs
  repeat (first | ((with_reducible refine toL hm ?_); (first | refine oneV hs gw_ rfl rfl (by intro w hm; exact kvR_) ?_ | refine oneN hs rfl rfl rfl rfl rfl rfl rfl ?_ | refine oneU hs rfl rfl rfl rfl rfl rfl ?_); clear hs a; intro a hs) | ((with_reducible apply lCons); first | (refine dv hs gw_ rfl rfl da_ ?_; clear hs hm a; rintro _ w ⟨g, rfl, -, hm⟩ a hs) | (refine stn hs rfl rfl ds_ ?_; clear hs hm a; rintro - w hm a hs) | (refine dv hs gw_ rfl rfl (d_call hs rfl rfl rfl (pl 16 rfl) (m1 _)) ?_; clear hs a; rintro _ w ⟨rfl, hf⟩ a hs; replace hm := hm.pu hf; clear hf) | (refine dv hs gw_ rfl rfl (d_call hs rfl rfl rfl (pl 16 rfl) (m2 _)) ?_; clear hs a; rintro _ w ⟨rfl, hf⟩ a hs; replace hm := hm.pu hf; clear hf)) | (with_reducible first | apply lNilThen | apply lNilBlock | apply lNil | apply wp_seq | apply wp_region_lit | apply wp_block | apply cExit | apply cRet | apply cSkip | apply gThen | apply gBlock | apply eThen | apply eBlockHit | refine eBlock rfl ?_ | apply rThen | apply rBlock) | ((with_reducible apply cCond); first | refine cTrue hs rfl bd_ ?_ | refine cFalse hs rfl bd_ ?_))
  refine st hs rfl rfl rfl (d_call hs rfl rfl rfl (pl 10 rfl) ((tak_c x k t _ (hx.pu hm.fr) hva.sh hk4))) ?_; clear hs a; rintro _ w3 ⟨y, rfl, hy, -, hya, hf⟩ a hs
  replace hm := hm.pu hf
  clear hf
  obtain ⟨g7, en_⟩ := hs.pt 7 (by exact rfl); subst en_
  have q7 := hm.ro (k := 0) (n := 2) (g := g7) mem_ (cutF_ok rfl)
  replace hx := hx.pu hm.fr
  replace hF := hF.pu hm.fr
  clear hm
  rename World => wD
  have hm := Mm.nil (fun _ => False) wD
  unfold KS.v IS.v at hs
  repeat (first | ((with_reducible refine toL hm ?_); (first | refine oneV hs gw_ rfl rfl (by intro w hm; exact kvR_) ?_ | refine oneN hs rfl rfl rfl rfl rfl rfl rfl ?_ | refine oneU hs rfl rfl rfl rfl rfl rfl ?_); clear hs a; intro a hs) | ((with_reducible apply lCons); first | (refine dv hs gw_ rfl rfl da_ ?_; clear hs hm a; rintro _ w ⟨g, rfl, -, hm⟩ a hs) | (refine stn hs rfl rfl ds_ ?_; clear hs hm a; rintro - w hm a hs) ) | (with_reducible first | apply lNilThen | apply lNilBlock | apply lNil | apply wp_seq | apply wp_region_lit | apply wp_block | apply cExit | apply cRet | apply cSkip | apply gThen | apply gBlock | apply eThen | apply eBlockHit | refine eBlock rfl ?_ | apply rThen | apply rBlock) | ((with_reducible apply cCond); first | refine cTrue hs rfl bd_ ?_ | refine cFalse hs rfl bd_ ?_))
  refine st hs rfl rfl rfl (d_call hs rfl rfl rfl (pl 11 rfl) ((giv_c x k t _ (hx.pu hm.fr) hva.sh hk4))) ?_; clear hs a; rintro _ w4 ⟨z, rfl, hz, -, hza, hf⟩ a hs
  replace hm := hm.pu hf
  clear hf
  obtain ⟨g8, en_⟩ := hs.pt 8 (by exact rfl); subst en_
  have q8 := hm.ro (k := 0) (n := 2) (g := g8) mem_ (cutF_ok rfl)
  replace q7 := q7.ro hm (fun t => t)
  replace hx := hx.pu hm.fr
  replace hy := hy.pu hm.fr
  replace hF := hF.pu hm.fr
  clear hm
  rename World => wE
  have hm := Mm.nil (fun _ => False) wE
  unfold KS.v IS.v at hs
  have hvy : VA y.ab := by rw [hya]; exact tak_va hva hk4 ht4
  have hvz : VA z.ab := by rw [hza]; exact giv_va hva hk4
  have cVy := fun w (hf : Pu wE w) => val_c y w (hy.pu hf) hvy
  have cVz := fun w (hf : Pu wE w) => val_c z w (hz.pu hf) hvz
  unfold KS.v IS.v at cVy cVz
  have hap : ∀ i, i ≠ k → y.ab.os.getD i 0 = x.ab.os.getD i 0 ∧ y.ab.qs.getD i [] = x.ab.qs.getD i [] ∧ z.ab.os.getD i 0 = x.ab.os.getD i 0 ∧ z.ab.qs.getD i [] = x.ab.qs.getD i [] := fun i hi => by
    have h1 := tak_apart (t := t) hva hk4 hi
    have h2 := giv_apart (t := t) hva hk4 hi
    rw [hya, hza]
    exact ⟨h1.1, h1.2, h2.1, h2.2⟩
  have hsy := KS.sm_of hy hvy.sh
  have hsz := KS.sm_of hz hvz.sh
  obtain ⟨xb, xo, xoc, xos, xb2, xo2, xqc, xqs, rfl, hx4, hxq4, xr1, xr2⟩ := KS.open_ hx hva
  obtain ⟨yb, yo, yoc, yos, yb2, yo2, yqc, yqs, rfl, hy4, hyq4, yr1, yr2⟩ := KS.open_ hy hvy
  obtain ⟨zb, zo, zoc, zos, zb2, zo2, zqc, zqs, rfl, hz4, hzq4, zr1, zr2⟩ := KS.open_ hz hvz
  dsimp only at hs cVy cVz q7 q8
  repeat (first | ((with_reducible refine toL hm ?_); (first | refine oneV hs gw_ rfl rfl (by intro w hm; exact kvR_) ?_ | refine oneN hs rfl rfl rfl rfl rfl rfl rfl ?_ | refine oneU hs rfl rfl rfl rfl rfl rfl ?_); clear hs a; intro a hs) | ((with_reducible apply lCons); first | (refine dv hs gw_ rfl rfl da_ ?_; clear hs hm a; rintro _ w ⟨g, rfl, -, hm⟩ a hs) | (refine stn hs rfl rfl ds_ ?_; clear hs hm a; rintro - w hm a hs) | (refine dv hs gw_ rfl rfl (d_call hs rfl rfl rfl (pl 12 rfl) (cVy _ hm.fr)) ?_; clear hs a; rintro _ w ⟨rfl, hf⟩ a hs; replace hm := hm.pu hf; clear hf) | (refine dv hs gw_ rfl rfl (d_call hs rfl rfl rfl (pl 12 rfl) (cVz _ hm.fr)) ?_; clear hs a; rintro _ w ⟨rfl, hf⟩ a hs; replace hm := hm.pu hf; clear hf)) | (with_reducible first | apply lNilThen | apply lNilBlock | apply lNil | apply wp_seq | apply wp_region_lit | apply wp_block | apply cExit | apply cRet | apply cSkip | apply gThen | apply gBlock | apply eThen | apply eBlockHit | refine eBlock rfl ?_ | apply rThen | apply rBlock) | ((with_reducible apply cCond); first | refine cTrue hs rfl bd_ ?_ | refine cFalse hs rfl bd_ ?_))
  obtain ⟨g10, en_⟩ := hs.pt 10 (by exact rfl); subst en_
  have q10 := hm.ro (k := 0) (n := 2) (g := g10) mem_ (cutF_ok rfl)
  have p7 := q7.ro hm (fun t => t)
  have p8 := q8.ro hm (fun t => t)
  have px1 := xr1.ro hm (fun t => t)
  have px2 := xr2.ro hm (fun t => t)
  have py1 := yr1.ro hm (fun t => t)
  have py2 := yr2.ro hm (fun t => t)
  have pz1 := zr1.ro hm (fun t => t)
  have pz2 := zr2.ro hm (fun t => t)
  replace hx := hx.pu hm.fr
  replace hy := hy.pu hm.fr
  replace hz := hz.pu hm.fr
  replace hF := hF.pu hm.fr
  clear hm q7 q8 xr1 xr2 yr1 yr2 zr1 zr2 cVy cVz
  rename World => wG
  have hm := Mm.nil (fun _ => False) wG
  refine cLoop (X := Nat) (fun i a w' => Sl Try.f5.ntmps [(1, .int .i64 (k : Int)), (6, .bool false), (7, .pointer (some ⟨g7, 0, none⟩)), (8, .pointer (some ⟨g8, 0, none⟩)), (10, .pointer (some ⟨g10, 0, none⟩)), (46, .int .i64 4), (47, .int .i64 (i : Int))] a ∧ Mm (fun _ => False) wG [] w' ∧ i ≤ 4) (fun i => 4 - i) 0 ⟨hs.sub (Has.all ⟨rfl, rfl, rfl, rfl, rfl, rfl, rfl, trivial⟩), hm, Nat.zero_le _⟩ ?_
  clear hs hm a
  rintro i a w' ⟨hs, hm, hi⟩
  by_cases hlt : i < 4
  · by_cases hik : i = k
    · have hik' : (i : Int) = (k : Int) := by omega
      repeat (first | ((with_reducible first | refine toL hm ?_ | refine toQ ?_); (first | refine oneV hs gw_ rfl rfl (by intro w hm; exact kvR_) ?_ | refine oneN hs rfl rfl rfl rfl rfl rfl rfl ?_ | refine oneU hs rfl rfl rfl rfl rfl rfl ?_); clear hs a; intro a hs) | ((with_reducible apply lCons); first | (refine dv hs gw_ rfl rfl da_ ?_; clear hs hm a; rintro _ w ⟨g, rfl, -, hm⟩ a hs) | (refine stn hs rfl rfl ds_ ?_; clear hs hm a; rintro - w hm a hs) ) | ((with_reducible apply qNil); clear hm; intro w hm) | ((with_reducible refine cQuiet hm ?_ ?_ ?_ ?_); rfl; kernel_rfl; kernel_rfl) | (with_reducible first | apply lNilThen | apply lNilBlock | apply lNil | apply wp_seq | apply wp_region_lit | apply wp_block | apply cExit | apply cRet | apply cSkip | apply gThen | apply gBlock | apply eThen | apply eBlockHit | refine eBlock rfl ?_ | apply rThen | apply rBlock) | ((with_reducible apply cCond); first | refine cTrue hs rfl bd_ ?_ | refine cFalse hs rfl bd_ ?_))
      exact ⟨i + 1, by omega, hs.sub (Has.all ⟨rfl, rfl, rfl, rfl, rfl, rfl, rfl, trivial⟩), hm, by omega⟩
    · obtain ⟨h1, h2, h3, h4⟩ := hap i hik
      unfold KS.ab at h1 h2 h3 h4
      dsimp only at h1 h2 h3 h4
      rw [getI (by omega), getI (by omega)] at h1 h3
      rw [qs_at (by omega), qs_at (by omega)] at h2 h4
      have ex1 := ints_some (xs := xos) (k := i) (by omega)
      have ey1 := ints_some (xs := yos) (k := i) (by omega)
      have ez1 := ints_some (xs := zos) (k := i) (by omega)
      rw [h1] at ey1
      rw [h3] at ez1
      have ex2 := qv_at (qs := xqs) (i := i) (by omega)
      have ey2 := qv_at (qs := yqs) (i := i) (by omega)
      have ez2 := qv_at (qs := zqs) (i := i) (by omega)
      have hyn := hsy.qs (yqs[i]'(by omega)) (List.getElem_mem _)
      have hzn := hsz.qs (zqs[i]'(by omega)) (List.getElem_mem _)
      have cS1 := fun w (hf : Pu wG w) => sam_c (yqs[i]'(by omega)) (xqs[i]'(by omega)) w ((hy.qs _ (List.getElem_mem _)).pu hf) ((hx.qs _ (List.getElem_mem _)).pu hf) (by omega)
      have cS2 := fun w (hf : Pu wG w) => sam_c (zqs[i]'(by omega)) (xqs[i]'(by omega)) w ((hz.qs _ (List.getElem_mem _)).pu hf) ((hx.qs _ (List.getElem_mem _)).pu hf) (by omega)
      rw [decide_eq_true h2] at cS1
      rw [decide_eq_true h4] at cS2
      generalize xos[i]'(_) = xv at *
      have hik' : ¬ (i : Int) = (k : Int) := by omega
      repeat (first | ((with_reducible first | refine toL hm ?_ | refine toQ ?_); (first | refine oneV hs gw_ rfl rfl (by intro w hm; exact kvR_) ?_ | refine oneN hs rfl rfl rfl rfl rfl rfl rfl ?_ | refine oneU hs rfl rfl rfl rfl rfl rfl ?_); clear hs a; intro a hs) | ((with_reducible apply lCons); first | (refine dv hs gw_ rfl rfl da_ ?_; clear hs hm a; rintro _ w ⟨g, rfl, -, hm⟩ a hs) | (refine stn hs rfl rfl ds_ ?_; clear hs hm a; rintro - w hm a hs) | (refine dv hs gw_ rfl rfl (d_call hs rfl rfl rfl (pl 13 rfl) (cS1 _ hm.fr)) ?_; clear hs a; rintro _ w ⟨rfl, hf⟩ a hs; replace hm := hm.pu hf; clear hf) | (refine dv hs gw_ rfl rfl (d_call hs rfl rfl rfl (pl 13 rfl) (cS2 _ hm.fr)) ?_; clear hs a; rintro _ w ⟨rfl, hf⟩ a hs; replace hm := hm.pu hf; clear hf)) | ((with_reducible apply qCons); first | (refine qwcall hs gw_ rfl rfl rfl rfl rfl (pl 13 rfl) (by intro w hm; exact Ret.mono (cS1 _ hm.fr) (fun _ _ ⟨h1, h2⟩ => ⟨h1, hm.pu h2⟩)) ?_; clear hs a; intro a hs) | (refine qwcall hs gw_ rfl rfl rfl rfl rfl (pl 13 rfl) (by intro w hm; exact Ret.mono (cS2 _ hm.fr) (fun _ _ ⟨h1, h2⟩ => ⟨h1, hm.pu h2⟩)) ?_; clear hs a; intro a hs)) | ((with_reducible apply qNil); clear hm; intro w hm) | ((with_reducible refine cQuiet hm ?_ ?_ ?_ ?_); rfl; kernel_rfl; kernel_rfl) | (with_reducible first | apply lNilThen | apply lNilBlock | apply lNil | apply wp_seq | apply wp_region_lit | apply wp_block | apply cExit | apply cRet | apply cSkip | apply gThen | apply gBlock | apply eThen | apply eBlockHit | refine eBlock rfl ?_ | apply rThen | apply rBlock) | ((with_reducible apply cCond); first | refine cTrue hs rfl bd_ ?_ | refine cFalse hs rfl bd_ ?_))
      exact ⟨i + 1, by omega, hs.sub (Has.all ⟨rfl, rfl, rfl, rfl, rfl, rfl, rfl, trivial⟩), hm, by omega⟩
  · repeat (first | ((with_reducible refine toL hm ?_); (first | refine oneV hs gw_ rfl rfl (by intro w hm; exact kvR_) ?_ | refine oneN hs rfl rfl rfl rfl rfl rfl rfl ?_ | refine oneU hs rfl rfl rfl rfl rfl rfl ?_); clear hs a; intro a hs) | ((with_reducible apply lCons); first | (refine dv hs gw_ rfl rfl da_ ?_; clear hs hm a; rintro _ w ⟨g, rfl, -, hm⟩ a hs) | (refine stn hs rfl rfl ds_ ?_; clear hs hm a; rintro - w hm a hs) | (refine dv hs gw_ rfl rfl (d_call hs rfl rfl rfl (pl 14 rfl) (awk_c _)) ?_; clear hs a; rintro _ w ⟨rfl, hf⟩ a hs; replace hm := hm.pu hf; clear hf)) | (with_reducible first | apply lNilThen | apply lNilBlock | apply lNil | apply wp_seq | apply wp_region_lit | apply wp_block | apply cExit | apply cRet | apply cSkip | apply gThen | apply gBlock | apply eThen | apply eBlockHit | refine eBlock rfl ?_ | apply rThen | apply rBlock) | ((with_reducible apply cCond); first | refine cTrue hs rfl bd_ ?_ | refine cFalse hs rfl bd_ ?_))
    exact gRet1 hs rfl rfl ⟨rfl, hF.pu hm.fr⟩
theorem walk_LockApart (A : Option Addr) (n c : Nat) (xs : List Int) (kk tt : Int) (w : World) (h : IsInts .i64 w A n c xs) (_h0 : (Lit.int .i64 kk).wf = true) (_h1 : (Lit.int .i64 tt).wf = true) : Calls Try.prog 5 #[.slice A n c, .int .i64 kk, .int .i64 tt] w (fun e w' => e = .returned (.bool true) ∧ Pu w w') :=
  (apart_c A n c xs kk tt w h).law
end Go.Proofs.Ytfcmejcmijjnpaa
