/- Giving a lock back: the reference. -/
import Derived.Test.YtfcmejcmijjnpaaLk8
namespace Go.Proofs.Ytfcmejcmijjnpaa
open Go.RowKit

set_option maxHeartbeats 4000000 in
theorem rgiv_c (x : KS) (k : Nat) (t : Int) (wB : World) (hx : x.ok wB) (hsh : x.ab.sh) (hk : k < 4) : Ret Try.prog 23 [x.v, .int .i64 (k : Int), .int .i64 t] wB (fun u w' => GivR (givF x.ab k t) wB u w') := by
  have hs0 := hsh.o
  have hq0 := hsh.q
  have hsm := KS.sm_of hx hsh
  have hxo := hx.o.1
  obtain ⟨⟨oA, on, oc, os⟩, qA, qc, qs⟩ := x
  unfold KS.ab at hs0 hq0
  dsimp only at hs0 hq0 hxo
  rw [List.length_map] at hq0
  obtain rfl : on = 4 := by omega
  obtain ⟨b1, o1, hoA, hb1, r1⟩ := hx.o.2.ro (by rw [ints_len]; dsimp only; omega)
  dsimp only at hoA r1
  subst hoA
  have e1 := ints_some (xs := os) (k := k) (by omega)
  have hg1 := getI (l := os) (k := k) (by omega)
  have hcp := fun w'' (hf : Pu wB w'') => cpy_c ⟨⟨some ⟨b1, o1, none⟩, 4, oc, os⟩, qA, qc, qs⟩ w'' (hx.pu hf) hsm
  unfold KS.v IS.v KS.ab at *
  dsimp only at hcp ⊢
  obtain ⟨v, hv⟩ : ∃ v, os[k] = v := ⟨_, rfl⟩
  rw [hv] at e1 hg1
  unfold givF
  dsimp only
  rw [hg1]
  by_cases c1 : v = t
  · rw [if_pos c1]
    refine enterR Try.func23 rfl rfl rfl fun a hs hm => ?_
    repeat (first | ((with_reducible refine toL hm ?_); (first | refine oneV hs gw_ rfl rfl (by intro w hm; (first | exact kv_ | exact r_sliceArr hs rfl rfl tab rfl rfl rfl | exact r_sliceArrTo hs rfl rfl rfl tab rfl rfl rfl (by omega) (by omega) | exact r_sliceTo hs rfl rfl rfl tab rfl rfl rfl (by omega) (by omega) | exact r_sliceFrom hs rfl rfl rfl tab rfl rfl rfl (by omega) (by omega))) ?_ | refine oneN hs rfl rfl rfl rfl rfl rfl rfl ?_ | refine oneU hs rfl rfl rfl rfl rfl rfl ?_); clear hs a; intro a hs) | ((with_reducible apply lCons); first | (refine dv hs gw_ rfl rfl da_ ?_; clear hs hm a; rintro _ w ⟨g, rfl, -, hm⟩ a hs) | (refine stn hs rfl rfl ds_ ?_; clear hs hm a; rintro - w hm a hs) ) | (with_reducible first | apply lNilThen | apply lNilBlock | apply lNil | apply wp_seq | apply wp_region_lit | apply wp_block | apply cExit | apply cRet | apply cSkip | apply gThen | apply gBlock | apply eThen | apply eBlockHit | refine eBlock rfl ?_ | apply rThen | apply rBlock) | ((with_reducible apply cCond); first | refine cTrue hs rfl bd_ ?_ | refine cFalse hs rfl bd_ ?_))
    obtain ⟨g6, en_⟩ := hs.pt 6 (by exact rfl); subst en_
    refine st hs rfl rfl rfl (d_call hs rfl rfl rfl (pl 33 rfl) ((hcp _ hm.fr))) ?_; clear hs a; rintro _ w1 ⟨y, rfl, hy, hyab, hyl, hN, hf⟩ a hs
    have hm6 := cp_gain hm hf hN
    clear hm hf hN
    have hm := hm6
    clear hm6
    unfold KO.v RW.v at hs
    obtain ⟨⟨yoA, yoc, yocs, yos⟩, yqA, yqc, yqcs, yrs⟩ := y
    obtain ⟨ho, hq, hrs⟩ := hy
    unfold KO.ab at hyab
    dsimp only at hyab hyl ho hq hrs
    obtain ⟨rfl, hyq⟩ := Ab.mk.inj hyab
    obtain ⟨gq, rfl⟩ := hq.some_ (by omega)
    obtain ⟨go, rfl⟩ := Row.some_ (show Row yoA yos.length yoc 1 (ints yos) yocs from ho) (by omega)
    have hko : k < yocs.length := by rw [Row.len ho]; have := Row.le ho; dsimp only at this ⊢; omega
    have hkl : k < yrs.length := by omega
    obtain ⟨r, hr⟩ : ∃ r, r = yrs[k] := ⟨_, rfl⟩
    have hr2 : yrs[k]? = some r := by rw [hr]; exact List.getElem?_eq_getElem hkl
    have hrm0 : r ∈ yrs := List.mem_of_getElem? hr2
    have hro : Row r.A r.xs.length r.c 1 (ints r.xs) r.cs := hrs r hrm0
    have hcell : yqcs[k]? = some (slv r.A r.xs.length r.c) := hq.get (by rw [List.getElem?_map, hr2]; rfl)
    have hk2 : k < yqcs.length := by rw [hq.len]; have := hq.le; omega
    have hrl : r.xs.length ≤ 500 := hsh.l _ (by show r.xs ∈ qs.map IS.xs; rw [← hyq]; exact List.mem_map_of_mem hrm0)
    have hqk : (qs.map IS.xs).getD k [] = r.xs := by rw [← hyq, List.getD_eq_getElem?_getD, List.getElem?_map, hr2]; rfl
    rw [hqk]
    unfold RW.hp at hm
    dsimp only at hs hm
    cases hxs : r.xs with
    | nil =>
      rw [hxs] at hcell
      dsimp only
      have hlast : (yocs.set k (.int .i64 (-1)))[k]? = some (.int .i64 (-1)) := by simp [hko]
      repeat (first | ((with_reducible refine toL hm ?_); (first | refine oneV hs gw_ rfl rfl (by intro w hm; (first | exact kv_ | exact r_sliceArr hs rfl rfl tab rfl rfl rfl | exact r_sliceArrTo hs rfl rfl rfl tab rfl rfl rfl (by omega) (by omega) | exact r_sliceTo hs rfl rfl rfl tab rfl rfl rfl (by omega) (by omega) | exact r_sliceFrom hs rfl rfl rfl tab rfl rfl rfl (by omega) (by omega))) ?_ | refine oneN hs rfl rfl rfl rfl rfl rfl rfl ?_ | refine oneU hs rfl rfl rfl rfl rfl rfl ?_); clear hs a; intro a hs) | ((with_reducible apply lCons); first | (refine dv hs gw_ rfl rfl da_ ?_; clear hs hm a; rintro _ w ⟨g, rfl, -, hm⟩ a hs) | (refine stn hs rfl rfl ds_ ?_; clear hs hm a; rintro - w hm a hs) ) | (with_reducible first | apply lNilThen | apply lNilBlock | apply lNil | apply wp_seq | apply wp_region_lit | apply wp_block | apply cExit | apply cRet | apply cSkip | apply gThen | apply gBlock | apply eThen | apply eBlockHit | refine eBlock rfl ?_ | apply rThen | apply rBlock) | ((with_reducible apply cCond); first | refine cTrue hs rfl bd_ ?_ | refine cFalse hs rfl bd_ ?_))
      obtain ⟨g9, en_⟩ := hs.pt 9 (by exact rfl); subst en_
      refine cMid (fun a w' => Sl Try.f23.ntmps [(6, .pointer (some ⟨g6, 0, none⟩)), (7, .int .i64 (-1)), (8, .bool true)] a ∧ Mm (fun _ => False) wB (⟨some gq, 22, yqcs⟩ :: ⟨some go, 3, yocs.set k (.int .i64 (-1))⟩ :: ⟨some g6, 27, [slv (some go) yos.length yoc, slv (some gq) yrs.length yqc]⟩ :: yrs.map RW.hp) w') ?_ ?_
      · skip
        refine cDraw (n := 9) [⟨some g9, 27, [slv (some go) yos.length yoc, slv (some gq) yrs.length yqc]⟩, ⟨some go, 3, yocs.set k (.int .i64 (-1))⟩] hm rfl rfl ?_
        clear hm
        intro w2 hm
        refine hTake 0 hs rfl (by kernel_rfl) (Wnt.none rfl) rfl rfl (by intro w hm; replace hm : Mm _ _ _ w := hm; exact kl_) (hm.sub sub_) ?_; clear hs a; intro a hs
        refine hTake 1 hs rfl (by kernel_rfl) (Wnt.none rfl) rfl rfl (by intro w hm; replace hm : Mm _ _ _ w := hm; exact r_val hs tab rfl) (hm.sub sub_) ?_; clear hs a; intro a hs
        refine hTake 2 hs rfl (by kernel_rfl) (Wnt.none rfl) rfl rfl (by intro w hm; replace hm : Mm _ _ _ w := hm; exact kl_) (hm.sub sub_) ?_; clear hs a; intro a hs
        refine hTake 3 hs rfl (by kernel_rfl) (Wnt.none rfl) rfl rfl (by intro w hm; replace hm : Mm _ _ _ w := hm; exact r_val hs tab rfl) (hm.sub sub_) ?_; clear hs a; intro a hs
        refine hTake 4 hs rfl (by kernel_rfl) (Wnt.none rfl) rfl rfl (by intro w hm; replace hm : Mm _ _ _ w := hm; (first | exact r_iz hs tab rfl rfl (by omega) | exact r_iy hs tab rfl rfl (by omega))) (hm.sub sub_) ?_; clear hs a; intro a hs
        refine hTake 5 hs rfl (by kernel_rfl) (Wnt.none rfl) rfl rfl (by intro w hm; replace hm : Mm _ _ _ w := hm; exact kl_) (hm.sub sub_) ?_; clear hs a; intro a hs
        refine hEach [6] (by kernel_rfl) (eDoN hs rfl (Wnt.none rfl) rfl ds_ ?_ eNil)
        clear hs hm
        rintro - w26 hm a hs
        refine ⟨hm.sub sub_, ?_⟩
        refine hTake 7 hs rfl (by kernel_rfl) (Wnt.none rfl) rfl rfl (by intro w hm; replace hm : Mm _ _ _ w := hm; exact r_val hs tab rfl) (hm.sub sub_) ?_; clear hs a; intro a hs
        refine hTake 8 hs rfl (by kernel_rfl) (Wnt.none rfl) rfl rfl (by intro w hm; replace hm : Mm _ _ _ w := hm; exact r_val hs tab rfl) (hm.sub sub_) ?_; clear hs a; intro a hs
        refine hDone (by kernel_rfl) ?_
        exact And.intro rfl ⟨hs.sub (Has.all ⟨rfl, rfl, rfl, trivial⟩), hm.sub (List.Sublist.cons _ (List.Sublist.cons_cons _ (List.Sublist.cons_cons _ (List.Sublist.cons_cons _ (List.Sublist.cons _ (List.Sublist.refl _))))))⟩
      clear hs hm a
      rintro a w' ⟨hs, hm⟩
      repeat (first | ((with_reducible refine toL hm ?_); (first | refine oneV hs gw_ rfl rfl (by intro w hm; (first | exact kv_ | exact r_sliceArr hs rfl rfl tab rfl rfl rfl | exact r_sliceArrTo hs rfl rfl rfl tab rfl rfl rfl (by omega) (by omega) | exact r_sliceTo hs rfl rfl rfl tab rfl rfl rfl (by omega) (by omega) | exact r_sliceFrom hs rfl rfl rfl tab rfl rfl rfl (by omega) (by omega))) ?_ | refine oneN hs rfl rfl rfl rfl rfl rfl rfl ?_ | refine oneU hs rfl rfl rfl rfl rfl rfl ?_); clear hs a; intro a hs) | ((with_reducible apply lCons); first | (refine dv hs gw_ rfl rfl da_ ?_; clear hs hm a; rintro _ w ⟨g, rfl, -, hm⟩ a hs) | (refine stn hs rfl rfl ds_ ?_; clear hs hm a; rintro - w hm a hs) ) | (with_reducible first | apply lNilThen | apply lNilBlock | apply lNil | apply wp_seq | apply wp_region_lit | apply wp_block | apply cExit | apply cRet | apply cSkip | apply gThen | apply gBlock | apply eThen | apply eBlockHit | refine eBlock rfl ?_ | apply rThen | apply rBlock) | ((with_reducible apply cCond); first | refine cTrue hs rfl bd_ ?_ | refine cFalse hs rfl bd_ ?_))
      have hset := RW.set_ok ho k (-1)
      refine gRetN tab hs rfl (.cons (.cells rfl rfl rfl rfl (hm.ro (k := 0) (n := 2) (g := g6) mem_ (cutF_ok rfl))) (.cons (.tmp rfl) (.cons (.tmp rfl) .nil))) ⟨KO.ks ⟨⟨some go, yoc, yocs.set k (.int .i64 (-1)), yos.set k (-1)⟩, some gq, yqc, yqcs, yrs⟩, ?_, KO.ks_ok hm ?_ ⟨hset, hq, hrs⟩, KO.new_at hm ?_, ?_, hm.fr⟩
      · rw [KO.ks_v]
        unfold KO.v RW.v
        dsimp only
        rw [List.length_set]
        rfl
      · skip
        intro h hh
        rcases List.mem_cons.1 hh with rfl | hh
        · exact mem_
        · rcases List.mem_cons.1 hh with rfl | hh
          · exact mem_
          · repeat (first | exact hh | apply List.mem_cons_of_mem)
      · skip
        intro h hh
        rcases List.mem_cons.1 hh with rfl | hh
        · exact mem_
        · rcases List.mem_cons.1 hh with rfl | hh
          · exact mem_
          · repeat (first | exact hh | apply List.mem_cons_of_mem)
      · rw [KO.ks_ab]
        unfold KO.ab
        dsimp only
        rw [hyq]
    | cons u l =>
      rw [hxs] at hcell hro
      dsimp only
      obtain ⟨gr, hgr⟩ := hro.some_ (by simp)
      rw [hgr] at hcell hro
      have hc0 : r.cs[0]? = some (.int .i64 u) := hro.get rfl
      have hpos : 0 < (u :: l).length := Nat.succ_pos _
      have hm6 := Mm.front (L := [_, _, _, _]) hm hr2
      clear hm
      have hm := hm6
      clear hm6
      unfold RW.hp at hm
      rw [hgr] at hm
      rw [hxs] at hrl
      have hlast : ((yocs.set k (.int .i64 (-1))).set k (.int .i64 u))[k]? = some (.int .i64 u) := by simp [hko]
      have hko2 : k < (yocs.set k (.int .i64 (-1))).length := by rw [List.length_set]; exact hko
      repeat (first | ((with_reducible refine toL hm ?_); (first | refine oneV hs gw_ rfl rfl (by intro w hm; (first | exact kv_ | exact r_sliceArr hs rfl rfl tab rfl rfl rfl | exact r_sliceArrTo hs rfl rfl rfl tab rfl rfl rfl (by omega) (by omega) | exact r_sliceTo hs rfl rfl rfl tab rfl rfl rfl (by omega) (by omega) | exact r_sliceFrom hs rfl rfl rfl tab rfl rfl rfl (by omega) (by omega))) ?_ | refine oneN hs rfl rfl rfl rfl rfl rfl rfl ?_ | refine oneU hs rfl rfl rfl rfl rfl rfl ?_); clear hs a; intro a hs) | ((with_reducible apply lCons); first | (refine dv hs gw_ rfl rfl da_ ?_; clear hs hm a; rintro _ w ⟨g, rfl, -, hm⟩ a hs) | (refine stn hs rfl rfl ds_ ?_; clear hs hm a; rintro - w hm a hs) ) | (with_reducible first | apply lNilThen | apply lNilBlock | apply lNil | apply wp_seq | apply wp_region_lit | apply wp_block | apply cExit | apply cRet | apply cSkip | apply gThen | apply gBlock | apply eThen | apply eBlockHit | refine eBlock rfl ?_ | apply rThen | apply rBlock) | ((with_reducible apply cCond); first | refine cTrue hs rfl bd_ ?_ | refine cFalse hs rfl bd_ ?_))
      obtain ⟨g9, en_⟩ := hs.pt 9 (by exact rfl); subst en_
      refine cMid (fun a w' => Sl Try.f23.ntmps [(1, .int .i64 (k : Int)), (6, .pointer (some ⟨g6, 0, none⟩)), (9, .pointer (some ⟨g9, 0, none⟩))] a ∧ Mm (fun _ => False) wB (⟨some g9, 27, [slv (some go) yos.length yoc, slv (some gq) yrs.length yqc]⟩ :: ⟨some gr, 3, r.cs⟩ :: ⟨some gq, 22, yqcs⟩ :: ⟨some go, 3, (yocs.set k (.int .i64 (-1))).set k (.int .i64 u)⟩ :: ⟨some g6, 27, [.slice none 0 0, .slice none 0 0]⟩ :: (yrs.eraseIdx k).map RW.hp) w') ?_ ?_
      · skip
        refine cDraw (n := 12) [⟨some g9, 27, [slv (some go) yos.length yoc, slv (some gq) yrs.length yqc]⟩, ⟨some gr, 3, r.cs⟩, ⟨some gq, 22, yqcs⟩] hm rfl rfl ?_
        clear hm
        intro w2 hm
        refine hTake 0 hs rfl (by kernel_rfl) (Wnt.none rfl) rfl rfl (by intro w hm; replace hm : Mm _ _ _ w := hm; exact r_val hs tab rfl) (hm.sub sub_) ?_; clear hs a; intro a hs
        refine hTake 1 hs rfl (by kernel_rfl) (Wnt.none rfl) rfl rfl (by intro w hm; replace hm : Mm _ _ _ w := hm; exact kl_) (hm.sub sub_) ?_; clear hs a; intro a hs
        refine hTake 2 hs rfl (by kernel_rfl) (Wnt.none rfl) rfl rfl (by intro w hm; replace hm : Mm _ _ _ w := hm; exact r_val hs tab rfl) (hm.sub sub_) ?_; clear hs a; intro a hs
        refine hTake 3 hs rfl (by kernel_rfl) (Wnt.none rfl) rfl rfl (by intro w hm; replace hm : Mm _ _ _ w := hm; exact r_val hs tab rfl) (hm.sub sub_) ?_; clear hs a; intro a hs
        refine hTake 4 hs rfl (by kernel_rfl) (Wnt.none rfl) rfl rfl (by intro w hm; replace hm : Mm _ _ _ w := hm; exact kl_) (hm.sub sub_) ?_; clear hs a; intro a hs
        refine hTake 5 hs rfl (by kernel_rfl) (Wnt.none rfl) rfl rfl (by intro w hm; replace hm : Mm _ _ _ w := hm; exact r_val hs tab rfl) (hm.sub sub_) ?_; clear hs a; intro a hs
        refine hTake 6 hs rfl (by kernel_rfl) (Wnt.none rfl) rfl rfl (by intro w hm; replace hm : Mm _ _ _ w := hm; (first | exact r_iz hs tab rfl rfl (by omega) | exact r_iy hs tab rfl rfl (by omega))) (hm.sub sub_) ?_; clear hs a; intro a hs
        refine hTake 7 hs rfl (by kernel_rfl) (Wnt.none rfl) rfl rfl (by intro w hm; replace hm : Mm _ _ _ w := hm; exact kl_) (hm.sub sub_) ?_; clear hs a; intro a hs
        refine hTake 8 hs rfl (by kernel_rfl) (Wnt.none rfl) rfl rfl (by intro w hm; replace hm : Mm _ _ _ w := hm; (first | exact r_iz hs tab rfl rfl (by omega) | exact r_iy hs tab rfl rfl (by omega))) (hm.sub sub_) ?_; clear hs a; intro a hs
        refine hTake 9 hs rfl (by kernel_rfl) (Wnt.none rfl) rfl rfl (by intro w hm; replace hm : Mm _ _ _ w := hm; exact kl_) (hm.sub sub_) ?_; clear hs a; intro a hs
        refine hTake 10 hs rfl (by kernel_rfl) (Wnt.none rfl) rfl rfl (by intro w hm; replace hm : Mm _ _ _ w := hm; (first | exact r_iz hs tab rfl rfl (by omega) | exact r_iy hs tab rfl rfl (by omega))) (hm.sub sub_) ?_; clear hs a; intro a hs
        refine hEach [11] (by kernel_rfl) (eDoN hs rfl (Wnt.none rfl) rfl ds_ ?_ eNil)
        clear hs hm
        rintro - w31 hm a hs
        refine ⟨hm.sub sub_, ?_⟩
        refine hDone (by kernel_rfl) ?_
        exact And.intro rfl ⟨hs.sub (Has.all ⟨rfl, rfl, rfl, trivial⟩), hm.sub (List.Sublist.cons_cons _ (List.Sublist.cons_cons _ (List.Sublist.cons_cons _ (List.Sublist.cons_cons _ (List.Sublist.cons_cons _ (List.Sublist.cons _ (List.Sublist.refl _)))))))⟩
      clear hs hm a
      rintro a w' ⟨hs, hm⟩
      repeat (first | ((with_reducible refine toL hm ?_); (first | refine oneV hs gw_ rfl rfl (by intro w hm; (first | exact kv_ | exact r_sliceArr hs rfl rfl tab rfl rfl rfl | exact r_sliceArrTo hs rfl rfl rfl tab rfl rfl rfl (by omega) (by omega) | exact r_sliceTo hs rfl rfl rfl tab rfl rfl rfl (by omega) (by omega) | exact r_sliceFrom hs rfl rfl rfl tab rfl rfl rfl (by omega) (by omega))) ?_ | refine oneN hs rfl rfl rfl rfl rfl rfl rfl ?_ | refine oneU hs rfl rfl rfl rfl rfl rfl ?_); clear hs a; intro a hs) | ((with_reducible apply lCons); first | (refine dv hs gw_ rfl rfl da_ ?_; clear hs hm a; rintro _ w ⟨g, rfl, -, hm⟩ a hs) | (refine stn hs rfl rfl ds_ ?_; clear hs hm a; rintro - w hm a hs) ) | (with_reducible first | apply lNilThen | apply lNilBlock | apply lNil | apply wp_seq | apply wp_region_lit | apply wp_block | apply cExit | apply cRet | apply cSkip | apply gThen | apply gBlock | apply eThen | apply eBlockHit | refine eBlock rfl ?_ | apply rThen | apply rBlock) | ((with_reducible apply cCond); first | refine cTrue hs rfl bd_ ?_ | refine cFalse hs rfl bd_ ?_))
      refine cMid (fun a w' => Sl Try.f23.ntmps [(1, .int .i64 (k : Int)), (6, .pointer (some ⟨g6, 0, none⟩)), (9, .pointer (some ⟨g9, 0, none⟩))] a ∧ Mm (fun _ => False) wB (⟨some g9, 27, [slv (some go) yos.length yoc, slv (some gq) yrs.length yqc]⟩ :: ⟨some gr, 3, r.cs⟩ :: ⟨some gq, 22, yqcs.set k (tlS gr (u :: l).length r.c l).v⟩ :: ⟨some go, 3, (yocs.set k (.int .i64 (-1))).set k (.int .i64 u)⟩ :: ⟨some g6, 27, [.slice none 0 0, .slice none 0 0]⟩ :: (yrs.eraseIdx k).map RW.hp) w') ?_ ?_
      · skip
        refine cDraw (n := 11) [⟨some g9, 27, [slv (some go) yos.length yoc, slv (some gq) yrs.length yqc]⟩] hm rfl rfl ?_
        clear hm
        intro w2 hm
        refine hTake 0 hs rfl (by kernel_rfl) (Wnt.none rfl) rfl rfl (by intro w hm; replace hm : Mm _ _ _ w := hm; exact r_val hs tab rfl) (hm.sub sub_) ?_; clear hs a; intro a hs
        refine hTake 1 hs rfl (by kernel_rfl) (Wnt.none rfl) rfl rfl (by intro w hm; replace hm : Mm _ _ _ w := hm; exact kl_) (hm.sub sub_) ?_; clear hs a; intro a hs
        refine hTake 2 hs rfl (by kernel_rfl) (Wnt.none rfl) rfl rfl (by intro w hm; replace hm : Mm _ _ _ w := hm; exact r_val hs tab rfl) (hm.sub sub_) ?_; clear hs a; intro a hs
        refine hTake 3 hs rfl (by kernel_rfl) (Wnt.none rfl) rfl rfl (by intro w hm; replace hm : Mm _ _ _ w := hm; exact r_val hs tab rfl) (hm.sub sub_) ?_; clear hs a; intro a hs
        refine hTake 4 hs rfl (by kernel_rfl) (Wnt.none rfl) rfl rfl (by intro w hm; replace hm : Mm _ _ _ w := hm; exact kl_) (hm.sub sub_) ?_; clear hs a; intro a hs
        refine hTake 5 hs rfl (by kernel_rfl) (Wnt.none rfl) rfl rfl (by intro w hm; replace hm : Mm _ _ _ w := hm; exact r_val hs tab rfl) (hm.sub sub_) ?_; clear hs a; intro a hs
        refine hTake 6 hs rfl (by kernel_rfl) (Wnt.none rfl) rfl rfl (by intro w hm; replace hm : Mm _ _ _ w := hm; (first | exact r_iz hs tab rfl rfl (by omega) | exact r_iy hs tab rfl rfl (by omega))) (hm.sub sub_) ?_; clear hs a; intro a hs
        refine hEach [7] (by kernel_rfl) (eDo hs rfl (Wnt.none rfl) rfl rfl (RunV.does kv_) ?_ eNil)
        clear hs a
        rintro _ _ ⟨rfl, rfl⟩ a hs
        refine ⟨hm.sub sub_, ?_⟩
        refine hTake 8 hs rfl (by kernel_rfl) (Wnt.none rfl) rfl rfl (by intro w hm; replace hm : Mm _ _ _ w := hm; (first | exact kv_ | exact r_sliceArr hs rfl rfl tab rfl rfl rfl | exact r_sliceArrTo hs rfl rfl rfl tab rfl rfl rfl (by omega) (by omega) | exact r_sliceTo hs rfl rfl rfl tab rfl rfl rfl (by omega) (by omega) | exact r_sliceFrom hs rfl rfl rfl tab rfl rfl rfl (by omega) (by omega))) (hm.sub sub_) ?_; clear hs a; intro a hs
        refine hTake 9 hs rfl (by kernel_rfl) (Wnt.none rfl) rfl rfl (by intro w hm; replace hm : Mm _ _ _ w := hm; (first | exact r_iz hs tab rfl rfl (by omega) | exact r_iy hs tab rfl rfl (by omega))) (hm.sub sub_) ?_; clear hs a; intro a hs
        refine hEach [10] (by kernel_rfl) (eDoN hs rfl (Wnt.none rfl) rfl ds_ ?_ eNil)
        clear hs hm
        rintro - w30 hm a hs
        refine ⟨hm.sub sub_, ?_⟩
        refine hDone (by kernel_rfl) ?_
        exact And.intro rfl ⟨hs.sub (Has.all ⟨rfl, rfl, rfl, trivial⟩), hm⟩
      clear hs hm a
      rintro a w' ⟨hs, hm⟩
      repeat (first | ((with_reducible refine toL hm ?_); (first | refine oneV hs gw_ rfl rfl (by intro w hm; (first | exact kv_ | exact r_sliceArr hs rfl rfl tab rfl rfl rfl | exact r_sliceArrTo hs rfl rfl rfl tab rfl rfl rfl (by omega) (by omega) | exact r_sliceTo hs rfl rfl rfl tab rfl rfl rfl (by omega) (by omega) | exact r_sliceFrom hs rfl rfl rfl tab rfl rfl rfl (by omega) (by omega))) ?_ | refine oneN hs rfl rfl rfl rfl rfl rfl rfl ?_ | refine oneU hs rfl rfl rfl rfl rfl rfl ?_); clear hs a; intro a hs) | ((with_reducible apply lCons); first | (refine dv hs gw_ rfl rfl da_ ?_; clear hs hm a; rintro _ w ⟨g, rfl, -, hm⟩ a hs) | (refine stn hs rfl rfl ds_ ?_; clear hs hm a; rintro - w hm a hs) ) | (with_reducible first | apply lNilThen | apply lNilBlock | apply lNil | apply wp_seq | apply wp_region_lit | apply wp_block | apply cExit | apply cRet | apply cSkip | apply gThen | apply gBlock | apply eThen | apply eBlockHit | refine eBlock rfl ?_ | apply rThen | apply rBlock) | ((with_reducible apply cCond); first | refine cTrue hs rfl bd_ ?_ | refine cFalse hs rfl bd_ ?_))
      refine cMid (fun a w' => Sl Try.f23.ntmps [(6, .pointer (some ⟨g6, 0, none⟩)), (7, .int .i64 u), (8, .bool true)] a ∧ Mm (fun _ => False) wB (⟨some g9, 27, [slv (some go) yos.length yoc, slv (some gq) yrs.length yqc]⟩ :: ⟨some gr, 3, r.cs⟩ :: ⟨some gq, 22, yqcs.set k (tlS gr (u :: l).length r.c l).v⟩ :: ⟨some go, 3, (yocs.set k (.int .i64 (-1))).set k (.int .i64 u)⟩ :: ⟨some g6, 27, [slv (some go) yos.length yoc, slv (some gq) yrs.length yqc]⟩ :: (yrs.eraseIdx k).map RW.hp) w') ?_ ?_
      · skip
        refine cDraw (n := 9) [⟨some g9, 27, [slv (some go) yos.length yoc, slv (some gq) yrs.length yqc]⟩, ⟨some go, 3, (yocs.set k (.int .i64 (-1))).set k (.int .i64 u)⟩] hm rfl rfl ?_
        clear hm
        intro w2 hm
        refine hTake 0 hs rfl (by kernel_rfl) (Wnt.none rfl) rfl rfl (by intro w hm; replace hm : Mm _ _ _ w := hm; exact kl_) (hm.sub sub_) ?_; clear hs a; intro a hs
        refine hTake 1 hs rfl (by kernel_rfl) (Wnt.none rfl) rfl rfl (by intro w hm; replace hm : Mm _ _ _ w := hm; exact r_val hs tab rfl) (hm.sub sub_) ?_; clear hs a; intro a hs
        refine hTake 2 hs rfl (by kernel_rfl) (Wnt.none rfl) rfl rfl (by intro w hm; replace hm : Mm _ _ _ w := hm; exact kl_) (hm.sub sub_) ?_; clear hs a; intro a hs
        refine hTake 3 hs rfl (by kernel_rfl) (Wnt.none rfl) rfl rfl (by intro w hm; replace hm : Mm _ _ _ w := hm; exact r_val hs tab rfl) (hm.sub sub_) ?_; clear hs a; intro a hs
        refine hTake 4 hs rfl (by kernel_rfl) (Wnt.none rfl) rfl rfl (by intro w hm; replace hm : Mm _ _ _ w := hm; (first | exact r_iz hs tab rfl rfl (by omega) | exact r_iy hs tab rfl rfl (by omega))) (hm.sub sub_) ?_; clear hs a; intro a hs
        refine hTake 5 hs rfl (by kernel_rfl) (Wnt.none rfl) rfl rfl (by intro w hm; replace hm : Mm _ _ _ w := hm; exact kl_) (hm.sub sub_) ?_; clear hs a; intro a hs
        refine hEach [6] (by kernel_rfl) (eDoN hs rfl (Wnt.none rfl) rfl ds_ ?_ eNil)
        clear hs hm
        rintro - w26 hm a hs
        refine ⟨hm.sub sub_, ?_⟩
        refine hTake 7 hs rfl (by kernel_rfl) (Wnt.none rfl) rfl rfl (by intro w hm; replace hm : Mm _ _ _ w := hm; exact r_val hs tab rfl) (hm.sub sub_) ?_; clear hs a; intro a hs
        refine hTake 8 hs rfl (by kernel_rfl) (Wnt.none rfl) rfl rfl (by intro w hm; replace hm : Mm _ _ _ w := hm; exact r_val hs tab rfl) (hm.sub sub_) ?_; clear hs a; intro a hs
        refine hDone (by kernel_rfl) ?_
        exact And.intro rfl ⟨hs.sub (Has.all ⟨rfl, rfl, rfl, trivial⟩), hm⟩
      clear hs hm a
      rintro a w' ⟨hs, hm⟩
      rw [List.set_set] at hm
      repeat (first | ((with_reducible refine toL hm ?_); (first | refine oneV hs gw_ rfl rfl (by intro w hm; (first | exact kv_ | exact r_sliceArr hs rfl rfl tab rfl rfl rfl | exact r_sliceArrTo hs rfl rfl rfl tab rfl rfl rfl (by omega) (by omega) | exact r_sliceTo hs rfl rfl rfl tab rfl rfl rfl (by omega) (by omega) | exact r_sliceFrom hs rfl rfl rfl tab rfl rfl rfl (by omega) (by omega))) ?_ | refine oneN hs rfl rfl rfl rfl rfl rfl rfl ?_ | refine oneU hs rfl rfl rfl rfl rfl rfl ?_); clear hs a; intro a hs) | ((with_reducible apply lCons); first | (refine dv hs gw_ rfl rfl da_ ?_; clear hs hm a; rintro _ w ⟨g, rfl, -, hm⟩ a hs) | (refine stn hs rfl rfl ds_ ?_; clear hs hm a; rintro - w hm a hs) ) | (with_reducible first | apply lNilThen | apply lNilBlock | apply lNil | apply wp_seq | apply wp_region_lit | apply wp_block | apply cExit | apply cRet | apply cSkip | apply gThen | apply gBlock | apply eThen | apply eBlockHit | refine eBlock rfl ?_ | apply rThen | apply rBlock) | ((with_reducible apply cCond); first | refine cTrue hs rfl bd_ ?_ | refine cFalse hs rfl bd_ ?_))
      have hset := RW.set_ok ho k u
      have hlq : ((yrs.map RW.is).set k (tlS gr (u :: l).length r.c l)).length = yrs.length := by rw [List.length_set, List.length_map]
      have hmem : ∀ r' ∈ yrs, r'.hp ∈ (⟨some gr, 3, r.cs⟩ : Hp) :: (yrs.eraseIdx k).map RW.hp := fun r' hr' => by
        rcases List.mem_cons.1 ((er_perm hr2).mem_iff.1 hr') with rfl | h
        · unfold RW.hp; rw [hgr]; exact List.Mem.head _
        · exact List.Mem.tail _ (List.mem_map_of_mem h)
      refine gRetN tab hs rfl (.cons (.cells rfl rfl rfl rfl (hm.ro (k := 0) (n := 2) (g := g6) mem_ (cutF_ok rfl))) (.cons (.tmp rfl) (.cons (.tmp rfl) .nil))) ⟨⟨RW.is ⟨some go, yoc, yocs.set k (.int .i64 u), yos.set k u⟩, (some gq : Option Nat).map fun g => ⟨g, 0, none⟩, yqc, (yrs.map RW.is).set k (tlS gr (u :: l).length r.c l)⟩, ?_, ks_mk (qcs := yqcs.set k (tlS gr (u :: l).length r.c l).v) hm mem_ hset mem_ ?_ ?_, ks_new (qcs := yqcs.set k (tlS gr (u :: l).length r.c l).v) hm mem_ mem_ ?_, ?_, hm.fr⟩
      · unfold KS.v
        dsimp only
        rw [hlq, RW.is_v]
        unfold RW.v
        dsimp only
        rw [List.length_set]
        rfl
      · rw [hlq, ← isv_set]
        exact hq.set _ _
      · intro q hq'
        rcases List.mem_or_eq_of_mem_set hq' with h | rfl
        · obtain ⟨r', hr', rfl⟩ := List.mem_map.1 h
          exact RW.ok_is hm (mem5 (hmem r' hr')) (hrs r' hr')
        · exact tlS_ok hm mem_ hro
      · intro q hq' b hb
        rcases List.mem_or_eq_of_mem_set hq' with h | rfl
        · obtain ⟨r', hr', rfl⟩ := List.mem_map.1 h
          exact (hm.ow _ (mem5 (hmem r' hr')) b (IS.blk_rw hb)).resolve_right id
        · obtain rfl := tlS_blk hb
          exact (hm.ow ⟨some b, 3, r.cs⟩ mem_ b rfl).resolve_right id
      · unfold KS.ab
        dsimp only
        rw [List.map_set, List.map_map, ← hyq]
        rfl
  · rw [if_neg c1]
    refine enterR Try.func23 rfl rfl rfl fun a hs hm => ?_
    repeat (first | ((with_reducible refine toL hm ?_); (first | refine oneV hs gw_ rfl rfl (by intro w hm; (first | exact kv_ | exact r_sliceArr hs rfl rfl tab rfl rfl rfl | exact r_sliceArrTo hs rfl rfl rfl tab rfl rfl rfl (by omega) (by omega) | exact r_sliceTo hs rfl rfl rfl tab rfl rfl rfl (by omega) (by omega) | exact r_sliceFrom hs rfl rfl rfl tab rfl rfl rfl (by omega) (by omega))) ?_ | refine oneN hs rfl rfl rfl rfl rfl rfl rfl ?_ | refine oneU hs rfl rfl rfl rfl rfl rfl ?_); clear hs a; intro a hs) | ((with_reducible apply lCons); first | (refine dv hs gw_ rfl rfl da_ ?_; clear hs hm a; rintro _ w ⟨g, rfl, -, hm⟩ a hs) | (refine stn hs rfl rfl ds_ ?_; clear hs hm a; rintro - w hm a hs) ) | (with_reducible first | apply lNilThen | apply lNilBlock | apply lNil | apply wp_seq | apply wp_region_lit | apply wp_block | apply cExit | apply cRet | apply cSkip | apply gThen | apply gBlock | apply eThen | apply eBlockHit | refine eBlock rfl ?_ | apply rThen | apply rBlock) | ((with_reducible apply cCond); first | refine cTrue hs rfl bd_ ?_ | refine cFalse hs rfl bd_ ?_))
    obtain ⟨g6, en_⟩ := hs.pt 6 (by exact rfl); subst en_
    refine st hs rfl rfl rfl (d_call hs rfl rfl rfl (pl 33 rfl) ((hcp _ hm.fr))) ?_; clear hs a; rintro _ w1 ⟨y, rfl, hy, hyab, hyl, hN, hf⟩ a hs
    have hm6 := cp_gain hm hf hN
    clear hm hf hN
    have hm := hm6
    clear hm6
    unfold KO.v RW.v at hs
    repeat (first | ((with_reducible refine toL hm ?_); (first | refine oneV hs gw_ rfl rfl (by intro w hm; (first | exact kv_ | exact r_sliceArr hs rfl rfl tab rfl rfl rfl | exact r_sliceArrTo hs rfl rfl rfl tab rfl rfl rfl (by omega) (by omega) | exact r_sliceTo hs rfl rfl rfl tab rfl rfl rfl (by omega) (by omega) | exact r_sliceFrom hs rfl rfl rfl tab rfl rfl rfl (by omega) (by omega))) ?_ | refine oneN hs rfl rfl rfl rfl rfl rfl rfl ?_ | refine oneU hs rfl rfl rfl rfl rfl rfl ?_); clear hs a; intro a hs) | ((with_reducible apply lCons); first | (refine dv hs gw_ rfl rfl da_ ?_; clear hs hm a; rintro _ w ⟨g, rfl, -, hm⟩ a hs) | (refine stn hs rfl rfl ds_ ?_; clear hs hm a; rintro - w hm a hs) ) | (with_reducible first | apply lNilThen | apply lNilBlock | apply lNil | apply wp_seq | apply wp_region_lit | apply wp_block | apply cExit | apply cRet | apply cSkip | apply gThen | apply gBlock | apply eThen | apply eBlockHit | refine eBlock rfl ?_ | apply rThen | apply rBlock) | ((with_reducible apply cCond); first | refine cTrue hs rfl bd_ ?_ | refine cFalse hs rfl bd_ ?_))
    refine gRetN tab hs rfl (.cons (.cells rfl rfl rfl rfl (hm.ro (k := 0) (n := 2) (g := g6) mem_ (cutF_ok rfl))) (.cons (.tmp rfl) (.cons (.tmp rfl) .nil))) ⟨y.ks, by rw [KO.ks_v]; rfl, KO.ks_ok hm ?_ hy, KO.new_at hm ?_, by rw [KO.ks_ab, hyab], hm.fr⟩
    · skip
      intro h hh
      rcases List.mem_cons.1 hh with rfl | hh
      · exact mem_
      · rcases List.mem_cons.1 hh with rfl | hh
        · exact mem_
        · repeat (first | exact hh | apply List.mem_cons_of_mem)
    · skip
      intro h hh
      rcases List.mem_cons.1 hh with rfl | hh
      · exact mem_
      · rcases List.mem_cons.1 hh with rfl | hh
        · exact mem_
        · repeat (first | exact hh | apply List.mem_cons_of_mem)
end Go.Proofs.Ytfcmejcmijjnpaa
