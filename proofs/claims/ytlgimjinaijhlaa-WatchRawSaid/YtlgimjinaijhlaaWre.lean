/- The reference's Step. -/
import Derived.Test.YtlgimjinaijhlaaWrd
namespace Go.Proofs.Ytlgimjinaijhlaa
open Go.RowKit


structure StY where
  i : Nat
  os : List Int
  lA : Option Nat
  lc : Nat
  lcs : List Value
set_option maxHeartbeats 8000000 in
theorem wrstp_c (x : Wt) (p q : TS) (wB : World) (hx : x.ok wB) (hp : p.ok wB) (hq : q.ok wB) (hn : x.m.n ≤ 1000) : Ret Try.prog 11 [x.v, p.v, q.v] wB (fun u w' => StpWR x.most (stpW x.most x.m.xs p.xs q.xs) wB u w') := by
  have hchk := fun w'' (hf : Pu wB w'') => wrchk_c x w'' (Wt.ok.pu hx hf)
  obtain ⟨k, ⟨A, n, c, xs⟩⟩ := x
  obtain ⟨pA, pn, pc, ps⟩ := p
  obtain ⟨qA, qn, qc, qs⟩ := q
  have hl : xs.length = n := hx.1
  have hpl : ps.length = pn := hp.1
  have hql : qs.length = qn := hq.1
  unfold Wt.v IS.v TS.v at *
  dsimp only at *
  refine enterR Try.func11 rfl rfl rfl fun a hs hm => ?_
  repeat (first | ((with_reducible refine toL hm ?_); (first | refine oneV hs gw_ rfl rfl (by intro w hm; exact kvR_) ?_ | refine oneN hs rfl rfl rfl rfl rfl rfl rfl ?_ | refine oneU hs rfl rfl rfl rfl rfl rfl ?_); clear hs a; intro a hs) | ((with_reducible apply lCons); first | (refine dv hs gw_ rfl rfl (by first | exact da_ | exact d_makeSlice hs rfl rfl rfl tab rfl rfl rfl rfl rfl (by omega) rfl hm) ?_; clear hs hm a; rintro _ w ⟨g, rfl, -, hm⟩ a hs) | (refine stn hs rfl rfl ds_ ?_; clear hs hm a; rintro - w hm a hs) ) | (with_reducible first | apply lNilThen | apply lNilBlock | apply lNil | apply wp_seq | apply wp_region_lit | apply wp_block | apply cExit | apply cRet | apply cSkip | apply gThen | apply gBlock | apply eThen | apply eBlockHit | refine eBlock rfl ?_ | apply rThen | apply rBlock) | ((with_reducible apply cCond); first | refine cTrue hs rfl bd_ ?_ | refine cFalse hs rfl bd_ ?_))
  obtain ⟨g3, en_⟩ := hs.pt 3 (by exact rfl); subst en_
  obtain ⟨g6, en_⟩ := hs.pt 6 (by exact rfl); subst en_
  generalize hck : wchkF k xs = e at *
  by_cases he : e = 0
  · subst he
    have hlim : 1 ≤ xs.length ∧ xs.length ≤ 5 ∧ 0 ≤ k ∧ k ≤ 20 := by
      by_cases h : 1 ≤ xs.length ∧ xs.length ≤ 5 ∧ 0 ≤ k ∧ k ≤ 20
      · exact h
      · rw [wchk_lim h] at hck; omega
    have hel : ∀ x ∈ xs, 0 ≤ x ∧ x ≤ k := fun x hxm => by
      by_cases h : xs.any (badB k) = true
      · rw [wchk_bad hlim h] at hck; omega
      · have h' := List.any_eq_false.1 (by simpa using h) x hxm
        unfold badB at h'
        simp at h'
        exact h'
    by_cases h1 : pn = n
    · by_cases h2 : qn = n
      · have hst : stpW k xs ps qs = (outW k xs ps qs, lostW k xs ps qs n, 0) := by unfold stpW; rw [hck, if_neg (by omega), if_neg (by omega), hl]
        rw [hst]
        clear hst
        repeat (first | ((with_reducible refine toL hm ?_); (first | refine oneV hs gw_ rfl rfl (by intro w hm; exact kvR_) ?_ | refine oneN hs rfl rfl rfl rfl rfl rfl rfl ?_ | refine oneU hs rfl rfl rfl rfl rfl rfl ?_); clear hs a; intro a hs) | ((with_reducible apply lCons); first | (refine dv hs gw_ rfl rfl (by first | exact da_ | exact d_makeSlice hs rfl rfl rfl tab rfl rfl rfl rfl rfl (by omega) rfl hm) ?_; clear hs hm a; rintro _ w ⟨g, rfl, -, hm⟩ a hs) | (refine stn hs rfl rfl ds_ ?_; clear hs hm a; rintro - w hm a hs) | (refine dv hs gw_ rfl rfl (d_call hs rfl rfl rfl (pl 15 rfl) (hchk _ hm.fr)) ?_; clear hs a; rintro _ w ⟨rfl, hf⟩ a hs; replace hm := hm.pu hf; clear hf)) | (with_reducible first | apply lNilThen | apply lNilBlock | apply lNil | apply wp_seq | apply wp_region_lit | apply wp_block | apply cExit | apply cRet | apply cSkip | apply gThen | apply gBlock | apply eThen | apply eBlockHit | refine eBlock rfl ?_ | apply rThen | apply rBlock) | ((with_reducible apply cCond); first | refine cTrue hs rfl bd_ ?_ | refine cFalse hs rfl bd_ ?_))
        refine cMid (fun a w => ∃ (g10 go : Nat), Sl Try.f11.ntmps [(1, .slice pA pn pc), (2, .slice qA qn qc), (3, .pointer (some ⟨g3, 0, none⟩)), (6, .pointer (some ⟨g6, 0, none⟩)), (10, .pointer (some ⟨g10, 0, none⟩))] a ∧ Mm (fun _ => False) wB [⟨some g10, 24, [.int .i64 k, .slice (some ⟨go, 0, none⟩) n n]⟩, ⟨some go, 3, ints (List.replicate n 0)⟩, ⟨some g6, 24, [.int .i64 0, .slice none 0 0]⟩, ⟨some g3, 24, [.int .i64 k, .slice A n c]⟩] w) ?_ ?_
        · skip
          refine cDraw (n := 9) [⟨some g3, 24, [.int .i64 k, .slice A n c]⟩] hm rfl rfl ?_
          clear hm
          intro w2 hm
          refine hTake 0 hs rfl (by kernel_rfl) (Wnt.none rfl) rfl rfl (by intro w hm; replace hm : Mm _ _ _ w := hm; exact r_val hs tab rfl) (hm.sub sub_) ?_; clear hs a; intro a hs
          refine hTake 1 hs rfl (by kernel_rfl) (Wnt.none rfl) rfl rfl (by intro w hm; replace hm : Mm _ _ _ w := hm; exact klR_) (hm.sub sub_) ?_; clear hs a; intro a hs
          refine hTake 2 hs rfl (by kernel_rfl) (Wnt.none rfl) rfl rfl (by intro w hm; replace hm : Mm _ _ _ w := hm; exact r_val hs tab rfl) (hm.sub sub_) ?_; clear hs a; intro a hs
          refine hTake 3 hs rfl (by kernel_rfl) (Wnt.none rfl) rfl rfl (by intro w hm; replace hm : Mm _ _ _ w := hm; exact klR_) (hm.sub sub_) ?_; clear hs a; intro a hs
          refine hTake 4 hs rfl (by kernel_rfl) (Wnt.none rfl) rfl rfl (by intro w hm; replace hm : Mm _ _ _ w := hm; (first | exact r_val hs tab rfl | exact r_bi hs rfl | exact r_pick hs rfl rfl rfl rfl)) (hm.sub sub_) ?_; clear hs a; intro a hs
          refine hEach [5, 7] (by kernel_rfl) (eDo hs rfl (Wnt.none rfl) rfl rfl (d_makeSlice (n := n) hs rfl rfl rfl tab rfl rfl rfl rfl rfl (by omega) rfl hm) ?_ (eDo hs rfl (Wnt.none rfl) rfl rfl (by exact d_alloc rfl tab rfl rfl hm) ?_ eNil))
          · skip
            clear hs
            rintro _ w1 ⟨go, rfl, -, hm⟩ a hs
            refine ⟨hm.sub sub_, ?_⟩
            refine hTake 6 hs rfl (by kernel_rfl) (Wnt.none rfl) rfl rfl (by intro w hm; replace hm : Mm _ _ _ w := hm; exact r_val hs tab rfl) (hm.sub sub_) ?_; clear hs a; intro a hs
            refine hEach [7] (by kernel_rfl) (eDo hs rfl (Wnt.none rfl) rfl rfl (by exact d_alloc rfl tab rfl rfl hm) ?_ eNil)
            clear hs hm a
            rintro _ w27 ⟨g10, rfl, -, hm⟩ a hs
            refine ⟨hm.sub sub_, ?_⟩
            refine hEach [8] (by kernel_rfl) (eDoN hs rfl (Wnt.none rfl) rfl ds_ ?_ eNil)
            clear hs hm
            rintro - w28 hm a hs
            refine ⟨hm.sub sub_, ?_⟩
            refine hDone (by kernel_rfl) ?_
            rw [zrep_ints] at hm
            refine And.intro rfl ⟨g10, go, hs.sub (Has.all ⟨rfl, rfl, rfl, rfl, rfl, trivial⟩), ?_⟩
            first | exact hm.sel [0, 1, 2, 3] (by decide) rfl | exact hm.sel [1, 0, 2, 3] (by decide) rfl
          · skip
            clear hs hm a
            rintro _ w27 ⟨g10, rfl, -, hm⟩ a hs
            refine ⟨hm.sub sub_, ?_⟩
            refine hEach [5] (by kernel_rfl) (eDo hs rfl (Wnt.none rfl) rfl rfl (d_makeSlice (n := n) hs rfl rfl rfl tab rfl rfl rfl rfl rfl (by omega) rfl hm) ?_ eNil)
            clear hs
            rintro _ w1 ⟨go, rfl, -, hm⟩ a hs
            refine ⟨hm.sub sub_, ?_⟩
            refine hTake 6 hs rfl (by kernel_rfl) (Wnt.none rfl) rfl rfl (by intro w hm; replace hm : Mm _ _ _ w := hm; exact r_val hs tab rfl) (hm.sub sub_) ?_; clear hs a; intro a hs
            refine hEach [8] (by kernel_rfl) (eDoN hs rfl (Wnt.none rfl) rfl ds_ ?_ eNil)
            clear hs hm
            rintro - w28 hm a hs
            refine ⟨hm.sub sub_, ?_⟩
            refine hDone (by kernel_rfl) ?_
            rw [zrep_ints] at hm
            refine And.intro rfl ⟨g10, go, hs.sub (Has.all ⟨rfl, rfl, rfl, rfl, rfl, trivial⟩), ?_⟩
            first | exact hm.sel [0, 1, 2, 3] (by decide) rfl | exact hm.sel [1, 0, 2, 3] (by decide) rfl
        clear hs hm a
        rintro a w ⟨g10, go, hs, hm⟩
        repeat (first | ((with_reducible refine toL hm ?_); (first | refine oneV hs gw_ rfl rfl (by intro w hm; exact kvR_) ?_ | refine oneN hs rfl rfl rfl rfl rfl rfl rfl ?_ | refine oneU hs rfl rfl rfl rfl rfl rfl ?_); clear hs a; intro a hs) | ((with_reducible apply lCons); first | (refine dv hs gw_ rfl rfl (by first | exact da_ | exact d_makeSlice hs rfl rfl rfl tab rfl rfl rfl rfl rfl (by omega) rfl hm) ?_; clear hs hm a; rintro _ w ⟨g, rfl, -, hm⟩ a hs) | (refine stn hs rfl rfl ds_ ?_; clear hs hm a; rintro - w hm a hs) ) | (with_reducible first | apply lNilThen | apply lNilBlock | apply lNil | apply wp_seq | apply wp_region_lit | apply wp_block | apply cExit | apply cRet | apply cSkip | apply gThen | apply gBlock | apply eThen | apply eBlockHit | refine eBlock rfl ?_ | apply rThen | apply rBlock) | ((with_reducible apply cCond); first | refine cTrue hs rfl bd_ ?_ | refine cFalse hs rfl bd_ ?_))
        replace hm := hm.zero 3
        refine cLoop (X := StY) (fun X a w' => Sl Try.f11.ntmps [(1, .slice pA pn pc), (2, .slice qA qn qc), (3, .pointer (some ⟨g3, 0, none⟩)), (6, .pointer (some ⟨g6, 0, none⟩)), (10, .pointer (some ⟨g10, 0, none⟩)), (12, .int .i64 (X.i : Int)), (11, slv X.lA (lostW k xs ps qs X.i).length X.lc), (1, .slice pA pn pc)] a ∧ Mm (fun _ => False) wB [⟨X.lA, 3, X.lcs⟩, ⟨some g10, 24, [.int .i64 k, .slice (some ⟨go, 0, none⟩) n n]⟩, ⟨some go, 3, ints X.os⟩, ⟨some g6, 24, [.int .i64 0, .slice none 0 0]⟩, ⟨some g3, 24, [.int .i64 k, .slice A n c]⟩] w' ∧ X.i ≤ n ∧ X.os.length = n ∧ Row X.lA (lostW k xs ps qs X.i).length X.lc 1 (ints (lostW k xs ps qs X.i)) X.lcs ∧ (∀ j, j < X.i → X.os[j]? = some (cellW k xs ps qs j)) ∧ ∀ j, X.i ≤ j → j < n → X.os[j]? = some 0) (fun X => n - X.i) ⟨0, List.replicate n 0, none, 0, []⟩ ⟨hs.sub (Has.all ⟨rfl, rfl, rfl, rfl, rfl, rfl, rfl, rfl, trivial⟩), hm, Nat.zero_le _, List.length_replicate .., Row.empty 1, fun j hj => absurd hj (Nat.not_lt_zero _), fun j _ hj => by dsimp only; rw [List.getElem?_replicate, if_pos hj]⟩ ?_
        clear hs hm a
        rintro ⟨i, os, lA, lc, lcs⟩ a w' ⟨hs, hm, hi, hol, hlr, hlo, hhi⟩
        dsimp only at *
        have hll := lostW_le k xs ps qs i
        by_cases hlt : i < n
        · obtain ⟨b1, o1, hA1, hb1, r1⟩ := hp.2.ro (by unfold bools; rw [List.length_map]; dsimp only; omega)
          obtain ⟨b2, o2, hA2, hb2, r2⟩ := hq.2.ro (by unfold bools; rw [List.length_map]; dsimp only; omega)
          obtain ⟨b3, o3, hA3, hb3, r3⟩ := hx.2.ro (by rw [ints_len]; dsimp only; omega)
          dsimp only at hA1 hA2 hA3 r1 r2 r3
          subst hA1
          subst hA2
          subst hA3
          have e1 := bools_some (xs := ps) (k := i) (by omega)
          have e2 := bools_some (xs := qs) (k := i) (by omega)
          have e3 := ints_some (xs := xs) (k := i) (by omega)
          have hmi : missB ps qs i = (ps[i] && !qs[i]) := by unfold missB; rw [List.getD_eq_getElem?_getD, List.getD_eq_getElem?_getD, List.getElem?_eq_getElem (by omega), List.getElem?_eq_getElem (by omega)]; rfl
          obtain ⟨x, hxi⟩ : ∃ x, xs[i] = x := ⟨_, rfl⟩
          rw [hxi] at e3
          have hxg : xs.getD i 0 = x := by rw [List.getD_eq_getElem?_getD, List.getElem?_eq_getElem (by omega), hxi]; rfl
          have hx01 := hel x (by rw [← hxi]; exact List.getElem_mem _)
          have hil : i < (ints os).length := by rw [ints_len]; omega
          have hnx : ∀ v, cellW k xs ps qs i = v → (∀ j, j < i + 1 → (os.set i v)[j]? = some (cellW k xs ps qs j)) ∧ ∀ j, i + 1 ≤ j → j < n → (os.set i v)[j]? = some 0 := fun v hv => ⟨fun j hj => by
            by_cases e : j = i
            · subst e; rw [List.getElem?_set_self (by omega), hv]
            · rw [List.getElem?_set_ne (by omega)]; exact hlo j (by omega), fun j hj hj2 => by rw [List.getElem?_set_ne (by omega)]; exact hhi j (by omega) hj2⟩
          have hny : cellW k xs ps qs i = 0 → (∀ j, j < i + 1 → os[j]? = some (cellW k xs ps qs j)) ∧ ∀ j, i + 1 ≤ j → j < n → os[j]? = some 0 := fun hv => ⟨fun j hj => by
            by_cases e : j = i
            · subst e; rw [hhi j (Nat.le_refl _) hlt, hv]
            · exact hlo j (by omega), fun j hj hj2 => hhi j (by omega) hj2⟩
          have hstp := lostW_step k xs ps qs i
          unfold lostB at hstp
          rw [hmi, hxg] at hstp
          have hcw : cellW k xs ps qs i = if (ps[i] && !qs[i]) && decide (x ≠ k) then x + 1 else 0 := by unfold cellW; rw [hmi, hxg]
          generalize ps[i]'(_) = pb at *
          generalize qs[i]'(_) = qb at *
          cases pb
          · have hst' : lostW k xs ps qs (i + 1) = lostW k xs ps qs i := by rw [hstp]; simp
            obtain ⟨q1, q2⟩ := hny (by rw [hcw]; rfl)
            repeat (first | ((with_reducible refine toL hm ?_); (first | refine oneV hs gw_ rfl rfl (by intro w hm; exact kvR_) ?_ | refine oneN hs rfl rfl rfl rfl rfl rfl rfl ?_ | refine oneU hs rfl rfl rfl rfl rfl rfl ?_); clear hs a; intro a hs) | ((with_reducible apply lCons); first | (refine dv hs gw_ rfl rfl (by first | exact da_ | exact d_makeSlice hs rfl rfl rfl tab rfl rfl rfl rfl rfl (by omega) rfl hm) ?_; clear hs hm a; rintro _ w ⟨g, rfl, -, hm⟩ a hs) | (refine stn hs rfl rfl ds_ ?_; clear hs hm a; rintro - w hm a hs) ) | (with_reducible first | apply lNilThen | apply lNilBlock | apply lNil | apply wp_seq | apply wp_region_lit | apply wp_block | apply cExit | apply cRet | apply cSkip | apply gThen | apply gBlock | apply eThen | apply eBlockHit | refine eBlock rfl ?_ | apply rThen | apply rBlock) | ((with_reducible apply cCond); first | refine cTrue hs rfl bd_ ?_ | refine cFalse hs rfl bd_ ?_))
            exact ⟨⟨i + 1, os, lA, lc, lcs⟩, by dsimp only; omega, hs.sub (Has.all ⟨rfl, rfl, rfl, rfl, rfl, rfl, by rw [hst']; rfl, rfl, trivial⟩), hm, by dsimp only; omega, hol, by dsimp only; rw [hst']; exact hlr, q1, q2⟩
          · cases qb
            · by_cases hxk : x = k
              · have hst' : lostW k xs ps qs (i + 1) = lostW k xs ps qs i ++ [(i : Int)] := by rw [hstp]; simp [hxk]
                obtain ⟨q1, q2⟩ := hny (by rw [hcw]; simp [hxk])
                repeat (first | ((with_reducible first | refine toL hm ?_ | refine toQ ?_); (first | refine oneV hs gw_ rfl rfl (by intro w hm; exact kvR_) ?_ | refine oneN hs rfl rfl rfl rfl rfl rfl rfl ?_ | refine oneU hs rfl rfl rfl rfl rfl rfl ?_); clear hs a; intro a hs) | ((with_reducible apply lCons); first | (refine dv hs gw_ rfl rfl (by first | exact da_ | exact d_makeSlice hs rfl rfl rfl tab rfl rfl rfl rfl rfl (by omega) rfl hm) ?_; clear hs hm a; rintro _ w ⟨g, rfl, -, hm⟩ a hs) | (refine stn hs rfl rfl ds_ ?_; clear hs hm a; rintro - w hm a hs) ) | ((with_reducible apply qNil); clear hm; intro w hm) | ((with_reducible refine cQuiet hm ?_ ?_ ?_ ?_); rfl; kernel_rfl; kernel_rfl) | (with_reducible first | apply lNilThen | apply lNilBlock | apply lNil | apply wp_seq | apply wp_region_lit | apply wp_block | apply cExit | apply cRet | apply cSkip | apply gThen | apply gBlock | apply eThen | apply eBlockHit | refine eBlock rfl ?_ | apply rThen | apply rBlock) | ((with_reducible apply cCond); first | refine cTrue hs rfl bd_ ?_ | refine cFalse hs rfl bd_ ?_))
                refine dv hs (Wnt.none rfl) rfl rfl (d_append (A := lA) (n := (lostW k xs ps qs i).length) (c := lc) (news := [.int .i64 (i : Int)]) hs rfl rfl rfl rfl rfl tab rfl rfl rfl rfl rfl hm mem_ hlr rfl (hm.ro (n := 1) mem_ (cutF_ok rfl)) rfl (by show ((lostW k xs ps qs i).length + 1) * 8 ≤ _; omega) (by omega)) ?_
                clear hs
                rintro _ w6 ⟨lA2, lc2, lcs2, rfl, hlr2, hM⟩ a hs
                replace hm := (hM _ rep_).sub (List.sublist_cons_self _ _)
                clear hM
                have hlen : (lostW k xs ps qs i).length + 1 = (lostW k xs ps qs (i + 1)).length := by rw [hst', List.length_append]; rfl
                have hin : ints (lostW k xs ps qs i) ++ [.int .i64 (i : Int)] = ints (lostW k xs ps qs (i + 1)) := by rw [hst']; simp [ints]
                rw [hlen, hin] at hlr2
                rw [hlen] at hs
                repeat (first | ((with_reducible refine toL hm ?_); (first | refine oneV hs gw_ rfl rfl (by intro w hm; exact kvR_) ?_ | refine oneN hs rfl rfl rfl rfl rfl rfl rfl ?_ | refine oneU hs rfl rfl rfl rfl rfl rfl ?_); clear hs a; intro a hs) | ((with_reducible apply lCons); first | (refine dv hs gw_ rfl rfl (by first | exact da_ | exact d_makeSlice hs rfl rfl rfl tab rfl rfl rfl rfl rfl (by omega) rfl hm) ?_; clear hs hm a; rintro _ w ⟨g, rfl, -, hm⟩ a hs) | (refine stn hs rfl rfl ds_ ?_; clear hs hm a; rintro - w hm a hs) ) | (with_reducible first | apply lNilThen | apply lNilBlock | apply lNil | apply wp_seq | apply wp_region_lit | apply wp_block | apply cExit | apply cRet | apply cSkip | apply gThen | apply gBlock | apply eThen | apply eBlockHit | refine eBlock rfl ?_ | apply rThen | apply rBlock) | ((with_reducible apply cCond); first | refine cTrue hs rfl bd_ ?_ | refine cFalse hs rfl bd_ ?_))
                exact ⟨⟨i + 1, os, lA2, lc2, lcs2⟩, by dsimp only; omega, hs.sub (Has.all ⟨rfl, rfl, rfl, rfl, rfl, rfl, rfl, rfl, trivial⟩), hm, by dsimp only; omega, hol, hlr2, q1, q2⟩
              · have hst' : lostW k xs ps qs (i + 1) = lostW k xs ps qs i := by rw [hstp]; simp [hxk]
                obtain ⟨q1, q2⟩ := hnx (x + 1) (by rw [hcw]; simp [hxk])
                repeat (first | ((with_reducible first | refine toL hm ?_ | refine toQ ?_); (first | refine oneV hs gw_ rfl rfl (by intro w hm; exact kvR_) ?_ | refine oneN hs rfl rfl rfl rfl rfl rfl rfl ?_ | refine oneU hs rfl rfl rfl rfl rfl rfl ?_); clear hs a; intro a hs) | ((with_reducible apply lCons); first | (refine dv hs gw_ rfl rfl (by first | exact da_ | exact d_makeSlice hs rfl rfl rfl tab rfl rfl rfl rfl rfl (by omega) rfl hm) ?_; clear hs hm a; rintro _ w ⟨g, rfl, -, hm⟩ a hs) | (refine stn hs rfl rfl ds_ ?_; clear hs hm a; rintro - w hm a hs) ) | ((with_reducible apply qNil); clear hm; intro w hm) | ((with_reducible refine cQuiet hm ?_ ?_ ?_ ?_); rfl; kernel_rfl; kernel_rfl) | (with_reducible first | apply lNilThen | apply lNilBlock | apply lNil | apply wp_seq | apply wp_region_lit | apply wp_block | apply cExit | apply cRet | apply cSkip | apply gThen | apply gBlock | apply eThen | apply eBlockHit | refine eBlock rfl ?_ | apply rThen | apply rBlock) | ((with_reducible apply cCond); first | refine cTrue hs rfl bd_ ?_ | refine cFalse hs rfl bd_ ?_))
                refine cMid (fun a w => Sl Try.f11.ntmps [(1, .slice (some ⟨b1, o1, none⟩) pn pc), (2, .slice (some ⟨b2, o2, none⟩) qn qc), (3, .pointer (some ⟨g3, 0, none⟩)), (6, .pointer (some ⟨g6, 0, none⟩)), (10, .pointer (some ⟨g10, 0, none⟩)), (12, .int .i64 (i : Int)), (11, slv lA (lostW k xs ps qs i).length lc)] a ∧ Mm (fun _ => False) wB [⟨lA, 3, lcs⟩, ⟨some g10, 24, [.int .i64 k, .slice (some ⟨go, 0, none⟩) n n]⟩, ⟨some go, 3, (ints os).set i (.int .i64 (x + 1))⟩, ⟨some g6, 24, [.int .i64 0, .slice none 0 0]⟩, ⟨some g3, 24, [.int .i64 k, .slice (some ⟨b3, o3, none⟩) n c]⟩] w) ?_ ?_
                · skip
                  refine cDraw (n := 11) [⟨some g10, 24, [.int .i64 k, .slice (some ⟨go, 0, none⟩) n n]⟩, ⟨some g3, 24, [.int .i64 k, .slice (some ⟨b3, o3, none⟩) n c]⟩] hm rfl rfl ?_
                  clear hm
                  intro w2 hm
                  refine hTake 0 hs rfl (by kernel_rfl) (Wnt.none rfl) rfl rfl (by intro w hm; replace hm : Mm _ _ _ w := hm; exact r_val hs tab rfl) (hm.sub sub_) ?_; clear hs a; intro a hs
                  refine hTake 1 hs rfl (by kernel_rfl) (Wnt.none rfl) rfl rfl (by intro w hm; replace hm : Mm _ _ _ w := hm; exact klR_) (hm.sub sub_) ?_; clear hs a; intro a hs
                  refine hTake 2 hs rfl (by kernel_rfl) (Wnt.none rfl) rfl rfl (by intro w hm; replace hm : Mm _ _ _ w := hm; exact r_val hs tab rfl) (hm.sub sub_) ?_; clear hs a; intro a hs
                  refine hTake 3 hs rfl (by kernel_rfl) (Wnt.none rfl) rfl rfl (by intro w hm; replace hm : Mm _ _ _ w := hm; exact r_val hs tab rfl) (hm.sub sub_) ?_; clear hs a; intro a hs
                  refine hTake 4 hs rfl (by kernel_rfl) (Wnt.none rfl) rfl rfl (by intro w hm; replace hm : Mm _ _ _ w := hm; exact klR_) (hm.sub sub_) ?_; clear hs a; intro a hs
                  refine hTake 5 hs rfl (by kernel_rfl) (Wnt.none rfl) rfl rfl (by intro w hm; replace hm : Mm _ _ _ w := hm; exact r_val hs tab rfl) (hm.sub sub_) ?_; clear hs a; intro a hs
                  refine hTake 6 hs rfl (by kernel_rfl) (Wnt.none rfl) rfl rfl (by intro w hm; replace hm : Mm _ _ _ w := hm; (first | exact r_iz hs tab rfl rfl (by omega) | exact r_iy hs tab rfl rfl (by omega))) (hm.sub sub_) ?_; clear hs a; intro a hs
                  refine hTake 7 hs rfl (by kernel_rfl) (Wnt.none rfl) rfl rfl (by intro w hm; replace hm : Mm _ _ _ w := hm; exact klR_) (hm.sub sub_) ?_; clear hs a; intro a hs
                  refine hTake 8 hs rfl (by kernel_rfl) (Wnt.none rfl) rfl rfl (by intro w hm; replace hm : Mm _ _ _ w := hm; (first | exact r_arH hs rfl (by assumption) (by omega) | exact r_pred hs rfl rfl rfl (by omega) | exact r_ar hs rfl (by omega) | exact r_bi hs rfl)) (hm.sub sub_) ?_; clear hs a; intro a hs
                  refine hTake 9 hs rfl (by kernel_rfl) (Wnt.none rfl) rfl rfl (by intro w hm; replace hm : Mm _ _ _ w := hm; (first | exact r_iz hs tab rfl rfl (by omega) | exact r_iy hs tab rfl rfl (by omega))) (hm.sub sub_) ?_; clear hs a; intro a hs
                  refine hEach [10] (by kernel_rfl) (eDoN hs rfl (Wnt.none rfl) rfl ds_ ?_ eNil)
                  clear hs hm
                  rintro - w30 hm a hs
                  refine ⟨hm.sub sub_, ?_⟩
                  refine hDone (by kernel_rfl) ?_
                  exact And.intro rfl ⟨hs.sub (Has.all ⟨rfl, rfl, rfl, rfl, rfl, rfl, rfl, trivial⟩), hm⟩
                clear hs hm a
                rintro a w ⟨hs, hm⟩
                rw [show (ints os).set i (.int .i64 (x + 1)) = ints (os.set i (x + 1)) by simp [ints, List.map_set]] at hm
                repeat (first | ((with_reducible refine toL hm ?_); (first | refine oneV hs gw_ rfl rfl (by intro w hm; exact kvR_) ?_ | refine oneN hs rfl rfl rfl rfl rfl rfl rfl ?_ | refine oneU hs rfl rfl rfl rfl rfl rfl ?_); clear hs a; intro a hs) | ((with_reducible apply lCons); first | (refine dv hs gw_ rfl rfl (by first | exact da_ | exact d_makeSlice hs rfl rfl rfl tab rfl rfl rfl rfl rfl (by omega) rfl hm) ?_; clear hs hm a; rintro _ w ⟨g, rfl, -, hm⟩ a hs) | (refine stn hs rfl rfl ds_ ?_; clear hs hm a; rintro - w hm a hs) ) | (with_reducible first | apply lNilThen | apply lNilBlock | apply lNil | apply wp_seq | apply wp_region_lit | apply wp_block | apply cExit | apply cRet | apply cSkip | apply gThen | apply gBlock | apply eThen | apply eBlockHit | refine eBlock rfl ?_ | apply rThen | apply rBlock) | ((with_reducible apply cCond); first | refine cTrue hs rfl bd_ ?_ | refine cFalse hs rfl bd_ ?_))
                exact ⟨⟨i + 1, os.set i (x + 1), lA, lc, lcs⟩, by dsimp only; omega, hs.sub (Has.all ⟨rfl, rfl, rfl, rfl, rfl, rfl, by rw [hst']; rfl, rfl, trivial⟩), hm, by dsimp only; omega, by dsimp only; rw [List.length_set]; exact hol, by dsimp only; rw [hst']; exact hlr, q1, q2⟩
            · have hst' : lostW k xs ps qs (i + 1) = lostW k xs ps qs i := by rw [hstp]; simp
              obtain ⟨q1, q2⟩ := hny (by rw [hcw]; rfl)
              repeat (first | ((with_reducible refine toL hm ?_); (first | refine oneV hs gw_ rfl rfl (by intro w hm; exact kvR_) ?_ | refine oneN hs rfl rfl rfl rfl rfl rfl rfl ?_ | refine oneU hs rfl rfl rfl rfl rfl rfl ?_); clear hs a; intro a hs) | ((with_reducible apply lCons); first | (refine dv hs gw_ rfl rfl (by first | exact da_ | exact d_makeSlice hs rfl rfl rfl tab rfl rfl rfl rfl rfl (by omega) rfl hm) ?_; clear hs hm a; rintro _ w ⟨g, rfl, -, hm⟩ a hs) | (refine stn hs rfl rfl ds_ ?_; clear hs hm a; rintro - w hm a hs) ) | (with_reducible first | apply lNilThen | apply lNilBlock | apply lNil | apply wp_seq | apply wp_region_lit | apply wp_block | apply cExit | apply cRet | apply cSkip | apply gThen | apply gBlock | apply eThen | apply eBlockHit | refine eBlock rfl ?_ | apply rThen | apply rBlock) | ((with_reducible apply cCond); first | refine cTrue hs rfl bd_ ?_ | refine cFalse hs rfl bd_ ?_))
              exact ⟨⟨i + 1, os, lA, lc, lcs⟩, by dsimp only; omega, hs.sub (Has.all ⟨rfl, rfl, rfl, rfl, rfl, rfl, by rw [hst']; rfl, rfl, trivial⟩), hm, by dsimp only; omega, hol, by dsimp only; rw [hst']; exact hlr, q1, q2⟩
        · obtain rfl : i = n := by omega
          have hos : os = outW k xs ps qs := by
            apply List.ext_getElem?
            intro j
            by_cases hj : j < i
            · rw [hlo j hj, List.getElem?_eq_getElem (by rw [outW_len]; omega), outW_get _ _ _ _ (by omega)]
            · rw [List.getElem?_eq_none (by omega), List.getElem?_eq_none (by rw [outW_len]; omega)]
          repeat (first | ((with_reducible refine toL hm ?_); (first | refine oneV hs gw_ rfl rfl (by intro w hm; exact kvR_) ?_ | refine oneN hs rfl rfl rfl rfl rfl rfl rfl ?_ | refine oneU hs rfl rfl rfl rfl rfl rfl ?_); clear hs a; intro a hs) | ((with_reducible apply lCons); first | (refine dv hs gw_ rfl rfl (by first | exact da_ | exact d_makeSlice hs rfl rfl rfl tab rfl rfl rfl rfl rfl (by omega) rfl hm) ?_; clear hs hm a; rintro _ w ⟨g, rfl, -, hm⟩ a hs) | (refine stn hs rfl rfl ds_ ?_; clear hs hm a; rintro - w hm a hs) ) | (with_reducible first | apply lNilThen | apply lNilBlock | apply lNil | apply wp_seq | apply wp_region_lit | apply wp_block | apply cExit | apply cRet | apply cSkip | apply gThen | apply gBlock | apply eThen | apply eBlockHit | refine eBlock rfl ?_ | apply rThen | apply rBlock) | ((with_reducible apply cCond); first | refine cTrue hs rfl bd_ ?_ | refine cFalse hs rfl bd_ ?_))
          refine gRetN tab hs rfl (.cons (.cells rfl rfl rfl rfl (hm.ro (k := 0) (n := 2) (g := g6) mem_ (cutF_ok rfl))) (.cons (.tmp rfl) (.cons (.tmp rfl) .nil))) ⟨⟨k, ⟨some ⟨go, 0, none⟩, i, i, os⟩⟩, ⟨lA.map fun g => ⟨g, 0, none⟩, (lostW k xs ps qs i).length, lc, lostW k xs ps qs i⟩, rfl, ⟨hol, hm.rd mem_ (List.prefix_refl _)⟩, ⟨rfl, hm.rd_row mem_ hlr⟩, by unfold Wt.ab; dsimp only; rw [hos], rfl, hm.fr⟩
      · have hst : stpW k xs ps qs = (xs, [], 1) := by unfold stpW; rw [hck, if_neg (by omega), if_pos (by omega)]
        rw [hst]
        repeat (first | ((with_reducible refine toL hm ?_); (first | refine oneV hs gw_ rfl rfl (by intro w hm; exact kvR_) ?_ | refine oneN hs rfl rfl rfl rfl rfl rfl rfl ?_ | refine oneU hs rfl rfl rfl rfl rfl rfl ?_); clear hs a; intro a hs) | ((with_reducible apply lCons); first | (refine dv hs gw_ rfl rfl (by first | exact da_ | exact d_makeSlice hs rfl rfl rfl tab rfl rfl rfl rfl rfl (by omega) rfl hm) ?_; clear hs hm a; rintro _ w ⟨g, rfl, -, hm⟩ a hs) | (refine stn hs rfl rfl ds_ ?_; clear hs hm a; rintro - w hm a hs) | (refine dv hs gw_ rfl rfl (d_call hs rfl rfl rfl (pl 15 rfl) (hchk _ hm.fr)) ?_; clear hs a; rintro _ w ⟨rfl, hf⟩ a hs; replace hm := hm.pu hf; clear hf)) | (with_reducible first | apply lNilThen | apply lNilBlock | apply lNil | apply wp_seq | apply wp_region_lit | apply wp_block | apply cExit | apply cRet | apply cSkip | apply gThen | apply gBlock | apply eThen | apply eBlockHit | refine eBlock rfl ?_ | apply rThen | apply rBlock) | ((with_reducible apply cCond); first | refine cTrue hs rfl bd_ ?_ | refine cFalse hs rfl bd_ ?_))
        refine gRetN tab hs rfl (.cons (.cells rfl rfl rfl rfl (hm.ro (k := 0) (n := 2) (g := g6) mem_ (cutF_ok rfl))) (.cons (.tmp rfl) (.cons (.tmp rfl) .nil))) ⟨⟨k, ⟨A, n, c, xs⟩⟩, ⟨none, 0, 0, []⟩, rfl, Wt.ok.pu hx hm.fr, nil_is_ok _, rfl, rfl, hm.fr⟩
    · have hst : stpW k xs ps qs = (xs, [], 1) := by unfold stpW; rw [hck, if_neg (by omega), if_pos (by omega)]
      rw [hst]
      repeat (first | ((with_reducible refine toL hm ?_); (first | refine oneV hs gw_ rfl rfl (by intro w hm; exact kvR_) ?_ | refine oneN hs rfl rfl rfl rfl rfl rfl rfl ?_ | refine oneU hs rfl rfl rfl rfl rfl rfl ?_); clear hs a; intro a hs) | ((with_reducible apply lCons); first | (refine dv hs gw_ rfl rfl (by first | exact da_ | exact d_makeSlice hs rfl rfl rfl tab rfl rfl rfl rfl rfl (by omega) rfl hm) ?_; clear hs hm a; rintro _ w ⟨g, rfl, -, hm⟩ a hs) | (refine stn hs rfl rfl ds_ ?_; clear hs hm a; rintro - w hm a hs) | (refine dv hs gw_ rfl rfl (d_call hs rfl rfl rfl (pl 15 rfl) (hchk _ hm.fr)) ?_; clear hs a; rintro _ w ⟨rfl, hf⟩ a hs; replace hm := hm.pu hf; clear hf)) | (with_reducible first | apply lNilThen | apply lNilBlock | apply lNil | apply wp_seq | apply wp_region_lit | apply wp_block | apply cExit | apply cRet | apply cSkip | apply gThen | apply gBlock | apply eThen | apply eBlockHit | refine eBlock rfl ?_ | apply rThen | apply rBlock) | ((with_reducible apply cCond); first | refine cTrue hs rfl bd_ ?_ | refine cFalse hs rfl bd_ ?_))
      refine gRetN tab hs rfl (.cons (.cells rfl rfl rfl rfl (hm.ro (k := 0) (n := 2) (g := g6) mem_ (cutF_ok rfl))) (.cons (.tmp rfl) (.cons (.tmp rfl) .nil))) ⟨⟨k, ⟨A, n, c, xs⟩⟩, ⟨none, 0, 0, []⟩, rfl, Wt.ok.pu hx hm.fr, nil_is_ok _, rfl, rfl, hm.fr⟩
  · have hst : stpW k xs ps qs = (xs, [], e) := by unfold stpW; rw [hck, if_pos he]
    rw [hst]
    repeat (first | ((with_reducible refine toL hm ?_); (first | refine oneV hs gw_ rfl rfl (by intro w hm; exact kvR_) ?_ | refine oneN hs rfl rfl rfl rfl rfl rfl rfl ?_ | refine oneU hs rfl rfl rfl rfl rfl rfl ?_); clear hs a; intro a hs) | ((with_reducible apply lCons); first | (refine dv hs gw_ rfl rfl (by first | exact da_ | exact d_makeSlice hs rfl rfl rfl tab rfl rfl rfl rfl rfl (by omega) rfl hm) ?_; clear hs hm a; rintro _ w ⟨g, rfl, -, hm⟩ a hs) | (refine stn hs rfl rfl ds_ ?_; clear hs hm a; rintro - w hm a hs) | (refine dv hs gw_ rfl rfl (d_call hs rfl rfl rfl (pl 15 rfl) (hchk _ hm.fr)) ?_; clear hs a; rintro _ w ⟨rfl, hf⟩ a hs; replace hm := hm.pu hf; clear hf)) | (with_reducible first | apply lNilThen | apply lNilBlock | apply lNil | apply wp_seq | apply wp_region_lit | apply wp_block | apply cExit | apply cRet | apply cSkip | apply gThen | apply gBlock | apply eThen | apply eBlockHit | refine eBlock rfl ?_ | apply rThen | apply rBlock) | ((with_reducible apply cCond); first | refine cTrue hs rfl bd_ ?_ | refine cFalse hs rfl bd_ ?_))
    refine gRetN tab hs rfl (.cons (.cells rfl rfl rfl rfl (hm.ro (k := 0) (n := 2) (g := g6) mem_ (cutF_ok rfl))) (.cons (.tmp rfl) (.cons (.tmp rfl) .nil))) ⟨⟨k, ⟨A, n, c, xs⟩⟩, ⟨none, 0, 0, []⟩, rfl, Wt.ok.pu hx hm.fr, nil_is_ok _, rfl, rfl, hm.fr⟩
end Go.Proofs.Ytlgimjinaijhlaa
