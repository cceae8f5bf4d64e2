/- Taking a lock: the reference. -/
import Derived.Test.YtfcmejcmijjnpaaLk6
namespace Go.Proofs.Ytfcmejcmijjnpaa
open Go.RowKit


theorem Mm.gen {S : Nat → Prop} {w0 w : World} {M : List Hp} (hm : Mm S w0 M w) : ∃ M', M' = M ∧ Mm S w0 M' w := ⟨M, rfl, hm⟩
set_option maxHeartbeats 4000000 in
theorem rtak_c (x : KS) (k : Nat) (t : Int) (wB : World) (hx : x.ok wB) (hsh : x.ab.sh) (hk : k < 4) : Ret Try.prog 24 [x.v, .int .i64 (k : Int), .int .i64 t] wB (fun u w' => TakR (takF x.ab k t) wB u w') := by
  have hs0 := hsh.o
  have hq0 := hsh.q
  have hsm := KS.sm_of hx hsh
  have hxo := hx.o.1
  obtain ⟨⟨oA, on, oc, os⟩, qA, qc, qs⟩ := x
  unfold KS.ab at hs0 hq0
  dsimp only at hs0 hq0 hxo
  rw [List.length_map] at hq0
  obtain rfl : on = 4 := by omega
  obtain ⟨b1, o1, hoA, hb1, r1⟩ := hx.o.2.ro (by rw [ints_len]; dsimp only; omega)
  dsimp only at hoA r1
  subst hoA
  have e1 := ints_some (xs := os) (k := k) (by omega)
  have hg1 := getI (l := os) (k := k) (by omega)
  have hcp := fun w'' (hf : Pu wB w'') => cpy_c ⟨⟨some ⟨b1, o1, none⟩, 4, oc, os⟩, qA, qc, qs⟩ w'' (hx.pu hf) hsm
  unfold KS.v IS.v KS.ab at *
  dsimp only at hcp ⊢
  obtain ⟨v, hv⟩ : ∃ v, os[k] = v := ⟨_, rfl⟩
  rw [hv] at e1 hg1
  unfold takF
  dsimp only
  rw [hg1]
  by_cases c1 : v = t
  · rw [if_pos c1]
    refine enterR Try.func24 rfl rfl rfl fun a hs hm => ?_
    repeat (first | ((with_reducible refine toL hm ?_); (first | refine oneV hs gw_ rfl rfl (by intro w hm; exact kv_) ?_ | refine oneN hs rfl rfl rfl rfl rfl rfl rfl ?_ | refine oneU hs rfl rfl rfl rfl rfl rfl ?_); clear hs a; intro a hs) | ((with_reducible apply lCons); first | (refine dv hs gw_ rfl rfl da_ ?_; clear hs hm a; rintro _ w ⟨g, rfl, -, hm⟩ a hs) | (refine stn hs rfl rfl ds_ ?_; clear hs hm a; rintro - w hm a hs) ) | (with_reducible first | apply lNilThen | apply lNilBlock | apply lNil | apply wp_seq | apply wp_region_lit | apply wp_block | apply cExit | apply cRet | apply cSkip | apply gThen | apply gBlock | apply eThen | apply eBlockHit | refine eBlock rfl ?_ | apply rThen | apply rBlock) | ((with_reducible apply cCond); first | refine cTrue hs rfl bd_ ?_ | refine cFalse hs rfl bd_ ?_))
    obtain ⟨g3, en_⟩ := hs.pt 3 (by exact rfl); subst en_
    obtain ⟨g6, en_⟩ := hs.pt 6 (by exact rfl); subst en_
    refine st hs rfl rfl rfl (d_call hs rfl rfl rfl (pl 33 rfl) ((hcp _ hm.fr))) ?_; clear hs a; rintro _ w1 ⟨y, rfl, hy, hyab, hyl, hN, hf⟩ a hs
    have hm6 := cp_gain hm hf hN
    clear hm hf hN
    have hm := hm6
    clear hm6
    unfold KO.v RW.v at hs
    repeat (first | ((with_reducible refine toL hm ?_); (first | refine oneV hs gw_ rfl rfl (by intro w hm; exact kv_) ?_ | refine oneN hs rfl rfl rfl rfl rfl rfl rfl ?_ | refine oneU hs rfl rfl rfl rfl rfl rfl ?_); clear hs a; intro a hs) | ((with_reducible apply lCons); first | (refine dv hs gw_ rfl rfl da_ ?_; clear hs hm a; rintro _ w ⟨g, rfl, -, hm⟩ a hs) | (refine stn hs rfl rfl ds_ ?_; clear hs hm a; rintro - w hm a hs) ) | (with_reducible first | apply lNilThen | apply lNilBlock | apply lNil | apply wp_seq | apply wp_region_lit | apply wp_block | apply cExit | apply cRet | apply cSkip | apply gThen | apply gBlock | apply eThen | apply eBlockHit | refine eBlock rfl ?_ | apply rThen | apply rBlock) | ((with_reducible apply cCond); first | refine cTrue hs rfl bd_ ?_ | refine cFalse hs rfl bd_ ?_))
    refine gRetN tab hs rfl (.cons (.cells rfl rfl rfl rfl (hm.ro (k := 0) (n := 2) (g := g6) mem_ (cutF_ok rfl))) (.cons (.tmp rfl) .nil)) ⟨y.ks, by rw [KO.ks_v]; rfl, KO.ks_ok hm ?_ hy, KO.new_at hm ?_, by rw [KO.ks_ab, hyab], hm.fr⟩
    · skip
      intro h hh
      rcases List.mem_cons.1 hh with rfl | hh
      · exact mem_
      · rcases List.mem_cons.1 hh with rfl | hh
        · exact mem_
        · repeat (first | exact hh | apply List.mem_cons_of_mem)
    · skip
      intro h hh
      rcases List.mem_cons.1 hh with rfl | hh
      · exact mem_
      · rcases List.mem_cons.1 hh with rfl | hh
        · exact mem_
        · repeat (first | exact hh | apply List.mem_cons_of_mem)
  · rw [if_neg c1]
    cases hb : Ab.wt ⟨os, qs.map IS.xs⟩ t
    · rw [if_neg (by simp)]
      by_cases c3 : v = -1
      · rw [if_pos c3]
        refine enterR Try.func24 rfl rfl rfl fun a hs hm => ?_
        repeat (first | ((with_reducible refine toL hm ?_); (first | refine oneV hs gw_ rfl rfl (by intro w hm; exact kv_) ?_ | refine oneN hs rfl rfl rfl rfl rfl rfl rfl ?_ | refine oneU hs rfl rfl rfl rfl rfl rfl ?_); clear hs a; intro a hs) | ((with_reducible apply lCons); first | (refine dv hs gw_ rfl rfl da_ ?_; clear hs hm a; rintro _ w ⟨g, rfl, -, hm⟩ a hs) | (refine stn hs rfl rfl ds_ ?_; clear hs hm a; rintro - w hm a hs) ) | (with_reducible first | apply lNilThen | apply lNilBlock | apply lNil | apply wp_seq | apply wp_region_lit | apply wp_block | apply cExit | apply cRet | apply cSkip | apply gThen | apply gBlock | apply eThen | apply eBlockHit | refine eBlock rfl ?_ | apply rThen | apply rBlock) | ((with_reducible apply cCond); first | refine cTrue hs rfl bd_ ?_ | refine cFalse hs rfl bd_ ?_))
        obtain ⟨g3, en_⟩ := hs.pt 3 (by exact rfl); subst en_
        obtain ⟨g6, en_⟩ := hs.pt 6 (by exact rfl); subst en_
        refine st hs rfl rfl rfl (d_call hs rfl rfl rfl (pl 33 rfl) ((hcp _ hm.fr))) ?_; clear hs a; rintro _ w1 ⟨y, rfl, hy, hyab, hyl, hN, hf⟩ a hs
        have hm6 := cp_gain hm hf hN
        clear hm hf hN
        have hm := hm6
        clear hm6
        unfold KO.v RW.v at hs
        obtain ⟨⟨yoA, yoc, yocs, yos⟩, yqA, yqc, yqcs, yrs⟩ := y
        obtain ⟨ho, hq, hrs⟩ := hy
        unfold KO.ab at hyab
        dsimp only at hyab hyl ho hq hrs
        obtain ⟨rfl, hyq⟩ := Ab.mk.inj hyab
        obtain ⟨go, rfl⟩ := Row.some_ (show Row yoA yos.length yoc 1 (ints yos) yocs from ho) (by omega)
        have hk2 : k < yocs.length := by rw [Row.len ho]; have := Row.le ho; dsimp only at this ⊢; omega
        unfold RW.hp at hm
        dsimp only at hs hm
        repeat (first | ((with_reducible refine toL hm ?_); (first | refine oneV hs gw_ rfl rfl (by intro w hm; exact kv_) ?_ | refine oneN hs rfl rfl rfl rfl rfl rfl rfl ?_ | refine oneU hs rfl rfl rfl rfl rfl rfl ?_); clear hs a; intro a hs) | ((with_reducible apply lCons); first | (refine dv hs gw_ rfl rfl da_ ?_; clear hs hm a; rintro _ w ⟨g, rfl, -, hm⟩ a hs) | (refine stn hs rfl rfl ds_ ?_; clear hs hm a; rintro - w hm a hs) ) | (with_reducible first | apply lNilThen | apply lNilBlock | apply lNil | apply wp_seq | apply wp_region_lit | apply wp_block | apply cExit | apply cRet | apply cSkip | apply gThen | apply gBlock | apply eThen | apply eBlockHit | refine eBlock rfl ?_ | apply rThen | apply rBlock) | ((with_reducible apply cCond); first | refine cTrue hs rfl bd_ ?_ | refine cFalse hs rfl bd_ ?_))
        obtain ⟨g8, en_⟩ := hs.pt 8 (by exact rfl); subst en_
        obtain ⟨M, hM, hm⟩ := hm.gen
        refine cLoop (X := Nat) (fun i a w' => Sl Try.f24.ntmps [(1, .int .i64 (k : Int)), (2, .int .i64 t), (3, .pointer (some ⟨g3, 0, none⟩)), (6, .pointer (some ⟨g6, 0, none⟩)), (8, .pointer (some ⟨g8, 0, none⟩)), (32, .slice qA qs.length qc), (33, .int .i64 (qs.length : Int)), (34, .int .i64 (i : Int))] a ∧ Mm (fun _ => False) wB M w' ∧ i ≤ qs.length ∧ ∀ j (hj : j < qs.length), j < i → (qs[j].xs.any (t == ·)) = false) (fun i => qs.length - i) 0 ⟨hs.sub (Has.all ⟨rfl, rfl, rfl, rfl, rfl, rfl, rfl, rfl, trivial⟩), hm, Nat.zero_le _, fun j _ hj => by omega⟩ ?_
        clear hs hm a
        rintro i a w' ⟨hs, hm, hi, hno⟩
        by_cases hi4 : i < qs.length
        · obtain ⟨b2, o2, hA, hb2, r2⟩ := hx.q.ro (by rw [List.length_map]; show 0 < qs.length; omega)
          obtain ⟨q, hq⟩ : ∃ q, q = qs[i] := ⟨_, rfl⟩
          have hqm : q ∈ qs := by rw [hq]; exact List.getElem_mem hi4
          have hcell2 : (qs.map IS.v)[i]? = some (.slice q.A q.n q.c) := by rw [List.getElem?_map, List.getElem?_eq_getElem hi4, hq]; rfl
          have hqo := hx.qs q hqm
          have hqn := hsm.qs q hqm
          have hqx := hqo.1
          dsimp only at hA r2
          rw [hA] at hs
          repeat (first | ((with_reducible refine toL hm ?_); (first | refine oneV hs gw_ rfl rfl (by intro w hm; exact kv_) ?_ | refine oneN hs rfl rfl rfl rfl rfl rfl rfl ?_ | refine oneU hs rfl rfl rfl rfl rfl rfl ?_); clear hs a; intro a hs) | ((with_reducible apply lCons); first | (refine dv hs gw_ rfl rfl da_ ?_; clear hs hm a; rintro _ w ⟨g, rfl, -, hm⟩ a hs) | (refine stn hs rfl rfl ds_ ?_; clear hs hm a; rintro - w hm a hs) ) | (with_reducible first | apply lNilThen | apply lNilBlock | apply lNil | apply wp_seq | apply wp_region_lit | apply wp_block | apply cExit | apply cRet | apply cSkip | apply gThen | apply gBlock | apply eThen | apply eBlockHit | refine eBlock rfl ?_ | apply rThen | apply rBlock) | ((with_reducible apply cCond); first | refine cTrue hs rfl bd_ ?_ | refine cFalse hs rfl bd_ ?_))
          rw [← hA] at hs
          refine cLoop (X := Nat) (fun j a w' => Sl Try.f24.ntmps [(1, .int .i64 (k : Int)), (2, .int .i64 t), (3, .pointer (some ⟨g3, 0, none⟩)), (6, .pointer (some ⟨g6, 0, none⟩)), (8, .pointer (some ⟨g8, 0, none⟩)), (32, .slice qA qs.length qc), (33, .int .i64 (qs.length : Int)), (34, .int .i64 (i : Int)), (38, .slice q.A q.n q.c), (39, .int .i64 (q.n : Int)), (40, .int .i64 (j : Int))] a ∧ Mm (fun _ => False) wB M w' ∧ j ≤ q.n ∧ ∀ l (hl : l < q.xs.length), l < j → (t == q.xs[l]) = false) (fun j => q.n - j) 0 ⟨hs.sub (Has.all ⟨rfl, rfl, rfl, rfl, rfl, rfl, rfl, rfl, rfl, rfl, rfl, trivial⟩), hm, Nat.zero_le _, fun l _ hl => by omega⟩ ?_
          clear hs hm a hA r2
          rintro j a w' ⟨hs, hm, hj, hno2⟩
          by_cases hjn : j < q.n
          · obtain ⟨b3, o3, hA3, hb3, r3⟩ := hqo.2.ro (by rw [ints_len]; omega)
            have e3 := ints_some (xs := q.xs) (k := j) (by omega)
            obtain ⟨z, hz0⟩ : ∃ z, q.xs[j] = z := ⟨_, rfl⟩
            have hzm : z ∈ q.xs := by rw [← hz0]; exact List.getElem_mem _
            rw [hz0] at e3
            rw [hA3] at hs
            by_cases hz : z = t
            · subst hM
              exfalso
              have := List.any_eq_false.1 hb q.xs (List.mem_map_of_mem hqm)
              exact this (by rw [List.any_eq_true]; exact ⟨z, hzm, by simp [hz]⟩)
            · repeat (first | ((with_reducible refine toL hm ?_); (first | refine oneV hs gw_ rfl rfl (by intro w hm; exact kv_) ?_ | refine oneN hs rfl rfl rfl rfl rfl rfl rfl ?_ | refine oneU hs rfl rfl rfl rfl rfl rfl ?_); clear hs a; intro a hs) | ((with_reducible apply lCons); first | (refine dv hs gw_ rfl rfl da_ ?_; clear hs hm a; rintro _ w ⟨g, rfl, -, hm⟩ a hs) | (refine stn hs rfl rfl ds_ ?_; clear hs hm a; rintro - w hm a hs) ) | (with_reducible first | apply lNilThen | apply lNilBlock | apply lNil | apply wp_seq | apply wp_region_lit | apply wp_block | apply cExit | apply cRet | apply cSkip | apply gThen | apply gBlock | apply eThen | apply eBlockHit | refine eBlock rfl ?_ | apply rThen | apply rBlock) | ((with_reducible apply cCond); first | refine cTrue hs rfl bd_ ?_ | refine cFalse hs rfl bd_ ?_))
              rw [← hA3] at hs
              refine ⟨j + 1, by omega, hs.sub (Has.all ⟨rfl, rfl, rfl, rfl, rfl, rfl, rfl, rfl, rfl, rfl, rfl, trivial⟩), hm, by omega, fun l hl hlj => ?_⟩
              by_cases e : l = j
              · subst e; rw [hz0]; simpa using fun h => hz h.symm
              · exact hno2 l hl (by omega)
          · have hqf : q.xs.any (t == ·) = false := any_take _ _ fun l hl => hno2 l hl (by omega)
            repeat (first | ((with_reducible refine toL hm ?_); (first | refine oneV hs gw_ rfl rfl (by intro w hm; exact kv_) ?_ | refine oneN hs rfl rfl rfl rfl rfl rfl rfl ?_ | refine oneU hs rfl rfl rfl rfl rfl rfl ?_); clear hs a; intro a hs) | ((with_reducible apply lCons); first | (refine dv hs gw_ rfl rfl da_ ?_; clear hs hm a; rintro _ w ⟨g, rfl, -, hm⟩ a hs) | (refine stn hs rfl rfl ds_ ?_; clear hs hm a; rintro - w hm a hs) ) | (with_reducible first | apply lNilThen | apply lNilBlock | apply lNil | apply wp_seq | apply wp_region_lit | apply wp_block | apply cExit | apply cRet | apply cSkip | apply gThen | apply gBlock | apply eThen | apply eBlockHit | refine eBlock rfl ?_ | apply rThen | apply rBlock) | ((with_reducible apply cCond); first | refine cTrue hs rfl bd_ ?_ | refine cFalse hs rfl bd_ ?_))
            refine ⟨i + 1, by omega, hs.sub (Has.all ⟨rfl, rfl, rfl, rfl, rfl, rfl, rfl, rfl, trivial⟩), hm, by omega, fun l hl hlj => ?_⟩
            by_cases e : l = i
            · subst e; rw [← hq]; exact hqf
            · exact hno l hl (by omega)
        · subst hM
          repeat (first | ((with_reducible refine toL hm ?_); (first | refine oneV hs gw_ rfl rfl (by intro w hm; exact kv_) ?_ | refine oneN hs rfl rfl rfl rfl rfl rfl rfl ?_ | refine oneU hs rfl rfl rfl rfl rfl rfl ?_); clear hs a; intro a hs) | ((with_reducible apply lCons); first | (refine dv hs gw_ rfl rfl da_ ?_; clear hs hm a; rintro _ w ⟨g, rfl, -, hm⟩ a hs) | (refine stn hs rfl rfl ds_ ?_; clear hs hm a; rintro - w hm a hs) ) | (with_reducible first | apply lNilThen | apply lNilBlock | apply lNil | apply wp_seq | apply wp_region_lit | apply wp_block | apply cExit | apply cRet | apply cSkip | apply gThen | apply gBlock | apply eThen | apply eBlockHit | refine eBlock rfl ?_ | apply rThen | apply rBlock) | ((with_reducible apply cCond); first | refine cTrue hs rfl bd_ ?_ | refine cFalse hs rfl bd_ ?_))
          have hset := RW.set_ok ho k t
          refine gRetN tab hs rfl (.cons (.cells rfl rfl rfl rfl (hm.ro (k := 0) (n := 2) (g := g6) mem_ (cutF_ok rfl))) (.cons (.tmp rfl) .nil)) ⟨KO.ks ⟨⟨some go, yoc, yocs.set k (.int .i64 t), yos.set k t⟩, yqA, yqc, yqcs, yrs⟩, ?_, KO.ks_ok hm ?_ ⟨hset, hq, hrs⟩, KO.new_at hm ?_, ?_, hm.fr⟩
          · rw [KO.ks_v]
            unfold KO.v RW.v
            dsimp only
            rw [List.length_set]
            rfl
          · skip
            intro h hh
            rcases List.mem_cons.1 hh with rfl | hh
            · exact mem_
            · rcases List.mem_cons.1 hh with rfl | hh
              · exact mem_
              · repeat (first | exact hh | apply List.mem_cons_of_mem)
          · skip
            intro h hh
            rcases List.mem_cons.1 hh with rfl | hh
            · exact mem_
            · rcases List.mem_cons.1 hh with rfl | hh
              · exact mem_
              · repeat (first | exact hh | apply List.mem_cons_of_mem)
          · rw [KO.ks_ab]
            unfold KO.ab
            dsimp only
            rw [hyq]
      · rw [if_neg c3]
        refine enterR Try.func24 rfl rfl rfl fun a hs hm => ?_
        repeat (first | ((with_reducible refine toL hm ?_); (first | refine oneV hs gw_ rfl rfl (by intro w hm; exact kv_) ?_ | refine oneN hs rfl rfl rfl rfl rfl rfl rfl ?_ | refine oneU hs rfl rfl rfl rfl rfl rfl ?_); clear hs a; intro a hs) | ((with_reducible apply lCons); first | (refine dv hs gw_ rfl rfl da_ ?_; clear hs hm a; rintro _ w ⟨g, rfl, -, hm⟩ a hs) | (refine stn hs rfl rfl ds_ ?_; clear hs hm a; rintro - w hm a hs) ) | (with_reducible first | apply lNilThen | apply lNilBlock | apply lNil | apply wp_seq | apply wp_region_lit | apply wp_block | apply cExit | apply cRet | apply cSkip | apply gThen | apply gBlock | apply eThen | apply eBlockHit | refine eBlock rfl ?_ | apply rThen | apply rBlock) | ((with_reducible apply cCond); first | refine cTrue hs rfl bd_ ?_ | refine cFalse hs rfl bd_ ?_))
        obtain ⟨g3, en_⟩ := hs.pt 3 (by exact rfl); subst en_
        obtain ⟨g6, en_⟩ := hs.pt 6 (by exact rfl); subst en_
        refine st hs rfl rfl rfl (d_call hs rfl rfl rfl (pl 33 rfl) ((hcp _ hm.fr))) ?_; clear hs a; rintro _ w1 ⟨y, rfl, hy, hyab, hyl, hN, hf⟩ a hs
        have hm6 := cp_gain hm hf hN
        clear hm hf hN
        have hm := hm6
        clear hm6
        unfold KO.v RW.v at hs
        obtain ⟨⟨yoA, yoc, yocs, yos⟩, yqA, yqc, yqcs, yrs⟩ := y
        obtain ⟨ho, hq, hrs⟩ := hy
        unfold KO.ab at hyab
        dsimp only at hyab hyl ho hq hrs
        obtain ⟨rfl, hyq⟩ := Ab.mk.inj hyab
        obtain ⟨gq, rfl⟩ := hq.some_ (by omega)
        have hkl : k < yrs.length := by omega
        obtain ⟨r, hr⟩ : ∃ r, r = yrs[k] := ⟨_, rfl⟩
        have hr2 : yrs[k]? = some r := by rw [hr]; exact List.getElem?_eq_getElem hkl
        have hrm0 : r ∈ yrs := List.mem_of_getElem? hr2
        have hro : Row r.A r.xs.length r.c 1 (ints r.xs) r.cs := hrs r hrm0
        have hcell : yqcs[k]? = some (slv r.A r.xs.length r.c) := hq.get (by rw [List.getElem?_map, hr2]; rfl)
        have hk2 : k < yqcs.length := by rw [hq.len]; have := hq.le; omega
        have hrl : r.xs.length ≤ 500 := hsh.l _ (by show r.xs ∈ qs.map IS.xs; rw [← hyq]; exact List.mem_map_of_mem hrm0)
        have hrm : (⟨r.A, 3, r.cs⟩ : Hp) ∈ yrs.map RW.hp := List.mem_map_of_mem (f := RW.hp) hrm0
        have hrep := fun rA rc rcs => rep_set (r' := ⟨rA, rc, rcs, r.xs ++ [t]⟩) hr2
        unfold RW.hp at hm hrep
        dsimp only at hs hm hrep
        repeat (first | ((with_reducible refine toL hm ?_); (first | refine oneV hs gw_ rfl rfl (by intro w hm; exact kv_) ?_ | refine oneN hs rfl rfl rfl rfl rfl rfl rfl ?_ | refine oneU hs rfl rfl rfl rfl rfl rfl ?_); clear hs a; intro a hs) | ((with_reducible apply lCons); first | (refine dv hs gw_ rfl rfl da_ ?_; clear hs hm a; rintro _ w ⟨g, rfl, -, hm⟩ a hs) | (refine stn hs rfl rfl ds_ ?_; clear hs hm a; rintro - w hm a hs) ) | (with_reducible first | apply lNilThen | apply lNilBlock | apply lNil | apply wp_seq | apply wp_region_lit | apply wp_block | apply cExit | apply cRet | apply cSkip | apply gThen | apply gBlock | apply eThen | apply eBlockHit | refine eBlock rfl ?_ | apply rThen | apply rBlock) | ((with_reducible apply cCond); first | refine cTrue hs rfl bd_ ?_ | refine cFalse hs rfl bd_ ?_))
        obtain ⟨g8, en_⟩ := hs.pt 8 (by exact rfl); subst en_
        obtain ⟨M, hM, hm⟩ := hm.gen
        refine cLoop (X := Nat) (fun i a w' => Sl Try.f24.ntmps [(1, .int .i64 (k : Int)), (2, .int .i64 t), (3, .pointer (some ⟨g3, 0, none⟩)), (6, .pointer (some ⟨g6, 0, none⟩)), (8, .pointer (some ⟨g8, 0, none⟩)), (32, .slice qA qs.length qc), (33, .int .i64 (qs.length : Int)), (34, .int .i64 (i : Int))] a ∧ Mm (fun _ => False) wB M w' ∧ i ≤ qs.length ∧ ∀ j (hj : j < qs.length), j < i → (qs[j].xs.any (t == ·)) = false) (fun i => qs.length - i) 0 ⟨hs.sub (Has.all ⟨rfl, rfl, rfl, rfl, rfl, rfl, rfl, rfl, trivial⟩), hm, Nat.zero_le _, fun j _ hj => by omega⟩ ?_
        clear hs hm a
        rintro i a w' ⟨hs, hm, hi, hno⟩
        by_cases hi4 : i < qs.length
        · obtain ⟨b2, o2, hA, hb2, r2⟩ := hx.q.ro (by rw [List.length_map]; show 0 < qs.length; omega)
          obtain ⟨q, hq⟩ : ∃ q, q = qs[i] := ⟨_, rfl⟩
          have hqm : q ∈ qs := by rw [hq]; exact List.getElem_mem hi4
          have hcell2 : (qs.map IS.v)[i]? = some (.slice q.A q.n q.c) := by rw [List.getElem?_map, List.getElem?_eq_getElem hi4, hq]; rfl
          have hqo := hx.qs q hqm
          have hqn := hsm.qs q hqm
          have hqx := hqo.1
          dsimp only at hA r2
          rw [hA] at hs
          repeat (first | ((with_reducible refine toL hm ?_); (first | refine oneV hs gw_ rfl rfl (by intro w hm; exact kv_) ?_ | refine oneN hs rfl rfl rfl rfl rfl rfl rfl ?_ | refine oneU hs rfl rfl rfl rfl rfl rfl ?_); clear hs a; intro a hs) | ((with_reducible apply lCons); first | (refine dv hs gw_ rfl rfl da_ ?_; clear hs hm a; rintro _ w ⟨g, rfl, -, hm⟩ a hs) | (refine stn hs rfl rfl ds_ ?_; clear hs hm a; rintro - w hm a hs) ) | (with_reducible first | apply lNilThen | apply lNilBlock | apply lNil | apply wp_seq | apply wp_region_lit | apply wp_block | apply cExit | apply cRet | apply cSkip | apply gThen | apply gBlock | apply eThen | apply eBlockHit | refine eBlock rfl ?_ | apply rThen | apply rBlock) | ((with_reducible apply cCond); first | refine cTrue hs rfl bd_ ?_ | refine cFalse hs rfl bd_ ?_))
          rw [← hA] at hs
          refine cLoop (X := Nat) (fun j a w' => Sl Try.f24.ntmps [(1, .int .i64 (k : Int)), (2, .int .i64 t), (3, .pointer (some ⟨g3, 0, none⟩)), (6, .pointer (some ⟨g6, 0, none⟩)), (8, .pointer (some ⟨g8, 0, none⟩)), (32, .slice qA qs.length qc), (33, .int .i64 (qs.length : Int)), (34, .int .i64 (i : Int)), (38, .slice q.A q.n q.c), (39, .int .i64 (q.n : Int)), (40, .int .i64 (j : Int))] a ∧ Mm (fun _ => False) wB M w' ∧ j ≤ q.n ∧ ∀ l (hl : l < q.xs.length), l < j → (t == q.xs[l]) = false) (fun j => q.n - j) 0 ⟨hs.sub (Has.all ⟨rfl, rfl, rfl, rfl, rfl, rfl, rfl, rfl, rfl, rfl, rfl, trivial⟩), hm, Nat.zero_le _, fun l _ hl => by omega⟩ ?_
          clear hs hm a hA r2
          rintro j a w' ⟨hs, hm, hj, hno2⟩
          by_cases hjn : j < q.n
          · obtain ⟨b3, o3, hA3, hb3, r3⟩ := hqo.2.ro (by rw [ints_len]; omega)
            have e3 := ints_some (xs := q.xs) (k := j) (by omega)
            obtain ⟨z, hz0⟩ : ∃ z, q.xs[j] = z := ⟨_, rfl⟩
            have hzm : z ∈ q.xs := by rw [← hz0]; exact List.getElem_mem _
            rw [hz0] at e3
            rw [hA3] at hs
            by_cases hz : z = t
            · subst hM
              exfalso
              have := List.any_eq_false.1 hb q.xs (List.mem_map_of_mem hqm)
              exact this (by rw [List.any_eq_true]; exact ⟨z, hzm, by simp [hz]⟩)
            · repeat (first | ((with_reducible refine toL hm ?_); (first | refine oneV hs gw_ rfl rfl (by intro w hm; exact kv_) ?_ | refine oneN hs rfl rfl rfl rfl rfl rfl rfl ?_ | refine oneU hs rfl rfl rfl rfl rfl rfl ?_); clear hs a; intro a hs) | ((with_reducible apply lCons); first | (refine dv hs gw_ rfl rfl da_ ?_; clear hs hm a; rintro _ w ⟨g, rfl, -, hm⟩ a hs) | (refine stn hs rfl rfl ds_ ?_; clear hs hm a; rintro - w hm a hs) ) | (with_reducible first | apply lNilThen | apply lNilBlock | apply lNil | apply wp_seq | apply wp_region_lit | apply wp_block | apply cExit | apply cRet | apply cSkip | apply gThen | apply gBlock | apply eThen | apply eBlockHit | refine eBlock rfl ?_ | apply rThen | apply rBlock) | ((with_reducible apply cCond); first | refine cTrue hs rfl bd_ ?_ | refine cFalse hs rfl bd_ ?_))
              rw [← hA3] at hs
              refine ⟨j + 1, by omega, hs.sub (Has.all ⟨rfl, rfl, rfl, rfl, rfl, rfl, rfl, rfl, rfl, rfl, rfl, trivial⟩), hm, by omega, fun l hl hlj => ?_⟩
              by_cases e : l = j
              · subst e; rw [hz0]; simpa using fun h => hz h.symm
              · exact hno2 l hl (by omega)
          · have hqf : q.xs.any (t == ·) = false := any_take _ _ fun l hl => hno2 l hl (by omega)
            repeat (first | ((with_reducible refine toL hm ?_); (first | refine oneV hs gw_ rfl rfl (by intro w hm; exact kv_) ?_ | refine oneN hs rfl rfl rfl rfl rfl rfl rfl ?_ | refine oneU hs rfl rfl rfl rfl rfl rfl ?_); clear hs a; intro a hs) | ((with_reducible apply lCons); first | (refine dv hs gw_ rfl rfl da_ ?_; clear hs hm a; rintro _ w ⟨g, rfl, -, hm⟩ a hs) | (refine stn hs rfl rfl ds_ ?_; clear hs hm a; rintro - w hm a hs) ) | (with_reducible first | apply lNilThen | apply lNilBlock | apply lNil | apply wp_seq | apply wp_region_lit | apply wp_block | apply cExit | apply cRet | apply cSkip | apply gThen | apply gBlock | apply eThen | apply eBlockHit | refine eBlock rfl ?_ | apply rThen | apply rBlock) | ((with_reducible apply cCond); first | refine cTrue hs rfl bd_ ?_ | refine cFalse hs rfl bd_ ?_))
            refine ⟨i + 1, by omega, hs.sub (Has.all ⟨rfl, rfl, rfl, rfl, rfl, rfl, rfl, rfl, trivial⟩), hm, by omega, fun l hl hlj => ?_⟩
            by_cases e : l = i
            · subst e; rw [← hq]; exact hqf
            · exact hno l hl (by omega)
        · subst hM
          repeat (first | ((with_reducible refine toL hm ?_); (first | refine oneV hs gw_ rfl rfl (by intro w hm; exact kv_) ?_ | refine oneN hs rfl rfl rfl rfl rfl rfl rfl ?_ | refine oneU hs rfl rfl rfl rfl rfl rfl ?_); clear hs a; intro a hs) | ((with_reducible apply lCons); first | (refine dv hs gw_ rfl rfl da_ ?_; clear hs hm a; rintro _ w ⟨g, rfl, -, hm⟩ a hs) | (refine stn hs rfl rfl ds_ ?_; clear hs hm a; rintro - w hm a hs) ) | (with_reducible first | apply lNilThen | apply lNilBlock | apply lNil | apply wp_seq | apply wp_region_lit | apply wp_block | apply cExit | apply cRet | apply cSkip | apply gThen | apply gBlock | apply eThen | apply eBlockHit | refine eBlock rfl ?_ | apply rThen | apply rBlock) | ((with_reducible apply cCond); first | refine cTrue hs rfl bd_ ?_ | refine cFalse hs rfl bd_ ?_))
          refine cMid (fun a w' => ∃ (rA : Option Nat) (rc : Nat) (rcs : List Value), Row rA (r.xs.length + 1) rc 1 (ints r.xs ++ [.int .i64 t]) rcs ∧ Sl Try.f24.ntmps [(6, .pointer (some ⟨g6, 0, none⟩)), (8, .pointer (some ⟨g8, 0, none⟩))] a ∧ Mm (fun _ => False) wB (⟨some g8, 27, [slv yoA yos.length yoc, slv (some gq) yrs.length yqc]⟩ :: ⟨some gq, 22, yqcs.set k (slv rA (r.xs.length + 1) rc)⟩ :: ⟨yoA, 3, yocs⟩ :: ⟨some g6, 27, [.slice none 0 0, .slice none 0 0]⟩ :: (yrs.set k ⟨rA, rc, rcs, r.xs ++ [t]⟩).map RW.hp) w') ?_ ?_
          · skip
            refine cDraw (n := 13) [⟨some g8, 27, [slv yoA yos.length yoc, slv (some gq) yrs.length yqc]⟩] hm rfl rfl ?_
            clear hm
            intro w2 hm
            refine hTake 0 hs rfl (by kernel_rfl) (Wnt.none rfl) rfl rfl (by intro w hm; replace hm : Mm _ _ _ w := hm; exact r_val hs tab rfl) (hm.sub sub_) ?_; clear hs a; intro a hs
            refine hTake 1 hs rfl (by kernel_rfl) (Wnt.none rfl) rfl rfl (by intro w hm; replace hm : Mm _ _ _ w := hm; exact kl_) (hm.sub sub_) ?_; clear hs a; intro a hs
            refine hTake 2 hs rfl (by kernel_rfl) (Wnt.none rfl) rfl rfl (by intro w hm; replace hm : Mm _ _ _ w := hm; exact r_val hs tab rfl) (hm.sub sub_) ?_; clear hs a; intro a hs
            refine hTake 3 hs rfl (by kernel_rfl) (Wnt.none rfl) rfl rfl (by intro w hm; replace hm : Mm _ _ _ w := hm; exact r_val hs tab rfl) (hm.sub sub_) ?_; clear hs a; intro a hs
            refine hTake 4 hs rfl (by kernel_rfl) (Wnt.none rfl) rfl rfl (by intro w hm; replace hm : Mm _ _ _ w := hm; exact kl_) (hm.sub sub_) ?_; clear hs a; intro a hs
            refine hTake 5 hs rfl (by kernel_rfl) (Wnt.none rfl) rfl rfl (by intro w hm; replace hm : Mm _ _ _ w := hm; exact r_val hs tab rfl) (hm.sub sub_) ?_; clear hs a; intro a hs
            refine hTake 6 hs rfl (by kernel_rfl) (Wnt.none rfl) rfl rfl (by intro w hm; replace hm : Mm _ _ _ w := hm; (first | exact r_iz hs tab rfl rfl (by omega) | exact r_iy hs tab rfl rfl (by omega))) (hm.sub sub_) ?_; clear hs a; intro a hs
            refine hTake 8 hs rfl (by kernel_rfl) (Wnt.none rfl) rfl rfl (by intro w hm; replace hm : Mm _ _ _ w := hm; exact r_val hs tab rfl) (hm.sub sub_) ?_; clear hs a; intro a hs
            refine hEach [7, 9] (by kernel_rfl) (eDo hs rfl (Wnt.none rfl) rfl rfl (RunV.does kv_) ?_ (eDo hs rfl (Wnt.none rfl) rfl rfl (by exact d_buildSlice hs rfl tab rfl rfl rfl rfl rfl rfl rfl rfl rfl hm) ?_ eNil))
            · skip
              clear hs a
              rintro _ _ ⟨rfl, rfl⟩ a hs
              refine ⟨hm.sub sub_, ?_⟩
              refine hEach [9] (by kernel_rfl) (eDo hs rfl (Wnt.none rfl) rfl rfl (by exact d_buildSlice hs rfl tab rfl rfl rfl rfl rfl rfl rfl rfl rfl hm) ?_ eNil)
              clear hs hm a
              rintro _ w29 ⟨g71, rfl, -, hm⟩ a hs
              refine ⟨hm.sub sub_, ?_⟩
              refine hEach [10] (by kernel_rfl) (eDo hs rfl (Wnt.none rfl) rfl rfl (d_append (A := r.A) (n := r.xs.length) (c := r.c) (news := [.int .i64 t]) hs rfl rfl rfl rfl rfl tab rfl rfl rfl rfl rfl hm (by repeat (first | exact hrm | apply mT)) hro rfl (hm.ro (n := 1) mem_ (cutF_ok rfl)) rfl (by show (r.xs.length + 1) * 8 ≤ _; omega) (by omega)) ?_ eNil)
              clear hs
              rintro _ w1 ⟨rA, rc, rcs, rfl, hrr, hM⟩ a hs
              replace hm := hM _ (by repeat (first | exact hrep rA rc rcs | apply Rep.tail))
              clear hM
              refine ⟨hm.sub sub_, ?_⟩
              refine hTake 11 hs rfl (by kernel_rfl) (Wnt.none rfl) rfl rfl (by intro w hm; replace hm : Mm _ _ _ w := hm; (first | exact r_iz hs tab rfl rfl (by omega) | exact r_iy hs tab rfl rfl (by omega))) (hm.sub sub_) ?_; clear hs a; intro a hs
              refine hEach [12] (by kernel_rfl) (eDoN hs rfl (Wnt.none rfl) rfl ds_ ?_ eNil)
              clear hs hm
              rintro - w32 hm a hs
              refine ⟨hm.sub sub_, ?_⟩
              refine hDone (by kernel_rfl) ?_
              exact And.intro rfl ⟨rA, rc, rcs, hrr, hs.sub (Has.all ⟨rfl, rfl, trivial⟩), hm.sub (List.Sublist.cons _ (List.Sublist.cons_cons _ (List.Sublist.cons_cons _ (List.Sublist.cons_cons _ (List.Sublist.cons_cons _ (List.Sublist.cons _ (List.Sublist.refl _)))))))⟩
            · skip
              clear hs hm a
              rintro _ w29 ⟨g71, rfl, -, hm⟩ a hs
              refine ⟨hm.sub sub_, ?_⟩
              refine hEach [7] (by kernel_rfl) (eDo hs rfl (Wnt.none rfl) rfl rfl (RunV.does kv_) ?_ eNil)
              clear hs a
              rintro _ _ ⟨rfl, rfl⟩ a hs
              refine ⟨hm.sub sub_, ?_⟩
              refine hEach [10] (by kernel_rfl) (eDo hs rfl (Wnt.none rfl) rfl rfl (d_append (A := r.A) (n := r.xs.length) (c := r.c) (news := [.int .i64 t]) hs rfl rfl rfl rfl rfl tab rfl rfl rfl rfl rfl hm (by repeat (first | exact hrm | apply mT)) hro rfl (hm.ro (n := 1) mem_ (cutF_ok rfl)) rfl (by show (r.xs.length + 1) * 8 ≤ _; omega) (by omega)) ?_ eNil)
              clear hs
              rintro _ w1 ⟨rA, rc, rcs, rfl, hrr, hM⟩ a hs
              replace hm := hM _ (by repeat (first | exact hrep rA rc rcs | apply Rep.tail))
              clear hM
              refine ⟨hm.sub sub_, ?_⟩
              refine hTake 11 hs rfl (by kernel_rfl) (Wnt.none rfl) rfl rfl (by intro w hm; replace hm : Mm _ _ _ w := hm; (first | exact r_iz hs tab rfl rfl (by omega) | exact r_iy hs tab rfl rfl (by omega))) (hm.sub sub_) ?_; clear hs a; intro a hs
              refine hEach [12] (by kernel_rfl) (eDoN hs rfl (Wnt.none rfl) rfl ds_ ?_ eNil)
              clear hs hm
              rintro - w32 hm a hs
              refine ⟨hm.sub sub_, ?_⟩
              refine hDone (by kernel_rfl) ?_
              exact And.intro rfl ⟨rA, rc, rcs, hrr, hs.sub (Has.all ⟨rfl, rfl, trivial⟩), hm.sub (List.Sublist.cons _ (List.Sublist.cons_cons _ (List.Sublist.cons_cons _ (List.Sublist.cons_cons _ (List.Sublist.cons_cons _ (List.Sublist.cons _ (List.Sublist.refl _)))))))⟩
          clear hs hm a
          rintro a w' ⟨rA, rc, rcs, hrr, hs, hm⟩
          repeat (first | ((with_reducible refine toL hm ?_); (first | refine oneV hs gw_ rfl rfl (by intro w hm; exact kv_) ?_ | refine oneN hs rfl rfl rfl rfl rfl rfl rfl ?_ | refine oneU hs rfl rfl rfl rfl rfl rfl ?_); clear hs a; intro a hs) | ((with_reducible apply lCons); first | (refine dv hs gw_ rfl rfl da_ ?_; clear hs hm a; rintro _ w ⟨g, rfl, -, hm⟩ a hs) | (refine stn hs rfl rfl ds_ ?_; clear hs hm a; rintro - w hm a hs) ) | (with_reducible first | apply lNilThen | apply lNilBlock | apply lNil | apply wp_seq | apply wp_region_lit | apply wp_block | apply cExit | apply cRet | apply cSkip | apply gThen | apply gBlock | apply eThen | apply eBlockHit | refine eBlock rfl ?_ | apply rThen | apply rBlock) | ((with_reducible apply cCond); first | refine cTrue hs rfl bd_ ?_ | refine cFalse hs rfl bd_ ?_))
          refine gRetN tab hs rfl (.cons (.cells rfl rfl rfl rfl (hm.ro (k := 0) (n := 2) (g := g6) mem_ (cutF_ok rfl))) (.cons (.tmp rfl) .nil)) ⟨KO.ks ⟨⟨yoA, yoc, yocs, yos⟩, some gq, yqc, yqcs.set k (slv rA (r.xs.length + 1) rc), yrs.set k ⟨rA, rc, rcs, r.xs ++ [t]⟩⟩, ?_, KO.ks_ok hm ?_ ⟨ho, ?_, ?_⟩, KO.new_at hm ?_, ?_, hm.fr⟩
          · rw [KO.ks_v]
            unfold KO.v RW.v
            dsimp only
            rw [List.length_set]
            rfl
          · skip
            intro h hh
            rcases List.mem_cons.1 hh with rfl | hh
            · exact mem_
            · rcases List.mem_cons.1 hh with rfl | hh
              · exact mem_
              · repeat (first | exact hh | apply List.mem_cons_of_mem)
          · show Row (some gq) (yrs.set k _).length yqc 1 _ _
            rw [List.length_set, List.map_set, show RW.v ⟨rA, rc, rcs, r.xs ++ [t]⟩ = slv rA (r.xs.length + 1) rc by unfold RW.v; simp]
            exact hq.set _ _
          · intro z hz
            rcases List.mem_or_eq_of_mem_set hz with h | rfl
            · exact hrs z h
            · unfold RW.ok
              dsimp only
              rw [List.length_append, List.length_singleton, show ints (r.xs ++ [t]) = ints r.xs ++ [.int .i64 t] by simp [ints]]
              exact hrr
          · skip
            intro h hh
            rcases List.mem_cons.1 hh with rfl | hh
            · exact mem_
            · rcases List.mem_cons.1 hh with rfl | hh
              · exact mem_
              · repeat (first | exact hh | apply List.mem_cons_of_mem)
          · rw [KO.ks_ab]
            unfold KO.ab
            dsimp only
            rw [List.map_set, hyq, ← hyq, List.getD_eq_getElem?_getD, List.getElem?_map, hr2]
            rfl
    · rw [if_pos rfl]
      refine enterR Try.func24 rfl rfl rfl fun a hs hm => ?_
      repeat (first | ((with_reducible refine toL hm ?_); (first | refine oneV hs gw_ rfl rfl (by intro w hm; exact kv_) ?_ | refine oneN hs rfl rfl rfl rfl rfl rfl rfl ?_ | refine oneU hs rfl rfl rfl rfl rfl rfl ?_); clear hs a; intro a hs) | ((with_reducible apply lCons); first | (refine dv hs gw_ rfl rfl da_ ?_; clear hs hm a; rintro _ w ⟨g, rfl, -, hm⟩ a hs) | (refine stn hs rfl rfl ds_ ?_; clear hs hm a; rintro - w hm a hs) ) | (with_reducible first | apply lNilThen | apply lNilBlock | apply lNil | apply wp_seq | apply wp_region_lit | apply wp_block | apply cExit | apply cRet | apply cSkip | apply gThen | apply gBlock | apply eThen | apply eBlockHit | refine eBlock rfl ?_ | apply rThen | apply rBlock) | ((with_reducible apply cCond); first | refine cTrue hs rfl bd_ ?_ | refine cFalse hs rfl bd_ ?_))
      obtain ⟨g3, en_⟩ := hs.pt 3 (by exact rfl); subst en_
      obtain ⟨g6, en_⟩ := hs.pt 6 (by exact rfl); subst en_
      refine st hs rfl rfl rfl (d_call hs rfl rfl rfl (pl 33 rfl) ((hcp _ hm.fr))) ?_; clear hs a; rintro _ w1 ⟨y, rfl, hy, hyab, hyl, hN, hf⟩ a hs
      have hm6 := cp_gain hm hf hN
      clear hm hf hN
      have hm := hm6
      clear hm6
      unfold KO.v RW.v at hs
      repeat (first | ((with_reducible refine toL hm ?_); (first | refine oneV hs gw_ rfl rfl (by intro w hm; exact kv_) ?_ | refine oneN hs rfl rfl rfl rfl rfl rfl rfl ?_ | refine oneU hs rfl rfl rfl rfl rfl rfl ?_); clear hs a; intro a hs) | ((with_reducible apply lCons); first | (refine dv hs gw_ rfl rfl da_ ?_; clear hs hm a; rintro _ w ⟨g, rfl, -, hm⟩ a hs) | (refine stn hs rfl rfl ds_ ?_; clear hs hm a; rintro - w hm a hs) ) | (with_reducible first | apply lNilThen | apply lNilBlock | apply lNil | apply wp_seq | apply wp_region_lit | apply wp_block | apply cExit | apply cRet | apply cSkip | apply gThen | apply gBlock | apply eThen | apply eBlockHit | refine eBlock rfl ?_ | apply rThen | apply rBlock) | ((with_reducible apply cCond); first | refine cTrue hs rfl bd_ ?_ | refine cFalse hs rfl bd_ ?_))
      obtain ⟨g8, en_⟩ := hs.pt 8 (by exact rfl); subst en_
      obtain ⟨M, hM, hm⟩ := hm.gen
      refine cLoop (X := Nat) (fun i a w' => Sl Try.f24.ntmps [(1, .int .i64 (k : Int)), (2, .int .i64 t), (3, .pointer (some ⟨g3, 0, none⟩)), (6, .pointer (some ⟨g6, 0, none⟩)), (8, .pointer (some ⟨g8, 0, none⟩)), (32, .slice qA qs.length qc), (33, .int .i64 (qs.length : Int)), (34, .int .i64 (i : Int))] a ∧ Mm (fun _ => False) wB M w' ∧ i ≤ qs.length ∧ ∀ j (hj : j < qs.length), j < i → (qs[j].xs.any (t == ·)) = false) (fun i => qs.length - i) 0 ⟨hs.sub (Has.all ⟨rfl, rfl, rfl, rfl, rfl, rfl, rfl, rfl, trivial⟩), hm, Nat.zero_le _, fun j _ hj => by omega⟩ ?_
      clear hs hm a
      rintro i a w' ⟨hs, hm, hi, hno⟩
      by_cases hi4 : i < qs.length
      · obtain ⟨b2, o2, hA, hb2, r2⟩ := hx.q.ro (by rw [List.length_map]; show 0 < qs.length; omega)
        obtain ⟨q, hq⟩ : ∃ q, q = qs[i] := ⟨_, rfl⟩
        have hqm : q ∈ qs := by rw [hq]; exact List.getElem_mem hi4
        have hcell2 : (qs.map IS.v)[i]? = some (.slice q.A q.n q.c) := by rw [List.getElem?_map, List.getElem?_eq_getElem hi4, hq]; rfl
        have hqo := hx.qs q hqm
        have hqn := hsm.qs q hqm
        have hqx := hqo.1
        dsimp only at hA r2
        rw [hA] at hs
        repeat (first | ((with_reducible refine toL hm ?_); (first | refine oneV hs gw_ rfl rfl (by intro w hm; exact kv_) ?_ | refine oneN hs rfl rfl rfl rfl rfl rfl rfl ?_ | refine oneU hs rfl rfl rfl rfl rfl rfl ?_); clear hs a; intro a hs) | ((with_reducible apply lCons); first | (refine dv hs gw_ rfl rfl da_ ?_; clear hs hm a; rintro _ w ⟨g, rfl, -, hm⟩ a hs) | (refine stn hs rfl rfl ds_ ?_; clear hs hm a; rintro - w hm a hs) ) | (with_reducible first | apply lNilThen | apply lNilBlock | apply lNil | apply wp_seq | apply wp_region_lit | apply wp_block | apply cExit | apply cRet | apply cSkip | apply gThen | apply gBlock | apply eThen | apply eBlockHit | refine eBlock rfl ?_ | apply rThen | apply rBlock) | ((with_reducible apply cCond); first | refine cTrue hs rfl bd_ ?_ | refine cFalse hs rfl bd_ ?_))
        rw [← hA] at hs
        refine cLoop (X := Nat) (fun j a w' => Sl Try.f24.ntmps [(1, .int .i64 (k : Int)), (2, .int .i64 t), (3, .pointer (some ⟨g3, 0, none⟩)), (6, .pointer (some ⟨g6, 0, none⟩)), (8, .pointer (some ⟨g8, 0, none⟩)), (32, .slice qA qs.length qc), (33, .int .i64 (qs.length : Int)), (34, .int .i64 (i : Int)), (38, .slice q.A q.n q.c), (39, .int .i64 (q.n : Int)), (40, .int .i64 (j : Int))] a ∧ Mm (fun _ => False) wB M w' ∧ j ≤ q.n ∧ ∀ l (hl : l < q.xs.length), l < j → (t == q.xs[l]) = false) (fun j => q.n - j) 0 ⟨hs.sub (Has.all ⟨rfl, rfl, rfl, rfl, rfl, rfl, rfl, rfl, rfl, rfl, rfl, trivial⟩), hm, Nat.zero_le _, fun l _ hl => by omega⟩ ?_
        clear hs hm a hA r2
        rintro j a w' ⟨hs, hm, hj, hno2⟩
        by_cases hjn : j < q.n
        · obtain ⟨b3, o3, hA3, hb3, r3⟩ := hqo.2.ro (by rw [ints_len]; omega)
          have e3 := ints_some (xs := q.xs) (k := j) (by omega)
          obtain ⟨z, hz0⟩ : ∃ z, q.xs[j] = z := ⟨_, rfl⟩
          have hzm : z ∈ q.xs := by rw [← hz0]; exact List.getElem_mem _
          rw [hz0] at e3
          rw [hA3] at hs
          by_cases hz : z = t
          · subst hM
            repeat (first | ((with_reducible refine toL hm ?_); (first | refine oneV hs gw_ rfl rfl (by intro w hm; exact kv_) ?_ | refine oneN hs rfl rfl rfl rfl rfl rfl rfl ?_ | refine oneU hs rfl rfl rfl rfl rfl rfl ?_); clear hs a; intro a hs) | ((with_reducible apply lCons); first | (refine dv hs gw_ rfl rfl da_ ?_; clear hs hm a; rintro _ w ⟨g, rfl, -, hm⟩ a hs) | (refine stn hs rfl rfl ds_ ?_; clear hs hm a; rintro - w hm a hs) ) | (with_reducible first | apply lNilThen | apply lNilBlock | apply lNil | apply wp_seq | apply wp_region_lit | apply wp_block | apply cExit | apply cRet | apply cSkip | apply gThen | apply gBlock | apply eThen | apply eBlockHit | refine eBlock rfl ?_ | apply rThen | apply rBlock) | ((with_reducible apply cCond); first | refine cTrue hs rfl bd_ ?_ | refine cFalse hs rfl bd_ ?_))
            refine gRetN tab hs rfl (.cons (.cells rfl rfl rfl rfl (hm.ro (k := 0) (n := 2) (g := g6) mem_ (cutF_ok rfl))) (.cons (.tmp rfl) .nil)) ⟨y.ks, by rw [KO.ks_v]; rfl, KO.ks_ok hm ?_ hy, KO.new_at hm ?_, by rw [KO.ks_ab, hyab], hm.fr⟩
            · skip
              intro h hh
              rcases List.mem_cons.1 hh with rfl | hh
              · exact mem_
              · rcases List.mem_cons.1 hh with rfl | hh
                · exact mem_
                · repeat (first | exact hh | apply List.mem_cons_of_mem)
            · skip
              intro h hh
              rcases List.mem_cons.1 hh with rfl | hh
              · exact mem_
              · rcases List.mem_cons.1 hh with rfl | hh
                · exact mem_
                · repeat (first | exact hh | apply List.mem_cons_of_mem)
          · repeat (first | ((with_reducible refine toL hm ?_); (first | refine oneV hs gw_ rfl rfl (by intro w hm; exact kv_) ?_ | refine oneN hs rfl rfl rfl rfl rfl rfl rfl ?_ | refine oneU hs rfl rfl rfl rfl rfl rfl ?_); clear hs a; intro a hs) | ((with_reducible apply lCons); first | (refine dv hs gw_ rfl rfl da_ ?_; clear hs hm a; rintro _ w ⟨g, rfl, -, hm⟩ a hs) | (refine stn hs rfl rfl ds_ ?_; clear hs hm a; rintro - w hm a hs) ) | (with_reducible first | apply lNilThen | apply lNilBlock | apply lNil | apply wp_seq | apply wp_region_lit | apply wp_block | apply cExit | apply cRet | apply cSkip | apply gThen | apply gBlock | apply eThen | apply eBlockHit | refine eBlock rfl ?_ | apply rThen | apply rBlock) | ((with_reducible apply cCond); first | refine cTrue hs rfl bd_ ?_ | refine cFalse hs rfl bd_ ?_))
            rw [← hA3] at hs
            refine ⟨j + 1, by omega, hs.sub (Has.all ⟨rfl, rfl, rfl, rfl, rfl, rfl, rfl, rfl, rfl, rfl, rfl, trivial⟩), hm, by omega, fun l hl hlj => ?_⟩
            by_cases e : l = j
            · subst e; rw [hz0]; simpa using fun h => hz h.symm
            · exact hno2 l hl (by omega)
        · have hqf : q.xs.any (t == ·) = false := any_take _ _ fun l hl => hno2 l hl (by omega)
          repeat (first | ((with_reducible refine toL hm ?_); (first | refine oneV hs gw_ rfl rfl (by intro w hm; exact kv_) ?_ | refine oneN hs rfl rfl rfl rfl rfl rfl rfl ?_ | refine oneU hs rfl rfl rfl rfl rfl rfl ?_); clear hs a; intro a hs) | ((with_reducible apply lCons); first | (refine dv hs gw_ rfl rfl da_ ?_; clear hs hm a; rintro _ w ⟨g, rfl, -, hm⟩ a hs) | (refine stn hs rfl rfl ds_ ?_; clear hs hm a; rintro - w hm a hs) ) | (with_reducible first | apply lNilThen | apply lNilBlock | apply lNil | apply wp_seq | apply wp_region_lit | apply wp_block | apply cExit | apply cRet | apply cSkip | apply gThen | apply gBlock | apply eThen | apply eBlockHit | refine eBlock rfl ?_ | apply rThen | apply rBlock) | ((with_reducible apply cCond); first | refine cTrue hs rfl bd_ ?_ | refine cFalse hs rfl bd_ ?_))
          refine ⟨i + 1, by omega, hs.sub (Has.all ⟨rfl, rfl, rfl, rfl, rfl, rfl, rfl, rfl, trivial⟩), hm, by omega, fun l hl hlj => ?_⟩
          by_cases e : l = i
          · subst e; rw [← hq]; exact hqf
          · exact hno l hl (by omega)
      · subst hM
        exfalso
        have hf : Ab.wt ⟨os, qs.map IS.xs⟩ t = false := by
          unfold Ab.wt
          rw [List.any_map]
          exact any_take _ _ fun j hj => hno j hj (by omega)
        rw [hf] at hb
        cases hb
end Go.Proofs.Ytfcmejcmijjnpaa
