/- Classes: the walk. -/
import Derived.Test.YtoojckkmalfimaaCmp6
namespace Go.Proofs.Ytoojckkmalfimaa
open Go.RowKit

/-- what Classes gives, if all is well -/
def ClsR (y : AS) (s : TS) (w : World) (v : Value) (w' : World) : Prop := ∃ r : CS, v = .tuple #[r.v, .int .i64 0] ∧ r.ok w' ∧ r.n ≤ 5 ∧ r.l.map Cl.abs = clsTo (y.l.map An.abs) s.xs y.n ∧ Pu w w'



set_option maxHeartbeats 4000000 in
theorem classes_c (y : AS) (s : TS) (w : World) (hy : y.ok w) (hs' : s.ok w) (hn : y.n ≤ 5) (hns : s.n = y.n) :
    Ret Try.prog 18 [y.v, s.v] w (ClsR y s w) := by
  obtain ⟨A0, n, c0, ys⟩ := y
  obtain ⟨B0, m, d0, ss⟩ := s
  obtain ⟨y1, y2, y3⟩ := hy
  obtain ⟨s1, s2⟩ := hs'
  unfold AS.v TS.v
  dsimp only at *
  subst hns
  refine enterR Try.func18 rfl rfl rfl fun a hs hm => ?_
  repeat (first
    | ((with_reducible refine toL hm ?_); (first
        | refine oneV hs (by first | exact Wnt.none rfl | exact Wnt.some rfl rfl rfl rfl) rfl rfl (by intro w hm; (first | exact r_val hs tab rfl | exact r_load hs rfl rfl tab rfl rfl (by first | exact hm.cl (by repeat (first | exact mH | apply mT)) (by first | rfl | assumption) | exact Ro.cl (by assumption) hm (by first | exact (fun t => t) | assumption) (by first | rfl | assumption) | exact Ro.cl0 (by assumption) hm (by first | exact (fun t => t) | assumption) (by first | rfl | assumption)) | exact r_loadO hs rfl rfl tab rfl rfl rfl hm (by repeat (first | exact mH | apply mT)) (by rfl) | exact r_loadA hs rfl rfl tab rfl rfl (Ro.ro (by assumption) hm (by first | exact (fun t => t) | assumption)) rfl | exact r_iz hs tab rfl rfl (by omega) | exact r_iy hs tab rfl rfl (by omega) | exact r_cT hs rfl (by omega) | exact r_cF hs rfl (by omega) | exact r_arH hs rfl (by assumption) (by omega) | exact r_ar hs rfl (by omega) | exact r_bi hs rfl | exact r_pick hs rfl rfl rfl rfl)) ?_
        | refine oneN hs rfl rfl rfl rfl rfl rfl rfl ?_
        | refine oneU hs rfl rfl rfl rfl rfl rfl ?_); clear hs a; intro a hs)
    | ((with_reducible apply lCons); (first
        | (refine dv hs (by first | exact Wnt.none rfl | exact Wnt.some rfl rfl rfl rfl) rfl rfl (by first | exact d_alloc rfl tab rfl rfl hm | exact d_box hs rfl rfl rfl hm | exact d_buildSlice0 rfl tab rfl rfl rfl hm | exact d_buildSlice hs rfl tab rfl rfl rfl rfl rfl rfl rfl rfl rfl hm) ?_; clear hs hm a; rintro _ w ⟨g, rfl, -, hm⟩ a hs)
        | (refine stn hs rfl rfl (by first | exact d_store hs rfl rfl rfl tab rfl rfl rfl rfl hm (by repeat (first | exact Rep.head _ _ _ | apply Rep.tail)) (by rfl) | exact d_store1 hs rfl rfl rfl tab rfl rfl rfl rfl hm (by repeat (first | exact Rep.head _ _ _ | apply Rep.tail)) (by first | omega | assumption | (simp; omega))) ?_; clear hs hm a; rintro - w hm a hs)
        ))
    | (with_reducible first | apply lNilThen | apply lNilBlock | apply lNil | apply wp_seq | apply wp_region_lit | apply wp_block | apply cExit | apply cRet | apply cSkip | apply gThen | apply gBlock | apply eThen | apply eBlockHit | refine eBlock rfl ?_ | apply rThen | apply rBlock)
    | ((with_reducible apply cCond); (first | refine cTrue hs rfl (by first | rfl | assumption | exact decide_eq_true (by omega) | exact decide_eq_false (by omega) | exact ndT (by omega) | exact ndF (by omega)) ?_ | refine cFalse hs rfl (by first | rfl | assumption | exact decide_eq_true (by omega) | exact decide_eq_false (by omega) | exact ndT (by omega) | exact ndF (by omega)) ?_))
    )
  refine cLoop (X := Nat × Option Nat × Nat × List Value × List OC) (fun x a w' => Sl Try.f18.ntmps [(0, .slice A0 m c0), (1, .slice B0 m d0), (6, slv x.2.1 x.2.2.2.2.length x.2.2.1), (19, .slice A0 m c0), (20, .int .i64 (m : Int)), (21, .int .i64 (x.1 : Int))] a ∧ Mm (fun _ => False) w (⟨x.2.1, 49, x.2.2.2.1⟩ :: hps x.2.2.2.2) w' ∧ CI ⟨A0, m, c0, ys⟩ ⟨B0, m, d0, ss⟩ x.1 x.2.1 x.2.2.1 x.2.2.2.1 x.2.2.2.2) (fun x => m - x.1) (0, none, 0, [], []) ⟨hs.sub (Has.all ⟨rfl, rfl, rfl, rfl, rfl, rfl, trivial⟩), ?_, ⟨Nat.zero_le _, Row.empty 3, fun x hx => (by cases hx), rfl⟩⟩ ?_
  · exact hm.gain (Fr.refl _ w) (R := [⟨none, 49, []⟩]) ⟨fun x hx => (by rcases List.mem_singleton.1 hx with rfl; rfl), ⟨fun x hx => (by cases hx), trivial⟩, fun x hx g hg => (by rcases List.mem_singleton.1 hx with rfl; cases hg)⟩
  clear hs hm a
  rintro ⟨i, A, c, cs, l⟩ a w' ⟨hs, hm, hI⟩
  have hle := hI.le
  obtain ⟨hi, hr, ho, ha⟩ := hI
  dsimp only at *
  by_cases hlt : i < m
  · obtain ⟨b1, o1, rfl, hb1, r1⟩ := y2.ro (by rw [flat_len An.cs 2 An.len]; omega)
    obtain ⟨b2, o2, rfl, hb2, r2⟩ := s2.ro (by rw [bools_len]; omega)
    have hi' : i < ys.length := by omega
    have e1 := r1.flat An.len hi'
    have e2 := bools_some (xs := ss) (k := i) (by omega)
    have hel := y3 ys[i] (List.getElem_mem hi')
    have hst : clsTo (ys.map An.abs) ss (i + 1) = if ss[i]'(by omega) then addC (clsTo (ys.map An.abs) ss i) (ys[i]).abs i else clsTo (ys.map An.abs) ss i := by
      simp only [clsTo]
      rw [show ss.getD i false = ss[i]'(by omega) by simp [List.getD, show i < ss.length by omega], show (ys.map An.abs).getD i (false, []) = (ys[i]).abs by simp [List.getD, hi']]
    generalize ys[i]'(_) = q at *
    generalize ss[i]'(_) = z at *
    unfold An.cs at e1
    cases z with
    | false =>
      repeat (first
        | ((with_reducible refine toL hm ?_); (first
            | refine oneV hs (by first | exact Wnt.none rfl | exact Wnt.some rfl rfl rfl rfl) rfl rfl (by intro w hm; (first | exact r_val hs tab rfl | exact r_load hs rfl rfl tab rfl rfl (by first | exact hm.cl (by repeat (first | exact mH | apply mT)) (by first | rfl | assumption) | exact Ro.cl (by assumption) hm (by first | exact (fun t => t) | assumption) (by first | rfl | assumption) | exact Ro.cl0 (by assumption) hm (by first | exact (fun t => t) | assumption) (by first | rfl | assumption)) | exact r_loadO hs rfl rfl tab rfl rfl rfl hm (by repeat (first | exact mH | apply mT)) (by rfl) | exact r_loadA hs rfl rfl tab rfl rfl (Ro.ro (by assumption) hm (by first | exact (fun t => t) | assumption)) rfl | exact r_iz hs tab rfl rfl (by omega) | exact r_iy hs tab rfl rfl (by omega) | exact r_cT hs rfl (by omega) | exact r_cF hs rfl (by omega) | exact r_arH hs rfl (by assumption) (by omega) | exact r_ar hs rfl (by omega) | exact r_bi hs rfl | exact r_pick hs rfl rfl rfl rfl)) ?_
            | refine oneN hs rfl rfl rfl rfl rfl rfl rfl ?_
            | refine oneU hs rfl rfl rfl rfl rfl rfl ?_); clear hs a; intro a hs)
        | ((with_reducible apply lCons); (first
            | (refine dv hs (by first | exact Wnt.none rfl | exact Wnt.some rfl rfl rfl rfl) rfl rfl (by first | exact d_alloc rfl tab rfl rfl hm | exact d_box hs rfl rfl rfl hm | exact d_buildSlice0 rfl tab rfl rfl rfl hm | exact d_buildSlice hs rfl tab rfl rfl rfl rfl rfl rfl rfl rfl rfl hm) ?_; clear hs hm a; rintro _ w ⟨g, rfl, -, hm⟩ a hs)
            | (refine stn hs rfl rfl (by first | exact d_store hs rfl rfl rfl tab rfl rfl rfl rfl hm (by repeat (first | exact Rep.head _ _ _ | apply Rep.tail)) (by rfl) | exact d_store1 hs rfl rfl rfl tab rfl rfl rfl rfl hm (by repeat (first | exact Rep.head _ _ _ | apply Rep.tail)) (by first | omega | assumption | (simp; omega))) ?_; clear hs hm a; rintro - w hm a hs)
            ))
        | (with_reducible first | apply lNilThen | apply lNilBlock | apply lNil | apply wp_seq | apply wp_region_lit | apply wp_block | apply cExit | apply cRet | apply cSkip | apply gThen | apply gBlock | apply eThen | apply eBlockHit | refine eBlock rfl ?_ | apply rThen | apply rBlock)
        | ((with_reducible apply cCond); (first | refine cTrue hs rfl (by first | rfl | assumption | exact decide_eq_true (by omega) | exact decide_eq_false (by omega) | exact ndT (by omega) | exact ndF (by omega)) ?_ | refine cFalse hs rfl (by first | rfl | assumption | exact decide_eq_true (by omega) | exact decide_eq_false (by omega) | exact ndT (by omega) | exact ndF (by omega)) ?_))
        )
      simp only [Bool.false_eq_true, if_false] at hst
      exact ⟨(i + 1, A, c, cs, l), by dsimp only; omega, hs.sub (Has.all ⟨rfl, rfl, rfl, rfl, rfl, rfl, trivial⟩), hm.sub (List.Sublist.cons _ (List.Sublist.refl _)), ⟨by dsimp only; omega, hr, ho, ha.trans hst.symm⟩⟩
    | true =>
      simp only [if_true] at hst
      repeat (first
        | ((with_reducible refine toL hm ?_); (first
            | refine oneV hs (by first | exact Wnt.none rfl | exact Wnt.some rfl rfl rfl rfl) rfl rfl (by intro w hm; (first | exact r_val hs tab rfl | exact r_load hs rfl rfl tab rfl rfl (by first | exact hm.cl (by repeat (first | exact mH | apply mT)) (by first | rfl | assumption) | exact Ro.cl (by assumption) hm (by first | exact (fun t => t) | assumption) (by first | rfl | assumption) | exact Ro.cl0 (by assumption) hm (by first | exact (fun t => t) | assumption) (by first | rfl | assumption)) | exact r_loadO hs rfl rfl tab rfl rfl rfl hm (by repeat (first | exact mH | apply mT)) (by rfl) | exact r_loadA hs rfl rfl tab rfl rfl (Ro.ro (by assumption) hm (by first | exact (fun t => t) | assumption)) rfl | exact r_iz hs tab rfl rfl (by omega) | exact r_iy hs tab rfl rfl (by omega) | exact r_cT hs rfl (by omega) | exact r_cF hs rfl (by omega) | exact r_arH hs rfl (by assumption) (by omega) | exact r_ar hs rfl (by omega) | exact r_bi hs rfl | exact r_pick hs rfl rfl rfl rfl)) ?_
            | refine oneN hs rfl rfl rfl rfl rfl rfl rfl ?_
            | refine oneU hs rfl rfl rfl rfl rfl rfl ?_); clear hs a; intro a hs)
        | ((with_reducible apply lCons); (first
            | (refine dv hs (by first | exact Wnt.none rfl | exact Wnt.some rfl rfl rfl rfl) rfl rfl (by first | exact d_alloc rfl tab rfl rfl hm | exact d_box hs rfl rfl rfl hm | exact d_buildSlice0 rfl tab rfl rfl rfl hm | exact d_buildSlice hs rfl tab rfl rfl rfl rfl rfl rfl rfl rfl rfl hm) ?_; clear hs hm a; rintro _ w ⟨g, rfl, -, hm⟩ a hs)
            | (refine stn hs rfl rfl (by first | exact d_store hs rfl rfl rfl tab rfl rfl rfl rfl hm (by repeat (first | exact Rep.head _ _ _ | apply Rep.tail)) (by rfl) | exact d_store1 hs rfl rfl rfl tab rfl rfl rfl rfl hm (by repeat (first | exact Rep.head _ _ _ | apply Rep.tail)) (by first | omega | assumption | (simp; omega))) ?_; clear hs hm a; rintro - w hm a hs)
            ))
        | (with_reducible first | apply lNilThen | apply lNilBlock | apply lNil | apply wp_seq | apply wp_region_lit | apply wp_block | apply cExit | apply cRet | apply cSkip | apply gThen | apply gBlock | apply eThen | apply eBlockHit | refine eBlock rfl ?_ | apply rThen | apply rBlock)
        | ((with_reducible apply cCond); (first | refine cTrue hs rfl (by first | rfl | assumption | exact decide_eq_true (by omega) | exact decide_eq_false (by omega) | exact ndT (by omega) | exact ndF (by omega)) ?_ | refine cFalse hs rfl (by first | rfl | assumption | exact decide_eq_true (by omega) | exact decide_eq_false (by omega) | exact ndT (by omega) | exact ndF (by omega)) ?_))
        )
      obtain ⟨k, hk⟩ : ∃ k, fnd q (l.map OC.cl) = k := ⟨_, rfl⟩
      have hpl := place_c ⟨gA A, l.length, c, l.map OC.cl⟩ q g _ (oc_ok hm (List.Mem.tail _ (List.Mem.head _)) (fun x hx => List.Mem.tail _ (List.Mem.tail _ hx)) hr ho) (hel.1.pu hm.fr) (by dsimp only; omega) (hm.ro (n := 2) (List.Mem.head _) (cutF_ok rfl))
      rw [hk] at hpl
      refine st hs rfl rfl rfl (d_call hs rfl rfl rfl (pl 26 rfl) (hpl)) ?_; clear hs a; rintro _ w1 ⟨rfl, hf⟩ a hs
      replace hm := hm.pu hf
      clear hf hpl
      rw [fnd_abs] at hk
      have hms0 : ∀ x ∈ l, x.ms.length ≤ 1048576 := fun x hx => by
        have h1 := clsTo_ms (ys.map An.abs) ss i x.abs (by rw [← ha]; exact List.mem_map.2 ⟨x, hx, rfl⟩)
        simp only [OC.abs] at h1
        omega
      by_cases hkl : k < l.length
      · replace hm := hm.sub (List.Sublist.cons _ (List.Sublist.refl _))
        -- one class more member: out[k].Members = append(out[k].Members, i)
        obtain ⟨gO, rfl⟩ := hr.some_ (by omega)
        obtain ⟨x, hx⟩ : ∃ x, l[k]? = some x := ⟨_, List.getElem?_eq_getElem hkl⟩
        have hxm := (ho x (List.mem_of_getElem? hx)).m
        have h57 : cs[k * 3 + 2]? = some (.slice (gA x.mA) x.ms.length x.mc) := hr.get (by
          rw [flat_get Cl.cs 3 Cl.len (l.map OC.cl) k 2 (by simpa using hkl) (by omega)]
          have : (l.map OC.cl)[k]'(by simpa using hkl) = x.cl := by
            have h := List.getElem?_eq_getElem hkl
            rw [hx] at h
            simp only [List.getElem_map, ← Option.some.inj h]
          rw [this]; rfl)
        have hcl : k * 3 + 2 < cs.length := by rw [hr.len]; have := hr.le; omega
        have hms : x.ms.length ≤ 1048576 := hms0 x (List.mem_of_getElem? hx)
        repeat (first
          | ((with_reducible refine toL hm ?_); (first
              | refine oneV hs (by first | exact Wnt.none rfl | exact Wnt.some rfl rfl rfl rfl) rfl rfl (by intro w hm; (first | exact r_val hs tab rfl | exact r_load hs rfl rfl tab rfl rfl (by first | exact hm.cl (by repeat (first | exact mH | apply mT)) (by first | rfl | assumption) | exact Ro.cl (by assumption) hm (by first | exact (fun t => t) | assumption) (by first | rfl | assumption) | exact Ro.cl0 (by assumption) hm (by first | exact (fun t => t) | assumption) (by first | rfl | assumption)) | exact r_loadO hs rfl rfl tab rfl rfl rfl hm (by repeat (first | exact mH | apply mT)) (by rfl) | exact r_loadA hs rfl rfl tab rfl rfl (Ro.ro (by assumption) hm (by first | exact (fun t => t) | assumption)) rfl | exact r_iz hs tab rfl rfl (by omega) | exact r_iy hs tab rfl rfl (by omega) | exact r_cT hs rfl (by omega) | exact r_cF hs rfl (by omega) | exact r_arH hs rfl (by assumption) (by omega) | exact r_ar hs rfl (by omega) | exact r_bi hs rfl | exact r_pick hs rfl rfl rfl rfl)) ?_
              | refine oneN hs rfl rfl rfl rfl rfl rfl rfl ?_
              | refine oneU hs rfl rfl rfl rfl rfl rfl ?_); clear hs a; intro a hs)
          | ((with_reducible apply lCons); (first
              | (refine dv hs (by first | exact Wnt.none rfl | exact Wnt.some rfl rfl rfl rfl) rfl rfl (by first | exact d_alloc rfl tab rfl rfl hm | exact d_box hs rfl rfl rfl hm | exact d_buildSlice0 rfl tab rfl rfl rfl hm | exact d_buildSlice hs rfl tab rfl rfl rfl rfl rfl rfl rfl rfl rfl hm) ?_; clear hs hm a; rintro _ w ⟨g, rfl, -, hm⟩ a hs)
              | (refine stn hs rfl rfl (by first | exact d_store hs rfl rfl rfl tab rfl rfl rfl rfl hm (by repeat (first | exact Rep.head _ _ _ | apply Rep.tail)) (by rfl) | exact d_store1 hs rfl rfl rfl tab rfl rfl rfl rfl hm (by repeat (first | exact Rep.head _ _ _ | apply Rep.tail)) (by first | omega | assumption | (simp; omega))) ?_; clear hs hm a; rintro - w hm a hs)
              ))
          | (with_reducible first | apply lNilThen | apply lNilBlock | apply lNil | apply wp_seq | apply wp_region_lit | apply wp_block | apply cExit | apply cRet | apply cSkip | apply gThen | apply gBlock | apply eThen | apply eBlockHit | refine eBlock rfl ?_ | apply rThen | apply rBlock)
          | ((with_reducible apply cCond); (first | refine cTrue hs rfl (by first | rfl | assumption | exact decide_eq_true (by omega) | exact decide_eq_false (by omega) | exact ndT (by omega) | exact ndF (by omega)) ?_ | refine cFalse hs rfl (by first | rfl | assumption | exact decide_eq_true (by omega) | exact decide_eq_false (by omega) | exact ndT (by omega) | exact ndF (by omega)) ?_))
          )
        refine dv hs (Wnt.none rfl) rfl rfl (d_append (A := x.mA) (n := x.ms.length) (c := x.mc) (news := [.int .i64 (i : Int)]) hs rfl rfl rfl rfl rfl tab rfl rfl rfl rfl rfl hm (List.Mem.tail _ (List.Mem.tail _ (ocmem hx))) hxm rfl (hm.ro (n := 1) (List.Mem.head _) (cutF_ok rfl)) rfl (by show (x.ms.length + 1) * 8 ≤ _; omega) (by omega)) ?_
        clear hs
        rintro _ w1 ⟨mA, mc, mcs, rfl, hrm, hM⟩ a hs
        replace hm := hM _ (Rep.tail _ (Rep.tail _ (ocrep (y := { x with ms := x.ms ++ [(i : Int)], mA := mA, mc := mc, mcs := mcs }) hx rfl)))
        clear hM
        have hmore := CI.more hr ho hx hrm
        repeat (first
          | ((with_reducible refine toL hm ?_); (first
              | refine oneV hs (by first | exact Wnt.none rfl | exact Wnt.some rfl rfl rfl rfl) rfl rfl (by intro w hm; (first | exact r_val hs tab rfl | exact r_load hs rfl rfl tab rfl rfl (by first | exact hm.cl (by repeat (first | exact mH | apply mT)) (by first | rfl | assumption) | exact Ro.cl (by assumption) hm (by first | exact (fun t => t) | assumption) (by first | rfl | assumption) | exact Ro.cl0 (by assumption) hm (by first | exact (fun t => t) | assumption) (by first | rfl | assumption)) | exact r_loadO hs rfl rfl tab rfl rfl rfl hm (by repeat (first | exact mH | apply mT)) (by rfl) | exact r_loadA hs rfl rfl tab rfl rfl (Ro.ro (by assumption) hm (by first | exact (fun t => t) | assumption)) rfl | exact r_iz hs tab rfl rfl (by omega) | exact r_iy hs tab rfl rfl (by omega) | exact r_cT hs rfl (by omega) | exact r_cF hs rfl (by omega) | exact r_arH hs rfl (by assumption) (by omega) | exact r_ar hs rfl (by omega) | exact r_bi hs rfl | exact r_pick hs rfl rfl rfl rfl)) ?_
              | refine oneN hs rfl rfl rfl rfl rfl rfl rfl ?_
              | refine oneU hs rfl rfl rfl rfl rfl rfl ?_); clear hs a; intro a hs)
          | ((with_reducible apply lCons); (first
              | (refine dv hs (by first | exact Wnt.none rfl | exact Wnt.some rfl rfl rfl rfl) rfl rfl (by first | exact d_alloc rfl tab rfl rfl hm | exact d_box hs rfl rfl rfl hm | exact d_buildSlice0 rfl tab rfl rfl rfl hm | exact d_buildSlice hs rfl tab rfl rfl rfl rfl rfl rfl rfl rfl rfl hm) ?_; clear hs hm a; rintro _ w ⟨g, rfl, -, hm⟩ a hs)
              | (refine stn hs rfl rfl (by first | exact d_store hs rfl rfl rfl tab rfl rfl rfl rfl hm (by repeat (first | exact Rep.head _ _ _ | apply Rep.tail)) (by rfl) | exact d_store1 hs rfl rfl rfl tab rfl rfl rfl rfl hm (by repeat (first | exact Rep.head _ _ _ | apply Rep.tail)) (by first | omega | assumption | (simp; omega))) ?_; clear hs hm a; rintro - w hm a hs)
              ))
          | (with_reducible first | apply lNilThen | apply lNilBlock | apply lNil | apply wp_seq | apply wp_region_lit | apply wp_block | apply cExit | apply cRet | apply cSkip | apply gThen | apply gBlock | apply eThen | apply eBlockHit | refine eBlock rfl ?_ | apply rThen | apply rBlock)
          | ((with_reducible apply cCond); (first | refine cTrue hs rfl (by first | rfl | assumption | exact decide_eq_true (by omega) | exact decide_eq_false (by omega) | exact ndT (by omega) | exact ndF (by omega)) ?_ | refine cFalse hs rfl (by first | rfl | assumption | exact decide_eq_true (by omega) | exact decide_eq_false (by omega) | exact ndT (by omega) | exact ndF (by omega)) ?_))
          )
        refine ⟨(i + 1, some gO, c, _, l.set k { x with ms := x.ms ++ [(i : Int)], mA := mA, mc := mc, mcs := mcs }), by dsimp only; omega, hs.sub (Has.all ⟨rfl, rfl, by dsimp only; rw [List.length_set]; rfl, rfl, rfl, rfl, trivial⟩), hm.sub (List.Sublist.cons _ (List.Sublist.refl _)), ⟨by dsimp only; omega, hmore.1, hmore.2.1, ?_⟩⟩
        dsimp only
        rw [hmore.2.2, hst, ← ha, addC_old hk (x := x.abs) (by rw [List.getElem?_map, hx]; rfl)]
        rfl
      · have hke : k = l.length := by
          have : (l.map OC.abs).findIdx (sameC q.abs) ≤ (l.map OC.abs).length := List.findIdx_le_length
          rw [hk, List.length_map] at this
          omega
        rw [hke] at hk
        have hst2 := addC_new (i := (i : Int)) (l := l.map OC.abs) (y := q.abs) (by rw [hk, List.length_map]; omega)
        rw [ha] at hst2
        rw [hst2, ← ha] at hst
        clear hst2 hk
        subst hke
        obtain ⟨qh, qb⟩ := q
        dsimp only at *
        cases qh with
        | true =>
          repeat (first
            | ((with_reducible refine toL hm ?_); (first
                | refine oneV hs (by first | exact Wnt.none rfl | exact Wnt.some rfl rfl rfl rfl) rfl rfl (by intro w hm; (first | exact r_val hs tab rfl | exact r_load hs rfl rfl tab rfl rfl (by first | exact hm.cl (by repeat (first | exact mH | apply mT)) (by first | rfl | assumption) | exact Ro.cl (by assumption) hm (by first | exact (fun t => t) | assumption) (by first | rfl | assumption) | exact Ro.cl0 (by assumption) hm (by first | exact (fun t => t) | assumption) (by first | rfl | assumption)) | exact r_loadO hs rfl rfl tab rfl rfl rfl hm (by repeat (first | exact mH | apply mT)) (by rfl) | exact r_loadA hs rfl rfl tab rfl rfl (Ro.ro (by assumption) hm (by first | exact (fun t => t) | assumption)) rfl | exact r_iz hs tab rfl rfl (by omega) | exact r_iy hs tab rfl rfl (by omega) | exact r_cT hs rfl (by omega) | exact r_cF hs rfl (by omega) | exact r_arH hs rfl (by assumption) (by omega) | exact r_ar hs rfl (by omega) | exact r_bi hs rfl | exact r_pick hs rfl rfl rfl rfl)) ?_
                | refine oneN hs rfl rfl rfl rfl rfl rfl rfl ?_
                | refine oneU hs rfl rfl rfl rfl rfl rfl ?_); clear hs a; intro a hs)
            | ((with_reducible apply lCons); (first
                | (refine dv hs (by first | exact Wnt.none rfl | exact Wnt.some rfl rfl rfl rfl) rfl rfl (by first | exact d_alloc rfl tab rfl rfl hm | exact d_box hs rfl rfl rfl hm | exact d_buildSlice0 rfl tab rfl rfl rfl hm | exact d_buildSlice hs rfl tab rfl rfl rfl rfl rfl rfl rfl rfl rfl hm) ?_; clear hs hm a; rintro _ w ⟨g, rfl, -, hm⟩ a hs)
                | (refine stn hs rfl rfl (by first | exact d_store hs rfl rfl rfl tab rfl rfl rfl rfl hm (by repeat (first | exact Rep.head _ _ _ | apply Rep.tail)) (by rfl) | exact d_store1 hs rfl rfl rfl tab rfl rfl rfl rfl hm (by repeat (first | exact Rep.head _ _ _ | apply Rep.tail)) (by first | omega | assumption | (simp; omega))) ?_; clear hs hm a; rintro - w hm a hs)
                ))
            | (with_reducible first | apply lNilThen | apply lNilBlock | apply lNil | apply wp_seq | apply wp_region_lit | apply wp_block | apply cExit | apply cRet | apply cSkip | apply gThen | apply gBlock | apply eThen | apply eBlockHit | refine eBlock rfl ?_ | apply rThen | apply rBlock)
            | ((with_reducible apply cCond); (first | refine cTrue hs rfl (by first | rfl | assumption | exact decide_eq_true (by omega) | exact decide_eq_false (by omega) | exact ndT (by omega) | exact ndF (by omega)) ?_ | refine cFalse hs rfl (by first | rfl | assumption | exact decide_eq_true (by omega) | exact decide_eq_false (by omega) | exact ndT (by omega) | exact ndF (by omega)) ?_))
            )
          refine st hs rfl rfl rfl (d_call hs rfl rfl rfl (pl 29 rfl) (bclone_c qb _ (hel.1.pu hm.fr) hel.2)) ?_; clear hs a; rintro _ w3 ⟨bA, bc, bcs, rfl, hbr, hnew, hf⟩ a hs
          replace hm := hm.gain hf hnew
          clear hnew hf
          dsimp only [List.singleton_append] at hm
          rw [← hel.1.1] at hbr hs
          repeat (first
            | ((with_reducible refine toL hm ?_); (first
                | refine oneV hs (by first | exact Wnt.none rfl | exact Wnt.some rfl rfl rfl rfl) rfl rfl (by intro w hm; (first | exact r_val hs tab rfl | exact r_load hs rfl rfl tab rfl rfl (by first | exact hm.cl (by repeat (first | exact mH | apply mT)) (by first | rfl | assumption) | exact Ro.cl (by assumption) hm (by first | exact (fun t => t) | assumption) (by first | rfl | assumption) | exact Ro.cl0 (by assumption) hm (by first | exact (fun t => t) | assumption) (by first | rfl | assumption)) | exact r_loadO hs rfl rfl tab rfl rfl rfl hm (by repeat (first | exact mH | apply mT)) (by rfl) | exact r_loadA hs rfl rfl tab rfl rfl (Ro.ro (by assumption) hm (by first | exact (fun t => t) | assumption)) rfl | exact r_iz hs tab rfl rfl (by omega) | exact r_iy hs tab rfl rfl (by omega) | exact r_cT hs rfl (by omega) | exact r_cF hs rfl (by omega) | exact r_arH hs rfl (by assumption) (by omega) | exact r_ar hs rfl (by omega) | exact r_bi hs rfl | exact r_pick hs rfl rfl rfl rfl)) ?_
                | refine oneN hs rfl rfl rfl rfl rfl rfl rfl ?_
                | refine oneU hs rfl rfl rfl rfl rfl rfl ?_); clear hs a; intro a hs)
            | ((with_reducible apply lCons); (first
                | (refine dv hs (by first | exact Wnt.none rfl | exact Wnt.some rfl rfl rfl rfl) rfl rfl (by first | exact d_alloc rfl tab rfl rfl hm | exact d_box hs rfl rfl rfl hm | exact d_buildSlice0 rfl tab rfl rfl rfl hm | exact d_buildSlice hs rfl tab rfl rfl rfl rfl rfl rfl rfl rfl rfl hm) ?_; clear hs hm a; rintro _ w ⟨g, rfl, -, hm⟩ a hs)
                | (refine stn hs rfl rfl (by first | exact d_store hs rfl rfl rfl tab rfl rfl rfl rfl hm (by repeat (first | exact Rep.head _ _ _ | apply Rep.tail)) (by rfl) | exact d_store1 hs rfl rfl rfl tab rfl rfl rfl rfl hm (by repeat (first | exact Rep.head _ _ _ | apply Rep.tail)) (by first | omega | assumption | (simp; omega))) ?_; clear hs hm a; rintro - w hm a hs)
                ))
            | (with_reducible first | apply lNilThen | apply lNilBlock | apply lNil | apply wp_seq | apply wp_region_lit | apply wp_block | apply cExit | apply cRet | apply cSkip | apply gThen | apply gBlock | apply eThen | apply eBlockHit | refine eBlock rfl ?_ | apply rThen | apply rBlock)
            | ((with_reducible apply cCond); (first | refine cTrue hs rfl (by first | rfl | assumption | exact decide_eq_true (by omega) | exact decide_eq_false (by omega) | exact ndT (by omega) | exact ndF (by omega)) ?_ | refine cFalse hs rfl (by first | rfl | assumption | exact decide_eq_true (by omega) | exact decide_eq_false (by omega) | exact ndT (by omega) | exact ndF (by omega)) ?_))
            )
          -- a new class: out = append(out, c)
          refine dv hs (Wnt.none rfl) rfl rfl (d_append (A := A) (n := l.length) (c := c) (news := [.bool true, .slice (gA bA) qb.xs.length bc, .slice none 0 0]) hs rfl rfl rfl rfl rfl tab rfl rfl rfl rfl rfl hm (List.Mem.tail _ (List.Mem.tail _ (List.Mem.tail _ (List.Mem.tail _ (List.Mem.head _))))) hr rfl (hm.ro (n := 3) (List.Mem.head _) (cutF_ok rfl)) rfl (by show (l.length + 1) * 56 ≤ _; omega) (by omega)) ?_
          clear hs
          rintro _ w2 ⟨A', c', cs', rfl, hr2, hM⟩ a hs
          replace hm := hM _ (Rep.tail _ (Rep.tail _ (Rep.tail _ (Rep.tail _ (Rep.head _ _ _)))))
          clear hM
          replace hm := hm.sub (M' := ⟨bA, 5, bcs⟩ :: ⟨A', 49, cs'⟩ :: hps l) (.cons _ (.cons_cons _ (.cons _ (.cons _ (.refl _)))))
          obtain ⟨nw, hnw⟩ : ∃ nw, nw = OC.mk true qb.xs bA bc bcs [] none 0 [] := ⟨_, rfl⟩
          replace hm := (hm.zero 3).perm (M' := ⟨A', 49, cs'⟩ :: hps (l ++ [nw])) (by
            subst hnw
            refine (List.Perm.cons _ (hps_snoc l _)).trans ?_
            exact (List.perm_append_comm (l₁ := [⟨A', 49, cs'⟩]) (l₂ := [OC.mh _, OC.bh _])).append_right (hps l))
          have hr' : Row A' (l ++ [nw]).length c' 3 (((l ++ [nw]).map OC.cl).flatMap Cl.cs) cs' := by
            subst hnw
            rw [List.length_append, List.map_append, List.flatMap_append]
            have e : (List.map OC.cl [OC.mk true qb.xs bA bc bcs [] none 0 []]).flatMap Cl.cs = [.bool true, .slice (gA bA) qb.xs.length bc, .slice none 0 0] := by
              rfl
            rw [e]; exact hr2
          have ho' : ∀ x ∈ l ++ [nw], x.ok := fun x hx => by
            rcases List.mem_append.1 hx with h | h
            · exact ho x h
            · rcases List.mem_singleton.1 h with rfl
              subst hnw
              exact ⟨hbr, Row.empty 1, hel.1.2.2⟩
          have hms' : ∀ x ∈ l ++ [nw], x.ms.length ≤ 1048576 := fun x hx => by
            rcases List.mem_append.1 hx with h | h
            · exact hms0 x h
            · rcases List.mem_singleton.1 h with rfl
              subst hnw; exact Nat.zero_le _
          have hlen : (l ++ [nw]).length = l.length + 1 := by simp
          have hat : (l ++ [nw])[l.length]? = some nw := by simp
          have hab : ∀ v, ((l ++ [nw]).map OC.abs).set l.length v = l.map OC.abs ++ [v] := fun v => by simp
          clear hr hr2 ho hms0
          have hr := hr'
          have ho := ho'
          have hms0 := hms'
          clear hr' ho' hms'
          generalize l ++ [nw] = l' at *
          obtain ⟨k, hk⟩ : ∃ k, k = l.length := ⟨_, rfl⟩
          rw [← hk] at hs hkl hat hab hlen
          have hkl : k < l'.length := by omega
          -- one class more member: out[k].Members = append(out[k].Members, i)
          obtain ⟨gO, rfl⟩ := hr.some_ (by omega)
          obtain ⟨x, hx⟩ : ∃ x, l'[k]? = some x := ⟨_, List.getElem?_eq_getElem hkl⟩
          have hxm := (ho x (List.mem_of_getElem? hx)).m
          have h57 : cs'[k * 3 + 2]? = some (.slice (gA x.mA) x.ms.length x.mc) := hr.get (by
            rw [flat_get Cl.cs 3 Cl.len (l'.map OC.cl) k 2 (by simpa using hkl) (by omega)]
            have : (l'.map OC.cl)[k]'(by simpa using hkl) = x.cl := by
              have h := List.getElem?_eq_getElem hkl
              rw [hx] at h
              simp only [List.getElem_map, ← Option.some.inj h]
            rw [this]; rfl)
          have hcl : k * 3 + 2 < cs'.length := by rw [hr.len]; have := hr.le; omega
          have hms : x.ms.length ≤ 1048576 := hms0 x (List.mem_of_getElem? hx)
          repeat (first
            | ((with_reducible refine toL hm ?_); (first
                | refine oneV hs (by first | exact Wnt.none rfl | exact Wnt.some rfl rfl rfl rfl) rfl rfl (by intro w hm; (first | exact r_val hs tab rfl | exact r_load hs rfl rfl tab rfl rfl (by first | exact hm.cl (by repeat (first | exact mH | apply mT)) (by first | rfl | assumption) | exact Ro.cl (by assumption) hm (by first | exact (fun t => t) | assumption) (by first | rfl | assumption) | exact Ro.cl0 (by assumption) hm (by first | exact (fun t => t) | assumption) (by first | rfl | assumption)) | exact r_loadO hs rfl rfl tab rfl rfl rfl hm (by repeat (first | exact mH | apply mT)) (by rfl) | exact r_loadA hs rfl rfl tab rfl rfl (Ro.ro (by assumption) hm (by first | exact (fun t => t) | assumption)) rfl | exact r_iz hs tab rfl rfl (by omega) | exact r_iy hs tab rfl rfl (by omega) | exact r_cT hs rfl (by omega) | exact r_cF hs rfl (by omega) | exact r_arH hs rfl (by assumption) (by omega) | exact r_ar hs rfl (by omega) | exact r_bi hs rfl | exact r_pick hs rfl rfl rfl rfl)) ?_
                | refine oneN hs rfl rfl rfl rfl rfl rfl rfl ?_
                | refine oneU hs rfl rfl rfl rfl rfl rfl ?_); clear hs a; intro a hs)
            | ((with_reducible apply lCons); (first
                | (refine dv hs (by first | exact Wnt.none rfl | exact Wnt.some rfl rfl rfl rfl) rfl rfl (by first | exact d_alloc rfl tab rfl rfl hm | exact d_box hs rfl rfl rfl hm | exact d_buildSlice0 rfl tab rfl rfl rfl hm | exact d_buildSlice hs rfl tab rfl rfl rfl rfl rfl rfl rfl rfl rfl hm) ?_; clear hs hm a; rintro _ w ⟨g, rfl, -, hm⟩ a hs)
                | (refine stn hs rfl rfl (by first | exact d_store hs rfl rfl rfl tab rfl rfl rfl rfl hm (by repeat (first | exact Rep.head _ _ _ | apply Rep.tail)) (by rfl) | exact d_store1 hs rfl rfl rfl tab rfl rfl rfl rfl hm (by repeat (first | exact Rep.head _ _ _ | apply Rep.tail)) (by first | omega | assumption | (simp; omega))) ?_; clear hs hm a; rintro - w hm a hs)
                ))
            | (with_reducible first | apply lNilThen | apply lNilBlock | apply lNil | apply wp_seq | apply wp_region_lit | apply wp_block | apply cExit | apply cRet | apply cSkip | apply gThen | apply gBlock | apply eThen | apply eBlockHit | refine eBlock rfl ?_ | apply rThen | apply rBlock)
            | ((with_reducible apply cCond); (first | refine cTrue hs rfl (by first | rfl | assumption | exact decide_eq_true (by omega) | exact decide_eq_false (by omega) | exact ndT (by omega) | exact ndF (by omega)) ?_ | refine cFalse hs rfl (by first | rfl | assumption | exact decide_eq_true (by omega) | exact decide_eq_false (by omega) | exact ndT (by omega) | exact ndF (by omega)) ?_))
            )
          refine dv hs (Wnt.none rfl) rfl rfl (d_append (A := x.mA) (n := x.ms.length) (c := x.mc) (news := [.int .i64 (i : Int)]) hs rfl rfl rfl rfl rfl tab rfl rfl rfl rfl rfl hm (List.Mem.tail _ (List.Mem.tail _ (ocmem hx))) hxm rfl (hm.ro (n := 1) (List.Mem.head _) (cutF_ok rfl)) rfl (by show (x.ms.length + 1) * 8 ≤ _; omega) (by omega)) ?_
          clear hs
          rintro _ w1 ⟨mA, mc, mcs, rfl, hrm, hM⟩ a hs
          replace hm := hM _ (Rep.tail _ (Rep.tail _ (ocrep (y := { x with ms := x.ms ++ [(i : Int)], mA := mA, mc := mc, mcs := mcs }) hx rfl)))
          clear hM
          have hmore := CI.more hr ho hx hrm
          repeat (first
            | ((with_reducible refine toL hm ?_); (first
                | refine oneV hs (by first | exact Wnt.none rfl | exact Wnt.some rfl rfl rfl rfl) rfl rfl (by intro w hm; (first | exact r_val hs tab rfl | exact r_load hs rfl rfl tab rfl rfl (by first | exact hm.cl (by repeat (first | exact mH | apply mT)) (by first | rfl | assumption) | exact Ro.cl (by assumption) hm (by first | exact (fun t => t) | assumption) (by first | rfl | assumption) | exact Ro.cl0 (by assumption) hm (by first | exact (fun t => t) | assumption) (by first | rfl | assumption)) | exact r_loadO hs rfl rfl tab rfl rfl rfl hm (by repeat (first | exact mH | apply mT)) (by rfl) | exact r_loadA hs rfl rfl tab rfl rfl (Ro.ro (by assumption) hm (by first | exact (fun t => t) | assumption)) rfl | exact r_iz hs tab rfl rfl (by omega) | exact r_iy hs tab rfl rfl (by omega) | exact r_cT hs rfl (by omega) | exact r_cF hs rfl (by omega) | exact r_arH hs rfl (by assumption) (by omega) | exact r_ar hs rfl (by omega) | exact r_bi hs rfl | exact r_pick hs rfl rfl rfl rfl)) ?_
                | refine oneN hs rfl rfl rfl rfl rfl rfl rfl ?_
                | refine oneU hs rfl rfl rfl rfl rfl rfl ?_); clear hs a; intro a hs)
            | ((with_reducible apply lCons); (first
                | (refine dv hs (by first | exact Wnt.none rfl | exact Wnt.some rfl rfl rfl rfl) rfl rfl (by first | exact d_alloc rfl tab rfl rfl hm | exact d_box hs rfl rfl rfl hm | exact d_buildSlice0 rfl tab rfl rfl rfl hm | exact d_buildSlice hs rfl tab rfl rfl rfl rfl rfl rfl rfl rfl rfl hm) ?_; clear hs hm a; rintro _ w ⟨g, rfl, -, hm⟩ a hs)
                | (refine stn hs rfl rfl (by first | exact d_store hs rfl rfl rfl tab rfl rfl rfl rfl hm (by repeat (first | exact Rep.head _ _ _ | apply Rep.tail)) (by rfl) | exact d_store1 hs rfl rfl rfl tab rfl rfl rfl rfl hm (by repeat (first | exact Rep.head _ _ _ | apply Rep.tail)) (by first | omega | assumption | (simp; omega))) ?_; clear hs hm a; rintro - w hm a hs)
                ))
            | (with_reducible first | apply lNilThen | apply lNilBlock | apply lNil | apply wp_seq | apply wp_region_lit | apply wp_block | apply cExit | apply cRet | apply cSkip | apply gThen | apply gBlock | apply eThen | apply eBlockHit | refine eBlock rfl ?_ | apply rThen | apply rBlock)
            | ((with_reducible apply cCond); (first | refine cTrue hs rfl (by first | rfl | assumption | exact decide_eq_true (by omega) | exact decide_eq_false (by omega) | exact ndT (by omega) | exact ndF (by omega)) ?_ | refine cFalse hs rfl (by first | rfl | assumption | exact decide_eq_true (by omega) | exact decide_eq_false (by omega) | exact ndT (by omega) | exact ndF (by omega)) ?_))
            )
          refine ⟨(i + 1, some gO, c', _, l'.set k { x with ms := x.ms ++ [(i : Int)], mA := mA, mc := mc, mcs := mcs }), by dsimp only; omega, hs.sub (Has.all ⟨rfl, rfl, by dsimp only; rw [List.length_set, hlen]; rfl, rfl, rfl, rfl, trivial⟩), hm.sub (List.Sublist.cons _ (List.Sublist.refl _)), ⟨by dsimp only; omega, hmore.1, hmore.2.1, ?_⟩⟩
          dsimp only
          have hxe : x = nw := Option.some.inj (hx.symm.trans hat)
          rw [hmore.2.2, hab, hst, hxe, hnw]
          rfl
        | false =>
          replace hm := hm.zero 5
          repeat (first
            | ((with_reducible refine toL hm ?_); (first
                | refine oneV hs (by first | exact Wnt.none rfl | exact Wnt.some rfl rfl rfl rfl) rfl rfl (by intro w hm; (first | exact r_val hs tab rfl | exact r_load hs rfl rfl tab rfl rfl (by first | exact hm.cl (by repeat (first | exact mH | apply mT)) (by first | rfl | assumption) | exact Ro.cl (by assumption) hm (by first | exact (fun t => t) | assumption) (by first | rfl | assumption) | exact Ro.cl0 (by assumption) hm (by first | exact (fun t => t) | assumption) (by first | rfl | assumption)) | exact r_loadO hs rfl rfl tab rfl rfl rfl hm (by repeat (first | exact mH | apply mT)) (by rfl) | exact r_loadA hs rfl rfl tab rfl rfl (Ro.ro (by assumption) hm (by first | exact (fun t => t) | assumption)) rfl | exact r_iz hs tab rfl rfl (by omega) | exact r_iy hs tab rfl rfl (by omega) | exact r_cT hs rfl (by omega) | exact r_cF hs rfl (by omega) | exact r_arH hs rfl (by assumption) (by omega) | exact r_ar hs rfl (by omega) | exact r_bi hs rfl | exact r_pick hs rfl rfl rfl rfl)) ?_
                | refine oneN hs rfl rfl rfl rfl rfl rfl rfl ?_
                | refine oneU hs rfl rfl rfl rfl rfl rfl ?_); clear hs a; intro a hs)
            | ((with_reducible apply lCons); (first
                | (refine dv hs (by first | exact Wnt.none rfl | exact Wnt.some rfl rfl rfl rfl) rfl rfl (by first | exact d_alloc rfl tab rfl rfl hm | exact d_box hs rfl rfl rfl hm | exact d_buildSlice0 rfl tab rfl rfl rfl hm | exact d_buildSlice hs rfl tab rfl rfl rfl rfl rfl rfl rfl rfl rfl hm) ?_; clear hs hm a; rintro _ w ⟨g, rfl, -, hm⟩ a hs)
                | (refine stn hs rfl rfl (by first | exact d_store hs rfl rfl rfl tab rfl rfl rfl rfl hm (by repeat (first | exact Rep.head _ _ _ | apply Rep.tail)) (by rfl) | exact d_store1 hs rfl rfl rfl tab rfl rfl rfl rfl hm (by repeat (first | exact Rep.head _ _ _ | apply Rep.tail)) (by first | omega | assumption | (simp; omega))) ?_; clear hs hm a; rintro - w hm a hs)
                ))
            | (with_reducible first | apply lNilThen | apply lNilBlock | apply lNil | apply wp_seq | apply wp_region_lit | apply wp_block | apply cExit | apply cRet | apply cSkip | apply gThen | apply gBlock | apply eThen | apply eBlockHit | refine eBlock rfl ?_ | apply rThen | apply rBlock)
            | ((with_reducible apply cCond); (first | refine cTrue hs rfl (by first | rfl | assumption | exact decide_eq_true (by omega) | exact decide_eq_false (by omega) | exact ndT (by omega) | exact ndF (by omega)) ?_ | refine cFalse hs rfl (by first | rfl | assumption | exact decide_eq_true (by omega) | exact decide_eq_false (by omega) | exact ndT (by omega) | exact ndF (by omega)) ?_))
            )
          -- a new class: out = append(out, c)
          refine dv hs (Wnt.none rfl) rfl rfl (d_append (A := A) (n := l.length) (c := c) (news := [.bool false, .slice (gA (none : Option Nat)) 0 0, .slice none 0 0]) hs rfl rfl rfl rfl rfl tab rfl rfl rfl rfl rfl hm (List.Mem.tail _ (List.Mem.tail _ (List.Mem.tail _ (List.Mem.tail _ (List.Mem.head _))))) hr rfl (hm.ro (n := 3) (List.Mem.head _) (cutF_ok rfl)) rfl (by show (l.length + 1) * 56 ≤ _; omega) (by omega)) ?_
          clear hs
          rintro _ w2 ⟨A', c', cs', rfl, hr2, hM⟩ a hs
          replace hm := hM _ (Rep.tail _ (Rep.tail _ (Rep.tail _ (Rep.tail _ (Rep.head _ _ _)))))
          clear hM
          replace hm := hm.sub (M' := ⟨(none : Option Nat), 5, []⟩ :: ⟨A', 49, cs'⟩ :: hps l) (.cons _ (.cons _ (.cons_cons _ (.cons _ (.refl _)))))
          obtain ⟨nw, hnw⟩ : ∃ nw, nw = OC.mk false [] (none : Option Nat) 0 [] [] none 0 [] := ⟨_, rfl⟩
          replace hm := (hm.zero 3).perm (M' := ⟨A', 49, cs'⟩ :: hps (l ++ [nw])) (by
            subst hnw
            refine (List.Perm.cons _ (hps_snoc l _)).trans ?_
            exact (List.perm_append_comm (l₁ := [⟨A', 49, cs'⟩]) (l₂ := [OC.mh _, OC.bh _])).append_right (hps l))
          have hr' : Row A' (l ++ [nw]).length c' 3 (((l ++ [nw]).map OC.cl).flatMap Cl.cs) cs' := by
            subst hnw
            rw [List.length_append, List.map_append, List.flatMap_append]
            have e : (List.map OC.cl [OC.mk false [] (none : Option Nat) 0 [] [] none 0 []]).flatMap Cl.cs = [.bool false, .slice (gA (none : Option Nat)) 0 0, .slice none 0 0] := by
              rfl
            rw [e]; exact hr2
          have ho' : ∀ x ∈ l ++ [nw], x.ok := fun x hx => by
            rcases List.mem_append.1 hx with h | h
            · exact ho x h
            · rcases List.mem_singleton.1 h with rfl
              subst hnw
              exact ⟨Row.empty 1, Row.empty 1, (fun x hx => (by cases hx))⟩
          have hms' : ∀ x ∈ l ++ [nw], x.ms.length ≤ 1048576 := fun x hx => by
            rcases List.mem_append.1 hx with h | h
            · exact hms0 x h
            · rcases List.mem_singleton.1 h with rfl
              subst hnw; exact Nat.zero_le _
          have hlen : (l ++ [nw]).length = l.length + 1 := by simp
          have hat : (l ++ [nw])[l.length]? = some nw := by simp
          have hab : ∀ v, ((l ++ [nw]).map OC.abs).set l.length v = l.map OC.abs ++ [v] := fun v => by simp
          clear hr hr2 ho hms0
          have hr := hr'
          have ho := ho'
          have hms0 := hms'
          clear hr' ho' hms'
          generalize l ++ [nw] = l' at *
          obtain ⟨k, hk⟩ : ∃ k, k = l.length := ⟨_, rfl⟩
          rw [← hk] at hs hkl hat hab hlen
          have hkl : k < l'.length := by omega
          -- one class more member: out[k].Members = append(out[k].Members, i)
          obtain ⟨gO, rfl⟩ := hr.some_ (by omega)
          obtain ⟨x, hx⟩ : ∃ x, l'[k]? = some x := ⟨_, List.getElem?_eq_getElem hkl⟩
          have hxm := (ho x (List.mem_of_getElem? hx)).m
          have h57 : cs'[k * 3 + 2]? = some (.slice (gA x.mA) x.ms.length x.mc) := hr.get (by
            rw [flat_get Cl.cs 3 Cl.len (l'.map OC.cl) k 2 (by simpa using hkl) (by omega)]
            have : (l'.map OC.cl)[k]'(by simpa using hkl) = x.cl := by
              have h := List.getElem?_eq_getElem hkl
              rw [hx] at h
              simp only [List.getElem_map, ← Option.some.inj h]
            rw [this]; rfl)
          have hcl : k * 3 + 2 < cs'.length := by rw [hr.len]; have := hr.le; omega
          have hms : x.ms.length ≤ 1048576 := hms0 x (List.mem_of_getElem? hx)
          repeat (first
            | ((with_reducible refine toL hm ?_); (first
                | refine oneV hs (by first | exact Wnt.none rfl | exact Wnt.some rfl rfl rfl rfl) rfl rfl (by intro w hm; (first | exact r_val hs tab rfl | exact r_load hs rfl rfl tab rfl rfl (by first | exact hm.cl (by repeat (first | exact mH | apply mT)) (by first | rfl | assumption) | exact Ro.cl (by assumption) hm (by first | exact (fun t => t) | assumption) (by first | rfl | assumption) | exact Ro.cl0 (by assumption) hm (by first | exact (fun t => t) | assumption) (by first | rfl | assumption)) | exact r_loadO hs rfl rfl tab rfl rfl rfl hm (by repeat (first | exact mH | apply mT)) (by rfl) | exact r_loadA hs rfl rfl tab rfl rfl (Ro.ro (by assumption) hm (by first | exact (fun t => t) | assumption)) rfl | exact r_iz hs tab rfl rfl (by omega) | exact r_iy hs tab rfl rfl (by omega) | exact r_cT hs rfl (by omega) | exact r_cF hs rfl (by omega) | exact r_arH hs rfl (by assumption) (by omega) | exact r_ar hs rfl (by omega) | exact r_bi hs rfl | exact r_pick hs rfl rfl rfl rfl)) ?_
                | refine oneN hs rfl rfl rfl rfl rfl rfl rfl ?_
                | refine oneU hs rfl rfl rfl rfl rfl rfl ?_); clear hs a; intro a hs)
            | ((with_reducible apply lCons); (first
                | (refine dv hs (by first | exact Wnt.none rfl | exact Wnt.some rfl rfl rfl rfl) rfl rfl (by first | exact d_alloc rfl tab rfl rfl hm | exact d_box hs rfl rfl rfl hm | exact d_buildSlice0 rfl tab rfl rfl rfl hm | exact d_buildSlice hs rfl tab rfl rfl rfl rfl rfl rfl rfl rfl rfl hm) ?_; clear hs hm a; rintro _ w ⟨g, rfl, -, hm⟩ a hs)
                | (refine stn hs rfl rfl (by first | exact d_store hs rfl rfl rfl tab rfl rfl rfl rfl hm (by repeat (first | exact Rep.head _ _ _ | apply Rep.tail)) (by rfl) | exact d_store1 hs rfl rfl rfl tab rfl rfl rfl rfl hm (by repeat (first | exact Rep.head _ _ _ | apply Rep.tail)) (by first | omega | assumption | (simp; omega))) ?_; clear hs hm a; rintro - w hm a hs)
                ))
            | (with_reducible first | apply lNilThen | apply lNilBlock | apply lNil | apply wp_seq | apply wp_region_lit | apply wp_block | apply cExit | apply cRet | apply cSkip | apply gThen | apply gBlock | apply eThen | apply eBlockHit | refine eBlock rfl ?_ | apply rThen | apply rBlock)
            | ((with_reducible apply cCond); (first | refine cTrue hs rfl (by first | rfl | assumption | exact decide_eq_true (by omega) | exact decide_eq_false (by omega) | exact ndT (by omega) | exact ndF (by omega)) ?_ | refine cFalse hs rfl (by first | rfl | assumption | exact decide_eq_true (by omega) | exact decide_eq_false (by omega) | exact ndT (by omega) | exact ndF (by omega)) ?_))
            )
          refine dv hs (Wnt.none rfl) rfl rfl (d_append (A := x.mA) (n := x.ms.length) (c := x.mc) (news := [.int .i64 (i : Int)]) hs rfl rfl rfl rfl rfl tab rfl rfl rfl rfl rfl hm (List.Mem.tail _ (List.Mem.tail _ (ocmem hx))) hxm rfl (hm.ro (n := 1) (List.Mem.head _) (cutF_ok rfl)) rfl (by show (x.ms.length + 1) * 8 ≤ _; omega) (by omega)) ?_
          clear hs
          rintro _ w1 ⟨mA, mc, mcs, rfl, hrm, hM⟩ a hs
          replace hm := hM _ (Rep.tail _ (Rep.tail _ (ocrep (y := { x with ms := x.ms ++ [(i : Int)], mA := mA, mc := mc, mcs := mcs }) hx rfl)))
          clear hM
          have hmore := CI.more hr ho hx hrm
          repeat (first
            | ((with_reducible refine toL hm ?_); (first
                | refine oneV hs (by first | exact Wnt.none rfl | exact Wnt.some rfl rfl rfl rfl) rfl rfl (by intro w hm; (first | exact r_val hs tab rfl | exact r_load hs rfl rfl tab rfl rfl (by first | exact hm.cl (by repeat (first | exact mH | apply mT)) (by first | rfl | assumption) | exact Ro.cl (by assumption) hm (by first | exact (fun t => t) | assumption) (by first | rfl | assumption) | exact Ro.cl0 (by assumption) hm (by first | exact (fun t => t) | assumption) (by first | rfl | assumption)) | exact r_loadO hs rfl rfl tab rfl rfl rfl hm (by repeat (first | exact mH | apply mT)) (by rfl) | exact r_loadA hs rfl rfl tab rfl rfl (Ro.ro (by assumption) hm (by first | exact (fun t => t) | assumption)) rfl | exact r_iz hs tab rfl rfl (by omega) | exact r_iy hs tab rfl rfl (by omega) | exact r_cT hs rfl (by omega) | exact r_cF hs rfl (by omega) | exact r_arH hs rfl (by assumption) (by omega) | exact r_ar hs rfl (by omega) | exact r_bi hs rfl | exact r_pick hs rfl rfl rfl rfl)) ?_
                | refine oneN hs rfl rfl rfl rfl rfl rfl rfl ?_
                | refine oneU hs rfl rfl rfl rfl rfl rfl ?_); clear hs a; intro a hs)
            | ((with_reducible apply lCons); (first
                | (refine dv hs (by first | exact Wnt.none rfl | exact Wnt.some rfl rfl rfl rfl) rfl rfl (by first | exact d_alloc rfl tab rfl rfl hm | exact d_box hs rfl rfl rfl hm | exact d_buildSlice0 rfl tab rfl rfl rfl hm | exact d_buildSlice hs rfl tab rfl rfl rfl rfl rfl rfl rfl rfl rfl hm) ?_; clear hs hm a; rintro _ w ⟨g, rfl, -, hm⟩ a hs)
                | (refine stn hs rfl rfl (by first | exact d_store hs rfl rfl rfl tab rfl rfl rfl rfl hm (by repeat (first | exact Rep.head _ _ _ | apply Rep.tail)) (by rfl) | exact d_store1 hs rfl rfl rfl tab rfl rfl rfl rfl hm (by repeat (first | exact Rep.head _ _ _ | apply Rep.tail)) (by first | omega | assumption | (simp; omega))) ?_; clear hs hm a; rintro - w hm a hs)
                ))
            | (with_reducible first | apply lNilThen | apply lNilBlock | apply lNil | apply wp_seq | apply wp_region_lit | apply wp_block | apply cExit | apply cRet | apply cSkip | apply gThen | apply gBlock | apply eThen | apply eBlockHit | refine eBlock rfl ?_ | apply rThen | apply rBlock)
            | ((with_reducible apply cCond); (first | refine cTrue hs rfl (by first | rfl | assumption | exact decide_eq_true (by omega) | exact decide_eq_false (by omega) | exact ndT (by omega) | exact ndF (by omega)) ?_ | refine cFalse hs rfl (by first | rfl | assumption | exact decide_eq_true (by omega) | exact decide_eq_false (by omega) | exact ndT (by omega) | exact ndF (by omega)) ?_))
            )
          refine ⟨(i + 1, some gO, c', _, l'.set k { x with ms := x.ms ++ [(i : Int)], mA := mA, mc := mc, mcs := mcs }), by dsimp only; omega, hs.sub (Has.all ⟨rfl, rfl, by dsimp only; rw [List.length_set, hlen]; rfl, rfl, rfl, rfl, trivial⟩), hm.sub (List.Sublist.cons _ (List.Sublist.refl _)), ⟨by dsimp only; omega, hmore.1, hmore.2.1, ?_⟩⟩
          dsimp only
          have hxe : x = nw := Option.some.inj (hx.symm.trans hat)
          rw [hmore.2.2, hab, hst, hxe, hnw]
          rfl
  · obtain rfl : i = m := by omega
    repeat (first
      | ((with_reducible refine toL hm ?_); (first
          | refine oneV hs (by first | exact Wnt.none rfl | exact Wnt.some rfl rfl rfl rfl) rfl rfl (by intro w hm; (first | exact r_val hs tab rfl | exact r_load hs rfl rfl tab rfl rfl (by first | exact hm.cl (by repeat (first | exact mH | apply mT)) (by first | rfl | assumption) | exact Ro.cl (by assumption) hm (by first | exact (fun t => t) | assumption) (by first | rfl | assumption) | exact Ro.cl0 (by assumption) hm (by first | exact (fun t => t) | assumption) (by first | rfl | assumption)) | exact r_loadO hs rfl rfl tab rfl rfl rfl hm (by repeat (first | exact mH | apply mT)) (by rfl) | exact r_loadA hs rfl rfl tab rfl rfl (Ro.ro (by assumption) hm (by first | exact (fun t => t) | assumption)) rfl | exact r_iz hs tab rfl rfl (by omega) | exact r_iy hs tab rfl rfl (by omega) | exact r_cT hs rfl (by omega) | exact r_cF hs rfl (by omega) | exact r_arH hs rfl (by assumption) (by omega) | exact r_ar hs rfl (by omega) | exact r_bi hs rfl | exact r_pick hs rfl rfl rfl rfl)) ?_
          | refine oneN hs rfl rfl rfl rfl rfl rfl rfl ?_
          | refine oneU hs rfl rfl rfl rfl rfl rfl ?_); clear hs a; intro a hs)
      | ((with_reducible apply lCons); (first
          | (refine dv hs (by first | exact Wnt.none rfl | exact Wnt.some rfl rfl rfl rfl) rfl rfl (by first | exact d_alloc rfl tab rfl rfl hm | exact d_box hs rfl rfl rfl hm | exact d_buildSlice0 rfl tab rfl rfl rfl hm | exact d_buildSlice hs rfl tab rfl rfl rfl rfl rfl rfl rfl rfl rfl hm) ?_; clear hs hm a; rintro _ w ⟨g, rfl, -, hm⟩ a hs)
          | (refine stn hs rfl rfl (by first | exact d_store hs rfl rfl rfl tab rfl rfl rfl rfl hm (by repeat (first | exact Rep.head _ _ _ | apply Rep.tail)) (by rfl) | exact d_store1 hs rfl rfl rfl tab rfl rfl rfl rfl hm (by repeat (first | exact Rep.head _ _ _ | apply Rep.tail)) (by first | omega | assumption | (simp; omega))) ?_; clear hs hm a; rintro - w hm a hs)
          ))
      | (with_reducible first | apply lNilThen | apply lNilBlock | apply lNil | apply wp_seq | apply wp_region_lit | apply wp_block | apply cExit | apply cRet | apply cSkip | apply gThen | apply gBlock | apply eThen | apply eBlockHit | refine eBlock rfl ?_ | apply rThen | apply rBlock)
      | ((with_reducible apply cCond); (first | refine cTrue hs rfl (by first | rfl | assumption | exact decide_eq_true (by omega) | exact decide_eq_false (by omega) | exact ndT (by omega) | exact ndF (by omega)) ?_ | refine cFalse hs rfl (by first | rfl | assumption | exact decide_eq_true (by omega) | exact decide_eq_false (by omega) | exact ndT (by omega) | exact ndF (by omega)) ?_))
      )
    refine gRetN tab hs rfl (.cons (.tmp rfl) (.cons (.tmp rfl) .nil)) ⟨⟨gA A, l.length, c, l.map OC.cl⟩, rfl, oc_ok hm (List.Mem.head _) (fun x hx => List.Mem.tail _ hx) hr ho, by dsimp only; omega, ?_, hm.fr⟩
    dsimp only
    rw [← ha, List.map_map]; rfl
end Go.Proofs.Ytoojckkmalfimaa
