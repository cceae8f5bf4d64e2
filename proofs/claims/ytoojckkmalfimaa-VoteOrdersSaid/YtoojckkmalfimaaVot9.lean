/- The check of sanity of layer 31. -/
import Derived.Test.YtoojckkmalfimaaVot8
namespace Go.Proofs.Ytoojckkmalfimaa
open Go.RowKit

set_option maxHeartbeats 8000000 in
theorem vawake_c (w : World) : Ret Try.prog 8 [] w (fun v w' => v = .bool true ∧ Pu w w') := by
  refine enterR Try.func8 rfl rfl rfl fun a hs hm => ?_
  repeat (first
    | ((with_reducible refine toL hm ?_); (first
        | refine oneV hs (by first | exact Wnt.none rfl | exact Wnt.some rfl rfl rfl rfl) rfl rfl (by intro w hm; (first | exact r_val hs tab rfl | exact r_load hs rfl rfl tab rfl rfl (by first | exact hm.cl (by repeat (first | exact mH | apply mT)) (by first | rfl | assumption) | exact Ro.cl (by assumption) hm (by first | exact (fun t => t) | assumption) (by first | rfl | assumption) | exact Ro.cl0 (by assumption) hm (by first | exact (fun t => t) | assumption) (by first | rfl | assumption)) | exact r_loadO hs rfl rfl tab rfl rfl rfl hm (by repeat (first | exact mH | apply mT)) (by rfl) | exact r_loadA hs rfl rfl tab rfl rfl (Ro.ro (by assumption) hm (by first | exact (fun t => t) | assumption)) rfl | exact r_iz hs tab rfl rfl (by omega) | exact r_iy hs tab rfl rfl (by omega) | exact r_cT hs rfl (by omega) | exact r_cF hs rfl (by omega) | exact r_arH hs rfl (by assumption) (by omega) | exact r_ar hs rfl (by omega) | exact r_bi hs rfl | exact r_pick hs rfl rfl rfl rfl | exact r_b2s hs rfl rfl tab rfl rfl rfl rfl rfl rfl (by first | exact Fr.rd' hm.fr (by assumption) | exact Mm.rd_row hm (by repeat (first | exact mH | apply mT)) (by assumption)) (by assumption))) ?_
        | refine oneN hs rfl rfl rfl rfl rfl rfl rfl ?_
        | refine oneU hs rfl rfl rfl rfl rfl rfl ?_); clear hs a; intro a hs)
    | ((with_reducible apply lCons); (first
        | (refine dv hs (by first | exact Wnt.none rfl | exact Wnt.some rfl rfl rfl rfl) rfl rfl (by first | exact d_alloc rfl tab rfl rfl hm | exact d_box hs rfl rfl rfl hm | exact d_buildSlice0 rfl tab rfl rfl rfl hm | exact d_buildSlice hs rfl tab rfl rfl rfl rfl rfl rfl rfl rfl rfl hm) ?_; clear hs hm a; rintro _ w ⟨g, rfl, -, hm⟩ a hs)
        | (refine stn hs rfl rfl (by first | exact d_store hs rfl rfl rfl tab rfl rfl rfl rfl hm (by repeat (first | exact Rep.head _ _ _ | apply Rep.tail)) (by rfl) | exact d_store1 hs rfl rfl rfl tab rfl rfl rfl rfl hm (by repeat (first | exact Rep.head _ _ _ | apply Rep.tail)) (by first | omega | assumption | (simp; omega))) ?_; clear hs hm a; rintro - w hm a hs)
        ))
    | (with_reducible first | apply lNilThen | apply lNilBlock | apply lNil | apply wp_seq | apply wp_region_lit | apply wp_block | apply cExit | apply cRet | apply cSkip | apply gThen | apply gBlock | apply eThen | apply eBlockHit | refine eBlock rfl ?_ | apply rThen | apply rBlock)
    | ((with_reducible apply cCond); (first | refine cTrue hs rfl (by first | rfl | assumption | exact decide_eq_true (by omega) | exact decide_eq_false (by omega) | exact ndT (by omega) | exact ndF (by omega)) ?_ | refine cFalse hs rfl (by first | rfl | assumption | exact decide_eq_true (by omega) | exact decide_eq_false (by omega) | exact ndT (by omega) | exact ndF (by omega)) ?_))
    )
  rename_i w0 _ g1 _ g2 _ g3 _ g4 _ _ _ g5
  have hb1 : (BS.mk (some ⟨g1, 0, none⟩) 1 1 [1]).ok w := ⟨rfl, hm.rd (xs := bys [1]) (by repeat (first | exact List.Mem.head _ | apply List.Mem.tail)) (List.prefix_refl _), by intro x hx; rcases List.mem_singleton.1 hx with rfl; omega⟩
  have hb2 : (BS.mk (some ⟨g2, 0, none⟩) 1 1 [2]).ok w := ⟨rfl, hm.rd (xs := bys [2]) (by repeat (first | exact List.Mem.head _ | apply List.Mem.tail)) (List.prefix_refl _), by intro x hx; rcases List.mem_singleton.1 hx with rfl; omega⟩
  have hc := decide_c ⟨some ⟨g5, 0, none⟩, 3, 3, [⟨true, ⟨some ⟨g1, 0, none⟩, 1, 1, [1]⟩⟩, ⟨true, ⟨some ⟨g2, 0, none⟩, 1, 1, [2]⟩⟩, ⟨true, ⟨some ⟨g1, 0, none⟩, 1, 1, [1]⟩⟩]⟩ ⟨some ⟨g, 0, none⟩, 3, 3, [true, true, true]⟩ 2 w
    ⟨rfl, hm.rd (List.Mem.tail _ (List.Mem.head _)) (List.prefix_refl _), fun x hx => by
      simp only [List.mem_cons, List.not_mem_nil, or_false] at hx
      rcases hx with rfl | rfl | rfl
      · exact ⟨hb1, by show 1 ≤ _; omega⟩
      · exact ⟨hb2, by show 1 ≤ _; omega⟩
      · exact ⟨hb1, by show 1 ≤ _; omega⟩⟩
    ⟨rfl, hm.rd (xs := bools [true, true, true]) (List.Mem.head _) (List.prefix_refl _)⟩ (by show 3 ≤ 5; omega) rfl ⟨by omega, by omega⟩
  refine st hs rfl rfl rfl (d_call hs rfl rfl rfl (pl 9 rfl) (hc)) ?_; clear hs a; rintro _ w1 ⟨r, rfl, hro, hra, hf⟩ a hs
  replace hm := hm.pu hf
  have hF := hm.fr
  replace hb1 := hb1.pu hf
  replace hb2 := hb2.pu hf
  have h3 := hm.ro (n := 2) (g := g3) (by repeat (first | exact List.Mem.head _ | apply List.Mem.tail)) (cutF_ok (k := 0) rfl)
  have h4 := hm.ro (n := 2) (g := g4) (by repeat (first | exact List.Mem.head _ | apply List.Mem.tail)) (cutF_ok (k := 0) rfl)
  clear hf hc hm
  have hm := Mm.nil (fun _ => False) w1
  replace hra : r.abs = (2, [1], [1]) := hra.trans (show decideF (clsTo [(true, [1]), (true, [2]), (true, [1])] [true, true, true] 3) 3 [true, true, true] 2 = _ by decide)
  obtain ⟨rk, ⟨rA, rn, rc, rx⟩, ⟨rB, rm, rd, ry⟩⟩ := r
  simp only [VS.abs, Prod.mk.injEq] at hra
  obtain ⟨rfl, rfl, rfl⟩ := hra
  obtain ⟨ob, om, -⟩ := hro
  have hn1 : rn = 1 := ob.1.symm
  have hn2 : rm = 1 := om.1.symm
  subst hn1; subst hn2
  unfold VS.v BS.v IS.v at hs
  dsimp only at *
  repeat (first
    | ((with_reducible refine toL hm ?_); (first
        | refine oneV hs (by first | exact Wnt.none rfl | exact Wnt.some rfl rfl rfl rfl) rfl rfl (by intro w hm; (first | exact r_val hs tab rfl | exact r_load hs rfl rfl tab rfl rfl (by first | exact hm.cl (by repeat (first | exact mH | apply mT)) (by first | rfl | assumption) | exact Ro.cl (by assumption) hm (by first | exact (fun t => t) | assumption) (by first | rfl | assumption) | exact Ro.cl0 (by assumption) hm (by first | exact (fun t => t) | assumption) (by first | rfl | assumption)) | exact r_loadO hs rfl rfl tab rfl rfl rfl hm (by repeat (first | exact mH | apply mT)) (by rfl) | exact r_loadA hs rfl rfl tab rfl rfl (Ro.ro (by assumption) hm (by first | exact (fun t => t) | assumption)) rfl | exact r_iz hs tab rfl rfl (by omega) | exact r_iy hs tab rfl rfl (by omega) | exact r_cT hs rfl (by omega) | exact r_cF hs rfl (by omega) | exact r_arH hs rfl (by assumption) (by omega) | exact r_ar hs rfl (by omega) | exact r_bi hs rfl | exact r_pick hs rfl rfl rfl rfl | exact r_b2s hs rfl rfl tab rfl rfl rfl rfl rfl rfl (by first | exact Fr.rd' hm.fr (by assumption) | exact Mm.rd_row hm (by repeat (first | exact mH | apply mT)) (by assumption)) (by assumption))) ?_
        | refine oneN hs rfl rfl rfl rfl rfl rfl rfl ?_
        | refine oneU hs rfl rfl rfl rfl rfl rfl ?_); clear hs a; intro a hs)
    | ((with_reducible apply lCons); (first
        | (refine dv hs (by first | exact Wnt.none rfl | exact Wnt.some rfl rfl rfl rfl) rfl rfl (by first | exact d_alloc rfl tab rfl rfl hm | exact d_box hs rfl rfl rfl hm | exact d_buildSlice0 rfl tab rfl rfl rfl hm | exact d_buildSlice hs rfl tab rfl rfl rfl rfl rfl rfl rfl rfl rfl hm) ?_; clear hs hm a; rintro _ w ⟨g, rfl, -, hm⟩ a hs)
        | (refine stn hs rfl rfl (by first | exact d_store hs rfl rfl rfl tab rfl rfl rfl rfl hm (by repeat (first | exact Rep.head _ _ _ | apply Rep.tail)) (by rfl) | exact d_store1 hs rfl rfl rfl tab rfl rfl rfl rfl hm (by repeat (first | exact Rep.head _ _ _ | apply Rep.tail)) (by first | omega | assumption | (simp; omega))) ?_; clear hs hm a; rintro - w hm a hs)
        ))
    | (with_reducible first | apply lNilThen | apply lNilBlock | apply lNil | apply wp_seq | apply wp_region_lit | apply wp_block | apply cExit | apply cRet | apply cSkip | apply gThen | apply gBlock | apply eThen | apply eBlockHit | refine eBlock rfl ?_ | apply rThen | apply rBlock)
    | ((with_reducible apply cCond); (first | refine cTrue hs rfl (by first | rfl | assumption | exact decide_eq_true (by omega) | exact decide_eq_false (by omega) | exact ndT (by omega) | exact ndF (by omega)) ?_ | refine cFalse hs rfl (by first | rfl | assumption | exact decide_eq_true (by omega) | exact decide_eq_false (by omega) | exact ndT (by omega) | exact ndF (by omega)) ?_))
    )
  rename_i _ g6 _ _ g7
  have hc := decide_c ⟨some ⟨g7, 0, none⟩, 2, 2, [⟨true, ⟨some ⟨g1, 0, none⟩, 1, 1, [1]⟩⟩, ⟨true, ⟨some ⟨g2, 0, none⟩, 1, 1, [2]⟩⟩]⟩ ⟨some ⟨g, 0, none⟩, 2, 2, [true, true]⟩ 2 w
    ⟨rfl, hm.rd (List.Mem.tail _ (List.Mem.head _)) (List.prefix_refl _), fun x hx => by
      simp only [List.mem_cons, List.not_mem_nil, or_false] at hx
      rcases hx with rfl | rfl
      · exact ⟨hb1.pu hm.fr, by show 1 ≤ _; omega⟩
      · exact ⟨hb2.pu hm.fr, by show 1 ≤ _; omega⟩⟩
    ⟨rfl, hm.rd (xs := bools [true, true]) (List.Mem.head _) (List.prefix_refl _)⟩ (by show 2 ≤ 5; omega) rfl ⟨by omega, by omega⟩
  refine st hs rfl rfl rfl (d_call hs rfl rfl rfl (pl 9 rfl) (hc)) ?_; clear hs a; rintro _ w2 ⟨r2, rfl, hro2, hra2, hf2⟩ a hs
  replace hm := hm.pu hf2
  replace ob := ob.pu hm.fr
  replace om := om.pu hm.fr
  have h6 := hm.ro (n := 3) (g := g6) (by repeat (first | exact List.Mem.head _ | apply List.Mem.tail)) (cutF_ok (k := 0) rfl)
  replace hF := hF.pu hm.fr
  clear hf2 hc hm h3 h4 hb1 hb2
  have hm := Mm.nil (fun _ => False) w2
  replace hra2 : r2.abs = (3, [], []) := hra2.trans (show decideF (clsTo [(true, [1]), (true, [2])] [true, true] 2) 2 [true, true] 2 = _ by decide)
  obtain ⟨sk, ⟨sA, sn, sc, sx⟩, ⟨sB, sm, sd, sy⟩⟩ := r2
  simp only [VS.abs, Prod.mk.injEq] at hra2
  obtain ⟨rfl, rfl, rfl⟩ := hra2
  clear hro2
  have hl1 : ([1] : List Int).length = 1 := rfl
  have hrd1 : Rd w2 w2.heap.size rA (bys [1]) := ob.2.1
  have s1 := fun (A : Option Addr) (w'' : World) (hf : Pu w2 w'') (hr : Rd w'' w''.heap.size A (ints [1])) => sameInts_c ⟨rB, 1, rd, [1]⟩ ⟨A, 1, 1, [1]⟩ w'' (om.pu hf) ⟨rfl, hr⟩ (by show 1 ≤ _; omega)
  have n5 := fun w => needed_c 5 w
  have b5 := fun w => bears_c 5 w
  rw [show neededF 5 = 3 by decide] at n5
  rw [show bearsF 5 = 2 by decide] at b5
  unfold VS.v BS.v IS.v at hs
  unfold IS.v at s1
  dsimp only at *
  repeat (first
    | ((with_reducible refine toL hm ?_); (first
        | refine oneV hs (by first | exact Wnt.none rfl | exact Wnt.some rfl rfl rfl rfl) rfl rfl (by intro w hm; (first | exact r_val hs tab rfl | exact r_load hs rfl rfl tab rfl rfl (by first | exact hm.cl (by repeat (first | exact mH | apply mT)) (by first | rfl | assumption) | exact Ro.cl (by assumption) hm (by first | exact (fun t => t) | assumption) (by first | rfl | assumption) | exact Ro.cl0 (by assumption) hm (by first | exact (fun t => t) | assumption) (by first | rfl | assumption)) | exact r_loadO hs rfl rfl tab rfl rfl rfl hm (by repeat (first | exact mH | apply mT)) (by rfl) | exact r_loadA hs rfl rfl tab rfl rfl (Ro.ro (by assumption) hm (by first | exact (fun t => t) | assumption)) rfl | exact r_iz hs tab rfl rfl (by omega) | exact r_iy hs tab rfl rfl (by omega) | exact r_cT hs rfl (by omega) | exact r_cF hs rfl (by omega) | exact r_arH hs rfl (by assumption) (by omega) | exact r_ar hs rfl (by omega) | exact r_bi hs rfl | exact r_pick hs rfl rfl rfl rfl | exact r_b2s hs rfl rfl tab rfl rfl rfl rfl rfl rfl (by first | exact Fr.rd' hm.fr (by assumption) | exact Mm.rd_row hm (by repeat (first | exact mH | apply mT)) (by assumption)) (by assumption))) ?_
        | refine oneN hs rfl rfl rfl rfl rfl rfl rfl ?_
        | refine oneU hs rfl rfl rfl rfl rfl rfl ?_); clear hs a; intro a hs)
    | ((with_reducible apply lCons); (first
        | (refine dv hs (by first | exact Wnt.none rfl | exact Wnt.some rfl rfl rfl rfl) rfl rfl (by first | exact d_alloc rfl tab rfl rfl hm | exact d_box hs rfl rfl rfl hm | exact d_buildSlice0 rfl tab rfl rfl rfl hm | exact d_buildSlice hs rfl tab rfl rfl rfl rfl rfl rfl rfl rfl rfl hm) ?_; clear hs hm a; rintro _ w ⟨g, rfl, -, hm⟩ a hs)
        | (refine stn hs rfl rfl (by first | exact d_store hs rfl rfl rfl tab rfl rfl rfl rfl hm (by repeat (first | exact Rep.head _ _ _ | apply Rep.tail)) (by rfl) | exact d_store1 hs rfl rfl rfl tab rfl rfl rfl rfl hm (by repeat (first | exact Rep.head _ _ _ | apply Rep.tail)) (by first | omega | assumption | (simp; omega))) ?_; clear hs hm a; rintro - w hm a hs)
        ))
    | (with_reducible first | apply lNilThen | apply lNilBlock | apply lNil | apply wp_seq | apply wp_region_lit | apply wp_block | apply cExit | apply cRet | apply cSkip | apply gThen | apply gBlock | apply eThen | apply eBlockHit | refine eBlock rfl ?_ | apply rThen | apply rBlock)
    | ((with_reducible apply cCond); (first | refine cTrue hs rfl (by first | rfl | assumption | exact decide_eq_true (by omega) | exact decide_eq_false (by omega) | exact ndT (by omega) | exact ndF (by omega)) ?_ | refine cFalse hs rfl (by first | rfl | assumption | exact decide_eq_true (by omega) | exact decide_eq_false (by omega) | exact ndT (by omega) | exact ndF (by omega)) ?_))
    )
  simp only [show bst [1] = (⟨#[1]⟩ : ByteArray) from rfl, beq_self_eq_true] at hs
  repeat (first
    | ((with_reducible refine toL hm ?_); (first
        | refine oneV hs (by first | exact Wnt.none rfl | exact Wnt.some rfl rfl rfl rfl) rfl rfl (by intro w hm; (first | exact r_val hs tab rfl | exact r_load hs rfl rfl tab rfl rfl (by first | exact hm.cl (by repeat (first | exact mH | apply mT)) (by first | rfl | assumption) | exact Ro.cl (by assumption) hm (by first | exact (fun t => t) | assumption) (by first | rfl | assumption) | exact Ro.cl0 (by assumption) hm (by first | exact (fun t => t) | assumption) (by first | rfl | assumption)) | exact r_loadO hs rfl rfl tab rfl rfl rfl hm (by repeat (first | exact mH | apply mT)) (by rfl) | exact r_loadA hs rfl rfl tab rfl rfl (Ro.ro (by assumption) hm (by first | exact (fun t => t) | assumption)) rfl | exact r_iz hs tab rfl rfl (by omega) | exact r_iy hs tab rfl rfl (by omega) | exact r_cT hs rfl (by omega) | exact r_cF hs rfl (by omega) | exact r_arH hs rfl (by assumption) (by omega) | exact r_ar hs rfl (by omega) | exact r_bi hs rfl | exact r_pick hs rfl rfl rfl rfl | exact r_b2s hs rfl rfl tab rfl rfl rfl rfl rfl rfl (by first | exact Fr.rd' hm.fr (by assumption) | exact Mm.rd_row hm (by repeat (first | exact mH | apply mT)) (by assumption)) (by assumption))) ?_
        | refine oneN hs rfl rfl rfl rfl rfl rfl rfl ?_
        | refine oneU hs rfl rfl rfl rfl rfl rfl ?_); clear hs a; intro a hs)
    | ((with_reducible apply lCons); (first
        | (refine dv hs (by first | exact Wnt.none rfl | exact Wnt.some rfl rfl rfl rfl) rfl rfl (by first | exact d_alloc rfl tab rfl rfl hm | exact d_box hs rfl rfl rfl hm | exact d_buildSlice0 rfl tab rfl rfl rfl hm | exact d_buildSlice hs rfl tab rfl rfl rfl rfl rfl rfl rfl rfl rfl hm) ?_; clear hs hm a; rintro _ w ⟨g, rfl, -, hm⟩ a hs)
        | (refine stn hs rfl rfl (by first | exact d_store hs rfl rfl rfl tab rfl rfl rfl rfl hm (by repeat (first | exact Rep.head _ _ _ | apply Rep.tail)) (by rfl) | exact d_store1 hs rfl rfl rfl tab rfl rfl rfl rfl hm (by repeat (first | exact Rep.head _ _ _ | apply Rep.tail)) (by first | omega | assumption | (simp; omega))) ?_; clear hs hm a; rintro - w hm a hs)
        | (refine dv hs (by first | exact Wnt.none rfl | exact Wnt.some rfl rfl rfl rfl) rfl rfl (d_call hs rfl rfl rfl (pl 17 rfl) (s1 _ _ hm.fr (hm.rd (by repeat (first | exact List.Mem.head _ | apply List.Mem.tail)) (List.prefix_refl _)))) ?_; clear hs a; rintro _ w ⟨rfl, hf⟩ a hs; replace hm := hm.pu hf; clear hf)
        | (refine dv hs (by first | exact Wnt.none rfl | exact Wnt.some rfl rfl rfl rfl) rfl rfl (d_call hs rfl rfl rfl (pl 12 rfl) (n5 _)) ?_; clear hs a; rintro _ w ⟨rfl, hf⟩ a hs; replace hm := hm.pu hf; clear hf)
        | (refine dv hs (by first | exact Wnt.none rfl | exact Wnt.some rfl rfl rfl rfl) rfl rfl (d_call hs rfl rfl rfl (pl 14 rfl) (b5 _)) ?_; clear hs a; rintro _ w ⟨rfl, hf⟩ a hs; replace hm := hm.pu hf; clear hf)
        ))
    | (with_reducible first | apply lNilThen | apply lNilBlock | apply lNil | apply wp_seq | apply wp_region_lit | apply wp_block | apply cExit | apply cRet | apply cSkip | apply gThen | apply gBlock | apply eThen | apply eBlockHit | refine eBlock rfl ?_ | apply rThen | apply rBlock)
    | ((with_reducible apply cCond); (first | refine cTrue hs rfl (by first | rfl | assumption | exact decide_eq_true (by omega) | exact decide_eq_false (by omega) | exact ndT (by omega) | exact ndF (by omega)) ?_ | refine cFalse hs rfl (by first | rfl | assumption | exact decide_eq_true (by omega) | exact decide_eq_false (by omega) | exact ndT (by omega) | exact ndF (by omega)) ?_))
    )
  exact gRet1 hs rfl rfl ⟨rfl, hF.pu hm.fr⟩
end Go.Proofs.Ytoojckkmalfimaa
