/- Package compare, and its reference: equal answers. -/
import Derived.Test.YtoojckkmalfimaaTab
namespace Go.Proofs.Ytoojckkmalfimaa
open Go.RowKit

/-- a slice of bytes: where it lies, its length, its room, what it holds -/
structure BS where
  A : Option Addr
  n : Nat
  c : Nat
  xs : List Int
def BS.v (b : BS) : Value := .slice b.A b.n b.c
def BS.ok (b : BS) (w : World) : Prop := b.xs.length = b.n ∧ Rd w w.heap.size b.A (bys b.xs) ∧ IsB b.xs
theorem BS.ok.pu {b : BS} {w w' : World} (h : b.ok w) (hf : Pu w w') : b.ok w' := ⟨h.1, hf.rd' h.2.1, h.2.2⟩

theorem equal_c (b d : BS) (w : World) (hb : b.ok w) (hd : d.ok w) :
    Ret Try.prog 33 [b.v, d.v] w (fun v w' => v = .bool (decide (b.xs = d.xs)) ∧ Pu w w') := by
  obtain ⟨b1, b2, b3⟩ := hb
  obtain ⟨d1, d2, d3⟩ := hd
  unfold BS.v
  refine enterR Try.func33 rfl rfl rfl fun a hs hm => ?_
  repeat (first
    | ((with_reducible refine toL hm ?_); (first
        | refine oneV hs (by first | exact Wnt.none rfl | exact Wnt.some rfl rfl rfl rfl) rfl rfl (by intro w hm; (first | exact r_val hs tab rfl | exact r_load hs rfl rfl tab rfl rfl (by first | exact hm.cl (by repeat (first | exact mH | apply mT)) (by first | rfl | assumption) | exact Ro.cl (by assumption) hm (by first | exact (fun t => t) | assumption) (by first | rfl | assumption) | exact Ro.cl0 (by assumption) hm (by first | exact (fun t => t) | assumption) (by first | rfl | assumption)) | exact r_loadO hs rfl rfl tab rfl rfl rfl hm (by repeat (first | exact mH | apply mT)) (by rfl) | exact r_loadA hs rfl rfl tab rfl rfl (Ro.ro (by assumption) hm (by first | exact (fun t => t) | assumption)) rfl | exact r_iz hs tab rfl rfl (by omega) | exact r_iy hs tab rfl rfl (by omega) | exact r_cT hs rfl (by omega) | exact r_cF hs rfl (by omega) | exact r_arH hs rfl (by assumption) (by omega) | exact r_ar hs rfl (by omega) | exact r_bi hs rfl | exact r_pick hs rfl rfl rfl rfl | exact r_b2s hs rfl rfl tab rfl rfl rfl rfl rfl rfl (by first | exact Fr.rd' hm.fr (by assumption) | exact Mm.rd_row hm (by repeat (first | exact mH | apply mT)) (by assumption)) (by assumption))) ?_
        | refine oneN hs rfl rfl rfl rfl rfl rfl rfl ?_
        | refine oneU hs rfl rfl rfl rfl rfl rfl ?_); clear hs a; intro a hs)
    | ((with_reducible apply lCons); (first
        | (refine dv hs (by first | exact Wnt.none rfl | exact Wnt.some rfl rfl rfl rfl) rfl rfl (by first | exact d_alloc rfl tab rfl rfl hm | exact d_box hs rfl rfl rfl hm | exact d_buildSlice0 rfl tab rfl rfl rfl hm | exact d_buildSlice hs rfl tab rfl rfl rfl rfl rfl rfl rfl rfl rfl hm) ?_; clear hs hm a; rintro _ w ⟨g, rfl, -, hm⟩ a hs)
        | (refine stn hs rfl rfl (by first | exact d_store hs rfl rfl rfl tab rfl rfl rfl rfl hm (by repeat (first | exact Rep.head _ _ _ | apply Rep.tail)) (by rfl) | exact d_store1 hs rfl rfl rfl tab rfl rfl rfl rfl hm (by repeat (first | exact Rep.head _ _ _ | apply Rep.tail)) (by first | omega | assumption | (simp; omega))) ?_; clear hs hm a; rintro - w hm a hs)
        ))
    | (with_reducible first | apply lNilThen | apply lNilBlock | apply lNil | apply wp_seq | apply wp_region_lit | apply wp_block | apply cExit | apply cRet | apply cSkip | apply gThen | apply gBlock | apply eThen | apply eBlockHit | refine eBlock rfl ?_ | apply rThen | apply rBlock)
    | ((with_reducible apply cCond); (first | refine cTrue hs rfl (by first | rfl | assumption | exact decide_eq_true (by omega) | exact decide_eq_false (by omega) | exact ndT (by omega) | exact ndF (by omega)) ?_ | refine cFalse hs rfl (by first | rfl | assumption | exact decide_eq_true (by omega) | exact decide_eq_false (by omega) | exact ndT (by omega) | exact ndF (by omega)) ?_))
    )
  exact gRet1 hs rfl rfl ⟨by rw [bst_eq b3 d3], hm.fr⟩
theorem rbytes_c (b d : BS) (w : World) (hb : b.ok w) (hd : d.ok w) :
    Ret Try.prog 25 [b.v, d.v] w (fun v w' => v = .bool (decide (b.xs = d.xs)) ∧ Pu w w') := by
  obtain ⟨b1, b2, b3⟩ := hb
  obtain ⟨d1, d2, d3⟩ := hd
  unfold BS.v
  refine enterR Try.func25 rfl rfl rfl fun a hs hm => ?_
  repeat (first
    | ((with_reducible refine toL hm ?_); (first
        | refine oneV hs (by first | exact Wnt.none rfl | exact Wnt.some rfl rfl rfl rfl) rfl rfl (by intro w hm; (first | exact r_val hs tab rfl | exact r_load hs rfl rfl tab rfl rfl (by first | exact hm.cl (by repeat (first | exact mH | apply mT)) (by first | rfl | assumption) | exact Ro.cl (by assumption) hm (by first | exact (fun t => t) | assumption) (by first | rfl | assumption) | exact Ro.cl0 (by assumption) hm (by first | exact (fun t => t) | assumption) (by first | rfl | assumption)) | exact r_loadO hs rfl rfl tab rfl rfl rfl hm (by repeat (first | exact mH | apply mT)) (by rfl) | exact r_loadA hs rfl rfl tab rfl rfl (Ro.ro (by assumption) hm (by first | exact (fun t => t) | assumption)) rfl | exact r_iz hs tab rfl rfl (by omega) | exact r_iy hs tab rfl rfl (by omega) | exact r_cT hs rfl (by omega) | exact r_cF hs rfl (by omega) | exact r_arH hs rfl (by assumption) (by omega) | exact r_ar hs rfl (by omega) | exact r_bi hs rfl | exact r_pick hs rfl rfl rfl rfl | exact r_b2s hs rfl rfl tab rfl rfl rfl rfl rfl rfl (by first | exact Fr.rd' hm.fr (by assumption) | exact Mm.rd_row hm (by repeat (first | exact mH | apply mT)) (by assumption)) (by assumption))) ?_
        | refine oneN hs rfl rfl rfl rfl rfl rfl rfl ?_
        | refine oneU hs rfl rfl rfl rfl rfl rfl ?_); clear hs a; intro a hs)
    | ((with_reducible apply lCons); (first
        | (refine dv hs (by first | exact Wnt.none rfl | exact Wnt.some rfl rfl rfl rfl) rfl rfl (by first | exact d_alloc rfl tab rfl rfl hm | exact d_box hs rfl rfl rfl hm | exact d_buildSlice0 rfl tab rfl rfl rfl hm | exact d_buildSlice hs rfl tab rfl rfl rfl rfl rfl rfl rfl rfl rfl hm) ?_; clear hs hm a; rintro _ w ⟨g, rfl, -, hm⟩ a hs)
        | (refine stn hs rfl rfl (by first | exact d_store hs rfl rfl rfl tab rfl rfl rfl rfl hm (by repeat (first | exact Rep.head _ _ _ | apply Rep.tail)) (by rfl) | exact d_store1 hs rfl rfl rfl tab rfl rfl rfl rfl hm (by repeat (first | exact Rep.head _ _ _ | apply Rep.tail)) (by first | omega | assumption | (simp; omega))) ?_; clear hs hm a; rintro - w hm a hs)
        ))
    | (with_reducible first | apply lNilThen | apply lNilBlock | apply lNil | apply wp_seq | apply wp_region_lit | apply wp_block | apply cExit | apply cRet | apply cSkip | apply gThen | apply gBlock | apply eThen | apply eBlockHit | refine eBlock rfl ?_ | apply rThen | apply rBlock)
    | ((with_reducible apply cCond); (first | refine cTrue hs rfl (by first | rfl | assumption | exact decide_eq_true (by omega) | exact decide_eq_false (by omega) | exact ndT (by omega) | exact ndF (by omega)) ?_ | refine cFalse hs rfl (by first | rfl | assumption | exact decide_eq_true (by omega) | exact decide_eq_false (by omega) | exact ndT (by omega) | exact ndF (by omega)) ?_))
    )
  exact gRet1 hs rfl rfl ⟨by rw [bst_eq b3 d3], hm.fr⟩

/-- an answer -/
structure An where
  h : Bool
  b : BS
def An.cs (x : An) : List Value := [.bool x.h, x.b.v]
def An.v (x : An) : Value := .agg x.cs.toArray
def sameB (x y : An) : Bool := (x.h == y.h) && (!x.h || decide (x.b.xs = y.b.xs))

theorem same_c (x y : An) (w : World) (hx : x.b.ok w) (hy : y.b.ok w) :
    Ret Try.prog 28 [x.v, y.v] w (fun v w' => v = .bool (sameB x y) ∧ Pu w w') := by
  obtain ⟨h1, b1⟩ := x
  obtain ⟨h2, b2⟩ := y
  refine enterR Try.func28 rfl rfl rfl fun a hs hm => ?_
  unfold sameB An.v An.cs at *
  cases h1 <;> cases h2
  all_goals
    repeat (first
      | ((with_reducible refine toL hm ?_); (first
          | refine oneV hs (by first | exact Wnt.none rfl | exact Wnt.some rfl rfl rfl rfl) rfl rfl (by intro w hm; (first | exact r_val hs tab rfl | exact r_load hs rfl rfl tab rfl rfl (by first | exact hm.cl (by repeat (first | exact mH | apply mT)) (by first | rfl | assumption) | exact Ro.cl (by assumption) hm (by first | exact (fun t => t) | assumption) (by first | rfl | assumption) | exact Ro.cl0 (by assumption) hm (by first | exact (fun t => t) | assumption) (by first | rfl | assumption)) | exact r_loadO hs rfl rfl tab rfl rfl rfl hm (by repeat (first | exact mH | apply mT)) (by rfl) | exact r_loadA hs rfl rfl tab rfl rfl (Ro.ro (by assumption) hm (by first | exact (fun t => t) | assumption)) rfl | exact r_iz hs tab rfl rfl (by omega) | exact r_iy hs tab rfl rfl (by omega) | exact r_cT hs rfl (by omega) | exact r_cF hs rfl (by omega) | exact r_arH hs rfl (by assumption) (by omega) | exact r_ar hs rfl (by omega) | exact r_bi hs rfl | exact r_pick hs rfl rfl rfl rfl)) ?_
          | refine oneN hs rfl rfl rfl rfl rfl rfl rfl ?_
          | refine oneU hs rfl rfl rfl rfl rfl rfl ?_); clear hs a; intro a hs)
      | ((with_reducible apply lCons); (first
          | (refine dv hs (by first | exact Wnt.none rfl | exact Wnt.some rfl rfl rfl rfl) rfl rfl (by first | exact d_alloc rfl tab rfl rfl hm | exact d_box hs rfl rfl rfl hm | exact d_buildSlice0 rfl tab rfl rfl rfl hm | exact d_buildSlice hs rfl tab rfl rfl rfl rfl rfl rfl rfl rfl rfl hm) ?_; clear hs hm a; rintro _ w ⟨g, rfl, -, hm⟩ a hs)
          | (refine stn hs rfl rfl (by first | exact d_store hs rfl rfl rfl tab rfl rfl rfl rfl hm (by repeat (first | exact Rep.head _ _ _ | apply Rep.tail)) (by rfl) | exact d_store1 hs rfl rfl rfl tab rfl rfl rfl rfl hm (by repeat (first | exact Rep.head _ _ _ | apply Rep.tail)) (by first | omega | assumption | (simp; omega))) ?_; clear hs hm a; rintro - w hm a hs)
          | (refine dv hs (by first | exact Wnt.none rfl | exact Wnt.some rfl rfl rfl rfl) rfl rfl (d_call hs rfl rfl rfl (pl 33 rfl) (equal_c _ _ _ (BS.ok.pu (by assumption) hm.fr) (BS.ok.pu (by assumption) hm.fr))) ?_; clear hs a; rintro _ w ⟨rfl, hf⟩ a hs; replace hm := hm.pu hf; clear hf)
          ))
      | (with_reducible first | apply lNilThen | apply lNilBlock | apply lNil | apply wp_seq | apply wp_region_lit | apply wp_block | apply cExit | apply cRet | apply cSkip | apply gThen | apply gBlock | apply eThen | apply eBlockHit | refine eBlock rfl ?_ | apply rThen | apply rBlock)
      | ((with_reducible apply cCond); (first | refine cTrue hs rfl (by first | rfl | assumption | exact decide_eq_true (by omega) | exact decide_eq_false (by omega) | exact ndT (by omega) | exact ndF (by omega)) ?_ | refine cFalse hs rfl (by first | rfl | assumption | exact decide_eq_true (by omega) | exact decide_eq_false (by omega) | exact ndT (by omega) | exact ndF (by omega)) ?_))
      )
    exact gRet1 hs rfl rfl ⟨rfl, hm.fr⟩
theorem rsame_c (x y : An) (w : World) (hx : x.b.ok w) (hy : y.b.ok w) :
    Ret Try.prog 31 [x.v, y.v] w (fun v w' => v = .bool (sameB x y) ∧ Pu w w') := by
  obtain ⟨h1, b1⟩ := x
  obtain ⟨h2, b2⟩ := y
  refine enterR Try.func31 rfl rfl rfl fun a hs hm => ?_
  unfold sameB An.v An.cs at *
  cases h1 <;> cases h2
  all_goals
    repeat (first
      | ((with_reducible refine toL hm ?_); (first
          | refine oneV hs (by first | exact Wnt.none rfl | exact Wnt.some rfl rfl rfl rfl) rfl rfl (by intro w hm; (first | exact r_val hs tab rfl | exact r_load hs rfl rfl tab rfl rfl (by first | exact hm.cl (by repeat (first | exact mH | apply mT)) (by first | rfl | assumption) | exact Ro.cl (by assumption) hm (by first | exact (fun t => t) | assumption) (by first | rfl | assumption) | exact Ro.cl0 (by assumption) hm (by first | exact (fun t => t) | assumption) (by first | rfl | assumption)) | exact r_loadO hs rfl rfl tab rfl rfl rfl hm (by repeat (first | exact mH | apply mT)) (by rfl) | exact r_loadA hs rfl rfl tab rfl rfl (Ro.ro (by assumption) hm (by first | exact (fun t => t) | assumption)) rfl | exact r_iz hs tab rfl rfl (by omega) | exact r_iy hs tab rfl rfl (by omega) | exact r_cT hs rfl (by omega) | exact r_cF hs rfl (by omega) | exact r_arH hs rfl (by assumption) (by omega) | exact r_ar hs rfl (by omega) | exact r_bi hs rfl | exact r_pick hs rfl rfl rfl rfl)) ?_
          | refine oneN hs rfl rfl rfl rfl rfl rfl rfl ?_
          | refine oneU hs rfl rfl rfl rfl rfl rfl ?_); clear hs a; intro a hs)
      | ((with_reducible apply lCons); (first
          | (refine dv hs (by first | exact Wnt.none rfl | exact Wnt.some rfl rfl rfl rfl) rfl rfl (by first | exact d_alloc rfl tab rfl rfl hm | exact d_box hs rfl rfl rfl hm | exact d_buildSlice0 rfl tab rfl rfl rfl hm | exact d_buildSlice hs rfl tab rfl rfl rfl rfl rfl rfl rfl rfl rfl hm) ?_; clear hs hm a; rintro _ w ⟨g, rfl, -, hm⟩ a hs)
          | (refine stn hs rfl rfl (by first | exact d_store hs rfl rfl rfl tab rfl rfl rfl rfl hm (by repeat (first | exact Rep.head _ _ _ | apply Rep.tail)) (by rfl) | exact d_store1 hs rfl rfl rfl tab rfl rfl rfl rfl hm (by repeat (first | exact Rep.head _ _ _ | apply Rep.tail)) (by first | omega | assumption | (simp; omega))) ?_; clear hs hm a; rintro - w hm a hs)
          | (refine dv hs (by first | exact Wnt.none rfl | exact Wnt.some rfl rfl rfl rfl) rfl rfl (d_call hs rfl rfl rfl (pl 25 rfl) (rbytes_c _ _ _ (BS.ok.pu (by assumption) hm.fr) (BS.ok.pu (by assumption) hm.fr))) ?_; clear hs a; rintro _ w ⟨rfl, hf⟩ a hs; replace hm := hm.pu hf; clear hf)
          ))
      | (with_reducible first | apply lNilThen | apply lNilBlock | apply lNil | apply wp_seq | apply wp_region_lit | apply wp_block | apply cExit | apply cRet | apply cSkip | apply gThen | apply gBlock | apply eThen | apply eBlockHit | refine eBlock rfl ?_ | apply rThen | apply rBlock)
      | ((with_reducible apply cCond); (first | refine cTrue hs rfl (by first | rfl | assumption | exact decide_eq_true (by omega) | exact decide_eq_false (by omega) | exact ndT (by omega) | exact ndF (by omega)) ?_ | refine cFalse hs rfl (by first | rfl | assumption | exact decide_eq_true (by omega) | exact decide_eq_false (by omega) | exact ndT (by omega) | exact ndF (by omega)) ?_))
      )
    exact gRet1 hs rfl rfl ⟨rfl, hm.fr⟩
end Go.Proofs.Ytoojckkmalfimaa
