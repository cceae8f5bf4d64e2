/- Package compare, and its reference: equal answers. -/
import Derived.Test.YtoojckkmalfimaaTab
namespace Go.Proofs.Ytoojckkmalfimaa
open Go.RowKit

/-- a slice of bytes: where it lies, its length, its room, what it holds -/
structure BS where
  A : Option Addr
  n : Nat
  c : Nat
  xs : List Int
def BS.v (b : BS) : Value := .slice b.A b.n b.c
def BS.ok (b : BS) (w : World) : Prop := b.xs.length = b.n ∧ Rd w w.heap.size b.A (bys b.xs) ∧ IsB b.xs
theorem BS.ok.pu {b : BS} {w w' : World} (h : b.ok w) (hf : Pu w w') : b.ok w' := ⟨h.1, hf.rd' h.2.1, h.2.2⟩

theorem equal_c (b d : BS) (w : World) (hb : b.ok w) (hd : d.ok w) :
    Ret Try.prog 33 [b.v, d.v] w (fun v w' => v = .bool (decide (b.xs = d.xs)) ∧ Pu w w') := by
  obtain ⟨b1, b2, b3⟩ := hb
  obtain ⟨d1, d2, d3⟩ := hd
  unfold BS.v
  refine enterR Try.func33 rfl rfl rfl fun a hs hm => ?_
  repeat (first
    | ((with_reducible apply lCons); (first
        | (refine wv hs (by first | exact Wnt.none rfl | exact Wnt.some rfl rfl rfl rfl) rfl rfl (by (first | ((with_reducible apply kMove); first | exact r_move hs rfl rfl) | ((with_reducible apply kAssign); first | exact r_assign hs rfl rfl) | ((with_reducible apply kLoad); first | exact r_load hs rfl rfl tab rfl rfl (by first | exact hm.cl (by repeat (first | exact List.Mem.head _ | apply List.Mem.tail)) (by first | rfl | assumption) | exact Ro.cl (by assumption) hm (by first | exact (fun t => t) | assumption) (by first | rfl | assumption)) | exact r_loadO hs rfl rfl tab rfl rfl rfl hm (by repeat (first | exact List.Mem.head _ | apply List.Mem.tail)) (by rfl) | exact r_loadA hs rfl rfl tab rfl rfl (Ro.ro (by assumption) hm (by first | exact (fun t => t) | assumption)) rfl) | ((with_reducible apply kField); first | exact r_fieldAddr hs rfl rfl tab rfl rfl rfl rfl rfl) | ((with_reducible apply kIx); first | exact r_ix01 hs rfl rfl rfl tab rfl rfl rfl rfl (by omega) | exact r_ix0 hs rfl rfl rfl tab rfl rfl rfl (by omega) | exact r_ix1 hs rfl rfl rfl tab rfl rfl rfl rfl (by omega) | exact r_ix hs rfl rfl rfl tab rfl rfl rfl (by omega) | exact r_ixa1 hs rfl rfl rfl tab rfl rfl rfl rfl (by omega) | exact r_ixa hs rfl rfl rfl tab rfl rfl rfl (by omega) | exact r_ix01l hs rfl rfl rfl rfl tab rfl rfl rfl rfl (by omega) | exact r_ix0l hs rfl rfl rfl rfl tab rfl rfl rfl (by omega) | exact r_ix1l hs rfl rfl rfl rfl tab rfl rfl rfl rfl (by omega) | exact r_ixl hs rfl rfl rfl rfl tab rfl rfl rfl (by omega) | exact r_ixa1l hs rfl rfl rfl rfl tab rfl rfl rfl rfl (by omega) | exact r_ixal hs rfl rfl rfl rfl tab rfl rfl rfl (by omega)) | ((with_reducible apply kBin); first | exact r_T (r_lss hs rfl rfl rfl) (by omega) | exact r_F (r_lss hs rfl rfl rfl) (by omega) | exact r_T (r_eql hs rfl rfl rfl) (by omega) | exact r_F (r_eql hs rfl rfl rfl) (by omega) | exact r_T (r_leq hs rfl rfl rfl) (by omega) | exact r_F (r_leq hs rfl rfl rfl) (by omega) | exact r_T (r_gtr hs rfl rfl rfl) (by omega) | exact r_F (r_gtr hs rfl rfl rfl) (by omega) | exact r_T (r_geq hs rfl rfl rfl) (by omega) | exact r_F (r_geq hs rfl rfl rfl) (by omega) | exact r_nT (r_neq hs rfl rfl rfl) (by omega) | exact r_nF (r_neq hs rfl rfl rfl) (by omega) | exact r_addH hs rfl rfl rfl (by assumption) (by omega) | exact r_subH hs rfl rfl rfl (by assumption) (by omega) | exact r_mulH hs rfl rfl rfl (by assumption) (by omega) | exact r_pred hs rfl rfl rfl (by omega) | exact r_lss hs rfl rfl rfl | exact r_add64 hs rfl rfl rfl (by omega) | exact r_sub64 hs rfl rfl rfl (by omega) | exact r_eql hs rfl rfl rfl | exact r_neq hs rfl rfl rfl | exact r_leq hs rfl rfl rfl | exact r_gtr hs rfl rfl rfl | exact r_geq hs rfl rfl rfl | exact r_eqlB hs rfl rfl rfl tab rfl rfl | exact r_neqB hs rfl rfl rfl tab rfl rfl | exact r_mul64 hs rfl rfl rfl (by omega) | exact r_quo64 hs rfl rfl rfl (by omega) (by omega) | exact r_rem64 hs rfl rfl rfl (by omega) (by omega) | exact r_seql hs rfl rfl rfl | exact r_sneq hs rfl rfl rfl | exact r_eqnil hs rfl rfl rfl tab rfl rfl | exact r_neqnil hs rfl rfl rfl tab rfl rfl | exact r_and hs rfl rfl rfl | exact r_or hs rfl rfl rfl | exact r_xor hs rfl rfl rfl | exact r_add hs rfl rfl rfl | exact r_sub hs rfl rfl rfl | exact r_mul hs rfl rfl rfl) | ((with_reducible apply kUn); first | exact r_not hs rfl rfl | exact r_neg64 hs rfl rfl (by omega)) | ((with_reducible apply kCall); first | exact r_len hs rfl rfl rfl tab rfl rfl | exact r_slen hs rfl rfl rfl tab rfl rfl | exact r_min hs rfl rfl rfl | exact r_max hs rfl rfl rfl) | ((with_reducible apply kPick); first | exact r_pickT hs rfl rfl rfl | exact r_pickF hs rfl rfl rfl | exact r_pick hs rfl rfl rfl rfl) | ((with_reducible apply kBuild); first | exact r_build hs rfl tab rfl rfl rfl rfl rfl rfl | exact r_buildA hs rfl tab rfl rfl rfl rfl rfl rfl) | ((with_reducible apply kConv); first | exact r_conv hs rfl rfl tab rfl rfl rfl | exact r_b2s hs rfl rfl tab rfl rfl rfl rfl rfl rfl (by first | exact Fr.rd' hm.fr (by assumption) | exact Mm.rd_row hm (by repeat (first | exact List.Mem.head _ | apply List.Mem.tail)) (by assumption)) (by assumption)) | ((with_reducible apply kFunc); first | exact r_makeFunc hs rfl rfl rfl) | ((with_reducible apply kExt); first | exact r_extract hs rfl rfl rfl) | ((with_reducible apply kNil); first | exact r_nilCheck hs rfl rfl | exact r_nilCheckF hs rfl rfl rfl) | ((with_reducible apply kFld); first | exact r_field hs rfl rfl tab rfl rfl rfl rfl rfl rfl) | ((with_reducible apply kSlice); first | exact r_sliceArr hs rfl rfl tab rfl rfl rfl | exact r_sliceArrTo hs rfl rfl rfl tab rfl rfl rfl (by omega) (by omega) | exact r_sliceTo hs rfl rfl rfl tab rfl rfl rfl (by omega) (by omega) | exact r_sliceFrom hs rfl rfl rfl tab rfl rfl rfl (by omega) (by omega)))) ?_; clear hs a; intro a hs)
        | (refine dv hs (by first | exact Wnt.none rfl | exact Wnt.some rfl rfl rfl rfl) rfl rfl (by first | exact d_buildSlice0 rfl tab rfl rfl rfl hm | exact d_alloc rfl tab rfl rfl hm | exact d_box hs rfl rfl rfl hm | exact d_buildSlice hs rfl tab rfl rfl rfl rfl rfl rfl rfl rfl rfl hm | exact d_makeSlice hs rfl rfl rfl tab rfl rfl rfl rfl rfl (by omega) rfl hm) ?_; clear hs hm a; rintro _ w ⟨g, rfl, -, hm⟩ a hs)
        | (refine stn hs rfl rfl (by first | exact d_store hs rfl rfl rfl tab rfl rfl rfl rfl hm (by repeat (first | exact Rep.head _ _ _ | apply Rep.tail)) (by rfl) | exact d_store1 hs rfl rfl rfl tab rfl rfl rfl rfl hm (by repeat (first | exact Rep.head _ _ _ | apply Rep.tail)) (by first | omega | assumption | (simp; omega))) ?_; clear hs hm a; rintro - w hm a hs)
        | (refine sno hs rfl rfl rfl rfl rfl rfl rfl ?_; clear hs a; intro a hs)
        | (refine snu hs rfl rfl rfl rfl rfl rfl ?_; clear hs a; intro a hs)
        ))
    | (with_reducible apply lNilThen)
    | (with_reducible apply lNilBlock)
    | (with_reducible apply lNil)
    | (with_reducible apply wp_seq)
    | (with_reducible apply wp_region_lit)
    | (with_reducible apply wp_block)
    | (with_reducible apply cExit)
    | (with_reducible apply cRet)
    | (with_reducible apply cSkip)
    | (with_reducible apply gThen)
    | (with_reducible apply gBlock)
    | (with_reducible apply eThen)
    | (with_reducible apply eBlockHit)
    | (with_reducible refine eBlock rfl ?_)
    | (with_reducible apply rThen)
    | (with_reducible apply rBlock)
    | ((with_reducible apply cCond); (first | refine cTrue hs rfl (by first | rfl | assumption | exact decide_eq_true (by omega) | exact decide_eq_false (by omega) | exact ndT (by omega) | exact ndF (by omega)) ?_ | refine cFalse hs rfl (by first | rfl | assumption | exact decide_eq_true (by omega) | exact decide_eq_false (by omega) | exact ndT (by omega) | exact ndF (by omega)) ?_))
    )
  exact gRet1 hs rfl rfl ⟨by rw [bst_eq b3 d3], hm.fr⟩
theorem rbytes_c (b d : BS) (w : World) (hb : b.ok w) (hd : d.ok w) :
    Ret Try.prog 25 [b.v, d.v] w (fun v w' => v = .bool (decide (b.xs = d.xs)) ∧ Pu w w') := by
  obtain ⟨b1, b2, b3⟩ := hb
  obtain ⟨d1, d2, d3⟩ := hd
  unfold BS.v
  refine enterR Try.func25 rfl rfl rfl fun a hs hm => ?_
  repeat (first
    | ((with_reducible apply lCons); (first
        | (refine wv hs (by first | exact Wnt.none rfl | exact Wnt.some rfl rfl rfl rfl) rfl rfl (by (first | ((with_reducible apply kMove); first | exact r_move hs rfl rfl) | ((with_reducible apply kAssign); first | exact r_assign hs rfl rfl) | ((with_reducible apply kLoad); first | exact r_load hs rfl rfl tab rfl rfl (by first | exact hm.cl (by repeat (first | exact List.Mem.head _ | apply List.Mem.tail)) (by first | rfl | assumption) | exact Ro.cl (by assumption) hm (by first | exact (fun t => t) | assumption) (by first | rfl | assumption)) | exact r_loadO hs rfl rfl tab rfl rfl rfl hm (by repeat (first | exact List.Mem.head _ | apply List.Mem.tail)) (by rfl) | exact r_loadA hs rfl rfl tab rfl rfl (Ro.ro (by assumption) hm (by first | exact (fun t => t) | assumption)) rfl) | ((with_reducible apply kField); first | exact r_fieldAddr hs rfl rfl tab rfl rfl rfl rfl rfl) | ((with_reducible apply kIx); first | exact r_ix01 hs rfl rfl rfl tab rfl rfl rfl rfl (by omega) | exact r_ix0 hs rfl rfl rfl tab rfl rfl rfl (by omega) | exact r_ix1 hs rfl rfl rfl tab rfl rfl rfl rfl (by omega) | exact r_ix hs rfl rfl rfl tab rfl rfl rfl (by omega) | exact r_ixa1 hs rfl rfl rfl tab rfl rfl rfl rfl (by omega) | exact r_ixa hs rfl rfl rfl tab rfl rfl rfl (by omega) | exact r_ix01l hs rfl rfl rfl rfl tab rfl rfl rfl rfl (by omega) | exact r_ix0l hs rfl rfl rfl rfl tab rfl rfl rfl (by omega) | exact r_ix1l hs rfl rfl rfl rfl tab rfl rfl rfl rfl (by omega) | exact r_ixl hs rfl rfl rfl rfl tab rfl rfl rfl (by omega) | exact r_ixa1l hs rfl rfl rfl rfl tab rfl rfl rfl rfl (by omega) | exact r_ixal hs rfl rfl rfl rfl tab rfl rfl rfl (by omega)) | ((with_reducible apply kBin); first | exact r_T (r_lss hs rfl rfl rfl) (by omega) | exact r_F (r_lss hs rfl rfl rfl) (by omega) | exact r_T (r_eql hs rfl rfl rfl) (by omega) | exact r_F (r_eql hs rfl rfl rfl) (by omega) | exact r_T (r_leq hs rfl rfl rfl) (by omega) | exact r_F (r_leq hs rfl rfl rfl) (by omega) | exact r_T (r_gtr hs rfl rfl rfl) (by omega) | exact r_F (r_gtr hs rfl rfl rfl) (by omega) | exact r_T (r_geq hs rfl rfl rfl) (by omega) | exact r_F (r_geq hs rfl rfl rfl) (by omega) | exact r_nT (r_neq hs rfl rfl rfl) (by omega) | exact r_nF (r_neq hs rfl rfl rfl) (by omega) | exact r_addH hs rfl rfl rfl (by assumption) (by omega) | exact r_subH hs rfl rfl rfl (by assumption) (by omega) | exact r_mulH hs rfl rfl rfl (by assumption) (by omega) | exact r_pred hs rfl rfl rfl (by omega) | exact r_lss hs rfl rfl rfl | exact r_add64 hs rfl rfl rfl (by omega) | exact r_sub64 hs rfl rfl rfl (by omega) | exact r_eql hs rfl rfl rfl | exact r_neq hs rfl rfl rfl | exact r_leq hs rfl rfl rfl | exact r_gtr hs rfl rfl rfl | exact r_geq hs rfl rfl rfl | exact r_eqlB hs rfl rfl rfl tab rfl rfl | exact r_neqB hs rfl rfl rfl tab rfl rfl | exact r_mul64 hs rfl rfl rfl (by omega) | exact r_quo64 hs rfl rfl rfl (by omega) (by omega) | exact r_rem64 hs rfl rfl rfl (by omega) (by omega) | exact r_seql hs rfl rfl rfl | exact r_sneq hs rfl rfl rfl | exact r_eqnil hs rfl rfl rfl tab rfl rfl | exact r_neqnil hs rfl rfl rfl tab rfl rfl | exact r_and hs rfl rfl rfl | exact r_or hs rfl rfl rfl | exact r_xor hs rfl rfl rfl | exact r_add hs rfl rfl rfl | exact r_sub hs rfl rfl rfl | exact r_mul hs rfl rfl rfl) | ((with_reducible apply kUn); first | exact r_not hs rfl rfl | exact r_neg64 hs rfl rfl (by omega)) | ((with_reducible apply kCall); first | exact r_len hs rfl rfl rfl tab rfl rfl | exact r_slen hs rfl rfl rfl tab rfl rfl | exact r_min hs rfl rfl rfl | exact r_max hs rfl rfl rfl) | ((with_reducible apply kPick); first | exact r_pickT hs rfl rfl rfl | exact r_pickF hs rfl rfl rfl | exact r_pick hs rfl rfl rfl rfl) | ((with_reducible apply kBuild); first | exact r_build hs rfl tab rfl rfl rfl rfl rfl rfl | exact r_buildA hs rfl tab rfl rfl rfl rfl rfl rfl) | ((with_reducible apply kConv); first | exact r_conv hs rfl rfl tab rfl rfl rfl | exact r_b2s hs rfl rfl tab rfl rfl rfl rfl rfl rfl (by first | exact Fr.rd' hm.fr (by assumption) | exact Mm.rd_row hm (by repeat (first | exact List.Mem.head _ | apply List.Mem.tail)) (by assumption)) (by assumption)) | ((with_reducible apply kFunc); first | exact r_makeFunc hs rfl rfl rfl) | ((with_reducible apply kExt); first | exact r_extract hs rfl rfl rfl) | ((with_reducible apply kNil); first | exact r_nilCheck hs rfl rfl | exact r_nilCheckF hs rfl rfl rfl) | ((with_reducible apply kFld); first | exact r_field hs rfl rfl tab rfl rfl rfl rfl rfl rfl) | ((with_reducible apply kSlice); first | exact r_sliceArr hs rfl rfl tab rfl rfl rfl | exact r_sliceArrTo hs rfl rfl rfl tab rfl rfl rfl (by omega) (by omega) | exact r_sliceTo hs rfl rfl rfl tab rfl rfl rfl (by omega) (by omega) | exact r_sliceFrom hs rfl rfl rfl tab rfl rfl rfl (by omega) (by omega)))) ?_; clear hs a; intro a hs)
        | (refine dv hs (by first | exact Wnt.none rfl | exact Wnt.some rfl rfl rfl rfl) rfl rfl (by first | exact d_buildSlice0 rfl tab rfl rfl rfl hm | exact d_alloc rfl tab rfl rfl hm | exact d_box hs rfl rfl rfl hm | exact d_buildSlice hs rfl tab rfl rfl rfl rfl rfl rfl rfl rfl rfl hm | exact d_makeSlice hs rfl rfl rfl tab rfl rfl rfl rfl rfl (by omega) rfl hm) ?_; clear hs hm a; rintro _ w ⟨g, rfl, -, hm⟩ a hs)
        | (refine stn hs rfl rfl (by first | exact d_store hs rfl rfl rfl tab rfl rfl rfl rfl hm (by repeat (first | exact Rep.head _ _ _ | apply Rep.tail)) (by rfl) | exact d_store1 hs rfl rfl rfl tab rfl rfl rfl rfl hm (by repeat (first | exact Rep.head _ _ _ | apply Rep.tail)) (by first | omega | assumption | (simp; omega))) ?_; clear hs hm a; rintro - w hm a hs)
        | (refine sno hs rfl rfl rfl rfl rfl rfl rfl ?_; clear hs a; intro a hs)
        | (refine snu hs rfl rfl rfl rfl rfl rfl ?_; clear hs a; intro a hs)
        ))
    | (with_reducible apply lNilThen)
    | (with_reducible apply lNilBlock)
    | (with_reducible apply lNil)
    | (with_reducible apply wp_seq)
    | (with_reducible apply wp_region_lit)
    | (with_reducible apply wp_block)
    | (with_reducible apply cExit)
    | (with_reducible apply cRet)
    | (with_reducible apply cSkip)
    | (with_reducible apply gThen)
    | (with_reducible apply gBlock)
    | (with_reducible apply eThen)
    | (with_reducible apply eBlockHit)
    | (with_reducible refine eBlock rfl ?_)
    | (with_reducible apply rThen)
    | (with_reducible apply rBlock)
    | ((with_reducible apply cCond); (first | refine cTrue hs rfl (by first | rfl | assumption | exact decide_eq_true (by omega) | exact decide_eq_false (by omega) | exact ndT (by omega) | exact ndF (by omega)) ?_ | refine cFalse hs rfl (by first | rfl | assumption | exact decide_eq_true (by omega) | exact decide_eq_false (by omega) | exact ndT (by omega) | exact ndF (by omega)) ?_))
    )
  exact gRet1 hs rfl rfl ⟨by rw [bst_eq b3 d3], hm.fr⟩

/-- an answer -/
structure An where
  h : Bool
  b : BS
def An.cs (x : An) : List Value := [.bool x.h, x.b.v]
def An.v (x : An) : Value := .agg x.cs.toArray
def sameB (x y : An) : Bool := (x.h == y.h) && (!x.h || decide (x.b.xs = y.b.xs))

theorem same_c (x y : An) (w : World) (hx : x.b.ok w) (hy : y.b.ok w) :
    Ret Try.prog 28 [x.v, y.v] w (fun v w' => v = .bool (sameB x y) ∧ Pu w w') := by
  obtain ⟨h1, b1⟩ := x
  obtain ⟨h2, b2⟩ := y
  refine enterR Try.func28 rfl rfl rfl fun a hs hm => ?_
  unfold sameB An.v An.cs at *
  cases h1 <;> cases h2
  all_goals
    repeat (first
      | ((with_reducible apply lCons); (first
          | (refine wv hs (by first | exact Wnt.none rfl | exact Wnt.some rfl rfl rfl rfl) rfl rfl (by (first | ((with_reducible apply kMove); first | exact r_move hs rfl rfl) | ((with_reducible apply kAssign); first | exact r_assign hs rfl rfl) | ((with_reducible apply kLoad); first | exact r_load hs rfl rfl tab rfl rfl (by first | exact hm.cl (by repeat (first | exact List.Mem.head _ | apply List.Mem.tail)) (by first | rfl | assumption) | exact Ro.cl (by assumption) hm (by first | exact (fun t => t) | assumption) (by first | rfl | assumption)) | exact r_loadO hs rfl rfl tab rfl rfl rfl hm (by repeat (first | exact List.Mem.head _ | apply List.Mem.tail)) (by rfl) | exact r_loadA hs rfl rfl tab rfl rfl (Ro.ro (by assumption) hm (by first | exact (fun t => t) | assumption)) rfl) | ((with_reducible apply kField); first | exact r_fieldAddr hs rfl rfl tab rfl rfl rfl rfl rfl) | ((with_reducible apply kIx); first | exact r_ix01 hs rfl rfl rfl tab rfl rfl rfl rfl (by omega) | exact r_ix0 hs rfl rfl rfl tab rfl rfl rfl (by omega) | exact r_ix1 hs rfl rfl rfl tab rfl rfl rfl rfl (by omega) | exact r_ix hs rfl rfl rfl tab rfl rfl rfl (by omega) | exact r_ixa1 hs rfl rfl rfl tab rfl rfl rfl rfl (by omega) | exact r_ixa hs rfl rfl rfl tab rfl rfl rfl (by omega) | exact r_ix01l hs rfl rfl rfl rfl tab rfl rfl rfl rfl (by omega) | exact r_ix0l hs rfl rfl rfl rfl tab rfl rfl rfl (by omega) | exact r_ix1l hs rfl rfl rfl rfl tab rfl rfl rfl rfl (by omega) | exact r_ixl hs rfl rfl rfl rfl tab rfl rfl rfl (by omega) | exact r_ixa1l hs rfl rfl rfl rfl tab rfl rfl rfl rfl (by omega) | exact r_ixal hs rfl rfl rfl rfl tab rfl rfl rfl (by omega)) | ((with_reducible apply kBin); first | exact r_T (r_lss hs rfl rfl rfl) (by omega) | exact r_F (r_lss hs rfl rfl rfl) (by omega) | exact r_T (r_eql hs rfl rfl rfl) (by omega) | exact r_F (r_eql hs rfl rfl rfl) (by omega) | exact r_T (r_leq hs rfl rfl rfl) (by omega) | exact r_F (r_leq hs rfl rfl rfl) (by omega) | exact r_T (r_gtr hs rfl rfl rfl) (by omega) | exact r_F (r_gtr hs rfl rfl rfl) (by omega) | exact r_T (r_geq hs rfl rfl rfl) (by omega) | exact r_F (r_geq hs rfl rfl rfl) (by omega) | exact r_nT (r_neq hs rfl rfl rfl) (by omega) | exact r_nF (r_neq hs rfl rfl rfl) (by omega) | exact r_addH hs rfl rfl rfl (by assumption) (by omega) | exact r_subH hs rfl rfl rfl (by assumption) (by omega) | exact r_mulH hs rfl rfl rfl (by assumption) (by omega) | exact r_pred hs rfl rfl rfl (by omega) | exact r_lss hs rfl rfl rfl | exact r_add64 hs rfl rfl rfl (by omega) | exact r_sub64 hs rfl rfl rfl (by omega) | exact r_eql hs rfl rfl rfl | exact r_neq hs rfl rfl rfl | exact r_leq hs rfl rfl rfl | exact r_gtr hs rfl rfl rfl | exact r_geq hs rfl rfl rfl | exact r_eqlB hs rfl rfl rfl tab rfl rfl | exact r_neqB hs rfl rfl rfl tab rfl rfl | exact r_mul64 hs rfl rfl rfl (by omega) | exact r_quo64 hs rfl rfl rfl (by omega) (by omega) | exact r_rem64 hs rfl rfl rfl (by omega) (by omega) | exact r_seql hs rfl rfl rfl | exact r_sneq hs rfl rfl rfl | exact r_eqnil hs rfl rfl rfl tab rfl rfl | exact r_neqnil hs rfl rfl rfl tab rfl rfl | exact r_and hs rfl rfl rfl | exact r_or hs rfl rfl rfl | exact r_xor hs rfl rfl rfl | exact r_add hs rfl rfl rfl | exact r_sub hs rfl rfl rfl | exact r_mul hs rfl rfl rfl) | ((with_reducible apply kUn); first | exact r_not hs rfl rfl | exact r_neg64 hs rfl rfl (by omega)) | ((with_reducible apply kCall); first | exact r_len hs rfl rfl rfl tab rfl rfl | exact r_slen hs rfl rfl rfl tab rfl rfl | exact r_min hs rfl rfl rfl | exact r_max hs rfl rfl rfl) | ((with_reducible apply kPick); first | exact r_pickT hs rfl rfl rfl | exact r_pickF hs rfl rfl rfl | exact r_pick hs rfl rfl rfl rfl) | ((with_reducible apply kBuild); first | exact r_build hs rfl tab rfl rfl rfl rfl rfl rfl | exact r_buildA hs rfl tab rfl rfl rfl rfl rfl rfl) | ((with_reducible apply kConv); first | exact r_conv hs rfl rfl tab rfl rfl rfl | exact r_b2s hs rfl rfl tab rfl rfl rfl rfl rfl rfl (by first | exact Fr.rd' hm.fr (by assumption) | exact Mm.rd_row hm (by repeat (first | exact List.Mem.head _ | apply List.Mem.tail)) (by assumption)) (by assumption)) | ((with_reducible apply kFunc); first | exact r_makeFunc hs rfl rfl rfl) | ((with_reducible apply kExt); first | exact r_extract hs rfl rfl rfl) | ((with_reducible apply kNil); first | exact r_nilCheck hs rfl rfl | exact r_nilCheckF hs rfl rfl rfl) | ((with_reducible apply kFld); first | exact r_field hs rfl rfl tab rfl rfl rfl rfl rfl rfl) | ((with_reducible apply kSlice); first | exact r_sliceArr hs rfl rfl tab rfl rfl rfl | exact r_sliceArrTo hs rfl rfl rfl tab rfl rfl rfl (by omega) (by omega) | exact r_sliceTo hs rfl rfl rfl tab rfl rfl rfl (by omega) (by omega) | exact r_sliceFrom hs rfl rfl rfl tab rfl rfl rfl (by omega) (by omega)))) ?_; clear hs a; intro a hs)
          | (refine dv hs (by first | exact Wnt.none rfl | exact Wnt.some rfl rfl rfl rfl) rfl rfl (by first | exact d_buildSlice0 rfl tab rfl rfl rfl hm | exact d_alloc rfl tab rfl rfl hm | exact d_box hs rfl rfl rfl hm | exact d_buildSlice hs rfl tab rfl rfl rfl rfl rfl rfl rfl rfl rfl hm | exact d_makeSlice hs rfl rfl rfl tab rfl rfl rfl rfl rfl (by omega) rfl hm) ?_; clear hs hm a; rintro _ w ⟨g, rfl, -, hm⟩ a hs)
          | (refine stn hs rfl rfl (by first | exact d_store hs rfl rfl rfl tab rfl rfl rfl rfl hm (by repeat (first | exact Rep.head _ _ _ | apply Rep.tail)) (by rfl) | exact d_store1 hs rfl rfl rfl tab rfl rfl rfl rfl hm (by repeat (first | exact Rep.head _ _ _ | apply Rep.tail)) (by first | omega | assumption | (simp; omega))) ?_; clear hs hm a; rintro - w hm a hs)
          | (refine sno hs rfl rfl rfl rfl rfl rfl rfl ?_; clear hs a; intro a hs)
          | (refine snu hs rfl rfl rfl rfl rfl rfl ?_; clear hs a; intro a hs)
          | (refine dv hs (by first | exact Wnt.none rfl | exact Wnt.some rfl rfl rfl rfl) rfl rfl (d_call hs rfl rfl rfl (pl 33 rfl) (equal_c _ _ _ (BS.ok.pu (by assumption) hm.fr) (BS.ok.pu (by assumption) hm.fr))) ?_; clear hs a; rintro _ w ⟨rfl, hf⟩ a hs; replace hm := hm.pu hf; clear hf)
          ))
      | (with_reducible apply lNilThen)
      | (with_reducible apply lNilBlock)
      | (with_reducible apply lNil)
      | (with_reducible apply wp_seq)
      | (with_reducible apply wp_region_lit)
      | (with_reducible apply wp_block)
      | (with_reducible apply cExit)
      | (with_reducible apply cRet)
      | (with_reducible apply cSkip)
      | (with_reducible apply gThen)
      | (with_reducible apply gBlock)
      | (with_reducible apply eThen)
      | (with_reducible apply eBlockHit)
      | (with_reducible refine eBlock rfl ?_)
      | (with_reducible apply rThen)
      | (with_reducible apply rBlock)
      | ((with_reducible apply cCond); (first | refine cTrue hs rfl (by first | rfl | assumption | exact decide_eq_true (by omega) | exact decide_eq_false (by omega) | exact ndT (by omega) | exact ndF (by omega)) ?_ | refine cFalse hs rfl (by first | rfl | assumption | exact decide_eq_true (by omega) | exact decide_eq_false (by omega) | exact ndT (by omega) | exact ndF (by omega)) ?_))
      )
    exact gRet1 hs rfl rfl ⟨rfl, hm.fr⟩
theorem rsame_c (x y : An) (w : World) (hx : x.b.ok w) (hy : y.b.ok w) :
    Ret Try.prog 31 [x.v, y.v] w (fun v w' => v = .bool (sameB x y) ∧ Pu w w') := by
  obtain ⟨h1, b1⟩ := x
  obtain ⟨h2, b2⟩ := y
  refine enterR Try.func31 rfl rfl rfl fun a hs hm => ?_
  unfold sameB An.v An.cs at *
  cases h1 <;> cases h2
  all_goals
    repeat (first
      | ((with_reducible apply lCons); (first
          | (refine wv hs (by first | exact Wnt.none rfl | exact Wnt.some rfl rfl rfl rfl) rfl rfl (by (first | ((with_reducible apply kMove); first | exact r_move hs rfl rfl) | ((with_reducible apply kAssign); first | exact r_assign hs rfl rfl) | ((with_reducible apply kLoad); first | exact r_load hs rfl rfl tab rfl rfl (by first | exact hm.cl (by repeat (first | exact List.Mem.head _ | apply List.Mem.tail)) (by first | rfl | assumption) | exact Ro.cl (by assumption) hm (by first | exact (fun t => t) | assumption) (by first | rfl | assumption)) | exact r_loadO hs rfl rfl tab rfl rfl rfl hm (by repeat (first | exact List.Mem.head _ | apply List.Mem.tail)) (by rfl) | exact r_loadA hs rfl rfl tab rfl rfl (Ro.ro (by assumption) hm (by first | exact (fun t => t) | assumption)) rfl) | ((with_reducible apply kField); first | exact r_fieldAddr hs rfl rfl tab rfl rfl rfl rfl rfl) | ((with_reducible apply kIx); first | exact r_ix01 hs rfl rfl rfl tab rfl rfl rfl rfl (by omega) | exact r_ix0 hs rfl rfl rfl tab rfl rfl rfl (by omega) | exact r_ix1 hs rfl rfl rfl tab rfl rfl rfl rfl (by omega) | exact r_ix hs rfl rfl rfl tab rfl rfl rfl (by omega) | exact r_ixa1 hs rfl rfl rfl tab rfl rfl rfl rfl (by omega) | exact r_ixa hs rfl rfl rfl tab rfl rfl rfl (by omega) | exact r_ix01l hs rfl rfl rfl rfl tab rfl rfl rfl rfl (by omega) | exact r_ix0l hs rfl rfl rfl rfl tab rfl rfl rfl (by omega) | exact r_ix1l hs rfl rfl rfl rfl tab rfl rfl rfl rfl (by omega) | exact r_ixl hs rfl rfl rfl rfl tab rfl rfl rfl (by omega) | exact r_ixa1l hs rfl rfl rfl rfl tab rfl rfl rfl rfl (by omega) | exact r_ixal hs rfl rfl rfl rfl tab rfl rfl rfl (by omega)) | ((with_reducible apply kBin); first | exact r_T (r_lss hs rfl rfl rfl) (by omega) | exact r_F (r_lss hs rfl rfl rfl) (by omega) | exact r_T (r_eql hs rfl rfl rfl) (by omega) | exact r_F (r_eql hs rfl rfl rfl) (by omega) | exact r_T (r_leq hs rfl rfl rfl) (by omega) | exact r_F (r_leq hs rfl rfl rfl) (by omega) | exact r_T (r_gtr hs rfl rfl rfl) (by omega) | exact r_F (r_gtr hs rfl rfl rfl) (by omega) | exact r_T (r_geq hs rfl rfl rfl) (by omega) | exact r_F (r_geq hs rfl rfl rfl) (by omega) | exact r_nT (r_neq hs rfl rfl rfl) (by omega) | exact r_nF (r_neq hs rfl rfl rfl) (by omega) | exact r_addH hs rfl rfl rfl (by assumption) (by omega) | exact r_subH hs rfl rfl rfl (by assumption) (by omega) | exact r_mulH hs rfl rfl rfl (by assumption) (by omega) | exact r_pred hs rfl rfl rfl (by omega) | exact r_lss hs rfl rfl rfl | exact r_add64 hs rfl rfl rfl (by omega) | exact r_sub64 hs rfl rfl rfl (by omega) | exact r_eql hs rfl rfl rfl | exact r_neq hs rfl rfl rfl | exact r_leq hs rfl rfl rfl | exact r_gtr hs rfl rfl rfl | exact r_geq hs rfl rfl rfl | exact r_eqlB hs rfl rfl rfl tab rfl rfl | exact r_neqB hs rfl rfl rfl tab rfl rfl | exact r_mul64 hs rfl rfl rfl (by omega) | exact r_quo64 hs rfl rfl rfl (by omega) (by omega) | exact r_rem64 hs rfl rfl rfl (by omega) (by omega) | exact r_seql hs rfl rfl rfl | exact r_sneq hs rfl rfl rfl | exact r_eqnil hs rfl rfl rfl tab rfl rfl | exact r_neqnil hs rfl rfl rfl tab rfl rfl | exact r_and hs rfl rfl rfl | exact r_or hs rfl rfl rfl | exact r_xor hs rfl rfl rfl | exact r_add hs rfl rfl rfl | exact r_sub hs rfl rfl rfl | exact r_mul hs rfl rfl rfl) | ((with_reducible apply kUn); first | exact r_not hs rfl rfl | exact r_neg64 hs rfl rfl (by omega)) | ((with_reducible apply kCall); first | exact r_len hs rfl rfl rfl tab rfl rfl | exact r_slen hs rfl rfl rfl tab rfl rfl | exact r_min hs rfl rfl rfl | exact r_max hs rfl rfl rfl) | ((with_reducible apply kPick); first | exact r_pickT hs rfl rfl rfl | exact r_pickF hs rfl rfl rfl | exact r_pick hs rfl rfl rfl rfl) | ((with_reducible apply kBuild); first | exact r_build hs rfl tab rfl rfl rfl rfl rfl rfl | exact r_buildA hs rfl tab rfl rfl rfl rfl rfl rfl) | ((with_reducible apply kConv); first | exact r_conv hs rfl rfl tab rfl rfl rfl | exact r_b2s hs rfl rfl tab rfl rfl rfl rfl rfl rfl (by first | exact Fr.rd' hm.fr (by assumption) | exact Mm.rd_row hm (by repeat (first | exact List.Mem.head _ | apply List.Mem.tail)) (by assumption)) (by assumption)) | ((with_reducible apply kFunc); first | exact r_makeFunc hs rfl rfl rfl) | ((with_reducible apply kExt); first | exact r_extract hs rfl rfl rfl) | ((with_reducible apply kNil); first | exact r_nilCheck hs rfl rfl | exact r_nilCheckF hs rfl rfl rfl) | ((with_reducible apply kFld); first | exact r_field hs rfl rfl tab rfl rfl rfl rfl rfl rfl) | ((with_reducible apply kSlice); first | exact r_sliceArr hs rfl rfl tab rfl rfl rfl | exact r_sliceArrTo hs rfl rfl rfl tab rfl rfl rfl (by omega) (by omega) | exact r_sliceTo hs rfl rfl rfl tab rfl rfl rfl (by omega) (by omega) | exact r_sliceFrom hs rfl rfl rfl tab rfl rfl rfl (by omega) (by omega)))) ?_; clear hs a; intro a hs)
          | (refine dv hs (by first | exact Wnt.none rfl | exact Wnt.some rfl rfl rfl rfl) rfl rfl (by first | exact d_buildSlice0 rfl tab rfl rfl rfl hm | exact d_alloc rfl tab rfl rfl hm | exact d_box hs rfl rfl rfl hm | exact d_buildSlice hs rfl tab rfl rfl rfl rfl rfl rfl rfl rfl rfl hm | exact d_makeSlice hs rfl rfl rfl tab rfl rfl rfl rfl rfl (by omega) rfl hm) ?_; clear hs hm a; rintro _ w ⟨g, rfl, -, hm⟩ a hs)
          | (refine stn hs rfl rfl (by first | exact d_store hs rfl rfl rfl tab rfl rfl rfl rfl hm (by repeat (first | exact Rep.head _ _ _ | apply Rep.tail)) (by rfl) | exact d_store1 hs rfl rfl rfl tab rfl rfl rfl rfl hm (by repeat (first | exact Rep.head _ _ _ | apply Rep.tail)) (by first | omega | assumption | (simp; omega))) ?_; clear hs hm a; rintro - w hm a hs)
          | (refine sno hs rfl rfl rfl rfl rfl rfl rfl ?_; clear hs a; intro a hs)
          | (refine snu hs rfl rfl rfl rfl rfl rfl ?_; clear hs a; intro a hs)
          | (refine dv hs (by first | exact Wnt.none rfl | exact Wnt.some rfl rfl rfl rfl) rfl rfl (d_call hs rfl rfl rfl (pl 25 rfl) (rbytes_c _ _ _ (BS.ok.pu (by assumption) hm.fr) (BS.ok.pu (by assumption) hm.fr))) ?_; clear hs a; rintro _ w ⟨rfl, hf⟩ a hs; replace hm := hm.pu hf; clear hf)
          ))
      | (with_reducible apply lNilThen)
      | (with_reducible apply lNilBlock)
      | (with_reducible apply lNil)
      | (with_reducible apply wp_seq)
      | (with_reducible apply wp_region_lit)
      | (with_reducible apply wp_block)
      | (with_reducible apply cExit)
      | (with_reducible apply cRet)
      | (with_reducible apply cSkip)
      | (with_reducible apply gThen)
      | (with_reducible apply gBlock)
      | (with_reducible apply eThen)
      | (with_reducible apply eBlockHit)
      | (with_reducible refine eBlock rfl ?_)
      | (with_reducible apply rThen)
      | (with_reducible apply rBlock)
      | ((with_reducible apply cCond); (first | refine cTrue hs rfl (by first | rfl | assumption | exact decide_eq_true (by omega) | exact decide_eq_false (by omega) | exact ndT (by omega) | exact ndF (by omega)) ?_ | refine cFalse hs rfl (by first | rfl | assumption | exact decide_eq_true (by omega) | exact decide_eq_false (by omega) | exact ndT (by omega) | exact ndF (by omega)) ?_))
      )
    exact gRet1 hs rfl rfl ⟨rfl, hm.fr⟩
end Go.Proofs.Ytoojckkmalfimaa
