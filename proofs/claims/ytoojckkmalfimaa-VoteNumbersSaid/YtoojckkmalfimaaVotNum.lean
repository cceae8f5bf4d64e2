/- VoteNumbers: the walk. -/
import Derived.Test.YtoojckkmalfimaaVot9
namespace Go.Proofs.Ytoojckkmalfimaa
open Go.RowKit

set_option maxHeartbeats 16000000 in
theorem num_c (x y : Int) (w : World) (hx : 0 ≤ x ∧ x ≤ 255) (hy : 0 ≤ y ∧ y ≤ 255) :
    Ret Try.prog 7 [.int .u8 x, .int .u8 y] w (fun v w' => v = .bool true ∧ Pu w w') := by
  have hwx : IntKind.i64.wrap x = x := by simp [IntKind.wrap, IntKind.bits, IntKind.signed]; omega
  have hwy : IntKind.i64.wrap y = y := by simp [IntKind.wrap, IntKind.bits, IntKind.signed]; omega
  have n0 := fun w => needed_c 0 w
  rw [show neededF 0 = 0 by decide] at n0
  have b0 := fun w => bears_c 0 w
  rw [show bearsF 0 = 0 by decide] at b0
  have n1 := fun w => needed_c 1 w
  rw [show neededF 1 = 1 by decide] at n1
  have b1 := fun w => bears_c 1 w
  rw [show bearsF 1 = 0 by decide] at b1
  have n2 := fun w => needed_c 2 w
  rw [show neededF 2 = 2 by decide] at n2
  have b2 := fun w => bears_c 2 w
  rw [show bearsF 2 = 0 by decide] at b2
  have n3 := fun w => needed_c 3 w
  rw [show neededF 3 = 2 by decide] at n3
  have b3 := fun w => bears_c 3 w
  rw [show bearsF 3 = 1 by decide] at b3
  have n4 := fun w => needed_c 4 w
  rw [show neededF 4 = 3 by decide] at n4
  have b4 := fun w => bears_c 4 w
  rw [show bearsF 4 = 1 by decide] at b4
  have n5 := fun w => needed_c 5 w
  rw [show neededF 5 = 3 by decide] at n5
  have b5 := fun w => bears_c 5 w
  rw [show bearsF 5 = 2 by decide] at b5
  have n6 := fun w => needed_c 6 w
  rw [show neededF 6 = 0 by decide] at n6
  have b6 := fun w => bears_c 6 w
  rw [show bearsF 6 = 0 by decide] at b6
  refine enterR Try.func7 rfl rfl rfl fun a hs hm => ?_
  repeat (first
    | ((with_reducible apply lCons); (first
        | (refine wv hs (by first | exact Wnt.none rfl | exact Wnt.some rfl rfl rfl rfl) rfl rfl (by (first | ((with_reducible apply kMove); first | exact r_move hs rfl rfl) | ((with_reducible apply kAssign); first | exact r_assign hs rfl rfl) | ((with_reducible apply kLoad); first | exact r_load hs rfl rfl tab rfl rfl (by first | exact hm.cl (by repeat (first | exact List.Mem.head _ | apply List.Mem.tail)) (by first | rfl | assumption) | exact Ro.cl (by assumption) hm (by first | exact (fun t => t) | assumption) (by first | rfl | assumption)) | exact r_loadO hs rfl rfl tab rfl rfl rfl hm (by repeat (first | exact List.Mem.head _ | apply List.Mem.tail)) (by rfl) | exact r_loadA hs rfl rfl tab rfl rfl (Ro.ro (by assumption) hm (by first | exact (fun t => t) | assumption)) rfl) | ((with_reducible apply kField); first | exact r_fieldAddr hs rfl rfl tab rfl rfl rfl rfl rfl) | ((with_reducible apply kIx); first | exact r_ix01 hs rfl rfl rfl tab rfl rfl rfl rfl (by omega) | exact r_ix0 hs rfl rfl rfl tab rfl rfl rfl (by omega) | exact r_ix1 hs rfl rfl rfl tab rfl rfl rfl rfl (by omega) | exact r_ix hs rfl rfl rfl tab rfl rfl rfl (by omega) | exact r_ixa1 hs rfl rfl rfl tab rfl rfl rfl rfl (by omega) | exact r_ixa hs rfl rfl rfl tab rfl rfl rfl (by omega) | exact r_ix01l hs rfl rfl rfl rfl tab rfl rfl rfl rfl (by omega) | exact r_ix0l hs rfl rfl rfl rfl tab rfl rfl rfl (by omega) | exact r_ix1l hs rfl rfl rfl rfl tab rfl rfl rfl rfl (by omega) | exact r_ixl hs rfl rfl rfl rfl tab rfl rfl rfl (by omega) | exact r_ixa1l hs rfl rfl rfl rfl tab rfl rfl rfl rfl (by omega) | exact r_ixal hs rfl rfl rfl rfl tab rfl rfl rfl (by omega)) | ((with_reducible apply kBin); first | exact r_T (r_lss hs rfl rfl rfl) (by omega) | exact r_F (r_lss hs rfl rfl rfl) (by omega) | exact r_T (r_eql hs rfl rfl rfl) (by omega) | exact r_F (r_eql hs rfl rfl rfl) (by omega) | exact r_T (r_leq hs rfl rfl rfl) (by omega) | exact r_F (r_leq hs rfl rfl rfl) (by omega) | exact r_T (r_gtr hs rfl rfl rfl) (by omega) | exact r_F (r_gtr hs rfl rfl rfl) (by omega) | exact r_T (r_geq hs rfl rfl rfl) (by omega) | exact r_F (r_geq hs rfl rfl rfl) (by omega) | exact r_nT (r_neq hs rfl rfl rfl) (by omega) | exact r_nF (r_neq hs rfl rfl rfl) (by omega) | exact r_addH hs rfl rfl rfl (by assumption) (by omega) | exact r_subH hs rfl rfl rfl (by assumption) (by omega) | exact r_mulH hs rfl rfl rfl (by assumption) (by omega) | exact r_pred hs rfl rfl rfl (by omega) | exact r_lss hs rfl rfl rfl | exact r_add64 hs rfl rfl rfl (by omega) | exact r_sub64 hs rfl rfl rfl (by omega) | exact r_eql hs rfl rfl rfl | exact r_neq hs rfl rfl rfl | exact r_leq hs rfl rfl rfl | exact r_gtr hs rfl rfl rfl | exact r_geq hs rfl rfl rfl | exact r_eqlB hs rfl rfl rfl tab rfl rfl | exact r_neqB hs rfl rfl rfl tab rfl rfl | exact r_mul64 hs rfl rfl rfl (by omega) | exact r_quo64 hs rfl rfl rfl (by omega) (by omega) | exact r_rem64 hs rfl rfl rfl (by omega) (by omega) | exact r_seql hs rfl rfl rfl | exact r_sneq hs rfl rfl rfl | exact r_eqnil hs rfl rfl rfl tab rfl rfl | exact r_neqnil hs rfl rfl rfl tab rfl rfl | exact r_and hs rfl rfl rfl | exact r_or hs rfl rfl rfl | exact r_xor hs rfl rfl rfl | exact r_add hs rfl rfl rfl | exact r_sub hs rfl rfl rfl | exact r_mul hs rfl rfl rfl) | ((with_reducible apply kUn); first | exact r_not hs rfl rfl | exact r_neg64 hs rfl rfl (by omega)) | ((with_reducible apply kCall); first | exact r_len hs rfl rfl rfl tab rfl rfl | exact r_slen hs rfl rfl rfl tab rfl rfl | exact r_min hs rfl rfl rfl | exact r_max hs rfl rfl rfl) | ((with_reducible apply kPick); first | exact r_pickT hs rfl rfl rfl | exact r_pickF hs rfl rfl rfl | exact r_pick hs rfl rfl rfl rfl) | ((with_reducible apply kBuild); first | exact r_build hs rfl tab rfl rfl rfl rfl rfl rfl | exact r_buildA hs rfl tab rfl rfl rfl rfl rfl rfl) | ((with_reducible apply kConv); first | exact r_conv hs rfl rfl tab rfl rfl rfl | exact r_b2s hs rfl rfl tab rfl rfl rfl rfl rfl rfl (by first | exact Fr.rd' hm.fr (by assumption) | exact Mm.rd_row hm (by repeat (first | exact List.Mem.head _ | apply List.Mem.tail)) (by assumption)) (by assumption)) | ((with_reducible apply kFunc); first | exact r_makeFunc hs rfl rfl rfl) | ((with_reducible apply kExt); first | exact r_extract hs rfl rfl rfl) | ((with_reducible apply kNil); first | exact r_nilCheck hs rfl rfl | exact r_nilCheckF hs rfl rfl rfl) | ((with_reducible apply kFld); first | exact r_field hs rfl rfl tab rfl rfl rfl rfl rfl rfl) | ((with_reducible apply kSlice); first | exact r_sliceArr hs rfl rfl tab rfl rfl rfl | exact r_sliceArrTo hs rfl rfl rfl tab rfl rfl rfl (by omega) (by omega) | exact r_sliceTo hs rfl rfl rfl tab rfl rfl rfl (by omega) (by omega) | exact r_sliceFrom hs rfl rfl rfl tab rfl rfl rfl (by omega) (by omega)))) ?_; clear hs a; intro a hs)
        | (refine dv hs (by first | exact Wnt.none rfl | exact Wnt.some rfl rfl rfl rfl) rfl rfl (by first | exact d_buildSlice0 rfl tab rfl rfl rfl hm | exact d_alloc rfl tab rfl rfl hm | exact d_box hs rfl rfl rfl hm | exact d_buildSlice hs rfl tab rfl rfl rfl rfl rfl rfl rfl rfl rfl hm | exact d_makeSlice hs rfl rfl rfl tab rfl rfl rfl rfl rfl (by omega) rfl hm) ?_; clear hs hm a; rintro _ w ⟨g, rfl, -, hm⟩ a hs)
        | (refine stn hs rfl rfl (by first | exact d_store hs rfl rfl rfl tab rfl rfl rfl rfl hm (by repeat (first | exact Rep.head _ _ _ | apply Rep.tail)) (by rfl) | exact d_store1 hs rfl rfl rfl tab rfl rfl rfl rfl hm (by repeat (first | exact Rep.head _ _ _ | apply Rep.tail)) (by first | omega | assumption | (simp; omega))) ?_; clear hs hm a; rintro - w hm a hs)
        | (refine sno hs rfl rfl rfl rfl rfl rfl rfl ?_; clear hs a; intro a hs)
        | (refine snu hs rfl rfl rfl rfl rfl rfl ?_; clear hs a; intro a hs)
        ))
    | (with_reducible apply lNilThen)
    | (with_reducible apply lNilBlock)
    | (with_reducible apply lNil)
    | (with_reducible apply wp_seq)
    | (with_reducible apply wp_region_lit)
    | (with_reducible apply wp_block)
    | (with_reducible apply cExit)
    | (with_reducible apply cRet)
    | (with_reducible apply cSkip)
    | (with_reducible apply gThen)
    | (with_reducible apply gBlock)
    | (with_reducible apply eThen)
    | (with_reducible apply eBlockHit)
    | (with_reducible refine eBlock rfl ?_)
    | (with_reducible apply rThen)
    | (with_reducible apply rBlock)
    | ((with_reducible apply cCond); (first | refine cTrue hs rfl (by first | rfl | assumption | exact decide_eq_true (by omega) | exact decide_eq_false (by omega) | exact ndT (by omega) | exact ndF (by omega)) ?_ | refine cFalse hs rfl (by first | rfl | assumption | exact decide_eq_true (by omega) | exact decide_eq_false (by omega) | exact ndT (by omega) | exact ndF (by omega)) ?_))
    )
  obtain ⟨n, hn⟩ : ∃ n : Int, 1 + IntKind.i64.wrap x % 5 = n := ⟨_, rfl⟩
  rw [hn] at hs
  obtain ⟨q, hq⟩ : ∃ q : Int, IntKind.i64.wrap y % (n + 1) = q := ⟨_, rfl⟩
  rw [hq] at hs
  have hn1 : 1 ≤ n ∧ n ≤ 5 := by omega
  have hq0 := Int.emod_nonneg (IntKind.i64.wrap y) (b := n + 1) (by omega)
  have hq1 := Int.emod_lt_of_pos (IntKind.i64.wrap y) (b := n + 1) (by omega)
  rw [hq] at hq0 hq1
  clear hq hn hwx hwy
  rcases (by omega : n = 1 ∨ n = 2 ∨ n = 3 ∨ n = 4 ∨ n = 5) with rfl | rfl | rfl | rfl | rfl
  all_goals rcases (by omega : q = 0 ∨ q = 1 ∨ q = 2 ∨ q = 3 ∨ q = 4 ∨ q = 5) with rfl | rfl | rfl | rfl | rfl | rfl
  all_goals first
    | (exfalso; omega)
    | skip
  all_goals
    repeat (first
      | ((with_reducible apply lCons); (first
          | (refine wv hs (by first | exact Wnt.none rfl | exact Wnt.some rfl rfl rfl rfl) rfl rfl (by (first | ((with_reducible apply kMove); first | exact r_move hs rfl rfl) | ((with_reducible apply kAssign); first | exact r_assign hs rfl rfl) | ((with_reducible apply kLoad); first | exact r_load hs rfl rfl tab rfl rfl (by first | exact hm.cl (by repeat (first | exact List.Mem.head _ | apply List.Mem.tail)) (by first | rfl | assumption) | exact Ro.cl (by assumption) hm (by first | exact (fun t => t) | assumption) (by first | rfl | assumption)) | exact r_loadO hs rfl rfl tab rfl rfl rfl hm (by repeat (first | exact List.Mem.head _ | apply List.Mem.tail)) (by rfl) | exact r_loadA hs rfl rfl tab rfl rfl (Ro.ro (by assumption) hm (by first | exact (fun t => t) | assumption)) rfl) | ((with_reducible apply kField); first | exact r_fieldAddr hs rfl rfl tab rfl rfl rfl rfl rfl) | ((with_reducible apply kIx); first | exact r_ix01 hs rfl rfl rfl tab rfl rfl rfl rfl (by omega) | exact r_ix0 hs rfl rfl rfl tab rfl rfl rfl (by omega) | exact r_ix1 hs rfl rfl rfl tab rfl rfl rfl rfl (by omega) | exact r_ix hs rfl rfl rfl tab rfl rfl rfl (by omega) | exact r_ixa1 hs rfl rfl rfl tab rfl rfl rfl rfl (by omega) | exact r_ixa hs rfl rfl rfl tab rfl rfl rfl (by omega) | exact r_ix01l hs rfl rfl rfl rfl tab rfl rfl rfl rfl (by omega) | exact r_ix0l hs rfl rfl rfl rfl tab rfl rfl rfl (by omega) | exact r_ix1l hs rfl rfl rfl rfl tab rfl rfl rfl rfl (by omega) | exact r_ixl hs rfl rfl rfl rfl tab rfl rfl rfl (by omega) | exact r_ixa1l hs rfl rfl rfl rfl tab rfl rfl rfl rfl (by omega) | exact r_ixal hs rfl rfl rfl rfl tab rfl rfl rfl (by omega)) | ((with_reducible apply kBin); first | exact r_T (r_lss hs rfl rfl rfl) (by omega) | exact r_F (r_lss hs rfl rfl rfl) (by omega) | exact r_T (r_eql hs rfl rfl rfl) (by omega) | exact r_F (r_eql hs rfl rfl rfl) (by omega) | exact r_T (r_leq hs rfl rfl rfl) (by omega) | exact r_F (r_leq hs rfl rfl rfl) (by omega) | exact r_T (r_gtr hs rfl rfl rfl) (by omega) | exact r_F (r_gtr hs rfl rfl rfl) (by omega) | exact r_T (r_geq hs rfl rfl rfl) (by omega) | exact r_F (r_geq hs rfl rfl rfl) (by omega) | exact r_nT (r_neq hs rfl rfl rfl) (by omega) | exact r_nF (r_neq hs rfl rfl rfl) (by omega) | exact r_addH hs rfl rfl rfl (by assumption) (by omega) | exact r_subH hs rfl rfl rfl (by assumption) (by omega) | exact r_mulH hs rfl rfl rfl (by assumption) (by omega) | exact r_pred hs rfl rfl rfl (by omega) | exact r_lss hs rfl rfl rfl | exact r_add64 hs rfl rfl rfl (by omega) | exact r_sub64 hs rfl rfl rfl (by omega) | exact r_eql hs rfl rfl rfl | exact r_neq hs rfl rfl rfl | exact r_leq hs rfl rfl rfl | exact r_gtr hs rfl rfl rfl | exact r_geq hs rfl rfl rfl | exact r_eqlB hs rfl rfl rfl tab rfl rfl | exact r_neqB hs rfl rfl rfl tab rfl rfl | exact r_mul64 hs rfl rfl rfl (by omega) | exact r_quo64 hs rfl rfl rfl (by omega) (by omega) | exact r_rem64 hs rfl rfl rfl (by omega) (by omega) | exact r_seql hs rfl rfl rfl | exact r_sneq hs rfl rfl rfl | exact r_eqnil hs rfl rfl rfl tab rfl rfl | exact r_neqnil hs rfl rfl rfl tab rfl rfl | exact r_and hs rfl rfl rfl | exact r_or hs rfl rfl rfl | exact r_xor hs rfl rfl rfl | exact r_add hs rfl rfl rfl | exact r_sub hs rfl rfl rfl | exact r_mul hs rfl rfl rfl) | ((with_reducible apply kUn); first | exact r_not hs rfl rfl | exact r_neg64 hs rfl rfl (by omega)) | ((with_reducible apply kCall); first | exact r_len hs rfl rfl rfl tab rfl rfl | exact r_slen hs rfl rfl rfl tab rfl rfl | exact r_min hs rfl rfl rfl | exact r_max hs rfl rfl rfl) | ((with_reducible apply kPick); first | exact r_pickT hs rfl rfl rfl | exact r_pickF hs rfl rfl rfl | exact r_pick hs rfl rfl rfl rfl) | ((with_reducible apply kBuild); first | exact r_build hs rfl tab rfl rfl rfl rfl rfl rfl | exact r_buildA hs rfl tab rfl rfl rfl rfl rfl rfl) | ((with_reducible apply kConv); first | exact r_conv hs rfl rfl tab rfl rfl rfl | exact r_b2s hs rfl rfl tab rfl rfl rfl rfl rfl rfl (by first | exact Fr.rd' hm.fr (by assumption) | exact Mm.rd_row hm (by repeat (first | exact List.Mem.head _ | apply List.Mem.tail)) (by assumption)) (by assumption)) | ((with_reducible apply kFunc); first | exact r_makeFunc hs rfl rfl rfl) | ((with_reducible apply kExt); first | exact r_extract hs rfl rfl rfl) | ((with_reducible apply kNil); first | exact r_nilCheck hs rfl rfl | exact r_nilCheckF hs rfl rfl rfl) | ((with_reducible apply kFld); first | exact r_field hs rfl rfl tab rfl rfl rfl rfl rfl rfl) | ((with_reducible apply kSlice); first | exact r_sliceArr hs rfl rfl tab rfl rfl rfl | exact r_sliceArrTo hs rfl rfl rfl tab rfl rfl rfl (by omega) (by omega) | exact r_sliceTo hs rfl rfl rfl tab rfl rfl rfl (by omega) (by omega) | exact r_sliceFrom hs rfl rfl rfl tab rfl rfl rfl (by omega) (by omega)))) ?_; clear hs a; intro a hs)
          | (refine dv hs (by first | exact Wnt.none rfl | exact Wnt.some rfl rfl rfl rfl) rfl rfl (by first | exact d_buildSlice0 rfl tab rfl rfl rfl hm | exact d_alloc rfl tab rfl rfl hm | exact d_box hs rfl rfl rfl hm | exact d_buildSlice hs rfl tab rfl rfl rfl rfl rfl rfl rfl rfl rfl hm | exact d_makeSlice hs rfl rfl rfl tab rfl rfl rfl rfl rfl (by omega) rfl hm) ?_; clear hs hm a; rintro _ w ⟨g, rfl, -, hm⟩ a hs)
          | (refine stn hs rfl rfl (by first | exact d_store hs rfl rfl rfl tab rfl rfl rfl rfl hm (by repeat (first | exact Rep.head _ _ _ | apply Rep.tail)) (by rfl) | exact d_store1 hs rfl rfl rfl tab rfl rfl rfl rfl hm (by repeat (first | exact Rep.head _ _ _ | apply Rep.tail)) (by first | omega | assumption | (simp; omega))) ?_; clear hs hm a; rintro - w hm a hs)
          | (refine sno hs rfl rfl rfl rfl rfl rfl rfl ?_; clear hs a; intro a hs)
          | (refine snu hs rfl rfl rfl rfl rfl rfl ?_; clear hs a; intro a hs)
          | (refine dv hs (by first | exact Wnt.none rfl | exact Wnt.some rfl rfl rfl rfl) rfl rfl (d_call hs rfl rfl rfl (pl 12 rfl) (n0 _)) ?_; clear hs a; rintro _ w ⟨rfl, hf⟩ a hs; replace hm := hm.pu hf; clear hf)
          | (refine dv hs (by first | exact Wnt.none rfl | exact Wnt.some rfl rfl rfl rfl) rfl rfl (d_call hs rfl rfl rfl (pl 12 rfl) (n1 _)) ?_; clear hs a; rintro _ w ⟨rfl, hf⟩ a hs; replace hm := hm.pu hf; clear hf)
          | (refine dv hs (by first | exact Wnt.none rfl | exact Wnt.some rfl rfl rfl rfl) rfl rfl (d_call hs rfl rfl rfl (pl 12 rfl) (n2 _)) ?_; clear hs a; rintro _ w ⟨rfl, hf⟩ a hs; replace hm := hm.pu hf; clear hf)
          | (refine dv hs (by first | exact Wnt.none rfl | exact Wnt.some rfl rfl rfl rfl) rfl rfl (d_call hs rfl rfl rfl (pl 12 rfl) (n3 _)) ?_; clear hs a; rintro _ w ⟨rfl, hf⟩ a hs; replace hm := hm.pu hf; clear hf)
          | (refine dv hs (by first | exact Wnt.none rfl | exact Wnt.some rfl rfl rfl rfl) rfl rfl (d_call hs rfl rfl rfl (pl 12 rfl) (n4 _)) ?_; clear hs a; rintro _ w ⟨rfl, hf⟩ a hs; replace hm := hm.pu hf; clear hf)
          | (refine dv hs (by first | exact Wnt.none rfl | exact Wnt.some rfl rfl rfl rfl) rfl rfl (d_call hs rfl rfl rfl (pl 12 rfl) (n5 _)) ?_; clear hs a; rintro _ w ⟨rfl, hf⟩ a hs; replace hm := hm.pu hf; clear hf)
          | (refine dv hs (by first | exact Wnt.none rfl | exact Wnt.some rfl rfl rfl rfl) rfl rfl (d_call hs rfl rfl rfl (pl 12 rfl) (n6 _)) ?_; clear hs a; rintro _ w ⟨rfl, hf⟩ a hs; replace hm := hm.pu hf; clear hf)
          | (refine dv hs (by first | exact Wnt.none rfl | exact Wnt.some rfl rfl rfl rfl) rfl rfl (d_call hs rfl rfl rfl (pl 14 rfl) (b0 _)) ?_; clear hs a; rintro _ w ⟨rfl, hf⟩ a hs; replace hm := hm.pu hf; clear hf)
          | (refine dv hs (by first | exact Wnt.none rfl | exact Wnt.some rfl rfl rfl rfl) rfl rfl (d_call hs rfl rfl rfl (pl 14 rfl) (b1 _)) ?_; clear hs a; rintro _ w ⟨rfl, hf⟩ a hs; replace hm := hm.pu hf; clear hf)
          | (refine dv hs (by first | exact Wnt.none rfl | exact Wnt.some rfl rfl rfl rfl) rfl rfl (d_call hs rfl rfl rfl (pl 14 rfl) (b2 _)) ?_; clear hs a; rintro _ w ⟨rfl, hf⟩ a hs; replace hm := hm.pu hf; clear hf)
          | (refine dv hs (by first | exact Wnt.none rfl | exact Wnt.some rfl rfl rfl rfl) rfl rfl (d_call hs rfl rfl rfl (pl 14 rfl) (b3 _)) ?_; clear hs a; rintro _ w ⟨rfl, hf⟩ a hs; replace hm := hm.pu hf; clear hf)
          | (refine dv hs (by first | exact Wnt.none rfl | exact Wnt.some rfl rfl rfl rfl) rfl rfl (d_call hs rfl rfl rfl (pl 14 rfl) (b4 _)) ?_; clear hs a; rintro _ w ⟨rfl, hf⟩ a hs; replace hm := hm.pu hf; clear hf)
          | (refine dv hs (by first | exact Wnt.none rfl | exact Wnt.some rfl rfl rfl rfl) rfl rfl (d_call hs rfl rfl rfl (pl 14 rfl) (b5 _)) ?_; clear hs a; rintro _ w ⟨rfl, hf⟩ a hs; replace hm := hm.pu hf; clear hf)
          | (refine dv hs (by first | exact Wnt.none rfl | exact Wnt.some rfl rfl rfl rfl) rfl rfl (d_call hs rfl rfl rfl (pl 14 rfl) (b6 _)) ?_; clear hs a; rintro _ w ⟨rfl, hf⟩ a hs; replace hm := hm.pu hf; clear hf)
          | (refine dv hs (by first | exact Wnt.none rfl | exact Wnt.some rfl rfl rfl rfl) rfl rfl (d_call hs rfl rfl rfl (pl 8 rfl) (vawake_c _)) ?_; clear hs a; rintro _ w ⟨rfl, hf⟩ a hs; replace hm := hm.pu hf; clear hf)
          ))
      | (with_reducible apply lNilThen)
      | (with_reducible apply lNilBlock)
      | (with_reducible apply lNil)
      | (with_reducible apply wp_seq)
      | (with_reducible apply wp_region_lit)
      | (with_reducible apply wp_block)
      | (with_reducible apply cExit)
      | (with_reducible apply cRet)
      | (with_reducible apply cSkip)
      | (with_reducible apply gThen)
      | (with_reducible apply gBlock)
      | (with_reducible apply eThen)
      | (with_reducible apply eBlockHit)
      | (with_reducible refine eBlock rfl ?_)
      | (with_reducible apply rThen)
      | (with_reducible apply rBlock)
      | ((with_reducible apply cCond); (first | refine cTrue hs rfl (by first | rfl | assumption | exact decide_eq_true (by omega) | exact decide_eq_false (by omega) | exact ndT (by omega) | exact ndF (by omega)) ?_ | refine cFalse hs rfl (by first | rfl | assumption | exact decide_eq_true (by omega) | exact decide_eq_false (by omega) | exact ndT (by omega) | exact ndF (by omega)) ?_))
      )
    exact gRet1 hs rfl rfl ⟨rfl, hm.fr⟩
end Go.Proofs.Ytoojckkmalfimaa
