/- The reference's Same: are verdicts equal. -/
import Derived.Test.YtoojckkmalfimaaVot9
namespace Go.Proofs.Ytoojckkmalfimaa
open Go.RowKit

theorem sameV_c (x y : VS) (w : World) (hx : x.ok w) (hy : y.ok w) (h : x.abs = y.abs) :
    Ret Try.prog 11 [x.v, y.v] w (fun v w' => v = .bool true ∧ Pu w w') := by
  obtain ⟨k, b, m⟩ := x
  obtain ⟨k', b', m'⟩ := y
  simp only [VS.abs, Prod.mk.injEq] at h
  obtain ⟨rfl, h1, h2⟩ := h
  have hc1 := fun w'' (hf : Pu w w'') => rbytes_c b b' w'' (hx.b.pu hf) (hy.b.pu hf)
  have hn : m.n ≤ 5 := hx.n
  have hc2 := fun w'' (hf : Pu w w'') => sameInts_c m m' w'' (hx.m.pu hf) (hy.m.pu hf) (by omega)
  rw [decide_eq_true h1] at hc1
  rw [decide_eq_true h2] at hc2
  unfold VS.v BS.v IS.v at *
  dsimp only at *
  refine enterR Try.func11 rfl rfl rfl fun a hs hm => ?_
  repeat (first
    | ((with_reducible refine toL hm ?_); (first
        | refine oneV hs (by first | exact Wnt.none rfl | exact Wnt.some rfl rfl rfl rfl) rfl rfl (by intro w hm; (first | exact r_val hs tab rfl | exact r_load hs rfl rfl tab rfl rfl (by first | exact hm.cl (by repeat (first | exact mH | apply mT)) (by first | rfl | assumption) | exact Ro.cl (by assumption) hm (by first | exact (fun t => t) | assumption) (by first | rfl | assumption) | exact Ro.cl0 (by assumption) hm (by first | exact (fun t => t) | assumption) (by first | rfl | assumption)) | exact r_loadO hs rfl rfl tab rfl rfl rfl hm (by repeat (first | exact mH | apply mT)) (by rfl) | exact r_loadA hs rfl rfl tab rfl rfl (Ro.ro (by assumption) hm (by first | exact (fun t => t) | assumption)) rfl | exact r_iz hs tab rfl rfl (by omega) | exact r_iy hs tab rfl rfl (by omega) | exact r_cT hs rfl (by omega) | exact r_cF hs rfl (by omega) | exact r_arH hs rfl (by assumption) (by omega) | exact r_ar hs rfl (by omega) | exact r_bi hs rfl | exact r_pick hs rfl rfl rfl rfl)) ?_
        | refine oneN hs rfl rfl rfl rfl rfl rfl rfl ?_
        | refine oneU hs rfl rfl rfl rfl rfl rfl ?_); clear hs a; intro a hs)
    | ((with_reducible apply lCons); (first
        | (refine dv hs (by first | exact Wnt.none rfl | exact Wnt.some rfl rfl rfl rfl) rfl rfl (by first | exact d_alloc rfl tab rfl rfl hm | exact d_box hs rfl rfl rfl hm | exact d_buildSlice0 rfl tab rfl rfl rfl hm | exact d_buildSlice hs rfl tab rfl rfl rfl rfl rfl rfl rfl rfl rfl hm) ?_; clear hs hm a; rintro _ w ⟨g, rfl, -, hm⟩ a hs)
        | (refine stn hs rfl rfl (by first | exact d_store hs rfl rfl rfl tab rfl rfl rfl rfl hm (by repeat (first | exact Rep.head _ _ _ | apply Rep.tail)) (by rfl) | exact d_store1 hs rfl rfl rfl tab rfl rfl rfl rfl hm (by repeat (first | exact Rep.head _ _ _ | apply Rep.tail)) (by first | omega | assumption | (simp; omega))) ?_; clear hs hm a; rintro - w hm a hs)
        | (refine dv hs (by first | exact Wnt.none rfl | exact Wnt.some rfl rfl rfl rfl) rfl rfl (d_call hs rfl rfl rfl (pl 25 rfl) (hc1 _ hm.fr)) ?_; clear hs a; rintro _ w ⟨rfl, hf⟩ a hs; replace hm := hm.pu hf; clear hf)
        | (refine dv hs (by first | exact Wnt.none rfl | exact Wnt.some rfl rfl rfl rfl) rfl rfl (d_call hs rfl rfl rfl (pl 17 rfl) (hc2 _ hm.fr)) ?_; clear hs a; rintro _ w ⟨rfl, hf⟩ a hs; replace hm := hm.pu hf; clear hf)
        ))
    | (with_reducible first | apply lNilThen | apply lNilBlock | apply lNil | apply wp_seq | apply wp_region_lit | apply wp_block | apply cExit | apply cRet | apply cSkip | apply gThen | apply gBlock | apply eThen | apply eBlockHit | refine eBlock rfl ?_ | apply rThen | apply rBlock)
    | ((with_reducible apply cCond); (first | refine cTrue hs rfl (by first | rfl | assumption | exact decide_eq_true (by omega) | exact decide_eq_false (by omega) | exact ndT (by omega) | exact ndF (by omega)) ?_ | refine cFalse hs rfl (by first | rfl | assumption | exact decide_eq_true (by omega) | exact decide_eq_false (by omega) | exact ndT (by omega) | exact ndF (by omega)) ?_))
    )
  exact gRet1 hs rfl rfl ⟨rfl, hm.fr⟩
end Go.Proofs.Ytoojckkmalfimaa
