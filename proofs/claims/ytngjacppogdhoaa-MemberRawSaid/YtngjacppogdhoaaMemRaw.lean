/- MemberRaw: the walk. -/
import Derived.Test.YtngjacppogdhoaaMem7
import Derived.Test.YtngjacppogdhoaaFlat
namespace Go.Proofs.Ytngjacppogdhoaa
open Go.RowKit Go.WideShapes

theorem choose_list {α β : Type} {f : β → List α} {Q : List α → Prop} : ∀ (rows : List (List α)), (∀ r ∈ rows, Q r) → (∀ r, Q r → ∃ x, r = f x) → ∃ xs : List β, rows = xs.map f
  | [], _, _ => ⟨[], rfl⟩
  | r :: t, h, k => by
    obtain ⟨x, rfl⟩ := k r (h r (List.mem_cons_self ..))
    obtain ⟨xs, rfl⟩ := choose_list t (fun r hr => h r (List.mem_cons_of_mem _ hr)) k
    exact ⟨x :: xs, rfl⟩
theorem ms_of {W : World} {A : Option Addr} {n c : Nat} {rows : List (List Value)} (h : IsRows [some .i64, some .i64, some .i64] W A n c rows) : ∃ y : MS, Value.slice A n c = y.v ∧ y.ok W ∧ y.n ≤ 9223372036854775807 := by
  obtain ⟨h1, h2, h3, h4, h5⟩ := h
  obtain ⟨l, rfl⟩ := choose_list (f := mcs) rows h5 (fun r hr => by
    obtain ⟨_, _, rfl, ⟨a, rfl, -⟩, q1⟩ := areCells_cons hr
    obtain ⟨_, _, rfl, ⟨b, rfl, -⟩, q2⟩ := areCells_cons q1
    obtain ⟨_, _, rfl, ⟨c, rfl, -⟩, q3⟩ := areCells_cons q2
    obtain rfl := areCells_nil q3
    exact ⟨(a, b, c), rfl⟩)
  exact ⟨⟨A, n, c, l⟩, rfl, ⟨by simpa using h1, by rw [← List.flatMap_def] at h4; exact h4⟩, by dsimp only; omega⟩
set_option maxHeartbeats 4000000 in
theorem mraw_c (x : MS) (rep at_ most n : Int) (w : World) (hx : x.ok w) (hn : x.n ≤ 9223372036854775807) :
    Ret Try.prog 3 [x.v, .int .i64 rep, .int .i64 at_, .int .i64 most, .int .i64 n] w (fun v w' => v = .bool true ∧ Pu w w') := by
  have h1 := fun w => new_c n w
  have h2 := fun w => rnew_c n w
  have hag := fun w'' (hf : Pu w w'') (h : x.n ≤ 1048576) => agree_c x rep at_ most w'' (hx.pu hf) h
  have hne : (newF n).1.length ≤ 5 := by
    unfold newF
    split
    · simp; omega
    · simp
  generalize newF n = R at *
  obtain ⟨A, m, c, l⟩ := x
  unfold MS.v at *
  dsimp only at *
  refine enterR Try.func3 rfl rfl rfl fun a hs hm => ?_
  repeat (first
    | ((with_reducible refine toL hm ?_); (first
        | refine oneV hs (by first | exact Wnt.none rfl | exact Wnt.some rfl rfl rfl rfl) rfl rfl (by intro w hm; (first | exact r_val hs tab rfl | ((with_reducible apply kLoad); first | exact r_load hs rfl rfl tab rfl rfl (by first | exact hm.cl (by repeat (first | exact mH | apply mT)) (by first | rfl | assumption) | exact Ro.cl (by assumption) hm (by first | exact (fun t => t) | assumption) (by first | rfl | assumption) | exact Ro.cl0 (by assumption) hm (by first | exact (fun t => t) | assumption) (by first | rfl | assumption)) | exact r_loadO hs rfl rfl tab rfl rfl rfl hm (by repeat (first | exact mH | apply mT)) (by rfl) | exact r_loadA hs rfl rfl tab rfl rfl (Ro.ro (by assumption) hm (by first | exact (fun t => t) | assumption)) rfl) | exact r_iz hs tab rfl rfl (by omega) | exact r_iy hs tab rfl rfl (by omega) | exact r_cT hs rfl (by omega) | exact r_cF hs rfl (by omega) | exact r_arH hs rfl (by assumption) (by omega) | exact r_ar hs rfl (by omega) | exact r_bi hs rfl | exact r_pick hs rfl rfl rfl rfl)) ?_
        | refine oneN hs rfl rfl rfl rfl rfl rfl rfl ?_
        | refine oneU hs rfl rfl rfl rfl rfl rfl ?_); clear hs a; intro a hs)
    | ((with_reducible apply lCons); (first
        | (refine dv hs (by first | exact Wnt.none rfl | exact Wnt.some rfl rfl rfl rfl) rfl rfl (by first | exact d_alloc rfl tab rfl rfl hm | exact d_box hs rfl rfl rfl hm | exact d_buildSlice0 rfl tab rfl rfl rfl hm | exact d_buildSlice hs rfl tab rfl rfl rfl rfl rfl rfl rfl rfl rfl hm) ?_; clear hs hm a; rintro _ w ⟨g, rfl, -, hm⟩ a hs)
        | (refine stn hs rfl rfl (by first | exact d_store hs rfl rfl rfl tab rfl rfl rfl rfl hm (by repeat (first | exact Rep.head _ _ _ | apply Rep.tail)) (by rfl) | exact d_store1 hs rfl rfl rfl tab rfl rfl rfl rfl hm (by repeat (first | exact Rep.head _ _ _ | apply Rep.tail)) (by first | omega | assumption | (simp; omega))) ?_; clear hs hm a; rintro - w hm a hs)
        ))
    | (with_reducible first | apply lNilThen | apply lNilBlock | apply lNil | apply wp_seq | apply wp_region_lit | apply wp_block | apply cExit | apply cRet | apply cSkip | apply gThen | apply gBlock | apply eThen | apply eBlockHit | refine eBlock rfl ?_ | apply rThen | apply rBlock)
    | ((with_reducible apply cCond); (first | refine cTrue hs rfl (by first | rfl | assumption | exact decide_eq_true (by omega) | exact decide_eq_false (by omega) | exact ndT (by omega) | exact ndF (by omega)) ?_ | refine cFalse hs rfl (by first | rfl | assumption | exact decide_eq_true (by omega) | exact decide_eq_false (by omega) | exact ndT (by omega) | exact ndF (by omega)) ?_))
    )
  refine st hs rfl rfl rfl (d_call hs rfl rfl rfl (pl 6 rfl) ((h1 _))) ?_; clear hs a; rintro _ w1 ⟨u, rfl, hu, hul, hun, hf⟩ a hs
  replace hm := hm.pu hf
  clear hf
  repeat (first
    | ((with_reducible refine toL hm ?_); (first
        | refine oneV hs (by first | exact Wnt.none rfl | exact Wnt.some rfl rfl rfl rfl) rfl rfl (by intro w hm; (first | exact r_val hs tab rfl | ((with_reducible apply kLoad); first | exact r_load hs rfl rfl tab rfl rfl (by first | exact hm.cl (by repeat (first | exact mH | apply mT)) (by first | rfl | assumption) | exact Ro.cl (by assumption) hm (by first | exact (fun t => t) | assumption) (by first | rfl | assumption) | exact Ro.cl0 (by assumption) hm (by first | exact (fun t => t) | assumption) (by first | rfl | assumption)) | exact r_loadO hs rfl rfl tab rfl rfl rfl hm (by repeat (first | exact mH | apply mT)) (by rfl) | exact r_loadA hs rfl rfl tab rfl rfl (Ro.ro (by assumption) hm (by first | exact (fun t => t) | assumption)) rfl) | exact r_iz hs tab rfl rfl (by omega) | exact r_iy hs tab rfl rfl (by omega) | exact r_cT hs rfl (by omega) | exact r_cF hs rfl (by omega) | exact r_arH hs rfl (by assumption) (by omega) | exact r_ar hs rfl (by omega) | exact r_bi hs rfl | exact r_pick hs rfl rfl rfl rfl)) ?_
        | refine oneN hs rfl rfl rfl rfl rfl rfl rfl ?_
        | refine oneU hs rfl rfl rfl rfl rfl rfl ?_); clear hs a; intro a hs)
    | ((with_reducible apply lCons); (first
        | (refine dv hs (by first | exact Wnt.none rfl | exact Wnt.some rfl rfl rfl rfl) rfl rfl (by first | exact d_alloc rfl tab rfl rfl hm | exact d_box hs rfl rfl rfl hm | exact d_buildSlice0 rfl tab rfl rfl rfl hm | exact d_buildSlice hs rfl tab rfl rfl rfl rfl rfl rfl rfl rfl rfl hm) ?_; clear hs hm a; rintro _ w ⟨g, rfl, -, hm⟩ a hs)
        | (refine stn hs rfl rfl (by first | exact d_store hs rfl rfl rfl tab rfl rfl rfl rfl hm (by repeat (first | exact Rep.head _ _ _ | apply Rep.tail)) (by rfl) | exact d_store1 hs rfl rfl rfl tab rfl rfl rfl rfl hm (by repeat (first | exact Rep.head _ _ _ | apply Rep.tail)) (by first | omega | assumption | (simp; omega))) ?_; clear hs hm a; rintro - w hm a hs)
        ))
    | (with_reducible first | apply lNilThen | apply lNilBlock | apply lNil | apply wp_seq | apply wp_region_lit | apply wp_block | apply cExit | apply cRet | apply cSkip | apply gThen | apply gBlock | apply eThen | apply eBlockHit | refine eBlock rfl ?_ | apply rThen | apply rBlock)
    | ((with_reducible apply cCond); (first | refine cTrue hs rfl (by first | rfl | assumption | exact decide_eq_true (by omega) | exact decide_eq_false (by omega) | exact ndT (by omega) | exact ndF (by omega)) ?_ | refine cFalse hs rfl (by first | rfl | assumption | exact decide_eq_true (by omega) | exact decide_eq_false (by omega) | exact ndT (by omega) | exact ndF (by omega)) ?_))
    )
  refine st hs rfl rfl rfl (d_call hs rfl rfl rfl (pl 7 rfl) ((h2 _))) ?_; clear hs a; rintro _ w2 ⟨u2, rfl, hu2, hul2, hun2, hf⟩ a hs
  replace hm := hm.pu hf
  replace hu := hu.pu hf
  clear hf
  have hF := hm.fr
  clear hm
  have hm := Mm.nil (fun _ => False) w2
  have hsm := fun w'' (hf : Pu w2 w'') => same_c u u2 w'' (hu.pu hf) (hu2.pu hf) (by omega) (hul.trans hul2.symm)
  unfold MS.v at hsm
  by_cases hb : 100 < m
  · repeat (first
      | ((with_reducible refine toL hm ?_); (first
          | refine oneV hs (by first | exact Wnt.none rfl | exact Wnt.some rfl rfl rfl rfl) rfl rfl (by intro w hm; (first | exact r_val hs tab rfl | ((with_reducible apply kLoad); first | exact r_load hs rfl rfl tab rfl rfl (by first | exact hm.cl (by repeat (first | exact mH | apply mT)) (by first | rfl | assumption) | exact Ro.cl (by assumption) hm (by first | exact (fun t => t) | assumption) (by first | rfl | assumption) | exact Ro.cl0 (by assumption) hm (by first | exact (fun t => t) | assumption) (by first | rfl | assumption)) | exact r_loadO hs rfl rfl tab rfl rfl rfl hm (by repeat (first | exact mH | apply mT)) (by rfl) | exact r_loadA hs rfl rfl tab rfl rfl (Ro.ro (by assumption) hm (by first | exact (fun t => t) | assumption)) rfl) | exact r_iz hs tab rfl rfl (by omega) | exact r_iy hs tab rfl rfl (by omega) | exact r_cT hs rfl (by omega) | exact r_cF hs rfl (by omega) | exact r_arH hs rfl (by assumption) (by omega) | exact r_ar hs rfl (by omega) | exact r_bi hs rfl | exact r_pick hs rfl rfl rfl rfl)) ?_
          | refine oneN hs rfl rfl rfl rfl rfl rfl rfl ?_
          | refine oneU hs rfl rfl rfl rfl rfl rfl ?_); clear hs a; intro a hs)
      | ((with_reducible apply lCons); (first
          | (refine dv hs (by first | exact Wnt.none rfl | exact Wnt.some rfl rfl rfl rfl) rfl rfl (by first | exact d_alloc rfl tab rfl rfl hm | exact d_box hs rfl rfl rfl hm | exact d_buildSlice0 rfl tab rfl rfl rfl hm | exact d_buildSlice hs rfl tab rfl rfl rfl rfl rfl rfl rfl rfl rfl hm) ?_; clear hs hm a; rintro _ w ⟨g, rfl, -, hm⟩ a hs)
          | (refine stn hs rfl rfl (by first | exact d_store hs rfl rfl rfl tab rfl rfl rfl rfl hm (by repeat (first | exact Rep.head _ _ _ | apply Rep.tail)) (by rfl) | exact d_store1 hs rfl rfl rfl tab rfl rfl rfl rfl hm (by repeat (first | exact Rep.head _ _ _ | apply Rep.tail)) (by first | omega | assumption | (simp; omega))) ?_; clear hs hm a; rintro - w hm a hs)
          | (refine dv hs (by first | exact Wnt.none rfl | exact Wnt.some rfl rfl rfl rfl) rfl rfl (d_call hs rfl rfl rfl (pl 9 rfl) (hsm _ hm.fr)) ?_; clear hs a; rintro _ w ⟨rfl, hf⟩ a hs; replace hm := hm.pu hf; clear hf)
          | (refine dv hs (by first | exact Wnt.none rfl | exact Wnt.some rfl rfl rfl rfl) rfl rfl (d_call hs rfl rfl rfl (pl 10 rfl) (awake_c _)) ?_; clear hs a; rintro _ w ⟨rfl, hf⟩ a hs; replace hm := hm.pu hf; clear hf)
          ))
      | (with_reducible first | apply lNilThen | apply lNilBlock | apply lNil | apply wp_seq | apply wp_region_lit | apply wp_block | apply cExit | apply cRet | apply cSkip | apply gThen | apply gBlock | apply eThen | apply eBlockHit | refine eBlock rfl ?_ | apply rThen | apply rBlock)
      | ((with_reducible apply cCond); (first | refine cTrue hs rfl (by first | rfl | assumption | exact decide_eq_true (by omega) | exact decide_eq_false (by omega) | exact ndT (by omega) | exact ndF (by omega)) ?_ | refine cFalse hs rfl (by first | rfl | assumption | exact decide_eq_true (by omega) | exact decide_eq_false (by omega) | exact ndT (by omega) | exact ndF (by omega)) ?_))
      )
    exact gRet1 hs rfl rfl ⟨rfl, hF.pu hm.fr⟩
  · have hag2 := fun w'' (hf : Pu w2 w'') => hag w'' (hF.pu hf) (by omega)
    repeat (first
      | ((with_reducible refine toL hm ?_); (first
          | refine oneV hs (by first | exact Wnt.none rfl | exact Wnt.some rfl rfl rfl rfl) rfl rfl (by intro w hm; (first | exact r_val hs tab rfl | ((with_reducible apply kLoad); first | exact r_load hs rfl rfl tab rfl rfl (by first | exact hm.cl (by repeat (first | exact mH | apply mT)) (by first | rfl | assumption) | exact Ro.cl (by assumption) hm (by first | exact (fun t => t) | assumption) (by first | rfl | assumption) | exact Ro.cl0 (by assumption) hm (by first | exact (fun t => t) | assumption) (by first | rfl | assumption)) | exact r_loadO hs rfl rfl tab rfl rfl rfl hm (by repeat (first | exact mH | apply mT)) (by rfl) | exact r_loadA hs rfl rfl tab rfl rfl (Ro.ro (by assumption) hm (by first | exact (fun t => t) | assumption)) rfl) | exact r_iz hs tab rfl rfl (by omega) | exact r_iy hs tab rfl rfl (by omega) | exact r_cT hs rfl (by omega) | exact r_cF hs rfl (by omega) | exact r_arH hs rfl (by assumption) (by omega) | exact r_ar hs rfl (by omega) | exact r_bi hs rfl | exact r_pick hs rfl rfl rfl rfl)) ?_
          | refine oneN hs rfl rfl rfl rfl rfl rfl rfl ?_
          | refine oneU hs rfl rfl rfl rfl rfl rfl ?_); clear hs a; intro a hs)
      | ((with_reducible apply lCons); (first
          | (refine dv hs (by first | exact Wnt.none rfl | exact Wnt.some rfl rfl rfl rfl) rfl rfl (by first | exact d_alloc rfl tab rfl rfl hm | exact d_box hs rfl rfl rfl hm | exact d_buildSlice0 rfl tab rfl rfl rfl hm | exact d_buildSlice hs rfl tab rfl rfl rfl rfl rfl rfl rfl rfl rfl hm) ?_; clear hs hm a; rintro _ w ⟨g, rfl, -, hm⟩ a hs)
          | (refine stn hs rfl rfl (by first | exact d_store hs rfl rfl rfl tab rfl rfl rfl rfl hm (by repeat (first | exact Rep.head _ _ _ | apply Rep.tail)) (by rfl) | exact d_store1 hs rfl rfl rfl tab rfl rfl rfl rfl hm (by repeat (first | exact Rep.head _ _ _ | apply Rep.tail)) (by first | omega | assumption | (simp; omega))) ?_; clear hs hm a; rintro - w hm a hs)
          | (refine dv hs (by first | exact Wnt.none rfl | exact Wnt.some rfl rfl rfl rfl) rfl rfl (d_call hs rfl rfl rfl (pl 8 rfl) (hag2 _ hm.fr)) ?_; clear hs a; rintro _ w ⟨rfl, hf⟩ a hs; replace hm := hm.pu hf; clear hf)
          | (refine dv hs (by first | exact Wnt.none rfl | exact Wnt.some rfl rfl rfl rfl) rfl rfl (d_call hs rfl rfl rfl (pl 9 rfl) (hsm _ hm.fr)) ?_; clear hs a; rintro _ w ⟨rfl, hf⟩ a hs; replace hm := hm.pu hf; clear hf)
          | (refine dv hs (by first | exact Wnt.none rfl | exact Wnt.some rfl rfl rfl rfl) rfl rfl (d_call hs rfl rfl rfl (pl 10 rfl) (awake_c _)) ?_; clear hs a; rintro _ w ⟨rfl, hf⟩ a hs; replace hm := hm.pu hf; clear hf)
          ))
      | (with_reducible first | apply lNilThen | apply lNilBlock | apply lNil | apply wp_seq | apply wp_region_lit | apply wp_block | apply cExit | apply cRet | apply cSkip | apply gThen | apply gBlock | apply eThen | apply eBlockHit | refine eBlock rfl ?_ | apply rThen | apply rBlock)
      | ((with_reducible apply cCond); (first | refine cTrue hs rfl (by first | rfl | assumption | exact decide_eq_true (by omega) | exact decide_eq_false (by omega) | exact ndT (by omega) | exact ndF (by omega)) ?_ | refine cFalse hs rfl (by first | rfl | assumption | exact decide_eq_true (by omega) | exact decide_eq_false (by omega) | exact ndT (by omega) | exact ndF (by omega)) ?_))
      )
    exact gRet1 hs rfl rfl ⟨rfl, hF.pu hm.fr⟩
theorem walk_MemberRaw (A : Option Addr) (n c : Nat) (rows : List (List Value)) (rep at_ most k : Int) (w : World) (h : IsRows [some .i64, some .i64, some .i64] w A n c rows) (_ : (Lit.int .i64 rep).wf = true) (_ : (Lit.int .i64 at_).wf = true) (_ : (Lit.int .i64 most).wf = true) (_ : (Lit.int .i64 k).wf = true) : Calls Try.prog 3 #[.slice A n c, .int .i64 rep, .int .i64 at_, .int .i64 most, .int .i64 k] w (fun e w' => e = .returned (.bool true) ∧ Pu w w') := by
  obtain ⟨y, hy, hok, hn⟩ := ms_of h
  rw [hy]
  exact (mraw_c y rep at_ most k w hok hn).law
end Go.Proofs.Ytngjacppogdhoaa
