/- Decide. -/
import Derived.Test.YtoojckkmalfimaaVot2
namespace Go.Proofs.Ytoojckkmalfimaa
open Go.RowKit

/-- a block that was there becomes own -/
theorem Mm.adopt {w w' : World} {M : List Hp} {g : Nat} {t : TypeId} {cs : List Value} (hm : Mm (fun _ => False) w M w') (hg : (⟨some g, t, cs⟩ : Hp).sat w) : Mm (own [⟨some g, t, cs⟩]) w (⟨some g, t, cs⟩ :: M) w' := by
  have hlt : g < w.heap.size := Hp.lt hg rfl
  refine ⟨fun x hx => ?_, ⟨hm.fr.os, hm.fr.tape, hm.fr.output, hm.fr.size, fun k hk _ => hm.fr.block k hk (fun t => t)⟩, ⟨fun x hx k hk e => ?_, hm.dj⟩, fun x hx k hk => ?_⟩
  · rcases List.mem_cons.1 hx with rfl | hx
    · exact Hp.sat_fr hm.fr hg fun _ _ t => t
    · exact hm.me x hx
  · have e' : g = k := Option.some.inj hk
    subst e'
    rcases hm.ow x hx g e with h | h
    · omega
    · exact h
  · rcases List.mem_cons.1 hx with rfl | hx
    · exact .inr ⟨_, List.mem_singleton.2 rfl, hk⟩
    · rcases hm.ow x hx k hk with h | h
      · exact .inl h
      · exact h.elim
/-- bytes lie elsewhere than a verdict -/
theorem BS.ok.past {b : BS} {w w' : World} {g : Nat} {t : TypeId} {z : Int} {u v : Value} (h : b.ok w) (hg : (⟨some g, t, [.int .i64 z, u, v]⟩ : Hp).sat w) (hu : ∀ x, u ≠ .int .u8 x) (hv : ∀ x, v ≠ .int .u8 x) (hf : Fr (own [⟨some g, t, [.int .i64 z, u, v]⟩]) w w') : b.ok w' := by
  refine ⟨h.1, fun h0 => ?_, h.2.2⟩
  obtain ⟨b1, o, e, hb, hc⟩ := h.2.1 h0
  have hno : ¬ own [⟨some g, t, [.int .i64 z, u, v]⟩] b1 := fun ⟨x, hx, ex⟩ => by
    rcases List.mem_singleton.1 hx with rfl
    have e' : g = b1 := Option.some.inj ex
    subst e'
    obtain ⟨y, hy⟩ : ∃ y, (bys b.xs)[0]? = some (.int .u8 y) := by
      unfold bys at h0 ⊢
      rw [List.length_map] at h0
      exact ⟨_, by rw [List.getElem?_map, List.getElem?_eq_getElem h0]; rfl⟩
    have h1 := hc 0 _ hy
    have h2 := Blk.cell (show Blk w g t _ from hg) (o + 0)
    rw [h2] at h1
    rcases o with _ | _ | _ | o
    · simp at h1
    · simp at h1; exact hu _ h1
    · simp at h1; exact hv _ h1
    · simp at h1
  exact ⟨b1, o, e, Nat.lt_of_lt_of_le hb hf.size, fun j u hj => hf.cl (hc j u hj) hno⟩
/-- a verdict -/
structure VS where
  k : Int
  b : BS
  m : IS
def VS.v (r : VS) : Value := .agg #[.int .i64 r.k, r.b.v, r.m.v]
def VS.abs (r : VS) : Int × List Int × List Int := (r.k, r.b.xs, r.m.xs)
structure VS.ok (r : VS) (w : World) : Prop where
  b : r.b.ok w
  m : r.m.ok w
  n : r.m.n ≤ 5
theorem VS.ok.pu {r : VS} {w w' : World} (h : r.ok w) (hf : Pu w w') : r.ok w' := ⟨h.b.pu hf, h.m.pu hf, h.n⟩
def numM (C : List CA) : Nat := (C.map (fun c => c.2.2.length)).sum
def losersF (c : CA) (ss : List Bool) (n : Nat) : List Int := ((List.range n).filter (fun i : Nat => ss.getD i false && !c.2.2.contains (i : Int))).map (fun i : Nat => (i : Int))
def decideF (C : List CA) (n : Nat) (ss : List Bool) (least : Int) : Int × List Int × List Int :=
  if (numM C : Int) < least then (4, [], [])
  else if (bestF C).2.2.length = numM C then (1, (bestF C).2.1, [])
  else if ((bestF C).2.2.length : Int) < neededF (numM C) then (3, [], [])
  else (2, (bestF C).2.1, losersF (bestF C) ss n)
def zeroV : Value := .agg #[.int .i64 0, .slice none 0 0, .slice none 0 0]
theorem decide_big (y : AS) (s : TS) (k : Int) (w : World) (hn : ¬ y.n ≤ 5) :
    Ret Try.prog 9 [y.v, s.v, .int .i64 k] w (fun v w' => v = .tuple #[zeroV, .int .i64 3] ∧ Pu w w') := by
  have hc := fun w => classes_big y s w hn
  unfold AS.v TS.v at *
  refine enterR Try.func9 rfl rfl rfl fun a hs hm => ?_
  repeat (first
    | ((with_reducible refine toL hm ?_); (first
        | refine oneV hs (by first | exact Wnt.none rfl | exact Wnt.some rfl rfl rfl rfl) rfl rfl (by intro w hm; (first | exact r_val hs tab rfl | exact r_load hs rfl rfl tab rfl rfl (by first | exact hm.cl (by repeat (first | exact mH | apply mT)) (by first | rfl | assumption) | exact Ro.cl (by assumption) hm (by first | exact (fun t => t) | assumption) (by first | rfl | assumption) | exact Ro.cl0 (by assumption) hm (by first | exact (fun t => t) | assumption) (by first | rfl | assumption)) | exact r_loadO hs rfl rfl tab rfl rfl rfl hm (by repeat (first | exact mH | apply mT)) (by rfl) | exact r_loadA hs rfl rfl tab rfl rfl (Ro.ro (by assumption) hm (by first | exact (fun t => t) | assumption)) rfl | exact r_iz hs tab rfl rfl (by omega) | exact r_iy hs tab rfl rfl (by omega) | exact r_cT hs rfl (by omega) | exact r_cF hs rfl (by omega) | exact r_arH hs rfl (by assumption) (by omega) | exact r_ar hs rfl (by omega) | exact r_bi hs rfl | exact r_pick hs rfl rfl rfl rfl)) ?_
        | refine oneN hs rfl rfl rfl rfl rfl rfl rfl ?_
        | refine oneU hs rfl rfl rfl rfl rfl rfl ?_); clear hs a; intro a hs)
    | ((with_reducible apply lCons); (first
        | (refine dv hs (by first | exact Wnt.none rfl | exact Wnt.some rfl rfl rfl rfl) rfl rfl (by first | exact d_alloc rfl tab rfl rfl hm | exact d_box hs rfl rfl rfl hm | exact d_buildSlice0 rfl tab rfl rfl rfl hm | exact d_buildSlice hs rfl tab rfl rfl rfl rfl rfl rfl rfl rfl rfl hm) ?_; clear hs hm a; rintro _ w ⟨g, rfl, -, hm⟩ a hs)
        | (refine stn hs rfl rfl (by first | exact d_store hs rfl rfl rfl tab rfl rfl rfl rfl hm (by repeat (first | exact Rep.head _ _ _ | apply Rep.tail)) (by rfl) | exact d_store1 hs rfl rfl rfl tab rfl rfl rfl rfl hm (by repeat (first | exact Rep.head _ _ _ | apply Rep.tail)) (by first | omega | assumption | (simp; omega))) ?_; clear hs hm a; rintro - w hm a hs)
        | (refine dv hs (by first | exact Wnt.none rfl | exact Wnt.some rfl rfl rfl rfl) rfl rfl (d_call hs rfl rfl rfl (pl 18 rfl) (hc _)) ?_; clear hs a; rintro _ w ⟨rfl, hf⟩ a hs; replace hm := hm.pu hf; clear hf)
        ))
    | (with_reducible first | apply lNilThen | apply lNilBlock | apply lNil | apply wp_seq | apply wp_region_lit | apply wp_block | apply cExit | apply cRet | apply cSkip | apply gThen | apply gBlock | apply eThen | apply eBlockHit | refine eBlock rfl ?_ | apply rThen | apply rBlock)
    | ((with_reducible apply cCond); (first | refine cTrue hs rfl (by first | rfl | assumption | exact decide_eq_true (by omega) | exact decide_eq_false (by omega) | exact ndT (by omega) | exact ndF (by omega)) ?_ | refine cFalse hs rfl (by first | rfl | assumption | exact decide_eq_true (by omega) | exact decide_eq_false (by omega) | exact ndT (by omega) | exact ndF (by omega)) ?_))
    )
  exact gRetN tab hs rfl (.cons (.cells rfl rfl rfl rfl (hm.ro (by repeat (first | exact List.Mem.head _ | apply List.Mem.tail)) (cutF_ok (k := 0) (n := 3) rfl))) (.cons (.tmp rfl) .nil)) ⟨rfl, hm.fr⟩
theorem decide_odd (y : AS) (s : TS) (k : Int) (w : World) (hn : y.n ≤ 5) (hns : s.n ≠ y.n) :
    Ret Try.prog 9 [y.v, s.v, .int .i64 k] w (fun v w' => v = .tuple #[zeroV, .int .i64 1] ∧ Pu w w') := by
  have hc := fun w => classes_odd y s w hn hns
  unfold AS.v TS.v at *
  refine enterR Try.func9 rfl rfl rfl fun a hs hm => ?_
  repeat (first
    | ((with_reducible refine toL hm ?_); (first
        | refine oneV hs (by first | exact Wnt.none rfl | exact Wnt.some rfl rfl rfl rfl) rfl rfl (by intro w hm; (first | exact r_val hs tab rfl | exact r_load hs rfl rfl tab rfl rfl (by first | exact hm.cl (by repeat (first | exact mH | apply mT)) (by first | rfl | assumption) | exact Ro.cl (by assumption) hm (by first | exact (fun t => t) | assumption) (by first | rfl | assumption) | exact Ro.cl0 (by assumption) hm (by first | exact (fun t => t) | assumption) (by first | rfl | assumption)) | exact r_loadO hs rfl rfl tab rfl rfl rfl hm (by repeat (first | exact mH | apply mT)) (by rfl) | exact r_loadA hs rfl rfl tab rfl rfl (Ro.ro (by assumption) hm (by first | exact (fun t => t) | assumption)) rfl | exact r_iz hs tab rfl rfl (by omega) | exact r_iy hs tab rfl rfl (by omega) | exact r_cT hs rfl (by omega) | exact r_cF hs rfl (by omega) | exact r_arH hs rfl (by assumption) (by omega) | exact r_ar hs rfl (by omega) | exact r_bi hs rfl | exact r_pick hs rfl rfl rfl rfl)) ?_
        | refine oneN hs rfl rfl rfl rfl rfl rfl rfl ?_
        | refine oneU hs rfl rfl rfl rfl rfl rfl ?_); clear hs a; intro a hs)
    | ((with_reducible apply lCons); (first
        | (refine dv hs (by first | exact Wnt.none rfl | exact Wnt.some rfl rfl rfl rfl) rfl rfl (by first | exact d_alloc rfl tab rfl rfl hm | exact d_box hs rfl rfl rfl hm | exact d_buildSlice0 rfl tab rfl rfl rfl hm | exact d_buildSlice hs rfl tab rfl rfl rfl rfl rfl rfl rfl rfl rfl hm) ?_; clear hs hm a; rintro _ w ⟨g, rfl, -, hm⟩ a hs)
        | (refine stn hs rfl rfl (by first | exact d_store hs rfl rfl rfl tab rfl rfl rfl rfl hm (by repeat (first | exact Rep.head _ _ _ | apply Rep.tail)) (by rfl) | exact d_store1 hs rfl rfl rfl tab rfl rfl rfl rfl hm (by repeat (first | exact Rep.head _ _ _ | apply Rep.tail)) (by first | omega | assumption | (simp; omega))) ?_; clear hs hm a; rintro - w hm a hs)
        | (refine dv hs (by first | exact Wnt.none rfl | exact Wnt.some rfl rfl rfl rfl) rfl rfl (d_call hs rfl rfl rfl (pl 18 rfl) (hc _)) ?_; clear hs a; rintro _ w ⟨rfl, hf⟩ a hs; replace hm := hm.pu hf; clear hf)
        ))
    | (with_reducible first | apply lNilThen | apply lNilBlock | apply lNil | apply wp_seq | apply wp_region_lit | apply wp_block | apply cExit | apply cRet | apply cSkip | apply gThen | apply gBlock | apply eThen | apply eBlockHit | refine eBlock rfl ?_ | apply rThen | apply rBlock)
    | ((with_reducible apply cCond); (first | refine cTrue hs rfl (by first | rfl | assumption | exact decide_eq_true (by omega) | exact decide_eq_false (by omega) | exact ndT (by omega) | exact ndF (by omega)) ?_ | refine cFalse hs rfl (by first | rfl | assumption | exact decide_eq_true (by omega) | exact decide_eq_false (by omega) | exact ndT (by omega) | exact ndF (by omega)) ?_))
    )
  exact gRetN tab hs rfl (.cons (.cells rfl rfl rfl rfl (hm.ro (by repeat (first | exact List.Mem.head _ | apply List.Mem.tail)) (cutF_ok (k := 0) (n := 3) rfl))) (.cons (.tmp rfl) .nil)) ⟨rfl, hm.fr⟩
theorem decide_least (y : AS) (s : TS) (k : Int) (w : World) (hy : y.ok w) (hs' : s.ok w) (hn : y.n ≤ 5) (hns : s.n = y.n) (hk : ¬ (1 ≤ k ∧ k ≤ 5)) :
    Ret Try.prog 9 [y.v, s.v, .int .i64 k] w (fun v w' => v = .tuple #[zeroV, .int .i64 1] ∧ Pu w w') := by
  have hc := fun w'' (hf : Pu w w'') => classes_c y s w'' (hy.pu hf) (hs'.pu hf) hn hns
  have hs1 := fun w => some_c k w
  rw [someB_f hk] at hs1
  unfold AS.v TS.v at *
  refine enterR Try.func9 rfl rfl rfl fun a hs hm => ?_
  repeat (first
    | ((with_reducible refine toL hm ?_); (first
        | refine oneV hs (by first | exact Wnt.none rfl | exact Wnt.some rfl rfl rfl rfl) rfl rfl (by intro w hm; (first | exact r_val hs tab rfl | exact r_load hs rfl rfl tab rfl rfl (by first | exact hm.cl (by repeat (first | exact mH | apply mT)) (by first | rfl | assumption) | exact Ro.cl (by assumption) hm (by first | exact (fun t => t) | assumption) (by first | rfl | assumption) | exact Ro.cl0 (by assumption) hm (by first | exact (fun t => t) | assumption) (by first | rfl | assumption)) | exact r_loadO hs rfl rfl tab rfl rfl rfl hm (by repeat (first | exact mH | apply mT)) (by rfl) | exact r_loadA hs rfl rfl tab rfl rfl (Ro.ro (by assumption) hm (by first | exact (fun t => t) | assumption)) rfl | exact r_iz hs tab rfl rfl (by omega) | exact r_iy hs tab rfl rfl (by omega) | exact r_cT hs rfl (by omega) | exact r_cF hs rfl (by omega) | exact r_arH hs rfl (by assumption) (by omega) | exact r_ar hs rfl (by omega) | exact r_bi hs rfl | exact r_pick hs rfl rfl rfl rfl)) ?_
        | refine oneN hs rfl rfl rfl rfl rfl rfl rfl ?_
        | refine oneU hs rfl rfl rfl rfl rfl rfl ?_); clear hs a; intro a hs)
    | ((with_reducible apply lCons); (first
        | (refine dv hs (by first | exact Wnt.none rfl | exact Wnt.some rfl rfl rfl rfl) rfl rfl (by first | exact d_alloc rfl tab rfl rfl hm | exact d_box hs rfl rfl rfl hm | exact d_buildSlice0 rfl tab rfl rfl rfl hm | exact d_buildSlice hs rfl tab rfl rfl rfl rfl rfl rfl rfl rfl rfl hm) ?_; clear hs hm a; rintro _ w ⟨g, rfl, -, hm⟩ a hs)
        | (refine stn hs rfl rfl (by first | exact d_store hs rfl rfl rfl tab rfl rfl rfl rfl hm (by repeat (first | exact Rep.head _ _ _ | apply Rep.tail)) (by rfl) | exact d_store1 hs rfl rfl rfl tab rfl rfl rfl rfl hm (by repeat (first | exact Rep.head _ _ _ | apply Rep.tail)) (by first | omega | assumption | (simp; omega))) ?_; clear hs hm a; rintro - w hm a hs)
        ))
    | (with_reducible first | apply lNilThen | apply lNilBlock | apply lNil | apply wp_seq | apply wp_region_lit | apply wp_block | apply cExit | apply cRet | apply cSkip | apply gThen | apply gBlock | apply eThen | apply eBlockHit | refine eBlock rfl ?_ | apply rThen | apply rBlock)
    | ((with_reducible apply cCond); (first | refine cTrue hs rfl (by first | rfl | assumption | exact decide_eq_true (by omega) | exact decide_eq_false (by omega) | exact ndT (by omega) | exact ndF (by omega)) ?_ | refine cFalse hs rfl (by first | rfl | assumption | exact decide_eq_true (by omega) | exact decide_eq_false (by omega) | exact ndT (by omega) | exact ndF (by omega)) ?_))
    )
  refine st hs rfl rfl rfl (d_call hs rfl rfl rfl (pl 18 rfl) (hc _ hm.fr)) ?_; clear hs a; rintro _ w1 ⟨r, rfl, hro, hr5, hra, hf⟩ a hs
  replace hm := hm.pu hf
  repeat (first
    | ((with_reducible refine toL hm ?_); (first
        | refine oneV hs (by first | exact Wnt.none rfl | exact Wnt.some rfl rfl rfl rfl) rfl rfl (by intro w hm; (first | exact r_val hs tab rfl | exact r_load hs rfl rfl tab rfl rfl (by first | exact hm.cl (by repeat (first | exact mH | apply mT)) (by first | rfl | assumption) | exact Ro.cl (by assumption) hm (by first | exact (fun t => t) | assumption) (by first | rfl | assumption) | exact Ro.cl0 (by assumption) hm (by first | exact (fun t => t) | assumption) (by first | rfl | assumption)) | exact r_loadO hs rfl rfl tab rfl rfl rfl hm (by repeat (first | exact mH | apply mT)) (by rfl) | exact r_loadA hs rfl rfl tab rfl rfl (Ro.ro (by assumption) hm (by first | exact (fun t => t) | assumption)) rfl | exact r_iz hs tab rfl rfl (by omega) | exact r_iy hs tab rfl rfl (by omega) | exact r_cT hs rfl (by omega) | exact r_cF hs rfl (by omega) | exact r_arH hs rfl (by assumption) (by omega) | exact r_ar hs rfl (by omega) | exact r_bi hs rfl | exact r_pick hs rfl rfl rfl rfl)) ?_
        | refine oneN hs rfl rfl rfl rfl rfl rfl rfl ?_
        | refine oneU hs rfl rfl rfl rfl rfl rfl ?_); clear hs a; intro a hs)
    | ((with_reducible apply lCons); (first
        | (refine dv hs (by first | exact Wnt.none rfl | exact Wnt.some rfl rfl rfl rfl) rfl rfl (by first | exact d_alloc rfl tab rfl rfl hm | exact d_box hs rfl rfl rfl hm | exact d_buildSlice0 rfl tab rfl rfl rfl hm | exact d_buildSlice hs rfl tab rfl rfl rfl rfl rfl rfl rfl rfl rfl hm) ?_; clear hs hm a; rintro _ w ⟨g, rfl, -, hm⟩ a hs)
        | (refine stn hs rfl rfl (by first | exact d_store hs rfl rfl rfl tab rfl rfl rfl rfl hm (by repeat (first | exact Rep.head _ _ _ | apply Rep.tail)) (by rfl) | exact d_store1 hs rfl rfl rfl tab rfl rfl rfl rfl hm (by repeat (first | exact Rep.head _ _ _ | apply Rep.tail)) (by first | omega | assumption | (simp; omega))) ?_; clear hs hm a; rintro - w hm a hs)
        | (refine dv hs (by first | exact Wnt.none rfl | exact Wnt.some rfl rfl rfl rfl) rfl rfl (d_call hs rfl rfl rfl (pl 19 rfl) (hs1 _)) ?_; clear hs a; rintro _ w ⟨rfl, hf⟩ a hs; replace hm := hm.pu hf; clear hf)
        ))
    | (with_reducible first | apply lNilThen | apply lNilBlock | apply lNil | apply wp_seq | apply wp_region_lit | apply wp_block | apply cExit | apply cRet | apply cSkip | apply gThen | apply gBlock | apply eThen | apply eBlockHit | refine eBlock rfl ?_ | apply rThen | apply rBlock)
    | ((with_reducible apply cCond); (first | refine cTrue hs rfl (by first | rfl | assumption | exact decide_eq_true (by omega) | exact decide_eq_false (by omega) | exact ndT (by omega) | exact ndF (by omega)) ?_ | refine cFalse hs rfl (by first | rfl | assumption | exact decide_eq_true (by omega) | exact decide_eq_false (by omega) | exact ndT (by omega) | exact ndF (by omega)) ?_))
    )
  exact gRetN tab hs rfl (.cons (.cells rfl rfl rfl rfl (hm.ro (by repeat (first | exact List.Mem.head _ | apply List.Mem.tail)) (cutF_ok (k := 0) (n := 3) rfl))) (.cons (.tmp rfl) .nil)) ⟨rfl, hm.fr⟩
end Go.Proofs.Ytoojckkmalfimaa
