/- The reference's Decide. -/
import Derived.Test.YtoojckkmalfimaaVot5
import Derived.Test.YtoojckkmalfimaaEng12
namespace Go.Proofs.Ytoojckkmalfimaa
open Go.RowKit

def numS (ss : List Bool) (n : Nat) : Nat := ((List.range n).filter (fun i => ss.getD i false)).length
def hitB (q : Int) (c : CA) : Bool := c.1 && decide (q ≤ (c.2.2.length : Int))
def pickR (C : List CA) (q : Int) : Int × List Int × List Int :=
  match C[C.findIdx (hitB q)]? with
  | some c => (if C.length = 1 then 1 else 2, c.2.1, oth C (C.findIdx (hitB q)) 5)
  | none => (3, [], [])
theorem pickR_some {C : List CA} {q : Int} {i : Nat} {c : CA} (hi : C.findIdx (hitB q) = i) (hc : C[i]? = some c) : pickR C q = (if C.length = 1 then 1 else 2, c.2.1, oth C i 5) := by
  unfold pickR
  simp only [hi, hc]
theorem pickR_none {C : List CA} {q : Int} (hi : C.findIdx (hitB q) = C.length) : pickR C q = (3, [], []) := by
  unfold pickR
  simp only [hi, List.getElem?_eq_none (Nat.le_refl _)]
def decideR (C : List CA) (n : Nat) (ss : List Bool) (least : Int) : Int × List Int × List Int :=
  if (numS ss n : Int) < least then (4, [], []) else pickR C (neededF (numS ss n))
theorem numS_step (ss : List Bool) (n : Nat) : numS ss (n + 1) = numS ss n + (if ss.getD n false then 1 else 0) := by
  unfold numS
  rw [List.range_succ, List.filter_append, List.length_append]
  cases h : ss.getD n false <;> simp only [List.filter_cons, List.filter_nil, h, if_true, if_false, Bool.false_eq_true, List.length_cons, List.length_nil]
theorem numS_le (ss : List Bool) (n : Nat) : numS ss n ≤ n := by
  unfold numS
  have := List.length_filter_le (fun i => ss.getD i false) (List.range n)
  simpa using this
theorem rdecide_big (y : AS) (s : TS) (k : Int) (w : World) (hn : ¬ y.n ≤ 5) :
    Ret Try.prog 10 [y.v, s.v, .int .i64 k] w (fun v w' => v = .tuple #[zeroV, .int .i64 3] ∧ Pu w w') := by
  have hc := fun w => rclasses_big y s w hn
  unfold AS.v TS.v at *
  refine enterR Try.func10 rfl rfl rfl fun a hs hm => ?_
  repeat (first
    | ((with_reducible refine toL hm ?_); (first
        | refine oneV hs (by first | exact Wnt.none rfl | exact Wnt.some rfl rfl rfl rfl) rfl rfl (by intro w hm; (first | exact r_val hs tab rfl | exact r_load hs rfl rfl tab rfl rfl (by first | exact hm.cl (by repeat (first | exact mH | apply mT)) (by first | rfl | assumption) | exact Ro.cl (by assumption) hm (by first | exact (fun t => t) | assumption) (by first | rfl | assumption) | exact Ro.cl0 (by assumption) hm (by first | exact (fun t => t) | assumption) (by first | rfl | assumption)) | exact r_loadO hs rfl rfl tab rfl rfl rfl hm (by repeat (first | exact mH | apply mT)) (by rfl) | exact r_loadA hs rfl rfl tab rfl rfl (Ro.ro (by assumption) hm (by first | exact (fun t => t) | assumption)) rfl | exact r_iz hs tab rfl rfl (by omega) | exact r_iy hs tab rfl rfl (by omega) | exact r_cT hs rfl (by omega) | exact r_cF hs rfl (by omega) | exact r_arH hs rfl (by assumption) (by omega) | exact r_pred hs rfl rfl rfl (by omega) | exact r_ar hs rfl (by omega) | exact r_bi hs rfl | exact r_pick hs rfl rfl rfl rfl)) ?_
        | refine oneN hs rfl rfl rfl rfl rfl rfl rfl ?_
        | refine oneU hs rfl rfl rfl rfl rfl rfl ?_); clear hs a; intro a hs)
    | ((with_reducible apply lCons); (first
        | (refine dv hs (by first | exact Wnt.none rfl | exact Wnt.some rfl rfl rfl rfl) rfl rfl (by first | exact d_alloc rfl tab rfl rfl hm | exact d_box hs rfl rfl rfl hm | exact d_buildSlice0 rfl tab rfl rfl rfl hm | exact d_buildSlice hs rfl tab rfl rfl rfl rfl rfl rfl rfl rfl rfl hm) ?_; clear hs hm a; rintro _ w ⟨g, rfl, -, hm⟩ a hs)
        | (refine stn hs rfl rfl (by first | exact d_store hs rfl rfl rfl tab rfl rfl rfl rfl hm (by repeat (first | exact Rep.head _ _ _ | apply Rep.tail)) (by rfl) | exact d_store1 hs rfl rfl rfl tab rfl rfl rfl rfl hm (by repeat (first | exact Rep.head _ _ _ | apply Rep.tail)) (by first | omega | assumption | (simp; omega))) ?_; clear hs hm a; rintro - w hm a hs)
        | (refine dv hs (by first | exact Wnt.none rfl | exact Wnt.some rfl rfl rfl rfl) rfl rfl (d_call hs rfl rfl rfl (pl 23 rfl) (hc _)) ?_; clear hs a; rintro _ w ⟨rfl, hf⟩ a hs; replace hm := hm.pu hf; clear hf)
        ))
    | (with_reducible first | apply lNilThen | apply lNilBlock | apply lNil | apply wp_seq | apply wp_region_lit | apply wp_block | apply cExit | apply cRet | apply cSkip | apply gThen | apply gBlock | apply eThen | apply eBlockHit | refine eBlock rfl ?_ | apply rThen | apply rBlock)
    | ((with_reducible apply cCond); (first | refine cTrue hs rfl (by first | rfl | assumption | exact decide_eq_true (by omega) | exact decide_eq_false (by omega) | exact ndT (by omega) | exact ndF (by omega)) ?_ | refine cFalse hs rfl (by first | rfl | assumption | exact decide_eq_true (by omega) | exact decide_eq_false (by omega) | exact ndT (by omega) | exact ndF (by omega)) ?_))
    )
  exact gRetN tab hs rfl (.cons (.cells rfl rfl rfl rfl (hm.ro (by repeat (first | exact List.Mem.head _ | apply List.Mem.tail)) (cutF_ok (k := 0) (n := 3) rfl))) (.cons (.tmp rfl) .nil)) ⟨rfl, hm.fr⟩
theorem rdecide_odd (y : AS) (s : TS) (k : Int) (w : World) (hn : y.n ≤ 5) (hns : s.n ≠ y.n) :
    Ret Try.prog 10 [y.v, s.v, .int .i64 k] w (fun v w' => v = .tuple #[zeroV, .int .i64 1] ∧ Pu w w') := by
  have hc := fun w => rclasses_odd y s w hn hns
  unfold AS.v TS.v at *
  refine enterR Try.func10 rfl rfl rfl fun a hs hm => ?_
  repeat (first
    | ((with_reducible refine toL hm ?_); (first
        | refine oneV hs (by first | exact Wnt.none rfl | exact Wnt.some rfl rfl rfl rfl) rfl rfl (by intro w hm; (first | exact r_val hs tab rfl | exact r_load hs rfl rfl tab rfl rfl (by first | exact hm.cl (by repeat (first | exact mH | apply mT)) (by first | rfl | assumption) | exact Ro.cl (by assumption) hm (by first | exact (fun t => t) | assumption) (by first | rfl | assumption) | exact Ro.cl0 (by assumption) hm (by first | exact (fun t => t) | assumption) (by first | rfl | assumption)) | exact r_loadO hs rfl rfl tab rfl rfl rfl hm (by repeat (first | exact mH | apply mT)) (by rfl) | exact r_loadA hs rfl rfl tab rfl rfl (Ro.ro (by assumption) hm (by first | exact (fun t => t) | assumption)) rfl | exact r_iz hs tab rfl rfl (by omega) | exact r_iy hs tab rfl rfl (by omega) | exact r_cT hs rfl (by omega) | exact r_cF hs rfl (by omega) | exact r_arH hs rfl (by assumption) (by omega) | exact r_pred hs rfl rfl rfl (by omega) | exact r_ar hs rfl (by omega) | exact r_bi hs rfl | exact r_pick hs rfl rfl rfl rfl)) ?_
        | refine oneN hs rfl rfl rfl rfl rfl rfl rfl ?_
        | refine oneU hs rfl rfl rfl rfl rfl rfl ?_); clear hs a; intro a hs)
    | ((with_reducible apply lCons); (first
        | (refine dv hs (by first | exact Wnt.none rfl | exact Wnt.some rfl rfl rfl rfl) rfl rfl (by first | exact d_alloc rfl tab rfl rfl hm | exact d_box hs rfl rfl rfl hm | exact d_buildSlice0 rfl tab rfl rfl rfl hm | exact d_buildSlice hs rfl tab rfl rfl rfl rfl rfl rfl rfl rfl rfl hm) ?_; clear hs hm a; rintro _ w ⟨g, rfl, -, hm⟩ a hs)
        | (refine stn hs rfl rfl (by first | exact d_store hs rfl rfl rfl tab rfl rfl rfl rfl hm (by repeat (first | exact Rep.head _ _ _ | apply Rep.tail)) (by rfl) | exact d_store1 hs rfl rfl rfl tab rfl rfl rfl rfl hm (by repeat (first | exact Rep.head _ _ _ | apply Rep.tail)) (by first | omega | assumption | (simp; omega))) ?_; clear hs hm a; rintro - w hm a hs)
        | (refine dv hs (by first | exact Wnt.none rfl | exact Wnt.some rfl rfl rfl rfl) rfl rfl (d_call hs rfl rfl rfl (pl 23 rfl) (hc _)) ?_; clear hs a; rintro _ w ⟨rfl, hf⟩ a hs; replace hm := hm.pu hf; clear hf)
        ))
    | (with_reducible first | apply lNilThen | apply lNilBlock | apply lNil | apply wp_seq | apply wp_region_lit | apply wp_block | apply cExit | apply cRet | apply cSkip | apply gThen | apply gBlock | apply eThen | apply eBlockHit | refine eBlock rfl ?_ | apply rThen | apply rBlock)
    | ((with_reducible apply cCond); (first | refine cTrue hs rfl (by first | rfl | assumption | exact decide_eq_true (by omega) | exact decide_eq_false (by omega) | exact ndT (by omega) | exact ndF (by omega)) ?_ | refine cFalse hs rfl (by first | rfl | assumption | exact decide_eq_true (by omega) | exact decide_eq_false (by omega) | exact ndT (by omega) | exact ndF (by omega)) ?_))
    )
  exact gRetN tab hs rfl (.cons (.cells rfl rfl rfl rfl (hm.ro (by repeat (first | exact List.Mem.head _ | apply List.Mem.tail)) (cutF_ok (k := 0) (n := 3) rfl))) (.cons (.tmp rfl) .nil)) ⟨rfl, hm.fr⟩
theorem rdecide_least (y : AS) (s : TS) (k : Int) (w : World) (hy : y.ok w) (hs' : s.ok w) (hn : y.n ≤ 5) (hns : s.n = y.n) (hk : ¬ (1 ≤ k ∧ k ≤ 5)) :
    Ret Try.prog 10 [y.v, s.v, .int .i64 k] w (fun v w' => v = .tuple #[zeroV, .int .i64 1] ∧ Pu w w') := by
  have hc := fun w'' (hf : Pu w w'') => rclasses_c y s w'' (hy.pu hf) (hs'.pu hf) hn hns
  unfold AS.v TS.v at *
  by_cases h1 : k < 1 <;>
  · refine enterR Try.func10 rfl rfl rfl fun a hs hm => ?_
    repeat (first
      | ((with_reducible refine toL hm ?_); (first
          | refine oneV hs (by first | exact Wnt.none rfl | exact Wnt.some rfl rfl rfl rfl) rfl rfl (by intro w hm; (first | exact r_val hs tab rfl | exact r_load hs rfl rfl tab rfl rfl (by first | exact hm.cl (by repeat (first | exact mH | apply mT)) (by first | rfl | assumption) | exact Ro.cl (by assumption) hm (by first | exact (fun t => t) | assumption) (by first | rfl | assumption) | exact Ro.cl0 (by assumption) hm (by first | exact (fun t => t) | assumption) (by first | rfl | assumption)) | exact r_loadO hs rfl rfl tab rfl rfl rfl hm (by repeat (first | exact mH | apply mT)) (by rfl) | exact r_loadA hs rfl rfl tab rfl rfl (Ro.ro (by assumption) hm (by first | exact (fun t => t) | assumption)) rfl | exact r_iz hs tab rfl rfl (by omega) | exact r_iy hs tab rfl rfl (by omega) | exact r_cT hs rfl (by omega) | exact r_cF hs rfl (by omega) | exact r_arH hs rfl (by assumption) (by omega) | exact r_pred hs rfl rfl rfl (by omega) | exact r_ar hs rfl (by omega) | exact r_bi hs rfl | exact r_pick hs rfl rfl rfl rfl)) ?_
          | refine oneN hs rfl rfl rfl rfl rfl rfl rfl ?_
          | refine oneU hs rfl rfl rfl rfl rfl rfl ?_); clear hs a; intro a hs)
      | ((with_reducible apply lCons); (first
          | (refine dv hs (by first | exact Wnt.none rfl | exact Wnt.some rfl rfl rfl rfl) rfl rfl (by first | exact d_alloc rfl tab rfl rfl hm | exact d_box hs rfl rfl rfl hm | exact d_buildSlice0 rfl tab rfl rfl rfl hm | exact d_buildSlice hs rfl tab rfl rfl rfl rfl rfl rfl rfl rfl rfl hm) ?_; clear hs hm a; rintro _ w ⟨g, rfl, -, hm⟩ a hs)
          | (refine stn hs rfl rfl (by first | exact d_store hs rfl rfl rfl tab rfl rfl rfl rfl hm (by repeat (first | exact Rep.head _ _ _ | apply Rep.tail)) (by rfl) | exact d_store1 hs rfl rfl rfl tab rfl rfl rfl rfl hm (by repeat (first | exact Rep.head _ _ _ | apply Rep.tail)) (by first | omega | assumption | (simp; omega))) ?_; clear hs hm a; rintro - w hm a hs)
          ))
      | (with_reducible first | apply lNilThen | apply lNilBlock | apply lNil | apply wp_seq | apply wp_region_lit | apply wp_block | apply cExit | apply cRet | apply cSkip | apply gThen | apply gBlock | apply eThen | apply eBlockHit | refine eBlock rfl ?_ | apply rThen | apply rBlock)
      | ((with_reducible apply cCond); (first | refine cTrue hs rfl (by first | rfl | assumption | exact decide_eq_true (by omega) | exact decide_eq_false (by omega) | exact ndT (by omega) | exact ndF (by omega)) ?_ | refine cFalse hs rfl (by first | rfl | assumption | exact decide_eq_true (by omega) | exact decide_eq_false (by omega) | exact ndT (by omega) | exact ndF (by omega)) ?_))
      )
    refine st hs rfl rfl rfl (d_call hs rfl rfl rfl (pl 23 rfl) (hc _ hm.fr)) ?_; clear hs a; rintro _ w1 ⟨r, rfl, hro, hr5, hra, hf⟩ a hs
    replace hm := hm.pu hf
    repeat (first
      | ((with_reducible refine toL hm ?_); (first
          | refine oneV hs (by first | exact Wnt.none rfl | exact Wnt.some rfl rfl rfl rfl) rfl rfl (by intro w hm; (first | exact r_val hs tab rfl | exact r_load hs rfl rfl tab rfl rfl (by first | exact hm.cl (by repeat (first | exact mH | apply mT)) (by first | rfl | assumption) | exact Ro.cl (by assumption) hm (by first | exact (fun t => t) | assumption) (by first | rfl | assumption) | exact Ro.cl0 (by assumption) hm (by first | exact (fun t => t) | assumption) (by first | rfl | assumption)) | exact r_loadO hs rfl rfl tab rfl rfl rfl hm (by repeat (first | exact mH | apply mT)) (by rfl) | exact r_loadA hs rfl rfl tab rfl rfl (Ro.ro (by assumption) hm (by first | exact (fun t => t) | assumption)) rfl | exact r_iz hs tab rfl rfl (by omega) | exact r_iy hs tab rfl rfl (by omega) | exact r_cT hs rfl (by omega) | exact r_cF hs rfl (by omega) | exact r_arH hs rfl (by assumption) (by omega) | exact r_pred hs rfl rfl rfl (by omega) | exact r_ar hs rfl (by omega) | exact r_bi hs rfl | exact r_pick hs rfl rfl rfl rfl)) ?_
          | refine oneN hs rfl rfl rfl rfl rfl rfl rfl ?_
          | refine oneU hs rfl rfl rfl rfl rfl rfl ?_); clear hs a; intro a hs)
      | ((with_reducible apply lCons); (first
          | (refine dv hs (by first | exact Wnt.none rfl | exact Wnt.some rfl rfl rfl rfl) rfl rfl (by first | exact d_alloc rfl tab rfl rfl hm | exact d_box hs rfl rfl rfl hm | exact d_buildSlice0 rfl tab rfl rfl rfl hm | exact d_buildSlice hs rfl tab rfl rfl rfl rfl rfl rfl rfl rfl rfl hm) ?_; clear hs hm a; rintro _ w ⟨g, rfl, -, hm⟩ a hs)
          | (refine stn hs rfl rfl (by first | exact d_store hs rfl rfl rfl tab rfl rfl rfl rfl hm (by repeat (first | exact Rep.head _ _ _ | apply Rep.tail)) (by rfl) | exact d_store1 hs rfl rfl rfl tab rfl rfl rfl rfl hm (by repeat (first | exact Rep.head _ _ _ | apply Rep.tail)) (by first | omega | assumption | (simp; omega))) ?_; clear hs hm a; rintro - w hm a hs)
          ))
      | (with_reducible first | apply lNilThen | apply lNilBlock | apply lNil | apply wp_seq | apply wp_region_lit | apply wp_block | apply cExit | apply cRet | apply cSkip | apply gThen | apply gBlock | apply eThen | apply eBlockHit | refine eBlock rfl ?_ | apply rThen | apply rBlock)
      | ((with_reducible apply cCond); (first | refine cTrue hs rfl (by first | rfl | assumption | exact decide_eq_true (by omega) | exact decide_eq_false (by omega) | exact ndT (by omega) | exact ndF (by omega)) ?_ | refine cFalse hs rfl (by first | rfl | assumption | exact decide_eq_true (by omega) | exact decide_eq_false (by omega) | exact ndT (by omega) | exact ndF (by omega)) ?_))
      )
    exact gRetN tab hs rfl (.cons (.cells rfl rfl rfl rfl (hm.ro (by repeat (first | exact List.Mem.head _ | apply List.Mem.tail)) (cutF_ok (k := 0) (n := 3) rfl))) (.cons (.tmp rfl) .nil)) ⟨rfl, hm.fr⟩
set_option maxHeartbeats 8000000 in
theorem rdecide_c (y : AS) (s : TS) (k : Int) (w : World) (hy : y.ok w) (hs' : s.ok w) (hn : y.n ≤ 5) (hns : s.n = y.n) (hk : 1 ≤ k ∧ k ≤ 5) (hoth : ∀ i, (oth (clsTo (y.l.map An.abs) s.xs y.n) i 5).length ≤ 5) :
    Ret Try.prog 10 [y.v, s.v, .int .i64 k] w (DecR (decideR (clsTo (y.l.map An.abs) s.xs y.n) y.n s.xs k) w) := by
  have hc := fun w'' (hf : Pu w w'') => rclasses_c y s w'' (hy.pu hf) (hs'.pu hf) hn hns
  obtain ⟨yA, n, yc, ys⟩ := y
  obtain ⟨sA, m, sc, ss⟩ := s
  dsimp only at hn hns
  subst hns
  unfold AS.v TS.v at *
  dsimp only at *
  refine enterR Try.func10 rfl rfl rfl fun a hs hm => ?_
  repeat (first
    | ((with_reducible refine toL hm ?_); (first
        | refine oneV hs (by first | exact Wnt.none rfl | exact Wnt.some rfl rfl rfl rfl) rfl rfl (by intro w hm; (first | exact r_val hs tab rfl | exact r_load hs rfl rfl tab rfl rfl (by first | exact hm.cl (by repeat (first | exact mH | apply mT)) (by first | rfl | assumption) | exact Ro.cl (by assumption) hm (by first | exact (fun t => t) | assumption) (by first | rfl | assumption) | exact Ro.cl0 (by assumption) hm (by first | exact (fun t => t) | assumption) (by first | rfl | assumption)) | exact r_loadO hs rfl rfl tab rfl rfl rfl hm (by repeat (first | exact mH | apply mT)) (by rfl) | exact r_loadA hs rfl rfl tab rfl rfl (Ro.ro (by assumption) hm (by first | exact (fun t => t) | assumption)) rfl | exact r_iz hs tab rfl rfl (by omega) | exact r_iy hs tab rfl rfl (by omega) | exact r_cT hs rfl (by omega) | exact r_cF hs rfl (by omega) | exact r_arH hs rfl (by assumption) (by omega) | exact r_pred hs rfl rfl rfl (by omega) | exact r_ar hs rfl (by omega) | exact r_bi hs rfl | exact r_pick hs rfl rfl rfl rfl)) ?_
        | refine oneN hs rfl rfl rfl rfl rfl rfl rfl ?_
        | refine oneU hs rfl rfl rfl rfl rfl rfl ?_); clear hs a; intro a hs)
    | ((with_reducible apply lCons); (first
        | (refine dv hs (by first | exact Wnt.none rfl | exact Wnt.some rfl rfl rfl rfl) rfl rfl (by first | exact d_alloc rfl tab rfl rfl hm | exact d_box hs rfl rfl rfl hm | exact d_buildSlice0 rfl tab rfl rfl rfl hm | exact d_buildSlice hs rfl tab rfl rfl rfl rfl rfl rfl rfl rfl rfl hm) ?_; clear hs hm a; rintro _ w ⟨g, rfl, -, hm⟩ a hs)
        | (refine stn hs rfl rfl (by first | exact d_store hs rfl rfl rfl tab rfl rfl rfl rfl hm (by repeat (first | exact Rep.head _ _ _ | apply Rep.tail)) (by rfl) | exact d_store1 hs rfl rfl rfl tab rfl rfl rfl rfl hm (by repeat (first | exact Rep.head _ _ _ | apply Rep.tail)) (by first | omega | assumption | (simp; omega))) ?_; clear hs hm a; rintro - w hm a hs)
        ))
    | (with_reducible first | apply lNilThen | apply lNilBlock | apply lNil | apply wp_seq | apply wp_region_lit | apply wp_block | apply cExit | apply cRet | apply cSkip | apply gThen | apply gBlock | apply eThen | apply eBlockHit | refine eBlock rfl ?_ | apply rThen | apply rBlock)
    | ((with_reducible apply cCond); (first | refine cTrue hs rfl (by first | rfl | assumption | exact decide_eq_true (by omega) | exact decide_eq_false (by omega) | exact ndT (by omega) | exact ndF (by omega)) ?_ | refine cFalse hs rfl (by first | rfl | assumption | exact decide_eq_true (by omega) | exact decide_eq_false (by omega) | exact ndT (by omega) | exact ndF (by omega)) ?_))
    )
  rename_i w0
  refine st hs rfl rfl rfl (d_call hs rfl rfl rfl (pl 23 rfl) (hc _ hm.fr)) ?_; clear hs a; rintro _ w1 ⟨r, rfl, hro, hr5, hra, hf⟩ a hs
  have hm0 := hm.pu hf
  have hsf := (hs'.pu hm0.fr).2
  dsimp only at hsf
  have hss : ss.length = m := hs'.1
  clear hm hf hc
  have hm := Mm.nil (fun _ => False) w1
  have hml := clsTo_ms (ys.map An.abs) ss m
  generalize hCe : clsTo _ _ _ = C at *
  obtain ⟨rA, rn, rc, rl⟩ := r
  have hrl : rl.length = rn := hro.len
  have hrd : Rd w1 w1.heap.size rA (rl.flatMap Cl.cs) := hro.rd
  have hrms : ∀ c ∈ rl, c.m.n ≤ 5 := fun c hc => by
    have h1 := hml _ (hra ▸ List.mem_map_of_mem (f := Cl.abs) hc)
    have h2 := (hro.el c hc).2.1
    have h3 : c.m.xs.length ≤ m := h1
    omega
  have ho := fun (i : Nat) (hi : i ≤ 5) w'' (hf : Pu w1 w'') => others_c _ i w'' (hro.pu hf) hr5 hrms hi
  have hrel := hro.el
  unfold CS.v at hs ho
  dsimp only at *
  rw [hra] at ho
  have hCl : C.length = rn := by rw [← hra, List.length_map]; exact hrl
  have hCat : ∀ i (h : i < rl.length), C[i]? = some (rl[i]).abs := fun i h => by rw [← hra]; simp [h]
  obtain ⟨g6, hg6⟩ : ∃ g6, g6 = g := ⟨_, rfl⟩
  rw [← hg6] at hs hm0
  repeat (first
    | ((with_reducible refine toL hm ?_); (first
        | refine oneV hs (by first | exact Wnt.none rfl | exact Wnt.some rfl rfl rfl rfl) rfl rfl (by intro w hm; (first | exact r_val hs tab rfl | exact r_load hs rfl rfl tab rfl rfl (by first | exact hm.cl (by repeat (first | exact mH | apply mT)) (by first | rfl | assumption) | exact Ro.cl (by assumption) hm (by first | exact (fun t => t) | assumption) (by first | rfl | assumption) | exact Ro.cl0 (by assumption) hm (by first | exact (fun t => t) | assumption) (by first | rfl | assumption)) | exact r_loadO hs rfl rfl tab rfl rfl rfl hm (by repeat (first | exact mH | apply mT)) (by rfl) | exact r_loadA hs rfl rfl tab rfl rfl (Ro.ro (by assumption) hm (by first | exact (fun t => t) | assumption)) rfl | exact r_iz hs tab rfl rfl (by omega) | exact r_iy hs tab rfl rfl (by omega) | exact r_cT hs rfl (by omega) | exact r_cF hs rfl (by omega) | exact r_arH hs rfl (by assumption) (by omega) | exact r_pred hs rfl rfl rfl (by omega) | exact r_ar hs rfl (by omega) | exact r_bi hs rfl | exact r_pick hs rfl rfl rfl rfl)) ?_
        | refine oneN hs rfl rfl rfl rfl rfl rfl rfl ?_
        | refine oneU hs rfl rfl rfl rfl rfl rfl ?_); clear hs a; intro a hs)
    | ((with_reducible apply lCons); (first
        | (refine dv hs (by first | exact Wnt.none rfl | exact Wnt.some rfl rfl rfl rfl) rfl rfl (by first | exact d_alloc rfl tab rfl rfl hm | exact d_box hs rfl rfl rfl hm | exact d_buildSlice0 rfl tab rfl rfl rfl hm | exact d_buildSlice hs rfl tab rfl rfl rfl rfl rfl rfl rfl rfl rfl hm) ?_; clear hs hm a; rintro _ w ⟨g, rfl, -, hm⟩ a hs)
        | (refine stn hs rfl rfl (by first | exact d_store hs rfl rfl rfl tab rfl rfl rfl rfl hm (by repeat (first | exact Rep.head _ _ _ | apply Rep.tail)) (by rfl) | exact d_store1 hs rfl rfl rfl tab rfl rfl rfl rfl hm (by repeat (first | exact Rep.head _ _ _ | apply Rep.tail)) (by first | omega | assumption | (simp; omega))) ?_; clear hs hm a; rintro - w hm a hs)
        ))
    | (with_reducible first | apply lNilThen | apply lNilBlock | apply lNil | apply wp_seq | apply wp_region_lit | apply wp_block | apply cExit | apply cRet | apply cSkip | apply gThen | apply gBlock | apply eThen | apply eBlockHit | refine eBlock rfl ?_ | apply rThen | apply rBlock)
    | ((with_reducible apply cCond); (first | refine cTrue hs rfl (by first | rfl | assumption | exact decide_eq_true (by omega) | exact decide_eq_false (by omega) | exact ndT (by omega) | exact ndF (by omega)) ?_ | refine cFalse hs rfl (by first | rfl | assumption | exact decide_eq_true (by omega) | exact decide_eq_false (by omega) | exact ndT (by omega) | exact ndF (by omega)) ?_))
    )
  refine cLoop (X := Nat) (fun x a w' => Sl Try.f10.ntmps [(0, .slice yA m yc), (1, .slice sA m sc), (2, .int .i64 k), (6, .pointer (some ⟨g6, 0, none⟩)), (8, .slice rA rn rc), (10, .int .i64 (numS ss x : Int)), (11, .int .i64 (x : Int))] a ∧ Mm (fun _ => False) w1 [] w' ∧ x ≤ m) (fun x => m - x) 0 ⟨hs.sub (Has.all ⟨rfl, rfl, rfl, rfl, rfl, rfl, rfl, trivial⟩), hm, Nat.zero_le _⟩ ?_
  clear hs hm a
  rintro i a w' ⟨hs, hm, hi⟩
  have hnl := numS_le ss i
  by_cases hlt : i < m
  · obtain ⟨sb, so, rfl, hsb, hsr⟩ := hsf.ro (by unfold bools; rw [List.length_map]; omega)
    have il : i < ss.length := by omega
    have e1 : (bools ss)[i]? = some (.bool ss[i]) := by unfold bools; simp [il]
    have hst := numS_step ss i
    have hgd : ss.getD i false = ss[i] := by rw [List.getD_eq_getElem?_getD, List.getElem?_eq_getElem il]; rfl
    rw [hgd] at hst
    generalize ss[i]'(_) = bi at *
    cases bi
    · replace hst : numS ss (i + 1) = numS ss i := hst
      repeat (first
        | ((with_reducible refine toL hm ?_); (first
            | refine oneV hs (by first | exact Wnt.none rfl | exact Wnt.some rfl rfl rfl rfl) rfl rfl (by intro w hm; (first | exact r_val hs tab rfl | exact r_load hs rfl rfl tab rfl rfl (by first | exact hm.cl (by repeat (first | exact mH | apply mT)) (by first | rfl | assumption) | exact Ro.cl (by assumption) hm (by first | exact (fun t => t) | assumption) (by first | rfl | assumption) | exact Ro.cl0 (by assumption) hm (by first | exact (fun t => t) | assumption) (by first | rfl | assumption)) | exact r_loadO hs rfl rfl tab rfl rfl rfl hm (by repeat (first | exact mH | apply mT)) (by rfl) | exact r_loadA hs rfl rfl tab rfl rfl (Ro.ro (by assumption) hm (by first | exact (fun t => t) | assumption)) rfl | exact r_iz hs tab rfl rfl (by omega) | exact r_iy hs tab rfl rfl (by omega) | exact r_cT hs rfl (by omega) | exact r_cF hs rfl (by omega) | exact r_arH hs rfl (by assumption) (by omega) | exact r_pred hs rfl rfl rfl (by omega) | exact r_ar hs rfl (by omega) | exact r_bi hs rfl | exact r_pick hs rfl rfl rfl rfl)) ?_
            | refine oneN hs rfl rfl rfl rfl rfl rfl rfl ?_
            | refine oneU hs rfl rfl rfl rfl rfl rfl ?_); clear hs a; intro a hs)
        | ((with_reducible apply lCons); (first
            | (refine dv hs (by first | exact Wnt.none rfl | exact Wnt.some rfl rfl rfl rfl) rfl rfl (by first | exact d_alloc rfl tab rfl rfl hm | exact d_box hs rfl rfl rfl hm | exact d_buildSlice0 rfl tab rfl rfl rfl hm | exact d_buildSlice hs rfl tab rfl rfl rfl rfl rfl rfl rfl rfl rfl hm) ?_; clear hs hm a; rintro _ w ⟨g, rfl, -, hm⟩ a hs)
            | (refine stn hs rfl rfl (by first | exact d_store hs rfl rfl rfl tab rfl rfl rfl rfl hm (by repeat (first | exact Rep.head _ _ _ | apply Rep.tail)) (by rfl) | exact d_store1 hs rfl rfl rfl tab rfl rfl rfl rfl hm (by repeat (first | exact Rep.head _ _ _ | apply Rep.tail)) (by first | omega | assumption | (simp; omega))) ?_; clear hs hm a; rintro - w hm a hs)
            ))
        | (with_reducible first | apply lNilThen | apply lNilBlock | apply lNil | apply wp_seq | apply wp_region_lit | apply wp_block | apply cExit | apply cRet | apply cSkip | apply gThen | apply gBlock | apply eThen | apply eBlockHit | refine eBlock rfl ?_ | apply rThen | apply rBlock)
        | ((with_reducible apply cCond); (first | refine cTrue hs rfl (by first | rfl | assumption | exact decide_eq_true (by omega) | exact decide_eq_false (by omega) | exact ndT (by omega) | exact ndF (by omega)) ?_ | refine cFalse hs rfl (by first | rfl | assumption | exact decide_eq_true (by omega) | exact decide_eq_false (by omega) | exact ndT (by omega) | exact ndF (by omega)) ?_))
        )
      exact ⟨i + 1, by omega, hs.sub (Has.all ⟨rfl, rfl, rfl, rfl, rfl, by rw [hst]; rfl, rfl, trivial⟩), hm, by omega⟩
    · replace hst : numS ss (i + 1) = numS ss i + 1 := hst
      repeat (first
        | ((with_reducible refine toL hm ?_); (first
            | refine oneV hs (by first | exact Wnt.none rfl | exact Wnt.some rfl rfl rfl rfl) rfl rfl (by intro w hm; (first | exact r_val hs tab rfl | exact r_load hs rfl rfl tab rfl rfl (by first | exact hm.cl (by repeat (first | exact mH | apply mT)) (by first | rfl | assumption) | exact Ro.cl (by assumption) hm (by first | exact (fun t => t) | assumption) (by first | rfl | assumption) | exact Ro.cl0 (by assumption) hm (by first | exact (fun t => t) | assumption) (by first | rfl | assumption)) | exact r_loadO hs rfl rfl tab rfl rfl rfl hm (by repeat (first | exact mH | apply mT)) (by rfl) | exact r_loadA hs rfl rfl tab rfl rfl (Ro.ro (by assumption) hm (by first | exact (fun t => t) | assumption)) rfl | exact r_iz hs tab rfl rfl (by omega) | exact r_iy hs tab rfl rfl (by omega) | exact r_cT hs rfl (by omega) | exact r_cF hs rfl (by omega) | exact r_arH hs rfl (by assumption) (by omega) | exact r_pred hs rfl rfl rfl (by omega) | exact r_ar hs rfl (by omega) | exact r_bi hs rfl | exact r_pick hs rfl rfl rfl rfl)) ?_
            | refine oneN hs rfl rfl rfl rfl rfl rfl rfl ?_
            | refine oneU hs rfl rfl rfl rfl rfl rfl ?_); clear hs a; intro a hs)
        | ((with_reducible apply lCons); (first
            | (refine dv hs (by first | exact Wnt.none rfl | exact Wnt.some rfl rfl rfl rfl) rfl rfl (by first | exact d_alloc rfl tab rfl rfl hm | exact d_box hs rfl rfl rfl hm | exact d_buildSlice0 rfl tab rfl rfl rfl hm | exact d_buildSlice hs rfl tab rfl rfl rfl rfl rfl rfl rfl rfl rfl hm) ?_; clear hs hm a; rintro _ w ⟨g, rfl, -, hm⟩ a hs)
            | (refine stn hs rfl rfl (by first | exact d_store hs rfl rfl rfl tab rfl rfl rfl rfl hm (by repeat (first | exact Rep.head _ _ _ | apply Rep.tail)) (by rfl) | exact d_store1 hs rfl rfl rfl tab rfl rfl rfl rfl hm (by repeat (first | exact Rep.head _ _ _ | apply Rep.tail)) (by first | omega | assumption | (simp; omega))) ?_; clear hs hm a; rintro - w hm a hs)
            ))
        | (with_reducible first | apply lNilThen | apply lNilBlock | apply lNil | apply wp_seq | apply wp_region_lit | apply wp_block | apply cExit | apply cRet | apply cSkip | apply gThen | apply gBlock | apply eThen | apply eBlockHit | refine eBlock rfl ?_ | apply rThen | apply rBlock)
        | ((with_reducible apply cCond); (first | refine cTrue hs rfl (by first | rfl | assumption | exact decide_eq_true (by omega) | exact decide_eq_false (by omega) | exact ndT (by omega) | exact ndF (by omega)) ?_ | refine cFalse hs rfl (by first | rfl | assumption | exact decide_eq_true (by omega) | exact decide_eq_false (by omega) | exact ndT (by omega) | exact ndF (by omega)) ?_))
        )
      exact ⟨i + 1, by omega, hs.sub (Has.all ⟨rfl, rfl, rfl, rfl, rfl, by rw [hst]; rfl, rfl, trivial⟩), hm, by omega⟩
  · have him : i = m := by omega
    subst him
    unfold decideR
    generalize numS ss i = t at *
    have hsat : (⟨some g6, 30, [.int .i64 0, .slice none 0 0, .slice none 0 0]⟩ : Hp).sat w1 := hm0.me _ (List.mem_cons_self ..)
    by_cases hkt : (t : Int) < k
    · rw [if_pos hkt]
      replace hm := hm0.trans (hm.adopt hsat)
      repeat (first
        | ((with_reducible refine toL hm ?_); (first
            | refine oneV hs (by first | exact Wnt.none rfl | exact Wnt.some rfl rfl rfl rfl) rfl rfl (by intro w hm; (first | exact r_val hs tab rfl | exact r_load hs rfl rfl tab rfl rfl (by first | exact hm.cl (by repeat (first | exact mH | apply mT)) (by first | rfl | assumption) | exact Ro.cl (by assumption) hm (by first | exact (fun t => t) | assumption) (by first | rfl | assumption) | exact Ro.cl0 (by assumption) hm (by first | exact (fun t => t) | assumption) (by first | rfl | assumption)) | exact r_loadO hs rfl rfl tab rfl rfl rfl hm (by repeat (first | exact mH | apply mT)) (by rfl) | exact r_loadA hs rfl rfl tab rfl rfl (Ro.ro (by assumption) hm (by first | exact (fun t => t) | assumption)) rfl | exact r_iz hs tab rfl rfl (by omega) | exact r_iy hs tab rfl rfl (by omega) | exact r_cT hs rfl (by omega) | exact r_cF hs rfl (by omega) | exact r_arH hs rfl (by assumption) (by omega) | exact r_pred hs rfl rfl rfl (by omega) | exact r_ar hs rfl (by omega) | exact r_bi hs rfl | exact r_pick hs rfl rfl rfl rfl)) ?_
            | refine oneN hs rfl rfl rfl rfl rfl rfl rfl ?_
            | refine oneU hs rfl rfl rfl rfl rfl rfl ?_); clear hs a; intro a hs)
        | ((with_reducible apply lCons); (first
            | (refine dv hs (by first | exact Wnt.none rfl | exact Wnt.some rfl rfl rfl rfl) rfl rfl (by first | exact d_alloc rfl tab rfl rfl hm | exact d_box hs rfl rfl rfl hm | exact d_buildSlice0 rfl tab rfl rfl rfl hm | exact d_buildSlice hs rfl tab rfl rfl rfl rfl rfl rfl rfl rfl rfl hm) ?_; clear hs hm a; rintro _ w ⟨g, rfl, -, hm⟩ a hs)
            | (refine stn hs rfl rfl (by first | exact d_store hs rfl rfl rfl tab rfl rfl rfl rfl hm (by repeat (first | exact Rep.head _ _ _ | apply Rep.tail)) (by rfl) | exact d_store1 hs rfl rfl rfl tab rfl rfl rfl rfl hm (by repeat (first | exact Rep.head _ _ _ | apply Rep.tail)) (by first | omega | assumption | (simp; omega))) ?_; clear hs hm a; rintro - w hm a hs)
            ))
        | (with_reducible first | apply lNilThen | apply lNilBlock | apply lNil | apply wp_seq | apply wp_region_lit | apply wp_block | apply cExit | apply cRet | apply cSkip | apply gThen | apply gBlock | apply eThen | apply eBlockHit | refine eBlock rfl ?_ | apply rThen | apply rBlock)
        | ((with_reducible apply cCond); (first | refine cTrue hs rfl (by first | rfl | assumption | exact decide_eq_true (by omega) | exact decide_eq_false (by omega) | exact ndT (by omega) | exact ndF (by omega)) ?_ | refine cFalse hs rfl (by first | rfl | assumption | exact decide_eq_true (by omega) | exact decide_eq_false (by omega) | exact ndT (by omega) | exact ndF (by omega)) ?_))
        )
      exact gRetN tab hs rfl (.cons (.cells rfl rfl rfl rfl (hm.ro (by repeat (first | exact List.Mem.head _ | apply List.Mem.tail)) (cutF_ok (k := 0) (n := 3) rfl))) (.cons (.tmp rfl) .nil)) ⟨⟨4, ⟨none, 0, 0, []⟩, ⟨none, 0, 0, []⟩⟩, rfl, ⟨⟨rfl, Rd.nil, fun x hx => by cases hx⟩, ⟨rfl, Rd.nil⟩, Nat.zero_le _⟩, rfl, hm.fr⟩
    · rw [if_neg hkt]
      have hnd := fun w => rneeded_c (t : Int) w
      generalize hq : neededF (t : Int) = q at *
      repeat (first
        | ((with_reducible refine toL hm ?_); (first
            | refine oneV hs (by first | exact Wnt.none rfl | exact Wnt.some rfl rfl rfl rfl) rfl rfl (by intro w hm; (first | exact r_val hs tab rfl | exact r_load hs rfl rfl tab rfl rfl (by first | exact hm.cl (by repeat (first | exact mH | apply mT)) (by first | rfl | assumption) | exact Ro.cl (by assumption) hm (by first | exact (fun t => t) | assumption) (by first | rfl | assumption) | exact Ro.cl0 (by assumption) hm (by first | exact (fun t => t) | assumption) (by first | rfl | assumption)) | exact r_loadO hs rfl rfl tab rfl rfl rfl hm (by repeat (first | exact mH | apply mT)) (by rfl) | exact r_loadA hs rfl rfl tab rfl rfl (Ro.ro (by assumption) hm (by first | exact (fun t => t) | assumption)) rfl | exact r_iz hs tab rfl rfl (by omega) | exact r_iy hs tab rfl rfl (by omega) | exact r_cT hs rfl (by omega) | exact r_cF hs rfl (by omega) | exact r_arH hs rfl (by assumption) (by omega) | exact r_pred hs rfl rfl rfl (by omega) | exact r_ar hs rfl (by omega) | exact r_bi hs rfl | exact r_pick hs rfl rfl rfl rfl)) ?_
            | refine oneN hs rfl rfl rfl rfl rfl rfl rfl ?_
            | refine oneU hs rfl rfl rfl rfl rfl rfl ?_); clear hs a; intro a hs)
        | ((with_reducible apply lCons); (first
            | (refine dv hs (by first | exact Wnt.none rfl | exact Wnt.some rfl rfl rfl rfl) rfl rfl (by first | exact d_alloc rfl tab rfl rfl hm | exact d_box hs rfl rfl rfl hm | exact d_buildSlice0 rfl tab rfl rfl rfl hm | exact d_buildSlice hs rfl tab rfl rfl rfl rfl rfl rfl rfl rfl rfl hm) ?_; clear hs hm a; rintro _ w ⟨g, rfl, -, hm⟩ a hs)
            | (refine stn hs rfl rfl (by first | exact d_store hs rfl rfl rfl tab rfl rfl rfl rfl hm (by repeat (first | exact Rep.head _ _ _ | apply Rep.tail)) (by rfl) | exact d_store1 hs rfl rfl rfl tab rfl rfl rfl rfl hm (by repeat (first | exact Rep.head _ _ _ | apply Rep.tail)) (by first | omega | assumption | (simp; omega))) ?_; clear hs hm a; rintro - w hm a hs)
            ))
        | (with_reducible first | apply lNilThen | apply lNilBlock | apply lNil | apply wp_seq | apply wp_region_lit | apply wp_block | apply cExit | apply cRet | apply cSkip | apply gThen | apply gBlock | apply eThen | apply eBlockHit | refine eBlock rfl ?_ | apply rThen | apply rBlock)
        | ((with_reducible apply cCond); (first | refine cTrue hs rfl (by first | rfl | assumption | exact decide_eq_true (by omega) | exact decide_eq_false (by omega) | exact ndT (by omega) | exact ndF (by omega)) ?_ | refine cFalse hs rfl (by first | rfl | assumption | exact decide_eq_true (by omega) | exact decide_eq_false (by omega) | exact ndT (by omega) | exact ndF (by omega)) ?_))
        )
      refine cLoop (X := Nat) (fun x a w' => Sl Try.f10.ntmps [(6, .pointer (some ⟨g6, 0, none⟩)), (8, .slice rA rn rc), (10, .int .i64 (t : Int)), (12, .int .i64 (x : Int))] a ∧ Mm (fun _ => False) w1 [] w' ∧ x ≤ rn ∧ ∀ j (h : j < C.length), j < x → hitB q C[j] = false) (fun x => rn - x) 0 ⟨hs.sub (Has.all ⟨rfl, rfl, rfl, rfl, trivial⟩), hm, Nat.zero_le _, fun j _ h => absurd h (Nat.not_lt_zero _)⟩ ?_
      clear hs hm a
      rintro i2 a w' ⟨hs, hm, hi2, hno⟩
      by_cases hlt2 : i2 < rn
      · have k1 : i2 < rl.length := by omega
        obtain ⟨cb, co, rfl, hcb, hcr⟩ := hrd.ro (by rw [flat_len Cl.cs 3 Cl.len]; omega)
        have e1 := hcr.flat Cl.len k1
        have hx := hCat i2 k1
        have hxo := hrel rl[i2] (List.getElem_mem k1)
        generalize hX : rl[i2]'(_) = X at *
        obtain ⟨xh, ⟨xA, xn, xc, xx⟩, ⟨mA, mn, mc, ms⟩⟩ := X
        obtain ⟨hx0, hx1, hx2⟩ := hxo
        unfold Cl.cs BS.v IS.v at e1
        dsimp only at e1 hx1 hx2
        have hx' : C[i2]? = some (xh, xx, ms) := hx
        have k2 : i2 < C.length := by omega
        have hxe : C[i2] = (xh, xx, ms) := by rw [List.getElem?_eq_getElem k2] at hx'; exact Option.some.inj hx'
        have hnext : hitB q (xh, xx, ms) = false → ∀ j (h : j < C.length), j < i2 + 1 → hitB q C[j] = false := fun hf j h hj => by
          rcases Nat.lt_or_ge j i2 with h1 | h1
          · exact hno j h h1
          · have : j = i2 := by omega
            subst this
            rw [hxe]; exact hf
        cases xh
        · repeat (first
            | ((with_reducible first | refine toL hm ?_ | refine toQ ?_); (first
                | refine oneV hs (by first | exact Wnt.none rfl | exact Wnt.some rfl rfl rfl rfl) rfl rfl (by intro w hm; (first | exact r_val hs tab rfl | exact r_load hs rfl rfl tab rfl rfl (by first | exact hm.cl (by repeat (first | exact mH | apply mT)) (by first | rfl | assumption) | exact Ro.cl (by assumption) hm (by first | exact (fun t => t) | assumption) (by first | rfl | assumption) | exact Ro.cl0 (by assumption) hm (by first | exact (fun t => t) | assumption) (by first | rfl | assumption)) | exact r_loadO hs rfl rfl tab rfl rfl rfl hm (by repeat (first | exact mH | apply mT)) (by rfl) | exact r_loadA hs rfl rfl tab rfl rfl (Ro.ro (by assumption) hm (by first | exact (fun t => t) | assumption)) rfl | exact r_iz hs tab rfl rfl (by omega) | exact r_iy hs tab rfl rfl (by omega) | exact r_cT hs rfl (by omega) | exact r_cF hs rfl (by omega) | exact r_arH hs rfl (by assumption) (by omega) | exact r_pred hs rfl rfl rfl (by omega) | exact r_ar hs rfl (by omega) | exact r_bi hs rfl | exact r_pick hs rfl rfl rfl rfl)) ?_
                | refine oneN hs rfl rfl rfl rfl rfl rfl rfl ?_
                | refine oneU hs rfl rfl rfl rfl rfl rfl ?_); clear hs a; intro a hs)
            | ((with_reducible apply lCons); (first
                | (refine dv hs (by first | exact Wnt.none rfl | exact Wnt.some rfl rfl rfl rfl) rfl rfl (by first | exact d_alloc rfl tab rfl rfl hm | exact d_box hs rfl rfl rfl hm | exact d_buildSlice0 rfl tab rfl rfl rfl hm | exact d_buildSlice hs rfl tab rfl rfl rfl rfl rfl rfl rfl rfl rfl hm) ?_; clear hs hm a; rintro _ w ⟨g, rfl, -, hm⟩ a hs)
                | (refine stn hs rfl rfl (by first | exact d_store hs rfl rfl rfl tab rfl rfl rfl rfl hm (by repeat (first | exact Rep.head _ _ _ | apply Rep.tail)) (by rfl) | exact d_store1 hs rfl rfl rfl tab rfl rfl rfl rfl hm (by repeat (first | exact Rep.head _ _ _ | apply Rep.tail)) (by first | omega | assumption | (simp; omega))) ?_; clear hs hm a; rintro - w hm a hs)
                ))
            | ((with_reducible apply qNil); clear hm; intro w hm)
            | ((with_reducible refine cQuiet hm ?_ ?_ ?_ ?_); rfl; kernel_rfl; kernel_rfl)
            | (with_reducible first | apply lNilThen | apply lNilBlock | apply lNil | apply wp_seq | apply wp_region_lit | apply wp_block | apply cExit | apply cRet | apply cSkip | apply gThen | apply gBlock | apply eThen | apply eBlockHit | refine eBlock rfl ?_ | apply rThen | apply rBlock)
            | ((with_reducible apply cCond); (first | refine cTrue hs rfl (by first | rfl | assumption | exact decide_eq_true (by omega) | exact decide_eq_false (by omega) | exact ndT (by omega) | exact ndF (by omega)) ?_ | refine cFalse hs rfl (by first | rfl | assumption | exact decide_eq_true (by omega) | exact decide_eq_false (by omega) | exact ndT (by omega) | exact ndF (by omega)) ?_))
            )
          exact ⟨i2 + 1, by omega, hs.sub (Has.all ⟨rfl, rfl, rfl, rfl, trivial⟩), hm, by omega, hnext rfl⟩
        · by_cases hmq : (mn : Int) < q
          · repeat (first
              | ((with_reducible first | refine toL hm ?_ | refine toQ ?_); (first
                  | refine oneV hs (by first | exact Wnt.none rfl | exact Wnt.some rfl rfl rfl rfl) rfl rfl (by intro w hm; (first | exact r_val hs tab rfl | exact r_load hs rfl rfl tab rfl rfl (by first | exact hm.cl (by repeat (first | exact mH | apply mT)) (by first | rfl | assumption) | exact Ro.cl (by assumption) hm (by first | exact (fun t => t) | assumption) (by first | rfl | assumption) | exact Ro.cl0 (by assumption) hm (by first | exact (fun t => t) | assumption) (by first | rfl | assumption)) | exact r_loadO hs rfl rfl tab rfl rfl rfl hm (by repeat (first | exact mH | apply mT)) (by rfl) | exact r_loadA hs rfl rfl tab rfl rfl (Ro.ro (by assumption) hm (by first | exact (fun t => t) | assumption)) rfl | exact r_iz hs tab rfl rfl (by omega) | exact r_iy hs tab rfl rfl (by omega) | exact r_cT hs rfl (by omega) | exact r_cF hs rfl (by omega) | exact r_arH hs rfl (by assumption) (by omega) | exact r_pred hs rfl rfl rfl (by omega) | exact r_ar hs rfl (by omega) | exact r_bi hs rfl | exact r_pick hs rfl rfl rfl rfl)) ?_
                  | refine oneN hs rfl rfl rfl rfl rfl rfl rfl ?_
                  | refine oneU hs rfl rfl rfl rfl rfl rfl ?_); clear hs a; intro a hs)
              | ((with_reducible apply lCons); (first
                  | (refine dv hs (by first | exact Wnt.none rfl | exact Wnt.some rfl rfl rfl rfl) rfl rfl (by first | exact d_alloc rfl tab rfl rfl hm | exact d_box hs rfl rfl rfl hm | exact d_buildSlice0 rfl tab rfl rfl rfl hm | exact d_buildSlice hs rfl tab rfl rfl rfl rfl rfl rfl rfl rfl rfl hm) ?_; clear hs hm a; rintro _ w ⟨g, rfl, -, hm⟩ a hs)
                  | (refine stn hs rfl rfl (by first | exact d_store hs rfl rfl rfl tab rfl rfl rfl rfl hm (by repeat (first | exact Rep.head _ _ _ | apply Rep.tail)) (by rfl) | exact d_store1 hs rfl rfl rfl tab rfl rfl rfl rfl hm (by repeat (first | exact Rep.head _ _ _ | apply Rep.tail)) (by first | omega | assumption | (simp; omega))) ?_; clear hs hm a; rintro - w hm a hs)
                  | (refine dv hs (by first | exact Wnt.none rfl | exact Wnt.some rfl rfl rfl rfl) rfl rfl (d_call hs rfl rfl rfl (pl 13 rfl) (hnd _)) ?_; clear hs a; rintro _ w ⟨rfl, hf⟩ a hs; replace hm := hm.pu hf; clear hf)
                  ))
              | ((with_reducible apply qCons); (first
                  | (refine qwcall hs (by first | exact Wnt.none rfl | exact Wnt.some rfl rfl rfl rfl) rfl rfl rfl rfl rfl (pl 13 rfl) (by intro w hm; exact Ret.mono (hnd _) (fun _ _ ⟨h1, h2⟩ => ⟨h1, hm.pu h2⟩)) ?_; clear hs a; intro a hs)
                  ))
              | ((with_reducible apply qNil); clear hm; intro w hm)
              | ((with_reducible refine cQuiet hm ?_ ?_ ?_ ?_); rfl; kernel_rfl; kernel_rfl)
              | (with_reducible first | apply lNilThen | apply lNilBlock | apply lNil | apply wp_seq | apply wp_region_lit | apply wp_block | apply cExit | apply cRet | apply cSkip | apply gThen | apply gBlock | apply eThen | apply eBlockHit | refine eBlock rfl ?_ | apply rThen | apply rBlock)
              | ((with_reducible apply cCond); (first | refine cTrue hs rfl (by first | rfl | assumption | exact decide_eq_true (by omega) | exact decide_eq_false (by omega) | exact ndT (by omega) | exact ndF (by omega)) ?_ | refine cFalse hs rfl (by first | rfl | assumption | exact decide_eq_true (by omega) | exact decide_eq_false (by omega) | exact ndT (by omega) | exact ndF (by omega)) ?_))
              )
            exact ⟨i2 + 1, by omega, hs.sub (Has.all ⟨rfl, rfl, rfl, rfl, trivial⟩), hm, by omega, hnext (by unfold hitB; rw [decide_eq_false (by dsimp only; omega)]; rfl)⟩
          · have hfi : C.findIdx (hitB q) = i2 := (List.findIdx_eq k2).2 ⟨by rw [hxe]; unfold hitB; rw [decide_eq_true (by dsimp only; omega)]; rfl, fun j hj => hno j (by omega) hj⟩
            rw [pickR_some hfi hx']
            have hoi := ho i2 (by omega)
            repeat (first
              | ((with_reducible first | refine toL hm ?_ | refine toQ ?_); (first
                  | refine oneV hs (by first | exact Wnt.none rfl | exact Wnt.some rfl rfl rfl rfl) rfl rfl (by intro w hm; (first | exact r_val hs tab rfl | exact r_load hs rfl rfl tab rfl rfl (by first | exact hm.cl (by repeat (first | exact mH | apply mT)) (by first | rfl | assumption) | exact Ro.cl (by assumption) hm (by first | exact (fun t => t) | assumption) (by first | rfl | assumption) | exact Ro.cl0 (by assumption) hm (by first | exact (fun t => t) | assumption) (by first | rfl | assumption)) | exact r_loadO hs rfl rfl tab rfl rfl rfl hm (by repeat (first | exact mH | apply mT)) (by rfl) | exact r_loadA hs rfl rfl tab rfl rfl (Ro.ro (by assumption) hm (by first | exact (fun t => t) | assumption)) rfl | exact r_iz hs tab rfl rfl (by omega) | exact r_iy hs tab rfl rfl (by omega) | exact r_cT hs rfl (by omega) | exact r_cF hs rfl (by omega) | exact r_arH hs rfl (by assumption) (by omega) | exact r_pred hs rfl rfl rfl (by omega) | exact r_ar hs rfl (by omega) | exact r_bi hs rfl | exact r_pick hs rfl rfl rfl rfl)) ?_
                  | refine oneN hs rfl rfl rfl rfl rfl rfl rfl ?_
                  | refine oneU hs rfl rfl rfl rfl rfl rfl ?_); clear hs a; intro a hs)
              | ((with_reducible apply lCons); (first
                  | (refine dv hs (by first | exact Wnt.none rfl | exact Wnt.some rfl rfl rfl rfl) rfl rfl (by first | exact d_alloc rfl tab rfl rfl hm | exact d_box hs rfl rfl rfl hm | exact d_buildSlice0 rfl tab rfl rfl rfl hm | exact d_buildSlice hs rfl tab rfl rfl rfl rfl rfl rfl rfl rfl rfl hm) ?_; clear hs hm a; rintro _ w ⟨g, rfl, -, hm⟩ a hs)
                  | (refine stn hs rfl rfl (by first | exact d_store hs rfl rfl rfl tab rfl rfl rfl rfl hm (by repeat (first | exact Rep.head _ _ _ | apply Rep.tail)) (by rfl) | exact d_store1 hs rfl rfl rfl tab rfl rfl rfl rfl hm (by repeat (first | exact Rep.head _ _ _ | apply Rep.tail)) (by first | omega | assumption | (simp; omega))) ?_; clear hs hm a; rintro - w hm a hs)
                  | (refine dv hs (by first | exact Wnt.none rfl | exact Wnt.some rfl rfl rfl rfl) rfl rfl (d_call hs rfl rfl rfl (pl 13 rfl) (hnd _)) ?_; clear hs a; rintro _ w ⟨rfl, hf⟩ a hs; replace hm := hm.pu hf; clear hf)
                  ))
              | ((with_reducible apply qCons); (first
                  | (refine qwcall hs (by first | exact Wnt.none rfl | exact Wnt.some rfl rfl rfl rfl) rfl rfl rfl rfl rfl (pl 13 rfl) (by intro w hm; exact Ret.mono (hnd _) (fun _ _ ⟨h1, h2⟩ => ⟨h1, hm.pu h2⟩)) ?_; clear hs a; intro a hs)
                  ))
              | ((with_reducible apply qNil); clear hm; intro w hm)
              | ((with_reducible refine cQuiet hm ?_ ?_ ?_ ?_); rfl; kernel_rfl; kernel_rfl)
              | (with_reducible first | apply lNilThen | apply lNilBlock | apply lNil | apply wp_seq | apply wp_region_lit | apply wp_block | apply cExit | apply cRet | apply cSkip | apply gThen | apply gBlock | apply eThen | apply eBlockHit | refine eBlock rfl ?_ | apply rThen | apply rBlock)
              | ((with_reducible apply cCond); (first | refine cTrue hs rfl (by first | rfl | assumption | exact decide_eq_true (by omega) | exact decide_eq_false (by omega) | exact ndT (by omega) | exact ndF (by omega)) ?_ | refine cFalse hs rfl (by first | rfl | assumption | exact decide_eq_true (by omega) | exact decide_eq_false (by omega) | exact ndT (by omega) | exact ndF (by omega)) ?_))
              )
            refine cDraw (n := 11) [] hm rfl rfl ?_
            clear hm
            intro w2 hm
            refine hTake 0 hs rfl (by kernel_rfl) (by first | exact Wnt.none rfl | exact Wnt.some rfl rfl rfl rfl) rfl rfl (by intro w hm; replace hm : Mm _ _ _ w := hm; (first | exact r_val hs tab rfl | exact r_load hs rfl rfl tab rfl rfl (by first | exact hm.cl (by repeat (first | exact mH | apply mT)) (by first | rfl | assumption) | exact Ro.cl (by assumption) hm (by first | exact (fun t => t) | assumption) (by first | rfl | assumption) | exact Ro.cl0 (by assumption) hm (by first | exact (fun t => t) | assumption) (by first | rfl | assumption)) | exact r_loadO hs rfl rfl tab rfl rfl rfl hm (by repeat (first | exact mH | apply mT)) (by rfl) | exact r_loadA hs rfl rfl tab rfl rfl (Ro.ro (by assumption) hm (by first | exact (fun t => t) | assumption)) rfl | exact r_iz hs tab rfl rfl (by omega) | exact r_iy hs tab rfl rfl (by omega) | exact r_cT hs rfl (by omega) | exact r_cF hs rfl (by omega) | exact r_arH hs rfl (by assumption) (by omega) | exact r_pred hs rfl rfl rfl (by omega) | exact r_ar hs rfl (by omega) | exact r_bi hs rfl | exact r_pick hs rfl rfl rfl rfl)) (hm.sub (by repeat (first | exact List.Sublist.refl _ | exact List.nil_sublist _ | apply List.Sublist.cons))) ?_; clear hs a; intro a hs
            refine hTake 1 hs rfl (by kernel_rfl) (by first | exact Wnt.none rfl | exact Wnt.some rfl rfl rfl rfl) rfl rfl (by intro w hm; replace hm : Mm _ _ _ w := hm; (first | exact r_val hs tab rfl | exact r_load hs rfl rfl tab rfl rfl (by first | exact hm.cl (by repeat (first | exact mH | apply mT)) (by first | rfl | assumption) | exact Ro.cl (by assumption) hm (by first | exact (fun t => t) | assumption) (by first | rfl | assumption) | exact Ro.cl0 (by assumption) hm (by first | exact (fun t => t) | assumption) (by first | rfl | assumption)) | exact r_loadO hs rfl rfl tab rfl rfl rfl hm (by repeat (first | exact mH | apply mT)) (by rfl) | exact r_loadA hs rfl rfl tab rfl rfl (Ro.ro (by assumption) hm (by first | exact (fun t => t) | assumption)) rfl | exact r_iz hs tab rfl rfl (by omega) | exact r_iy hs tab rfl rfl (by omega) | exact r_cT hs rfl (by omega) | exact r_cF hs rfl (by omega) | exact r_arH hs rfl (by assumption) (by omega) | exact r_pred hs rfl rfl rfl (by omega) | exact r_ar hs rfl (by omega) | exact r_bi hs rfl | exact r_pick hs rfl rfl rfl rfl)) (hm.sub (by repeat (first | exact List.Sublist.refl _ | exact List.nil_sublist _ | apply List.Sublist.cons))) ?_; clear hs a; intro a hs
            refine hTake 2 hs rfl (by kernel_rfl) (by first | exact Wnt.none rfl | exact Wnt.some rfl rfl rfl rfl) rfl rfl (by intro w hm; replace hm : Mm _ _ _ w := hm; (first | exact r_val hs tab rfl | exact r_load hs rfl rfl tab rfl rfl (by first | exact hm.cl (by repeat (first | exact mH | apply mT)) (by first | rfl | assumption) | exact Ro.cl (by assumption) hm (by first | exact (fun t => t) | assumption) (by first | rfl | assumption) | exact Ro.cl0 (by assumption) hm (by first | exact (fun t => t) | assumption) (by first | rfl | assumption)) | exact r_loadO hs rfl rfl tab rfl rfl rfl hm (by repeat (first | exact mH | apply mT)) (by rfl) | exact r_loadA hs rfl rfl tab rfl rfl (Ro.ro (by assumption) hm (by first | exact (fun t => t) | assumption)) rfl | exact r_iz hs tab rfl rfl (by omega) | exact r_iy hs tab rfl rfl (by omega) | exact r_cT hs rfl (by omega) | exact r_cF hs rfl (by omega) | exact r_arH hs rfl (by assumption) (by omega) | exact r_pred hs rfl rfl rfl (by omega) | exact r_ar hs rfl (by omega) | exact r_bi hs rfl | exact r_pick hs rfl rfl rfl rfl)) (hm.sub (by repeat (first | exact List.Sublist.refl _ | exact List.nil_sublist _ | apply List.Sublist.cons))) ?_; clear hs a; intro a hs
            refine hTake 3 hs rfl (by kernel_rfl) (by first | exact Wnt.none rfl | exact Wnt.some rfl rfl rfl rfl) rfl rfl (by intro w hm; replace hm : Mm _ _ _ w := hm; (first | exact r_val hs tab rfl | exact r_load hs rfl rfl tab rfl rfl (by first | exact hm.cl (by repeat (first | exact mH | apply mT)) (by first | rfl | assumption) | exact Ro.cl (by assumption) hm (by first | exact (fun t => t) | assumption) (by first | rfl | assumption) | exact Ro.cl0 (by assumption) hm (by first | exact (fun t => t) | assumption) (by first | rfl | assumption)) | exact r_loadO hs rfl rfl tab rfl rfl rfl hm (by repeat (first | exact mH | apply mT)) (by rfl) | exact r_loadA hs rfl rfl tab rfl rfl (Ro.ro (by assumption) hm (by first | exact (fun t => t) | assumption)) rfl | exact r_iz hs tab rfl rfl (by omega) | exact r_iy hs tab rfl rfl (by omega) | exact r_cT hs rfl (by omega) | exact r_cF hs rfl (by omega) | exact r_arH hs rfl (by assumption) (by omega) | exact r_pred hs rfl rfl rfl (by omega) | exact r_ar hs rfl (by omega) | exact r_bi hs rfl | exact r_pick hs rfl rfl rfl rfl)) (hm.sub (by repeat (first | exact List.Sublist.refl _ | exact List.nil_sublist _ | apply List.Sublist.cons))) ?_; clear hs a; intro a hs
            refine hTake 4 hs rfl (by kernel_rfl) (by first | exact Wnt.none rfl | exact Wnt.some rfl rfl rfl rfl) rfl rfl (by intro w hm; replace hm : Mm _ _ _ w := hm; (first | exact r_val hs tab rfl | exact r_load hs rfl rfl tab rfl rfl (by first | exact hm.cl (by repeat (first | exact mH | apply mT)) (by first | rfl | assumption) | exact Ro.cl (by assumption) hm (by first | exact (fun t => t) | assumption) (by first | rfl | assumption) | exact Ro.cl0 (by assumption) hm (by first | exact (fun t => t) | assumption) (by first | rfl | assumption)) | exact r_loadO hs rfl rfl tab rfl rfl rfl hm (by repeat (first | exact mH | apply mT)) (by rfl) | exact r_loadA hs rfl rfl tab rfl rfl (Ro.ro (by assumption) hm (by first | exact (fun t => t) | assumption)) rfl | exact r_iz hs tab rfl rfl (by omega) | exact r_iy hs tab rfl rfl (by omega) | exact r_cT hs rfl (by omega) | exact r_cF hs rfl (by omega) | exact r_arH hs rfl (by assumption) (by omega) | exact r_pred hs rfl rfl rfl (by omega) | exact r_ar hs rfl (by omega) | exact r_bi hs rfl | exact r_pick hs rfl rfl rfl rfl)) (hm.sub (by repeat (first | exact List.Sublist.refl _ | exact List.nil_sublist _ | apply List.Sublist.cons))) ?_; clear hs a; intro a hs
            refine hTake 5 hs rfl (by kernel_rfl) (by first | exact Wnt.none rfl | exact Wnt.some rfl rfl rfl rfl) rfl rfl (by intro w hm; replace hm : Mm _ _ _ w := hm; (first | exact r_val hs tab rfl | exact r_load hs rfl rfl tab rfl rfl (by first | exact hm.cl (by repeat (first | exact mH | apply mT)) (by first | rfl | assumption) | exact Ro.cl (by assumption) hm (by first | exact (fun t => t) | assumption) (by first | rfl | assumption) | exact Ro.cl0 (by assumption) hm (by first | exact (fun t => t) | assumption) (by first | rfl | assumption)) | exact r_loadO hs rfl rfl tab rfl rfl rfl hm (by repeat (first | exact mH | apply mT)) (by rfl) | exact r_loadA hs rfl rfl tab rfl rfl (Ro.ro (by assumption) hm (by first | exact (fun t => t) | assumption)) rfl | exact r_iz hs tab rfl rfl (by omega) | exact r_iy hs tab rfl rfl (by omega) | exact r_cT hs rfl (by omega) | exact r_cF hs rfl (by omega) | exact r_arH hs rfl (by assumption) (by omega) | exact r_pred hs rfl rfl rfl (by omega) | exact r_ar hs rfl (by omega) | exact r_bi hs rfl | exact r_pick hs rfl rfl rfl rfl)) (hm.sub (by repeat (first | exact List.Sublist.refl _ | exact List.nil_sublist _ | apply List.Sublist.cons))) ?_; clear hs a; intro a hs
            refine hTake 6 hs rfl (by kernel_rfl) (by first | exact Wnt.none rfl | exact Wnt.some rfl rfl rfl rfl) rfl rfl (by intro w hm; replace hm : Mm _ _ _ w := hm; (first | exact r_val hs tab rfl | exact r_load hs rfl rfl tab rfl rfl (by first | exact hm.cl (by repeat (first | exact mH | apply mT)) (by first | rfl | assumption) | exact Ro.cl (by assumption) hm (by first | exact (fun t => t) | assumption) (by first | rfl | assumption) | exact Ro.cl0 (by assumption) hm (by first | exact (fun t => t) | assumption) (by first | rfl | assumption)) | exact r_loadO hs rfl rfl tab rfl rfl rfl hm (by repeat (first | exact mH | apply mT)) (by rfl) | exact r_loadA hs rfl rfl tab rfl rfl (Ro.ro (by assumption) hm (by first | exact (fun t => t) | assumption)) rfl | exact r_iz hs tab rfl rfl (by omega) | exact r_iy hs tab rfl rfl (by omega) | exact r_cT hs rfl (by omega) | exact r_cF hs rfl (by omega) | exact r_arH hs rfl (by assumption) (by omega) | exact r_pred hs rfl rfl rfl (by omega) | exact r_ar hs rfl (by omega) | exact r_bi hs rfl | exact r_pick hs rfl rfl rfl rfl)) (hm.sub (by repeat (first | exact List.Sublist.refl _ | exact List.nil_sublist _ | apply List.Sublist.cons))) ?_; clear hs a; intro a hs
            refine hEach [7, 9] (by kernel_rfl) (eDo hs rfl (Wnt.none rfl) rfl rfl (by exact d_call hs rfl rfl rfl (pl 24 rfl) (hoi _ hm.fr)) ?_ ?_)
            · clear hs
              rintro _ w3 ⟨A, c, cs, rfl, hrow, hnew, hf⟩ a hs
              replace hm := hm.gain hf hnew
              clear hnew hf
              refine ⟨hm.sub (List.nil_sublist _), ?_⟩
              refine hTake 8 hs rfl (by kernel_rfl) (by first | exact Wnt.none rfl | exact Wnt.some rfl rfl rfl rfl) rfl rfl (by intro w hm; replace hm : Mm _ _ _ w := hm; (first | exact r_val hs tab rfl | exact r_load hs rfl rfl tab rfl rfl (by first | exact hm.cl (by repeat (first | exact mH | apply mT)) (by first | rfl | assumption) | exact Ro.cl (by assumption) hm (by first | exact (fun t => t) | assumption) (by first | rfl | assumption) | exact Ro.cl0 (by assumption) hm (by first | exact (fun t => t) | assumption) (by first | rfl | assumption)) | exact r_loadO hs rfl rfl tab rfl rfl rfl hm (by repeat (first | exact mH | apply mT)) (by rfl) | exact r_loadA hs rfl rfl tab rfl rfl (Ro.ro (by assumption) hm (by first | exact (fun t => t) | assumption)) rfl | exact r_iz hs tab rfl rfl (by omega) | exact r_iy hs tab rfl rfl (by omega) | exact r_cT hs rfl (by omega) | exact r_cF hs rfl (by omega) | exact r_arH hs rfl (by assumption) (by omega) | exact r_pred hs rfl rfl rfl (by omega) | exact r_ar hs rfl (by omega) | exact r_bi hs rfl | exact r_pick hs rfl rfl rfl rfl)) (hm.sub (by repeat (first | exact List.Sublist.refl _ | exact List.nil_sublist _ | apply List.Sublist.cons))) ?_; clear hs a; intro a hs
              refine hEach [9] (by kernel_rfl) (eDo hs rfl (Wnt.none rfl) rfl rfl (by exact d_alloc rfl tab rfl rfl hm) ?_ eNil)
              clear hs hm
              rintro _ w4 ⟨g, rfl, -, hm⟩ a hs
              refine ⟨hm.sub (List.nil_sublist _), ?_⟩
              refine hEach [10] (by kernel_rfl) (eDoN hs rfl (Wnt.none rfl) rfl (by exact d_store hs rfl rfl rfl tab rfl rfl rfl rfl hm (Rep.head _ _ _) rfl) ?_ eNil)
              clear hs hm
              rintro - w5 hm a hs
              refine ⟨hm.sub (List.nil_sublist _), ?_⟩
              refine hDone (by kernel_rfl) ?_
              by_cases h1 : rn = 1
              · repeat (first
                  | ((with_reducible refine toL hm ?_); (first
                      | refine oneV hs (by first | exact Wnt.none rfl | exact Wnt.some rfl rfl rfl rfl) rfl rfl (by intro w hm; (first | exact r_val hs tab rfl | exact r_load hs rfl rfl tab rfl rfl (by first | exact hm.cl (by repeat (first | exact mH | apply mT)) (by first | rfl | assumption) | exact Ro.cl (by assumption) hm (by first | exact (fun t => t) | assumption) (by first | rfl | assumption) | exact Ro.cl0 (by assumption) hm (by first | exact (fun t => t) | assumption) (by first | rfl | assumption)) | exact r_loadO hs rfl rfl tab rfl rfl rfl hm (by repeat (first | exact mH | apply mT)) (by rfl) | exact r_loadA hs rfl rfl tab rfl rfl (Ro.ro (by assumption) hm (by first | exact (fun t => t) | assumption)) rfl | exact r_iz hs tab rfl rfl (by omega) | exact r_iy hs tab rfl rfl (by omega) | exact r_cT hs rfl (by omega) | exact r_cF hs rfl (by omega) | exact r_arH hs rfl (by assumption) (by omega) | exact r_pred hs rfl rfl rfl (by omega) | exact r_ar hs rfl (by omega) | exact r_bi hs rfl | exact r_pick hs rfl rfl rfl rfl)) ?_
                      | refine oneN hs rfl rfl rfl rfl rfl rfl rfl ?_
                      | refine oneU hs rfl rfl rfl rfl rfl rfl ?_); clear hs a; intro a hs)
                  | ((with_reducible apply lCons); (first
                      | (refine dv hs (by first | exact Wnt.none rfl | exact Wnt.some rfl rfl rfl rfl) rfl rfl (by first | exact d_alloc rfl tab rfl rfl hm | exact d_box hs rfl rfl rfl hm | exact d_buildSlice0 rfl tab rfl rfl rfl hm | exact d_buildSlice hs rfl tab rfl rfl rfl rfl rfl rfl rfl rfl rfl hm) ?_; clear hs hm a; rintro _ w ⟨g, rfl, -, hm⟩ a hs)
                      | (refine stn hs rfl rfl (by first | exact d_store hs rfl rfl rfl tab rfl rfl rfl rfl hm (by repeat (first | exact Rep.head _ _ _ | apply Rep.tail)) (by rfl) | exact d_store1 hs rfl rfl rfl tab rfl rfl rfl rfl hm (by repeat (first | exact Rep.head _ _ _ | apply Rep.tail)) (by first | omega | assumption | (simp; omega))) ?_; clear hs hm a; rintro - w hm a hs)
                      ))
                  | (with_reducible first | apply lNilThen | apply lNilBlock | apply lNil | apply wp_seq | apply wp_region_lit | apply wp_block | apply cExit | apply cRet | apply cSkip | apply gThen | apply gBlock | apply eThen | apply eBlockHit | refine eBlock rfl ?_ | apply rThen | apply rBlock)
                  | ((with_reducible apply cCond); (first | refine cTrue hs rfl (by first | rfl | assumption | exact decide_eq_true (by omega) | exact decide_eq_false (by omega) | exact ndT (by omega) | exact ndF (by omega)) ?_ | refine cFalse hs rfl (by first | rfl | assumption | exact decide_eq_true (by omega) | exact decide_eq_false (by omega) | exact ndT (by omega) | exact ndF (by omega)) ?_))
                  )
                replace hm := hm.adopt hsat
                repeat (first
                  | ((with_reducible refine toL hm ?_); (first
                      | refine oneV hs (by first | exact Wnt.none rfl | exact Wnt.some rfl rfl rfl rfl) rfl rfl (by intro w hm; (first | exact r_val hs tab rfl | exact r_load hs rfl rfl tab rfl rfl (by first | exact hm.cl (by repeat (first | exact mH | apply mT)) (by first | rfl | assumption) | exact Ro.cl (by assumption) hm (by first | exact (fun t => t) | assumption) (by first | rfl | assumption) | exact Ro.cl0 (by assumption) hm (by first | exact (fun t => t) | assumption) (by first | rfl | assumption)) | exact r_loadO hs rfl rfl tab rfl rfl rfl hm (by repeat (first | exact mH | apply mT)) (by rfl) | exact r_loadA hs rfl rfl tab rfl rfl (Ro.ro (by assumption) hm (by first | exact (fun t => t) | assumption)) rfl | exact r_iz hs tab rfl rfl (by omega) | exact r_iy hs tab rfl rfl (by omega) | exact r_cT hs rfl (by omega) | exact r_cF hs rfl (by omega) | exact r_arH hs rfl (by assumption) (by omega) | exact r_pred hs rfl rfl rfl (by omega) | exact r_ar hs rfl (by omega) | exact r_bi hs rfl | exact r_pick hs rfl rfl rfl rfl)) ?_
                      | refine oneN hs rfl rfl rfl rfl rfl rfl rfl ?_
                      | refine oneU hs rfl rfl rfl rfl rfl rfl ?_); clear hs a; intro a hs)
                  | ((with_reducible apply lCons); (first
                      | (refine dv hs (by first | exact Wnt.none rfl | exact Wnt.some rfl rfl rfl rfl) rfl rfl (by first | exact d_alloc rfl tab rfl rfl hm | exact d_box hs rfl rfl rfl hm | exact d_buildSlice0 rfl tab rfl rfl rfl hm | exact d_buildSlice hs rfl tab rfl rfl rfl rfl rfl rfl rfl rfl rfl hm) ?_; clear hs hm a; rintro _ w ⟨g, rfl, -, hm⟩ a hs)
                      | (refine stn hs rfl rfl (by first | exact d_store hs rfl rfl rfl tab rfl rfl rfl rfl hm (by repeat (first | exact Rep.head _ _ _ | apply Rep.tail)) (by rfl) | exact d_store1 hs rfl rfl rfl tab rfl rfl rfl rfl hm (by repeat (first | exact Rep.head _ _ _ | apply Rep.tail)) (by first | omega | assumption | (simp; omega))) ?_; clear hs hm a; rintro - w hm a hs)
                      ))
                  | (with_reducible first | apply lNilThen | apply lNilBlock | apply lNil | apply wp_seq | apply wp_region_lit | apply wp_block | apply cExit | apply cRet | apply cSkip | apply gThen | apply gBlock | apply eThen | apply eBlockHit | refine eBlock rfl ?_ | apply rThen | apply rBlock)
                  | ((with_reducible apply cCond); (first | refine cTrue hs rfl (by first | rfl | assumption | exact decide_eq_true (by omega) | exact decide_eq_false (by omega) | exact ndT (by omega) | exact ndF (by omega)) ?_ | refine cFalse hs rfl (by first | rfl | assumption | exact decide_eq_true (by omega) | exact decide_eq_false (by omega) | exact ndT (by omega) | exact ndF (by omega)) ?_))
                  )
                have hb' := hx0.past hsat (by simp) (by simp) hm.fr
                replace hm := hm0.trans hm
                exact gRetN tab hs rfl (.cons (.cells rfl rfl rfl rfl (hm.ro (by repeat (first | exact List.Mem.head _ | apply List.Mem.tail)) (cutF_ok (k := 0) (n := 3) rfl))) (.cons (.tmp rfl) .nil)) ⟨⟨1, ⟨xA, xn, xc, xx⟩, ⟨A.map fun g => ⟨g, 0, none⟩, (oth C i2 5).length, c, oth C i2 5⟩⟩, rfl, ⟨hb', ⟨rfl, hm.rd_row (by repeat (first | exact List.Mem.head _ | apply List.Mem.tail)) hrow⟩, hoth i2⟩, by rw [if_pos (by omega)]; rfl, hm.fr⟩
              · repeat (first
                  | ((with_reducible refine toL hm ?_); (first
                      | refine oneV hs (by first | exact Wnt.none rfl | exact Wnt.some rfl rfl rfl rfl) rfl rfl (by intro w hm; (first | exact r_val hs tab rfl | exact r_load hs rfl rfl tab rfl rfl (by first | exact hm.cl (by repeat (first | exact mH | apply mT)) (by first | rfl | assumption) | exact Ro.cl (by assumption) hm (by first | exact (fun t => t) | assumption) (by first | rfl | assumption) | exact Ro.cl0 (by assumption) hm (by first | exact (fun t => t) | assumption) (by first | rfl | assumption)) | exact r_loadO hs rfl rfl tab rfl rfl rfl hm (by repeat (first | exact mH | apply mT)) (by rfl) | exact r_loadA hs rfl rfl tab rfl rfl (Ro.ro (by assumption) hm (by first | exact (fun t => t) | assumption)) rfl | exact r_iz hs tab rfl rfl (by omega) | exact r_iy hs tab rfl rfl (by omega) | exact r_cT hs rfl (by omega) | exact r_cF hs rfl (by omega) | exact r_arH hs rfl (by assumption) (by omega) | exact r_pred hs rfl rfl rfl (by omega) | exact r_ar hs rfl (by omega) | exact r_bi hs rfl | exact r_pick hs rfl rfl rfl rfl)) ?_
                      | refine oneN hs rfl rfl rfl rfl rfl rfl rfl ?_
                      | refine oneU hs rfl rfl rfl rfl rfl rfl ?_); clear hs a; intro a hs)
                  | ((with_reducible apply lCons); (first
                      | (refine dv hs (by first | exact Wnt.none rfl | exact Wnt.some rfl rfl rfl rfl) rfl rfl (by first | exact d_alloc rfl tab rfl rfl hm | exact d_box hs rfl rfl rfl hm | exact d_buildSlice0 rfl tab rfl rfl rfl hm | exact d_buildSlice hs rfl tab rfl rfl rfl rfl rfl rfl rfl rfl rfl hm) ?_; clear hs hm a; rintro _ w ⟨g, rfl, -, hm⟩ a hs)
                      | (refine stn hs rfl rfl (by first | exact d_store hs rfl rfl rfl tab rfl rfl rfl rfl hm (by repeat (first | exact Rep.head _ _ _ | apply Rep.tail)) (by rfl) | exact d_store1 hs rfl rfl rfl tab rfl rfl rfl rfl hm (by repeat (first | exact Rep.head _ _ _ | apply Rep.tail)) (by first | omega | assumption | (simp; omega))) ?_; clear hs hm a; rintro - w hm a hs)
                      ))
                  | (with_reducible first | apply lNilThen | apply lNilBlock | apply lNil | apply wp_seq | apply wp_region_lit | apply wp_block | apply cExit | apply cRet | apply cSkip | apply gThen | apply gBlock | apply eThen | apply eBlockHit | refine eBlock rfl ?_ | apply rThen | apply rBlock)
                  | ((with_reducible apply cCond); (first | refine cTrue hs rfl (by first | rfl | assumption | exact decide_eq_true (by omega) | exact decide_eq_false (by omega) | exact ndT (by omega) | exact ndF (by omega)) ?_ | refine cFalse hs rfl (by first | rfl | assumption | exact decide_eq_true (by omega) | exact decide_eq_false (by omega) | exact ndT (by omega) | exact ndF (by omega)) ?_))
                  )
                replace hm := hm.adopt hsat
                repeat (first
                  | ((with_reducible refine toL hm ?_); (first
                      | refine oneV hs (by first | exact Wnt.none rfl | exact Wnt.some rfl rfl rfl rfl) rfl rfl (by intro w hm; (first | exact r_val hs tab rfl | exact r_load hs rfl rfl tab rfl rfl (by first | exact hm.cl (by repeat (first | exact mH | apply mT)) (by first | rfl | assumption) | exact Ro.cl (by assumption) hm (by first | exact (fun t => t) | assumption) (by first | rfl | assumption) | exact Ro.cl0 (by assumption) hm (by first | exact (fun t => t) | assumption) (by first | rfl | assumption)) | exact r_loadO hs rfl rfl tab rfl rfl rfl hm (by repeat (first | exact mH | apply mT)) (by rfl) | exact r_loadA hs rfl rfl tab rfl rfl (Ro.ro (by assumption) hm (by first | exact (fun t => t) | assumption)) rfl | exact r_iz hs tab rfl rfl (by omega) | exact r_iy hs tab rfl rfl (by omega) | exact r_cT hs rfl (by omega) | exact r_cF hs rfl (by omega) | exact r_arH hs rfl (by assumption) (by omega) | exact r_pred hs rfl rfl rfl (by omega) | exact r_ar hs rfl (by omega) | exact r_bi hs rfl | exact r_pick hs rfl rfl rfl rfl)) ?_
                      | refine oneN hs rfl rfl rfl rfl rfl rfl rfl ?_
                      | refine oneU hs rfl rfl rfl rfl rfl rfl ?_); clear hs a; intro a hs)
                  | ((with_reducible apply lCons); (first
                      | (refine dv hs (by first | exact Wnt.none rfl | exact Wnt.some rfl rfl rfl rfl) rfl rfl (by first | exact d_alloc rfl tab rfl rfl hm | exact d_box hs rfl rfl rfl hm | exact d_buildSlice0 rfl tab rfl rfl rfl hm | exact d_buildSlice hs rfl tab rfl rfl rfl rfl rfl rfl rfl rfl rfl hm) ?_; clear hs hm a; rintro _ w ⟨g, rfl, -, hm⟩ a hs)
                      | (refine stn hs rfl rfl (by first | exact d_store hs rfl rfl rfl tab rfl rfl rfl rfl hm (by repeat (first | exact Rep.head _ _ _ | apply Rep.tail)) (by rfl) | exact d_store1 hs rfl rfl rfl tab rfl rfl rfl rfl hm (by repeat (first | exact Rep.head _ _ _ | apply Rep.tail)) (by first | omega | assumption | (simp; omega))) ?_; clear hs hm a; rintro - w hm a hs)
                      ))
                  | (with_reducible first | apply lNilThen | apply lNilBlock | apply lNil | apply wp_seq | apply wp_region_lit | apply wp_block | apply cExit | apply cRet | apply cSkip | apply gThen | apply gBlock | apply eThen | apply eBlockHit | refine eBlock rfl ?_ | apply rThen | apply rBlock)
                  | ((with_reducible apply cCond); (first | refine cTrue hs rfl (by first | rfl | assumption | exact decide_eq_true (by omega) | exact decide_eq_false (by omega) | exact ndT (by omega) | exact ndF (by omega)) ?_ | refine cFalse hs rfl (by first | rfl | assumption | exact decide_eq_true (by omega) | exact decide_eq_false (by omega) | exact ndT (by omega) | exact ndF (by omega)) ?_))
                  )
                have hb' := hx0.past hsat (by simp) (by simp) hm.fr
                replace hm := hm0.trans hm
                exact gRetN tab hs rfl (.cons (.cells rfl rfl rfl rfl (hm.ro (by repeat (first | exact List.Mem.head _ | apply List.Mem.tail)) (cutF_ok (k := 0) (n := 3) rfl))) (.cons (.tmp rfl) .nil)) ⟨⟨2, ⟨xA, xn, xc, xx⟩, ⟨A.map fun g => ⟨g, 0, none⟩, (oth C i2 5).length, c, oth C i2 5⟩⟩, rfl, ⟨hb', ⟨rfl, hm.rd_row (by repeat (first | exact List.Mem.head _ | apply List.Mem.tail)) hrow⟩, hoth i2⟩, by rw [if_neg (by omega)]; rfl, hm.fr⟩
            · refine (eDo hs rfl (Wnt.none rfl) rfl rfl (by exact d_alloc rfl tab rfl rfl hm) ?_ eNil)
              clear hs hm
              rintro _ w4 ⟨g, rfl, -, hm⟩ a hs
              refine ⟨hm.sub (List.nil_sublist _), ?_⟩
              refine hEach [7] (by kernel_rfl) (eDo hs rfl (Wnt.none rfl) rfl rfl (by exact d_call hs rfl rfl rfl (pl 24 rfl) (hoi _ hm.fr)) ?_ eNil)
              clear hs
              rintro _ w3 ⟨A, c, cs, rfl, hrow, hnew, hf⟩ a hs
              replace hm := hm.gain hf hnew
              clear hnew hf
              refine ⟨hm.sub (List.nil_sublist _), ?_⟩
              refine hTake 8 hs rfl (by kernel_rfl) (by first | exact Wnt.none rfl | exact Wnt.some rfl rfl rfl rfl) rfl rfl (by intro w hm; replace hm : Mm _ _ _ w := hm; (first | exact r_val hs tab rfl | exact r_load hs rfl rfl tab rfl rfl (by first | exact hm.cl (by repeat (first | exact mH | apply mT)) (by first | rfl | assumption) | exact Ro.cl (by assumption) hm (by first | exact (fun t => t) | assumption) (by first | rfl | assumption) | exact Ro.cl0 (by assumption) hm (by first | exact (fun t => t) | assumption) (by first | rfl | assumption)) | exact r_loadO hs rfl rfl tab rfl rfl rfl hm (by repeat (first | exact mH | apply mT)) (by rfl) | exact r_loadA hs rfl rfl tab rfl rfl (Ro.ro (by assumption) hm (by first | exact (fun t => t) | assumption)) rfl | exact r_iz hs tab rfl rfl (by omega) | exact r_iy hs tab rfl rfl (by omega) | exact r_cT hs rfl (by omega) | exact r_cF hs rfl (by omega) | exact r_arH hs rfl (by assumption) (by omega) | exact r_pred hs rfl rfl rfl (by omega) | exact r_ar hs rfl (by omega) | exact r_bi hs rfl | exact r_pick hs rfl rfl rfl rfl)) (hm.sub (by repeat (first | exact List.Sublist.refl _ | exact List.nil_sublist _ | apply List.Sublist.cons))) ?_; clear hs a; intro a hs
              refine hEach [10] (by kernel_rfl) (eDoN hs rfl (Wnt.none rfl) rfl (by exact d_store hs rfl rfl rfl tab rfl rfl rfl rfl hm (Rep.tail _ (Rep.head _ _ _)) rfl) ?_ eNil)
              clear hs hm
              rintro - w5 hm a hs
              refine ⟨hm.sub (List.nil_sublist _), ?_⟩
              refine hDone (by kernel_rfl) ?_
              replace hm := hm.perm (List.Perm.swap _ _ _)
              by_cases h1 : rn = 1
              · repeat (first
                  | ((with_reducible refine toL hm ?_); (first
                      | refine oneV hs (by first | exact Wnt.none rfl | exact Wnt.some rfl rfl rfl rfl) rfl rfl (by intro w hm; (first | exact r_val hs tab rfl | exact r_load hs rfl rfl tab rfl rfl (by first | exact hm.cl (by repeat (first | exact mH | apply mT)) (by first | rfl | assumption) | exact Ro.cl (by assumption) hm (by first | exact (fun t => t) | assumption) (by first | rfl | assumption) | exact Ro.cl0 (by assumption) hm (by first | exact (fun t => t) | assumption) (by first | rfl | assumption)) | exact r_loadO hs rfl rfl tab rfl rfl rfl hm (by repeat (first | exact mH | apply mT)) (by rfl) | exact r_loadA hs rfl rfl tab rfl rfl (Ro.ro (by assumption) hm (by first | exact (fun t => t) | assumption)) rfl | exact r_iz hs tab rfl rfl (by omega) | exact r_iy hs tab rfl rfl (by omega) | exact r_cT hs rfl (by omega) | exact r_cF hs rfl (by omega) | exact r_arH hs rfl (by assumption) (by omega) | exact r_pred hs rfl rfl rfl (by omega) | exact r_ar hs rfl (by omega) | exact r_bi hs rfl | exact r_pick hs rfl rfl rfl rfl)) ?_
                      | refine oneN hs rfl rfl rfl rfl rfl rfl rfl ?_
                      | refine oneU hs rfl rfl rfl rfl rfl rfl ?_); clear hs a; intro a hs)
                  | ((with_reducible apply lCons); (first
                      | (refine dv hs (by first | exact Wnt.none rfl | exact Wnt.some rfl rfl rfl rfl) rfl rfl (by first | exact d_alloc rfl tab rfl rfl hm | exact d_box hs rfl rfl rfl hm | exact d_buildSlice0 rfl tab rfl rfl rfl hm | exact d_buildSlice hs rfl tab rfl rfl rfl rfl rfl rfl rfl rfl rfl hm) ?_; clear hs hm a; rintro _ w ⟨g, rfl, -, hm⟩ a hs)
                      | (refine stn hs rfl rfl (by first | exact d_store hs rfl rfl rfl tab rfl rfl rfl rfl hm (by repeat (first | exact Rep.head _ _ _ | apply Rep.tail)) (by rfl) | exact d_store1 hs rfl rfl rfl tab rfl rfl rfl rfl hm (by repeat (first | exact Rep.head _ _ _ | apply Rep.tail)) (by first | omega | assumption | (simp; omega))) ?_; clear hs hm a; rintro - w hm a hs)
                      ))
                  | (with_reducible first | apply lNilThen | apply lNilBlock | apply lNil | apply wp_seq | apply wp_region_lit | apply wp_block | apply cExit | apply cRet | apply cSkip | apply gThen | apply gBlock | apply eThen | apply eBlockHit | refine eBlock rfl ?_ | apply rThen | apply rBlock)
                  | ((with_reducible apply cCond); (first | refine cTrue hs rfl (by first | rfl | assumption | exact decide_eq_true (by omega) | exact decide_eq_false (by omega) | exact ndT (by omega) | exact ndF (by omega)) ?_ | refine cFalse hs rfl (by first | rfl | assumption | exact decide_eq_true (by omega) | exact decide_eq_false (by omega) | exact ndT (by omega) | exact ndF (by omega)) ?_))
                  )
                replace hm := hm.adopt hsat
                repeat (first
                  | ((with_reducible refine toL hm ?_); (first
                      | refine oneV hs (by first | exact Wnt.none rfl | exact Wnt.some rfl rfl rfl rfl) rfl rfl (by intro w hm; (first | exact r_val hs tab rfl | exact r_load hs rfl rfl tab rfl rfl (by first | exact hm.cl (by repeat (first | exact mH | apply mT)) (by first | rfl | assumption) | exact Ro.cl (by assumption) hm (by first | exact (fun t => t) | assumption) (by first | rfl | assumption) | exact Ro.cl0 (by assumption) hm (by first | exact (fun t => t) | assumption) (by first | rfl | assumption)) | exact r_loadO hs rfl rfl tab rfl rfl rfl hm (by repeat (first | exact mH | apply mT)) (by rfl) | exact r_loadA hs rfl rfl tab rfl rfl (Ro.ro (by assumption) hm (by first | exact (fun t => t) | assumption)) rfl | exact r_iz hs tab rfl rfl (by omega) | exact r_iy hs tab rfl rfl (by omega) | exact r_cT hs rfl (by omega) | exact r_cF hs rfl (by omega) | exact r_arH hs rfl (by assumption) (by omega) | exact r_pred hs rfl rfl rfl (by omega) | exact r_ar hs rfl (by omega) | exact r_bi hs rfl | exact r_pick hs rfl rfl rfl rfl)) ?_
                      | refine oneN hs rfl rfl rfl rfl rfl rfl rfl ?_
                      | refine oneU hs rfl rfl rfl rfl rfl rfl ?_); clear hs a; intro a hs)
                  | ((with_reducible apply lCons); (first
                      | (refine dv hs (by first | exact Wnt.none rfl | exact Wnt.some rfl rfl rfl rfl) rfl rfl (by first | exact d_alloc rfl tab rfl rfl hm | exact d_box hs rfl rfl rfl hm | exact d_buildSlice0 rfl tab rfl rfl rfl hm | exact d_buildSlice hs rfl tab rfl rfl rfl rfl rfl rfl rfl rfl rfl hm) ?_; clear hs hm a; rintro _ w ⟨g, rfl, -, hm⟩ a hs)
                      | (refine stn hs rfl rfl (by first | exact d_store hs rfl rfl rfl tab rfl rfl rfl rfl hm (by repeat (first | exact Rep.head _ _ _ | apply Rep.tail)) (by rfl) | exact d_store1 hs rfl rfl rfl tab rfl rfl rfl rfl hm (by repeat (first | exact Rep.head _ _ _ | apply Rep.tail)) (by first | omega | assumption | (simp; omega))) ?_; clear hs hm a; rintro - w hm a hs)
                      ))
                  | (with_reducible first | apply lNilThen | apply lNilBlock | apply lNil | apply wp_seq | apply wp_region_lit | apply wp_block | apply cExit | apply cRet | apply cSkip | apply gThen | apply gBlock | apply eThen | apply eBlockHit | refine eBlock rfl ?_ | apply rThen | apply rBlock)
                  | ((with_reducible apply cCond); (first | refine cTrue hs rfl (by first | rfl | assumption | exact decide_eq_true (by omega) | exact decide_eq_false (by omega) | exact ndT (by omega) | exact ndF (by omega)) ?_ | refine cFalse hs rfl (by first | rfl | assumption | exact decide_eq_true (by omega) | exact decide_eq_false (by omega) | exact ndT (by omega) | exact ndF (by omega)) ?_))
                  )
                have hb' := hx0.past hsat (by simp) (by simp) hm.fr
                replace hm := hm0.trans hm
                exact gRetN tab hs rfl (.cons (.cells rfl rfl rfl rfl (hm.ro (by repeat (first | exact List.Mem.head _ | apply List.Mem.tail)) (cutF_ok (k := 0) (n := 3) rfl))) (.cons (.tmp rfl) .nil)) ⟨⟨1, ⟨xA, xn, xc, xx⟩, ⟨A.map fun g => ⟨g, 0, none⟩, (oth C i2 5).length, c, oth C i2 5⟩⟩, rfl, ⟨hb', ⟨rfl, hm.rd_row (by repeat (first | exact List.Mem.head _ | apply List.Mem.tail)) hrow⟩, hoth i2⟩, by rw [if_pos (by omega)]; rfl, hm.fr⟩
              · repeat (first
                  | ((with_reducible refine toL hm ?_); (first
                      | refine oneV hs (by first | exact Wnt.none rfl | exact Wnt.some rfl rfl rfl rfl) rfl rfl (by intro w hm; (first | exact r_val hs tab rfl | exact r_load hs rfl rfl tab rfl rfl (by first | exact hm.cl (by repeat (first | exact mH | apply mT)) (by first | rfl | assumption) | exact Ro.cl (by assumption) hm (by first | exact (fun t => t) | assumption) (by first | rfl | assumption) | exact Ro.cl0 (by assumption) hm (by first | exact (fun t => t) | assumption) (by first | rfl | assumption)) | exact r_loadO hs rfl rfl tab rfl rfl rfl hm (by repeat (first | exact mH | apply mT)) (by rfl) | exact r_loadA hs rfl rfl tab rfl rfl (Ro.ro (by assumption) hm (by first | exact (fun t => t) | assumption)) rfl | exact r_iz hs tab rfl rfl (by omega) | exact r_iy hs tab rfl rfl (by omega) | exact r_cT hs rfl (by omega) | exact r_cF hs rfl (by omega) | exact r_arH hs rfl (by assumption) (by omega) | exact r_pred hs rfl rfl rfl (by omega) | exact r_ar hs rfl (by omega) | exact r_bi hs rfl | exact r_pick hs rfl rfl rfl rfl)) ?_
                      | refine oneN hs rfl rfl rfl rfl rfl rfl rfl ?_
                      | refine oneU hs rfl rfl rfl rfl rfl rfl ?_); clear hs a; intro a hs)
                  | ((with_reducible apply lCons); (first
                      | (refine dv hs (by first | exact Wnt.none rfl | exact Wnt.some rfl rfl rfl rfl) rfl rfl (by first | exact d_alloc rfl tab rfl rfl hm | exact d_box hs rfl rfl rfl hm | exact d_buildSlice0 rfl tab rfl rfl rfl hm | exact d_buildSlice hs rfl tab rfl rfl rfl rfl rfl rfl rfl rfl rfl hm) ?_; clear hs hm a; rintro _ w ⟨g, rfl, -, hm⟩ a hs)
                      | (refine stn hs rfl rfl (by first | exact d_store hs rfl rfl rfl tab rfl rfl rfl rfl hm (by repeat (first | exact Rep.head _ _ _ | apply Rep.tail)) (by rfl) | exact d_store1 hs rfl rfl rfl tab rfl rfl rfl rfl hm (by repeat (first | exact Rep.head _ _ _ | apply Rep.tail)) (by first | omega | assumption | (simp; omega))) ?_; clear hs hm a; rintro - w hm a hs)
                      ))
                  | (with_reducible first | apply lNilThen | apply lNilBlock | apply lNil | apply wp_seq | apply wp_region_lit | apply wp_block | apply cExit | apply cRet | apply cSkip | apply gThen | apply gBlock | apply eThen | apply eBlockHit | refine eBlock rfl ?_ | apply rThen | apply rBlock)
                  | ((with_reducible apply cCond); (first | refine cTrue hs rfl (by first | rfl | assumption | exact decide_eq_true (by omega) | exact decide_eq_false (by omega) | exact ndT (by omega) | exact ndF (by omega)) ?_ | refine cFalse hs rfl (by first | rfl | assumption | exact decide_eq_true (by omega) | exact decide_eq_false (by omega) | exact ndT (by omega) | exact ndF (by omega)) ?_))
                  )
                replace hm := hm.adopt hsat
                repeat (first
                  | ((with_reducible refine toL hm ?_); (first
                      | refine oneV hs (by first | exact Wnt.none rfl | exact Wnt.some rfl rfl rfl rfl) rfl rfl (by intro w hm; (first | exact r_val hs tab rfl | exact r_load hs rfl rfl tab rfl rfl (by first | exact hm.cl (by repeat (first | exact mH | apply mT)) (by first | rfl | assumption) | exact Ro.cl (by assumption) hm (by first | exact (fun t => t) | assumption) (by first | rfl | assumption) | exact Ro.cl0 (by assumption) hm (by first | exact (fun t => t) | assumption) (by first | rfl | assumption)) | exact r_loadO hs rfl rfl tab rfl rfl rfl hm (by repeat (first | exact mH | apply mT)) (by rfl) | exact r_loadA hs rfl rfl tab rfl rfl (Ro.ro (by assumption) hm (by first | exact (fun t => t) | assumption)) rfl | exact r_iz hs tab rfl rfl (by omega) | exact r_iy hs tab rfl rfl (by omega) | exact r_cT hs rfl (by omega) | exact r_cF hs rfl (by omega) | exact r_arH hs rfl (by assumption) (by omega) | exact r_pred hs rfl rfl rfl (by omega) | exact r_ar hs rfl (by omega) | exact r_bi hs rfl | exact r_pick hs rfl rfl rfl rfl)) ?_
                      | refine oneN hs rfl rfl rfl rfl rfl rfl rfl ?_
                      | refine oneU hs rfl rfl rfl rfl rfl rfl ?_); clear hs a; intro a hs)
                  | ((with_reducible apply lCons); (first
                      | (refine dv hs (by first | exact Wnt.none rfl | exact Wnt.some rfl rfl rfl rfl) rfl rfl (by first | exact d_alloc rfl tab rfl rfl hm | exact d_box hs rfl rfl rfl hm | exact d_buildSlice0 rfl tab rfl rfl rfl hm | exact d_buildSlice hs rfl tab rfl rfl rfl rfl rfl rfl rfl rfl rfl hm) ?_; clear hs hm a; rintro _ w ⟨g, rfl, -, hm⟩ a hs)
                      | (refine stn hs rfl rfl (by first | exact d_store hs rfl rfl rfl tab rfl rfl rfl rfl hm (by repeat (first | exact Rep.head _ _ _ | apply Rep.tail)) (by rfl) | exact d_store1 hs rfl rfl rfl tab rfl rfl rfl rfl hm (by repeat (first | exact Rep.head _ _ _ | apply Rep.tail)) (by first | omega | assumption | (simp; omega))) ?_; clear hs hm a; rintro - w hm a hs)
                      ))
                  | (with_reducible first | apply lNilThen | apply lNilBlock | apply lNil | apply wp_seq | apply wp_region_lit | apply wp_block | apply cExit | apply cRet | apply cSkip | apply gThen | apply gBlock | apply eThen | apply eBlockHit | refine eBlock rfl ?_ | apply rThen | apply rBlock)
                  | ((with_reducible apply cCond); (first | refine cTrue hs rfl (by first | rfl | assumption | exact decide_eq_true (by omega) | exact decide_eq_false (by omega) | exact ndT (by omega) | exact ndF (by omega)) ?_ | refine cFalse hs rfl (by first | rfl | assumption | exact decide_eq_true (by omega) | exact decide_eq_false (by omega) | exact ndT (by omega) | exact ndF (by omega)) ?_))
                  )
                have hb' := hx0.past hsat (by simp) (by simp) hm.fr
                replace hm := hm0.trans hm
                exact gRetN tab hs rfl (.cons (.cells rfl rfl rfl rfl (hm.ro (by repeat (first | exact List.Mem.head _ | apply List.Mem.tail)) (cutF_ok (k := 0) (n := 3) rfl))) (.cons (.tmp rfl) .nil)) ⟨⟨2, ⟨xA, xn, xc, xx⟩, ⟨A.map fun g => ⟨g, 0, none⟩, (oth C i2 5).length, c, oth C i2 5⟩⟩, rfl, ⟨hb', ⟨rfl, hm.rd_row (by repeat (first | exact List.Mem.head _ | apply List.Mem.tail)) hrow⟩, hoth i2⟩, by rw [if_neg (by omega)]; rfl, hm.fr⟩
      · rw [pickR_none (List.findIdx_eq_length_of_false (fun x hx => by
          obtain ⟨j, hj, rfl⟩ := List.getElem_of_mem hx
          exact hno j hj (by omega)))]
        replace hm := hm0.trans (hm.adopt hsat)
        repeat (first
          | ((with_reducible refine toL hm ?_); (first
              | refine oneV hs (by first | exact Wnt.none rfl | exact Wnt.some rfl rfl rfl rfl) rfl rfl (by intro w hm; (first | exact r_val hs tab rfl | exact r_load hs rfl rfl tab rfl rfl (by first | exact hm.cl (by repeat (first | exact mH | apply mT)) (by first | rfl | assumption) | exact Ro.cl (by assumption) hm (by first | exact (fun t => t) | assumption) (by first | rfl | assumption) | exact Ro.cl0 (by assumption) hm (by first | exact (fun t => t) | assumption) (by first | rfl | assumption)) | exact r_loadO hs rfl rfl tab rfl rfl rfl hm (by repeat (first | exact mH | apply mT)) (by rfl) | exact r_loadA hs rfl rfl tab rfl rfl (Ro.ro (by assumption) hm (by first | exact (fun t => t) | assumption)) rfl | exact r_iz hs tab rfl rfl (by omega) | exact r_iy hs tab rfl rfl (by omega) | exact r_cT hs rfl (by omega) | exact r_cF hs rfl (by omega) | exact r_arH hs rfl (by assumption) (by omega) | exact r_pred hs rfl rfl rfl (by omega) | exact r_ar hs rfl (by omega) | exact r_bi hs rfl | exact r_pick hs rfl rfl rfl rfl)) ?_
              | refine oneN hs rfl rfl rfl rfl rfl rfl rfl ?_
              | refine oneU hs rfl rfl rfl rfl rfl rfl ?_); clear hs a; intro a hs)
          | ((with_reducible apply lCons); (first
              | (refine dv hs (by first | exact Wnt.none rfl | exact Wnt.some rfl rfl rfl rfl) rfl rfl (by first | exact d_alloc rfl tab rfl rfl hm | exact d_box hs rfl rfl rfl hm | exact d_buildSlice0 rfl tab rfl rfl rfl hm | exact d_buildSlice hs rfl tab rfl rfl rfl rfl rfl rfl rfl rfl rfl hm) ?_; clear hs hm a; rintro _ w ⟨g, rfl, -, hm⟩ a hs)
              | (refine stn hs rfl rfl (by first | exact d_store hs rfl rfl rfl tab rfl rfl rfl rfl hm (by repeat (first | exact Rep.head _ _ _ | apply Rep.tail)) (by rfl) | exact d_store1 hs rfl rfl rfl tab rfl rfl rfl rfl hm (by repeat (first | exact Rep.head _ _ _ | apply Rep.tail)) (by first | omega | assumption | (simp; omega))) ?_; clear hs hm a; rintro - w hm a hs)
              ))
          | (with_reducible first | apply lNilThen | apply lNilBlock | apply lNil | apply wp_seq | apply wp_region_lit | apply wp_block | apply cExit | apply cRet | apply cSkip | apply gThen | apply gBlock | apply eThen | apply eBlockHit | refine eBlock rfl ?_ | apply rThen | apply rBlock)
          | ((with_reducible apply cCond); (first | refine cTrue hs rfl (by first | rfl | assumption | exact decide_eq_true (by omega) | exact decide_eq_false (by omega) | exact ndT (by omega) | exact ndF (by omega)) ?_ | refine cFalse hs rfl (by first | rfl | assumption | exact decide_eq_true (by omega) | exact decide_eq_false (by omega) | exact ndT (by omega) | exact ndF (by omega)) ?_))
          )
        exact gRetN tab hs rfl (.cons (.cells rfl rfl rfl rfl (hm.ro (by repeat (first | exact List.Mem.head _ | apply List.Mem.tail)) (cutF_ok (k := 0) (n := 3) rfl))) (.cons (.tmp rfl) .nil)) ⟨⟨3, ⟨none, 0, 0, []⟩, ⟨none, 0, 0, []⟩⟩, rfl, ⟨⟨rfl, Rd.nil, fun x hx => by cases hx⟩, ⟨rfl, Rd.nil⟩, Nat.zero_le _⟩, rfl, hm.fr⟩
end Go.Proofs.Ytoojckkmalfimaa
