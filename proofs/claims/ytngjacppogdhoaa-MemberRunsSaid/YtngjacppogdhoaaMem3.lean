/- Layer 33: the steps. -/
import Derived.Test.YtngjacppogdhoaaMem2
namespace Go.Proofs.Ytngjacppogdhoaa
open Go.RowKit

/-- a block that was there becomes own -/
theorem Mm.adopt {w w' : World} {M : List Hp} {g : Nat} {t : TypeId} {cs : List Value} (hm : Mm (fun _ => False) w M w') (hg : (⟨some g, t, cs⟩ : Hp).sat w) : Mm (own [⟨some g, t, cs⟩]) w (⟨some g, t, cs⟩ :: M) w' := by
  have hlt : g < w.heap.size := Hp.lt hg rfl
  refine ⟨fun x hx => ?_, ⟨hm.fr.os, hm.fr.tape, hm.fr.output, hm.fr.size, fun k hk _ => hm.fr.block k hk (fun t => t)⟩, ⟨fun x hx k hk e => ?_, hm.dj⟩, fun x hx k hk => ?_⟩
  · rcases List.mem_cons.1 hx with rfl | hx
    · exact Hp.sat_fr hm.fr hg fun _ _ t => t
    · exact hm.me x hx
  · have e' : g = k := Option.some.inj hk
    subst e'
    rcases hm.ow x hx g e with h | h
    · omega
    · exact h
  · rcases List.mem_cons.1 hx with rfl | hx
    · exact .inr ⟨_, List.mem_singleton.2 rfl, hk⟩
    · rcases hm.ow x hx k hk with h | h
      · exact .inl h
      · exact h.elim
theorem own_one {g k : Nat} {t : TypeId} {cs : List Value} (h : own [⟨some g, t, cs⟩] k) : (some g : Option Nat) = some k := by
  obtain ⟨y, hy, e⟩ := h
  rcases List.mem_singleton.1 hy with rfl
  exact e
def alF (step st : Int) : Bool := if step = 0 then decide (st = 0) || decide (st = 2) else if step = 1 then decide (st = 1) else decide (st = 2)
theorem allowed_c (step st : Int) (w : World) (h : step = 0 ∨ step = 1 ∨ step = 2) (h' : 0 ≤ st ∧ st ≤ 3) :
    Ret Try.prog 37 [.int .i64 step, .int .i64 st] w (fun v w' => v = .bool (alF step st) ∧ Pu w w') := by
  rcases h with rfl | rfl | rfl <;> rcases (by omega : st = 0 ∨ st = 1 ∨ st = 2 ∨ st = 3) with rfl | rfl | rfl | rfl <;>
  · refine enterR Try.func37 rfl rfl rfl fun a hs hm => ?_
    repeat (first
      | ((with_reducible refine toL hm ?_); (first
          | refine oneV hs (by first | exact Wnt.none rfl | exact Wnt.some rfl rfl rfl rfl) rfl rfl (by intro w hm; (first | exact r_val hs tab rfl | ((with_reducible apply kLoad); first | exact r_load hs rfl rfl tab rfl rfl (by first | exact hm.cl (by repeat (first | exact mH | apply mT)) (by first | rfl | assumption) | exact Ro.cl (by assumption) hm (by first | exact (fun t => t) | assumption) (by first | rfl | assumption) | exact Ro.cl0 (by assumption) hm (by first | exact (fun t => t) | assumption) (by first | rfl | assumption)) | exact r_loadO hs rfl rfl tab rfl rfl rfl hm (by repeat (first | exact mH | apply mT)) (by rfl) | exact r_loadA hs rfl rfl tab rfl rfl (Ro.ro (by assumption) hm (by first | exact (fun t => t) | assumption)) rfl) | exact r_iz hs tab rfl rfl (by omega) | exact r_iy hs tab rfl rfl (by omega) | exact r_cT hs rfl (by omega) | exact r_cF hs rfl (by omega) | exact r_arH hs rfl (by assumption) (by omega) | exact r_ar hs rfl (by omega) | exact r_bi hs rfl | exact r_pick hs rfl rfl rfl rfl)) ?_
          | refine oneN hs rfl rfl rfl rfl rfl rfl rfl ?_
          | refine oneU hs rfl rfl rfl rfl rfl rfl ?_); clear hs a; intro a hs)
      | ((with_reducible apply lCons); (first
          | (refine dv hs (by first | exact Wnt.none rfl | exact Wnt.some rfl rfl rfl rfl) rfl rfl (by first | exact d_alloc rfl tab rfl rfl hm | exact d_box hs rfl rfl rfl hm | exact d_buildSlice0 rfl tab rfl rfl rfl hm | exact d_buildSlice hs rfl tab rfl rfl rfl rfl rfl rfl rfl rfl rfl hm) ?_; clear hs hm a; rintro _ w ⟨g, rfl, -, hm⟩ a hs)
          | (refine stn hs rfl rfl (by first | exact d_store hs rfl rfl rfl tab rfl rfl rfl rfl hm (by repeat (first | exact Rep.head _ _ _ | apply Rep.tail)) (by rfl) | exact d_store1 hs rfl rfl rfl tab rfl rfl rfl rfl hm (by repeat (first | exact Rep.head _ _ _ | apply Rep.tail)) (by first | omega | assumption | (simp; omega))) ?_; clear hs hm a; rintro - w hm a hs)
          ))
      | (with_reducible first | apply lNilThen | apply lNilBlock | apply lNil | apply wp_seq | apply wp_region_lit | apply wp_block | apply cExit | apply cRet | apply cSkip | apply gThen | apply gBlock | apply eThen | apply eBlockHit | refine eBlock rfl ?_ | apply rThen | apply rBlock)
      | ((with_reducible apply cCond); (first | refine cTrue hs rfl (by first | rfl | assumption | exact decide_eq_true (by omega) | exact decide_eq_false (by omega) | exact ndT (by omega) | exact ndF (by omega)) ?_ | refine cFalse hs rfl (by first | rfl | assumption | exact decide_eq_true (by omega) | exact decide_eq_false (by omega) | exact ndT (by omega) | exact ndF (by omega)) ?_))
      )
    refine toL hm (oneV hs (Wnt.none rfl) rfl rfl (by intro w hm; exact r_idxA hs rfl rfl rfl rfl tab rfl rfl rfl rfl (by omega) rfl) ?_)
    clear hs a
    intro a hs
    repeat (first
      | ((with_reducible refine toL hm ?_); (first
          | refine oneV hs (by first | exact Wnt.none rfl | exact Wnt.some rfl rfl rfl rfl) rfl rfl (by intro w hm; (first | exact r_val hs tab rfl | ((with_reducible apply kLoad); first | exact r_load hs rfl rfl tab rfl rfl (by first | exact hm.cl (by repeat (first | exact mH | apply mT)) (by first | rfl | assumption) | exact Ro.cl (by assumption) hm (by first | exact (fun t => t) | assumption) (by first | rfl | assumption) | exact Ro.cl0 (by assumption) hm (by first | exact (fun t => t) | assumption) (by first | rfl | assumption)) | exact r_loadO hs rfl rfl tab rfl rfl rfl hm (by repeat (first | exact mH | apply mT)) (by rfl) | exact r_loadA hs rfl rfl tab rfl rfl (Ro.ro (by assumption) hm (by first | exact (fun t => t) | assumption)) rfl) | exact r_iz hs tab rfl rfl (by omega) | exact r_iy hs tab rfl rfl (by omega) | exact r_cT hs rfl (by omega) | exact r_cF hs rfl (by omega) | exact r_arH hs rfl (by assumption) (by omega) | exact r_ar hs rfl (by omega) | exact r_bi hs rfl | exact r_pick hs rfl rfl rfl rfl)) ?_
          | refine oneN hs rfl rfl rfl rfl rfl rfl rfl ?_
          | refine oneU hs rfl rfl rfl rfl rfl rfl ?_); clear hs a; intro a hs)
      | ((with_reducible apply lCons); (first
          | (refine dv hs (by first | exact Wnt.none rfl | exact Wnt.some rfl rfl rfl rfl) rfl rfl (by first | exact d_alloc rfl tab rfl rfl hm | exact d_box hs rfl rfl rfl hm | exact d_buildSlice0 rfl tab rfl rfl rfl hm | exact d_buildSlice hs rfl tab rfl rfl rfl rfl rfl rfl rfl rfl rfl hm) ?_; clear hs hm a; rintro _ w ⟨g, rfl, -, hm⟩ a hs)
          | (refine stn hs rfl rfl (by first | exact d_store hs rfl rfl rfl tab rfl rfl rfl rfl hm (by repeat (first | exact Rep.head _ _ _ | apply Rep.tail)) (by rfl) | exact d_store1 hs rfl rfl rfl tab rfl rfl rfl rfl hm (by repeat (first | exact Rep.head _ _ _ | apply Rep.tail)) (by first | omega | assumption | (simp; omega))) ?_; clear hs hm a; rintro - w hm a hs)
          ))
      | (with_reducible first | apply lNilThen | apply lNilBlock | apply lNil | apply wp_seq | apply wp_region_lit | apply wp_block | apply cExit | apply cRet | apply cSkip | apply gThen | apply gBlock | apply eThen | apply eBlockHit | refine eBlock rfl ?_ | apply rThen | apply rBlock)
      | ((with_reducible apply cCond); (first | refine cTrue hs rfl (by first | rfl | assumption | exact decide_eq_true (by omega) | exact decide_eq_false (by omega) | exact ndT (by omega) | exact ndF (by omega)) ?_ | refine cFalse hs rfl (by first | rfl | assumption | exact decide_eq_true (by omega) | exact decide_eq_false (by omega) | exact ndT (by omega) | exact ndF (by omega)) ?_))
      )
    refine toL hm (oneV hs (Wnt.none rfl) rfl rfl (by intro w hm; exact r_idx hs rfl rfl rfl rfl tab rfl rfl rfl rfl (by omega) rfl) ?_)
    clear hs a
    intro a hs
    repeat (first
      | ((with_reducible refine toL hm ?_); (first
          | refine oneV hs (by first | exact Wnt.none rfl | exact Wnt.some rfl rfl rfl rfl) rfl rfl (by intro w hm; (first | exact r_val hs tab rfl | ((with_reducible apply kLoad); first | exact r_load hs rfl rfl tab rfl rfl (by first | exact hm.cl (by repeat (first | exact mH | apply mT)) (by first | rfl | assumption) | exact Ro.cl (by assumption) hm (by first | exact (fun t => t) | assumption) (by first | rfl | assumption) | exact Ro.cl0 (by assumption) hm (by first | exact (fun t => t) | assumption) (by first | rfl | assumption)) | exact r_loadO hs rfl rfl tab rfl rfl rfl hm (by repeat (first | exact mH | apply mT)) (by rfl) | exact r_loadA hs rfl rfl tab rfl rfl (Ro.ro (by assumption) hm (by first | exact (fun t => t) | assumption)) rfl) | exact r_iz hs tab rfl rfl (by omega) | exact r_iy hs tab rfl rfl (by omega) | exact r_cT hs rfl (by omega) | exact r_cF hs rfl (by omega) | exact r_arH hs rfl (by assumption) (by omega) | exact r_ar hs rfl (by omega) | exact r_bi hs rfl | exact r_pick hs rfl rfl rfl rfl)) ?_
          | refine oneN hs rfl rfl rfl rfl rfl rfl rfl ?_
          | refine oneU hs rfl rfl rfl rfl rfl rfl ?_); clear hs a; intro a hs)
      | ((with_reducible apply lCons); (first
          | (refine dv hs (by first | exact Wnt.none rfl | exact Wnt.some rfl rfl rfl rfl) rfl rfl (by first | exact d_alloc rfl tab rfl rfl hm | exact d_box hs rfl rfl rfl hm | exact d_buildSlice0 rfl tab rfl rfl rfl hm | exact d_buildSlice hs rfl tab rfl rfl rfl rfl rfl rfl rfl rfl rfl hm) ?_; clear hs hm a; rintro _ w ⟨g, rfl, -, hm⟩ a hs)
          | (refine stn hs rfl rfl (by first | exact d_store hs rfl rfl rfl tab rfl rfl rfl rfl hm (by repeat (first | exact Rep.head _ _ _ | apply Rep.tail)) (by rfl) | exact d_store1 hs rfl rfl rfl tab rfl rfl rfl rfl hm (by repeat (first | exact Rep.head _ _ _ | apply Rep.tail)) (by first | omega | assumption | (simp; omega))) ?_; clear hs hm a; rintro - w hm a hs)
          ))
      | (with_reducible first | apply lNilThen | apply lNilBlock | apply lNil | apply wp_seq | apply wp_region_lit | apply wp_block | apply cExit | apply cRet | apply cSkip | apply gThen | apply gBlock | apply eThen | apply eBlockHit | refine eBlock rfl ?_ | apply rThen | apply rBlock)
      | ((with_reducible apply cCond); (first | refine cTrue hs rfl (by first | rfl | assumption | exact decide_eq_true (by omega) | exact decide_eq_false (by omega) | exact ndT (by omega) | exact ndF (by omega)) ?_ | refine cFalse hs rfl (by first | rfl | assumption | exact decide_eq_true (by omega) | exact decide_eq_false (by omega) | exact ndT (by omega) | exact ndF (by omega)) ?_))
      )
    exact gRet1 hs rfl rfl ⟨rfl, hm.fr⟩
/-- what a step does to a member that lies in memory of one's own -/
def Clo (w0 : World) (fid : FuncId) (caps : List Value) (F : Mb → Mb) : Prop :=
  ∀ (w : World) (g n c : Nat) (cs : List Value) (l : List Mb) (k : Nat) (x : Mb), Pu w0 w → w0.heap.size ≤ g → Row (some g) n c 3 (l.flatMap mcs) cs → (⟨some g, 38, cs⟩ : Hp).sat w → l[k]? = some x → (0 ≤ x.2.2 ∧ x.2.2 ≤ 20) →
    Ret Try.prog fid ([.pointer (some ⟨g, k * 3, none⟩)] ++ caps) w (fun _ w' => ∃ cs', Row (some g) n c 3 ((l.set k (F x)).flatMap mcs) cs' ∧ (⟨some g, 38, cs'⟩ : Hp).sat w' ∧ Fr (fun i => (some g : Option Nat) = some i) w w')
theorem row_at {g n c : Nat} {cs : List Value} {l : List Mb} {k : Nat} {x : Mb} (hr : Row (some g) n c 3 (l.flatMap mcs) cs) (hx : l[k]? = some x) (j : Nat) (hj : j < 3) : cs[k * 3 + j]? = (mcs x)[j]? := by
  have h := mcs_at hx j hj
  obtain ⟨v, hv⟩ : ∃ v, (mcs x)[j]? = some v := ⟨_, List.getElem?_eq_getElem (by rw [mcs_len]; exact hj)⟩
  rw [hv] at h ⊢
  exact hr.get h
theorem row_lt {A : Option Nat} {n c : Nat} {cs : List Value} {l : List Mb} {k : Nat} {x : Mb} (hr : Row A n c 3 (l.flatMap mcs) cs) (hx : l[k]? = some x) : k * 3 + 3 ≤ cs.length := by
  have h1 := (List.getElem?_eq_some_iff.1 hx).1
  have h2 := hr.xl
  rw [flat_len mcs 3 mcs_len] at h2
  have := hr.le
  have := hr.len
  omega
theorem row_set {A : Option Nat} {n c : Nat} {cs : List Value} {l : List Mb} {k : Nat} {x : Mb} (hr : Row A n c 3 (l.flatMap mcs) cs) (hx : l[k]? = some x) (j : Nat) (hj : j < 3) (v : Value) (y : Mb) (hy : mcs y = (mcs x).set j v) : Row A n c 3 ((l.set k y).flatMap mcs) (cs.set (k * 3 + j) v) := by
  have := hr.set (k * 3 + j) v
  rwa [flat_set mcs 3 mcs_len l k j x v hx hj y hy] at this
theorem iso_clo (w0 : World) : Clo w0 29 [] (fun x => (1, x.2.1, x.2.2)) := by
  intro w g n c cs l k x hpu hg hr hsat hx hrr
  have hlt := row_lt hr hx
  refine enterR Try.func29 rfl rfl rfl fun a hs hm => ?_
  replace hm := hm.adopt hsat
  repeat (first
    | ((with_reducible refine toL hm ?_); (first
        | refine oneV hs (by first | exact Wnt.none rfl | exact Wnt.some rfl rfl rfl rfl) rfl rfl (by intro w hm; (first | exact r_val hs tab rfl | ((with_reducible apply kLoad); first | exact r_load hs rfl rfl tab rfl rfl (by first | exact hm.cl (by repeat (first | exact mH | apply mT)) (by first | rfl | assumption) | exact Ro.cl (by assumption) hm (by first | exact (fun t => t) | assumption) (by first | rfl | assumption) | exact Ro.cl0 (by assumption) hm (by first | exact (fun t => t) | assumption) (by first | rfl | assumption)) | exact r_loadO hs rfl rfl tab rfl rfl rfl hm (by repeat (first | exact mH | apply mT)) (by rfl) | exact r_loadA hs rfl rfl tab rfl rfl (Ro.ro (by assumption) hm (by first | exact (fun t => t) | assumption)) rfl) | exact r_iz hs tab rfl rfl (by omega) | exact r_iy hs tab rfl rfl (by omega) | exact r_cT hs rfl (by omega) | exact r_cF hs rfl (by omega) | exact r_arH hs rfl (by assumption) (by omega) | exact r_ar hs rfl (by omega) | exact r_bi hs rfl | exact r_pick hs rfl rfl rfl rfl)) ?_
        | refine oneN hs rfl rfl rfl rfl rfl rfl rfl ?_
        | refine oneU hs rfl rfl rfl rfl rfl rfl ?_); clear hs a; intro a hs)
    | ((with_reducible apply lCons); (first
        | (refine dv hs (by first | exact Wnt.none rfl | exact Wnt.some rfl rfl rfl rfl) rfl rfl (by first | exact d_alloc rfl tab rfl rfl hm | exact d_box hs rfl rfl rfl hm | exact d_buildSlice0 rfl tab rfl rfl rfl hm | exact d_buildSlice hs rfl tab rfl rfl rfl rfl rfl rfl rfl rfl rfl hm) ?_; clear hs hm a; rintro _ w ⟨g, rfl, -, hm⟩ a hs)
        | (refine stn hs rfl rfl (by first | exact d_store hs rfl rfl rfl tab rfl rfl rfl rfl hm (by repeat (first | exact Rep.head _ _ _ | apply Rep.tail)) (by rfl) | exact d_store1 hs rfl rfl rfl tab rfl rfl rfl rfl hm (by repeat (first | exact Rep.head _ _ _ | apply Rep.tail)) (by first | omega | assumption | (simp; omega))) ?_; clear hs hm a; rintro - w hm a hs)
        ))
    | (with_reducible first | apply lNilThen | apply lNilBlock | apply lNil | apply wp_seq | apply wp_region_lit | apply wp_block | apply cExit | apply cRet | apply cSkip | apply gThen | apply gBlock | apply eThen | apply eBlockHit | refine eBlock rfl ?_ | apply rThen | apply rBlock)
    | ((with_reducible apply cCond); (first | refine cTrue hs rfl (by first | rfl | assumption | exact decide_eq_true (by omega) | exact decide_eq_false (by omega) | exact ndT (by omega) | exact ndF (by omega)) ?_ | refine cFalse hs rfl (by first | rfl | assumption | exact decide_eq_true (by omega) | exact decide_eq_false (by omega) | exact ndT (by omega) | exact ndF (by omega)) ?_))
    )
  exact gEnd (rs := []) tab hs rfl .nil ⟨_, row_set hr hx 0 (by omega) (.int .i64 1) (1, x.2.1, x.2.2) rfl, hm.me _ (List.Mem.head _), hm.fr.mono fun _ _ h => own_one h⟩
theorem join_clo (w0 : World) : Clo w0 32 [] (fun x => (0, x.2.1, x.2.2)) := by
  intro w g n c cs l k x hpu hg hr hsat hx hrr
  have hlt := row_lt hr hx
  refine enterR Try.func32 rfl rfl rfl fun a hs hm => ?_
  replace hm := hm.adopt hsat
  repeat (first
    | ((with_reducible refine toL hm ?_); (first
        | refine oneV hs (by first | exact Wnt.none rfl | exact Wnt.some rfl rfl rfl rfl) rfl rfl (by intro w hm; (first | exact r_val hs tab rfl | ((with_reducible apply kLoad); first | exact r_load hs rfl rfl tab rfl rfl (by first | exact hm.cl (by repeat (first | exact mH | apply mT)) (by first | rfl | assumption) | exact Ro.cl (by assumption) hm (by first | exact (fun t => t) | assumption) (by first | rfl | assumption) | exact Ro.cl0 (by assumption) hm (by first | exact (fun t => t) | assumption) (by first | rfl | assumption)) | exact r_loadO hs rfl rfl tab rfl rfl rfl hm (by repeat (first | exact mH | apply mT)) (by rfl) | exact r_loadA hs rfl rfl tab rfl rfl (Ro.ro (by assumption) hm (by first | exact (fun t => t) | assumption)) rfl) | exact r_iz hs tab rfl rfl (by omega) | exact r_iy hs tab rfl rfl (by omega) | exact r_cT hs rfl (by omega) | exact r_cF hs rfl (by omega) | exact r_arH hs rfl (by assumption) (by omega) | exact r_ar hs rfl (by omega) | exact r_bi hs rfl | exact r_pick hs rfl rfl rfl rfl)) ?_
        | refine oneN hs rfl rfl rfl rfl rfl rfl rfl ?_
        | refine oneU hs rfl rfl rfl rfl rfl rfl ?_); clear hs a; intro a hs)
    | ((with_reducible apply lCons); (first
        | (refine dv hs (by first | exact Wnt.none rfl | exact Wnt.some rfl rfl rfl rfl) rfl rfl (by first | exact d_alloc rfl tab rfl rfl hm | exact d_box hs rfl rfl rfl hm | exact d_buildSlice0 rfl tab rfl rfl rfl hm | exact d_buildSlice hs rfl tab rfl rfl rfl rfl rfl rfl rfl rfl rfl hm) ?_; clear hs hm a; rintro _ w ⟨g, rfl, -, hm⟩ a hs)
        | (refine stn hs rfl rfl (by first | exact d_store hs rfl rfl rfl tab rfl rfl rfl rfl hm (by repeat (first | exact Rep.head _ _ _ | apply Rep.tail)) (by rfl) | exact d_store1 hs rfl rfl rfl tab rfl rfl rfl rfl hm (by repeat (first | exact Rep.head _ _ _ | apply Rep.tail)) (by first | omega | assumption | (simp; omega))) ?_; clear hs hm a; rintro - w hm a hs)
        ))
    | (with_reducible first | apply lNilThen | apply lNilBlock | apply lNil | apply wp_seq | apply wp_region_lit | apply wp_block | apply cExit | apply cRet | apply cSkip | apply gThen | apply gBlock | apply eThen | apply eBlockHit | refine eBlock rfl ?_ | apply rThen | apply rBlock)
    | ((with_reducible apply cCond); (first | refine cTrue hs rfl (by first | rfl | assumption | exact decide_eq_true (by omega) | exact decide_eq_false (by omega) | exact ndT (by omega) | exact ndF (by omega)) ?_ | refine cFalse hs rfl (by first | rfl | assumption | exact decide_eq_true (by omega) | exact decide_eq_false (by omega) | exact ndT (by omega) | exact ndF (by omega)) ?_))
    )
  exact gEnd (rs := []) tab hs rfl .nil ⟨_, row_set hr hx 0 (by omega) (.int .i64 0) (0, x.2.1, x.2.2) rfl, hm.me _ (List.Mem.head _), hm.fr.mono fun _ _ h => own_one h⟩
def begF (most : Int) (x : Mb) : Mb := if most ≤ x.2.2 ∨ x.2.2 = 20 then (3, x.2.1, x.2.2) else (2, x.2.1, x.2.2 + 1)
theorem beg_clo (w0 : World) (g7 : Nat) (most : Int) (h7 : Ro w0 g7 0 [.int .i64 most]) (l7 : g7 < w0.heap.size) : Clo w0 31 [.pointer (some ⟨g7, 0, none⟩)] (begF most) := by
  intro w g n c cs l k x hpu hg hr hsat hx hrr
  have hlt := row_lt hr hx
  have hno : ¬ own [⟨some g, 38, cs⟩] g7 := fun h => by
    have := Option.some.inj (own_one h)
    omega
  have h7' : Ro w g7 0 [.int .i64 most] := fun j u hu => hpu.cl (h7 j u hu) (fun t => t)
  obtain ⟨s, t, r⟩ := x
  have e0 : cs[k * 3 + 2]? = some (.int .i64 r) := row_at hr hx 2 (by omega)
  unfold begF
  dsimp only at *
  by_cases hb : most ≤ r ∨ r = 20
  · rw [if_pos hb]
    by_cases hb1 : most ≤ r
    · refine enterR Try.func31 rfl rfl rfl fun a hs hm => ?_
      replace hm := hm.adopt hsat
      repeat (first
        | ((with_reducible first | refine toL hm ?_ | refine toQ ?_); (first
            | refine oneV hs (by first | exact Wnt.none rfl | exact Wnt.some rfl rfl rfl rfl) rfl rfl (by intro w hm; (first | exact r_val hs tab rfl | ((with_reducible apply kLoad); first | exact r_load hs rfl rfl tab rfl rfl (by first | exact hm.cl (by repeat (first | exact mH | apply mT)) (by first | rfl | assumption) | exact Ro.cl (by assumption) hm (by first | exact (fun t => t) | assumption) (by first | rfl | assumption) | exact Ro.cl0 (by assumption) hm (by first | exact (fun t => t) | assumption) (by first | rfl | assumption)) | exact r_loadO hs rfl rfl tab rfl rfl rfl hm (by repeat (first | exact mH | apply mT)) (by rfl) | exact r_loadA hs rfl rfl tab rfl rfl (Ro.ro (by assumption) hm (by first | exact (fun t => t) | assumption)) rfl) | exact r_iz hs tab rfl rfl (by omega) | exact r_iy hs tab rfl rfl (by omega) | exact r_cT hs rfl (by omega) | exact r_cF hs rfl (by omega) | exact r_arH hs rfl (by assumption) (by omega) | exact r_pred hs rfl rfl rfl (by omega) | exact r_ar hs rfl (by omega) | exact r_bi hs rfl | exact r_pick hs rfl rfl rfl rfl)) ?_
            | refine oneN hs rfl rfl rfl rfl rfl rfl rfl ?_
            | refine oneU hs rfl rfl rfl rfl rfl rfl ?_); clear hs a; intro a hs)
        | ((with_reducible apply lCons); (first
            | (refine dv hs (by first | exact Wnt.none rfl | exact Wnt.some rfl rfl rfl rfl) rfl rfl (by first | exact d_alloc rfl tab rfl rfl hm | exact d_box hs rfl rfl rfl hm | exact d_buildSlice0 rfl tab rfl rfl rfl hm | exact d_buildSlice hs rfl tab rfl rfl rfl rfl rfl rfl rfl rfl rfl hm) ?_; clear hs hm a; rintro _ w ⟨g, rfl, -, hm⟩ a hs)
            | (refine stn hs rfl rfl (by first | exact d_store hs rfl rfl rfl tab rfl rfl rfl rfl hm (by repeat (first | exact Rep.head _ _ _ | apply Rep.tail)) (by rfl) | exact d_store1 hs rfl rfl rfl tab rfl rfl rfl rfl hm (by repeat (first | exact Rep.head _ _ _ | apply Rep.tail)) (by first | omega | assumption | (simp; omega))) ?_; clear hs hm a; rintro - w hm a hs)
            ))
        | ((with_reducible apply qNil); clear hm; intro w hm)
        | ((with_reducible refine cQuiet hm ?_ ?_ ?_ ?_); rfl; kernel_rfl; kernel_rfl)
        | (with_reducible first | apply lNilThen | apply lNilBlock | apply lNil | apply wp_seq | apply wp_region_lit | apply wp_block | apply cExit | apply cRet | apply cSkip | apply gThen | apply gBlock | apply eThen | apply eBlockHit | refine eBlock rfl ?_ | apply rThen | apply rBlock)
        | ((with_reducible apply cCond); (first | refine cTrue hs rfl (by first | rfl | assumption | exact decide_eq_true (by omega) | exact decide_eq_false (by omega) | exact ndT (by omega) | exact ndF (by omega)) ?_ | refine cFalse hs rfl (by first | rfl | assumption | exact decide_eq_true (by omega) | exact decide_eq_false (by omega) | exact ndT (by omega) | exact ndF (by omega)) ?_))
        )
      exact gRetN (rs := []) tab hs rfl .nil ⟨_, row_set hr hx 0 (by omega) (.int .i64 3) (3, t, r) rfl, hm.me _ (List.Mem.head _), hm.fr.mono fun _ _ h => own_one h⟩
    · refine enterR Try.func31 rfl rfl rfl fun a hs hm => ?_
      replace hm := hm.adopt hsat
      repeat (first
        | ((with_reducible first | refine toL hm ?_ | refine toQ ?_); (first
            | refine oneV hs (by first | exact Wnt.none rfl | exact Wnt.some rfl rfl rfl rfl) rfl rfl (by intro w hm; (first | exact r_val hs tab rfl | ((with_reducible apply kLoad); first | exact r_load hs rfl rfl tab rfl rfl (by first | exact hm.cl (by repeat (first | exact mH | apply mT)) (by first | rfl | assumption) | exact Ro.cl (by assumption) hm (by first | exact (fun t => t) | assumption) (by first | rfl | assumption) | exact Ro.cl0 (by assumption) hm (by first | exact (fun t => t) | assumption) (by first | rfl | assumption)) | exact r_loadO hs rfl rfl tab rfl rfl rfl hm (by repeat (first | exact mH | apply mT)) (by rfl) | exact r_loadA hs rfl rfl tab rfl rfl (Ro.ro (by assumption) hm (by first | exact (fun t => t) | assumption)) rfl) | exact r_iz hs tab rfl rfl (by omega) | exact r_iy hs tab rfl rfl (by omega) | exact r_cT hs rfl (by omega) | exact r_cF hs rfl (by omega) | exact r_arH hs rfl (by assumption) (by omega) | exact r_pred hs rfl rfl rfl (by omega) | exact r_ar hs rfl (by omega) | exact r_bi hs rfl | exact r_pick hs rfl rfl rfl rfl)) ?_
            | refine oneN hs rfl rfl rfl rfl rfl rfl rfl ?_
            | refine oneU hs rfl rfl rfl rfl rfl rfl ?_); clear hs a; intro a hs)
        | ((with_reducible apply lCons); (first
            | (refine dv hs (by first | exact Wnt.none rfl | exact Wnt.some rfl rfl rfl rfl) rfl rfl (by first | exact d_alloc rfl tab rfl rfl hm | exact d_box hs rfl rfl rfl hm | exact d_buildSlice0 rfl tab rfl rfl rfl hm | exact d_buildSlice hs rfl tab rfl rfl rfl rfl rfl rfl rfl rfl rfl hm) ?_; clear hs hm a; rintro _ w ⟨g, rfl, -, hm⟩ a hs)
            | (refine stn hs rfl rfl (by first | exact d_store hs rfl rfl rfl tab rfl rfl rfl rfl hm (by repeat (first | exact Rep.head _ _ _ | apply Rep.tail)) (by rfl) | exact d_store1 hs rfl rfl rfl tab rfl rfl rfl rfl hm (by repeat (first | exact Rep.head _ _ _ | apply Rep.tail)) (by first | omega | assumption | (simp; omega))) ?_; clear hs hm a; rintro - w hm a hs)
            ))
        | ((with_reducible apply qNil); clear hm; intro w hm)
        | ((with_reducible refine cQuiet hm ?_ ?_ ?_ ?_); rfl; kernel_rfl; kernel_rfl)
        | (with_reducible first | apply lNilThen | apply lNilBlock | apply lNil | apply wp_seq | apply wp_region_lit | apply wp_block | apply cExit | apply cRet | apply cSkip | apply gThen | apply gBlock | apply eThen | apply eBlockHit | refine eBlock rfl ?_ | apply rThen | apply rBlock)
        | ((with_reducible apply cCond); (first | refine cTrue hs rfl (by first | rfl | assumption | exact decide_eq_true (by omega) | exact decide_eq_false (by omega) | exact ndT (by omega) | exact ndF (by omega)) ?_ | refine cFalse hs rfl (by first | rfl | assumption | exact decide_eq_true (by omega) | exact decide_eq_false (by omega) | exact ndT (by omega) | exact ndF (by omega)) ?_))
        )
      exact gRetN (rs := []) tab hs rfl .nil ⟨_, row_set hr hx 0 (by omega) (.int .i64 3) (3, t, r) rfl, hm.me _ (List.Mem.head _), hm.fr.mono fun _ _ h => own_one h⟩
  · rw [if_neg hb]
    have hr1 := row_set hr hx 0 (by omega) (.int .i64 2) (2, t, r) rfl
    have hl : k < l.length := (List.getElem?_eq_some_iff.1 hx).1
    have hx1 : (l.set k (2, t, r))[k]? = some (2, t, r) := by simp [hl]
    have e1 : (cs.set (k * 3 + 0) (.int .i64 2))[k * 3 + 2]? = some (.int .i64 r) := row_at hr1 hx1 2 (by omega)
    have hr2 := row_set hr1 hx1 2 (by omega) (.int .i64 (r + 1)) (2, t, r + 1) rfl
    rw [List.set_set] at hr2
    refine enterR Try.func31 rfl rfl rfl fun a hs hm => ?_
    replace hm := hm.adopt hsat
    repeat (first
      | ((with_reducible first | refine toL hm ?_ | refine toQ ?_); (first
          | refine oneV hs (by first | exact Wnt.none rfl | exact Wnt.some rfl rfl rfl rfl) rfl rfl (by intro w hm; (first | exact r_val hs tab rfl | ((with_reducible apply kLoad); first | exact r_load hs rfl rfl tab rfl rfl (by first | exact hm.cl (by repeat (first | exact mH | apply mT)) (by first | rfl | assumption) | exact Ro.cl (by assumption) hm (by first | exact (fun t => t) | assumption) (by first | rfl | assumption) | exact Ro.cl0 (by assumption) hm (by first | exact (fun t => t) | assumption) (by first | rfl | assumption)) | exact r_loadO hs rfl rfl tab rfl rfl rfl hm (by repeat (first | exact mH | apply mT)) (by rfl) | exact r_loadA hs rfl rfl tab rfl rfl (Ro.ro (by assumption) hm (by first | exact (fun t => t) | assumption)) rfl) | exact r_iz hs tab rfl rfl (by omega) | exact r_iy hs tab rfl rfl (by omega) | exact r_cT hs rfl (by omega) | exact r_cF hs rfl (by omega) | exact r_arH hs rfl (by assumption) (by omega) | exact r_pred hs rfl rfl rfl (by omega) | exact r_ar hs rfl (by omega) | exact r_bi hs rfl | exact r_pick hs rfl rfl rfl rfl)) ?_
          | refine oneN hs rfl rfl rfl rfl rfl rfl rfl ?_
          | refine oneU hs rfl rfl rfl rfl rfl rfl ?_); clear hs a; intro a hs)
      | ((with_reducible apply lCons); (first
          | (refine dv hs (by first | exact Wnt.none rfl | exact Wnt.some rfl rfl rfl rfl) rfl rfl (by first | exact d_alloc rfl tab rfl rfl hm | exact d_box hs rfl rfl rfl hm | exact d_buildSlice0 rfl tab rfl rfl rfl hm | exact d_buildSlice hs rfl tab rfl rfl rfl rfl rfl rfl rfl rfl rfl hm) ?_; clear hs hm a; rintro _ w ⟨g, rfl, -, hm⟩ a hs)
          | (refine stn hs rfl rfl (by first | exact d_store hs rfl rfl rfl tab rfl rfl rfl rfl hm (by repeat (first | exact Rep.head _ _ _ | apply Rep.tail)) (by rfl) | exact d_store1 hs rfl rfl rfl tab rfl rfl rfl rfl hm (by repeat (first | exact Rep.head _ _ _ | apply Rep.tail)) (by first | omega | assumption | (simp; omega))) ?_; clear hs hm a; rintro - w hm a hs)
          ))
      | ((with_reducible apply qNil); clear hm; intro w hm)
      | ((with_reducible refine cQuiet hm ?_ ?_ ?_ ?_); rfl; kernel_rfl; kernel_rfl)
      | (with_reducible first | apply lNilThen | apply lNilBlock | apply lNil | apply wp_seq | apply wp_region_lit | apply wp_block | apply cExit | apply cRet | apply cSkip | apply gThen | apply gBlock | apply eThen | apply eBlockHit | refine eBlock rfl ?_ | apply rThen | apply rBlock)
      | ((with_reducible apply cCond); (first | refine cTrue hs rfl (by first | rfl | assumption | exact decide_eq_true (by omega) | exact decide_eq_false (by omega) | exact ndT (by omega) | exact ndF (by omega)) ?_ | refine cFalse hs rfl (by first | rfl | assumption | exact decide_eq_true (by omega) | exact decide_eq_false (by omega) | exact ndT (by omega) | exact ndF (by omega)) ?_))
      )
    exact gEnd (rs := []) tab hs rfl .nil ⟨_, hr2, hm.me _ (List.Mem.head _), hm.fr.mono fun _ _ h => own_one h⟩
end Go.Proofs.Ytngjacppogdhoaa
