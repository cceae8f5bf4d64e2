/- AluOrder: the walk. -/
import Derived.Test.YtfcimpfhfbkgbaaPro9
namespace Go.Proofs.Ytfcimpfhfbkgbaa
open Go.RowKit


def ppF : Option ((Nat × Int) × (Nat × Int)) → Int × Int
  | none => (0, 4)
  | some (p, q) => (if p.2 < q.2 then 1 else 0, 0)
theorem dltF_nn {x : LS} {t v s u : Int} (h : t = 0 ∧ s = 0) : dltF x t v s u = (if v < u then 1 else 0, 0) := if_pos h
theorem dltF_pp {x : LS} {t v s u : Int} (h : t = 1 ∧ s = 1) : dltF x t v s u = ppF (aptF x v u) := by
  unfold dltF ppF
  rw [if_neg (by omega), if_pos h]
  cases aptF x v u <;> rfl
theorem dltF_no {x : LS} {t v s u : Int} (h0 : ¬ (t = 0 ∧ s = 0)) (h1 : ¬ (t = 1 ∧ s = 1)) : dltF x t v s u = (0, 3) := by
  unfold dltF
  rw [if_neg h0, if_neg h1]
/-- less one way, less the other way, equal -/
theorem ordLaw {x : LS} {w : World} (hx : x.ok w) (t v s u : Int) : ∃ m n tr J : Int, dltF x t v s u = (m, tr) ∧ dltF x s u t v = (n, tr) ∧ (if t = s ∧ v = u then (1 : Int) else 0) = J ∧ (if s = t ∧ u = v then (1 : Int) else 0) = J ∧ ((t == s) && ((v == u) && true)) = decide (J = 1) ∧ ((¬ tr = 0 ∧ (J = 0 ∨ J = 1)) ∨ (tr = 0 ∧ ((m = 1 ∧ n = 0 ∧ J = 0) ∨ (m = 0 ∧ n = 1 ∧ J = 0) ∨ (m = 0 ∧ n = 0 ∧ J = 1)))) := by
  obtain ⟨J, hJ⟩ : ∃ J : Int, (if t = s ∧ v = u then (1 : Int) else 0) = J := ⟨_, rfl⟩
  have hJ2 : (if s = t ∧ u = v then (1 : Int) else 0) = J := by
    rw [← hJ]
    by_cases h : t = s ∧ v = u
    · rw [if_pos h, if_pos ⟨h.1.symm, h.2.symm⟩]
    · rw [if_neg h, if_neg (fun h' => h ⟨h'.1.symm, h'.2.symm⟩)]
  have hJB : ((t == s) && ((v == u) && true)) = decide (J = 1) := by
    rw [← hJ]
    by_cases h1 : t = s <;> by_cases h2 : v = u <;> simp [h1, h2]
  have hJ01 : (t = s ∧ v = u ∧ J = 1) ∨ (¬ (t = s ∧ v = u) ∧ J = 0) := by
    by_cases h : t = s ∧ v = u
    · rw [if_pos h] at hJ; exact .inl ⟨h.1, h.2, hJ.symm⟩
    · rw [if_neg h] at hJ; exact .inr ⟨h, hJ.symm⟩
  by_cases h00 : t = 0 ∧ s = 0
  · rw [dltF_nn h00, dltF_nn ⟨h00.2, h00.1⟩]
    refine ⟨_, _, 0, J, rfl, rfl, hJ, hJ2, hJB, .inr ⟨rfl, ?_⟩⟩
    split <;> split <;> omega
  · by_cases h11 : t = 1 ∧ s = 1
    · rw [dltF_pp h11, dltF_pp (t := s) ⟨h11.2, h11.1⟩]
      cases hq : aptF x v u with
      | none =>
        have hq2 : aptF x u v = none := by
          unfold aptF at hq ⊢
          cases h1 : resF x.bs x.ss v x.n with
          | none => rw [h1] at hq; cases resF x.bs x.ss u x.n <;> rfl
          | some p =>
            cases h2 : resF x.bs x.ss u x.n with
            | none => rfl
            | some q =>
              rw [h1, h2] at hq
              dsimp only at hq ⊢
              by_cases e : p.1 = q.1
              · rw [if_pos e] at hq; cases hq
              · rw [if_neg (fun h => e h.symm)]
        rw [hq2]
        unfold ppF
        exact ⟨0, 0, 4, J, rfl, rfl, hJ, hJ2, hJB, .inl ⟨by omega, by omega⟩⟩
      | some pq =>
        obtain ⟨p, q⟩ := pq
        have hb := aptF_bd hx hq
        have hq2 : aptF x u v = some (q, p) := by
          unfold aptF at hq ⊢
          cases h1 : resF x.bs x.ss v x.n with
          | none => rw [h1] at hq; cases hq
          | some p' =>
            cases h2 : resF x.bs x.ss u x.n with
            | none => rw [h1, h2] at hq; cases hq
            | some q' =>
              rw [h1, h2] at hq
              dsimp only at hq ⊢
              by_cases e : p'.1 = q'.1
              · rw [if_pos e] at hq
                rw [if_pos e.symm]
                obtain ⟨rfl, rfl⟩ := Prod.mk.inj (Option.some.inj hq)
                rfl
              · rw [if_neg e] at hq; cases hq
        rw [hq2]
        unfold ppF
        dsimp only
        obtain ⟨b1, b2, b3, -⟩ := hb
        rw [b1] at b2
        refine ⟨_, _, 0, J, rfl, rfl, hJ, hJ2, hJB, .inr ⟨rfl, ?_⟩⟩
        split <;> split <;> omega
    · rw [dltF_no h00 h11, dltF_no (t := s) (fun h => h00 ⟨h.2, h.1⟩) (fun h => h11 ⟨h.2, h.1⟩)]
      exact ⟨0, 0, 3, J, rfl, rfl, hJ, hJ2, hJB, .inl ⟨by omega, by omega⟩⟩



set_option maxHeartbeats 16000000 in
theorem ord_c (tb vb tc vc : Int) (A : Option Addr) (n c : Nat) (xs : List Int) (w0 : World) (hb : (0 ≤ tb ∧ tb ≤ 255) ∧ 0 ≤ vb ∧ vb ≤ 65535) (hc : (0 ≤ tc ∧ tc ≤ 255) ∧ 0 ≤ vc ∧ vc ≤ 65535) (hI : IsInts .i64 w0 A n c xs) :
    Ret Try.prog 7 [clV tb vb, clV tc vc, .slice A n c] w0 (fun v w' => v = .bool true ∧ Pu w0 w') := by
  obtain ⟨hl, hnc, hc63, hrx, hwx⟩ := hI
  have hn63 := r_of64 hnc hc63
  have hcl := fun gd at_ (x : LS) w (h : Dk gd A n c at_ xs w) (hx : x.ok w) (hne : x.ne gd) (h1n : 1 ≤ x.n) => cll_c gd A n c at_ xs x w h hx hne h1n
  unfold LS.l LS.s at hcl
  unfold clV
  refine enterR Try.func7 rfl rfl rfl fun a hs hm => ?_
  repeat (first | ((with_reducible refine toL hm ?_); (first | refine oneV hs (by first | exact Wnt.none rfl | exact Wnt.some rfl rfl rfl rfl) rfl rfl (by intro w hm; (first | exact r_val hs tab rfl | ((with_reducible apply kLoad); first | exact r_load hs rfl rfl tab rfl rfl (by first | exact Ro.cl (by assumption) hm (by first | exact (fun t => t) | assumption) (by first | rfl | assumption) | exact Ro.cl0 (by assumption) hm (by first | exact (fun t => t) | assumption) (by first | rfl | assumption) | exact hm.cl (by repeat (first | exact mH | apply mT)) (by first | rfl | assumption)) | exact r_loadO hs rfl rfl tab rfl rfl rfl hm (by repeat (first | exact mH | apply mT)) (by rfl) | exact r_loadA hs rfl rfl tab rfl rfl (Ro.ro (by assumption) hm (by first | exact (fun t => t) | assumption)) rfl) | exact r_iz hs tab rfl rfl (by omega) | exact r_iy hs tab rfl rfl (by omega) | exact r_cT hs rfl (by omega) | exact r_cF hs rfl (by omega) | exact r_arH hs rfl (by assumption) (by omega) | exact r_ar hs rfl (by omega) | exact r_remH hs rfl rfl rfl (by assumption) (by omega) (by omega) | exact r_rem64 hs rfl rfl rfl (by omega) (by omega) | exact r_rem hs rfl rfl rfl (by omega) | exact r_bi hs rfl | exact r_pick hs rfl rfl rfl rfl | exact r_neqSt (fl := [(true, 0, 5), (true, 1, 22)]) hs rfl rfl rfl tab (by kernel_rfl) (by kernel_rfl) (by kernel_rfl) (by kernel_rfl) rfl | exact r_eqlSt (fl := [(true, 0, 5), (true, 1, 22)]) hs rfl rfl rfl tab (by kernel_rfl) (by kernel_rfl) (by kernel_rfl) (by kernel_rfl) rfl)) ?_ | refine oneN hs rfl rfl rfl rfl rfl rfl rfl ?_ | refine oneU hs rfl rfl rfl rfl rfl rfl ?_); clear hs a; intro a hs) | ((with_reducible apply lCons); first | (refine dv hs (by first | exact Wnt.none rfl | exact Wnt.some rfl rfl rfl rfl) rfl rfl (by first | exact d_alloc rfl tab rfl rfl hm | exact d_box hs rfl rfl rfl hm | exact d_buildSlice0 rfl tab rfl rfl rfl hm | exact d_buildSlice hs rfl tab rfl rfl rfl rfl rfl rfl rfl rfl rfl hm) ?_; clear hs hm a; rintro _ w ⟨g, rfl, -, hm⟩ a hs) | (refine stn hs rfl rfl (by first | exact d_store hs rfl rfl rfl tab rfl rfl rfl rfl hm (by repeat (first | exact Rep.head _ _ _ | apply Rep.tail)) (by rfl) | exact d_store1 hs rfl rfl rfl tab rfl rfl rfl rfl hm (by repeat (first | exact Rep.head _ _ _ | apply Rep.tail)) (by first | omega | assumption | (simp; omega))) ?_; clear hs hm a; rintro - w hm a hs) ) | (with_reducible first | apply lNilThen | apply lNilBlock | apply lNil | apply wp_seq | apply wp_region_lit | apply wp_block | apply cExit | apply cRet | apply cSkip | apply gThen | apply gBlock | apply eThen | apply eBlockHit | refine eBlock rfl ?_ | apply rThen | apply rBlock) | ((with_reducible apply cCond); first | refine cTrue hs rfl (by first | rfl | assumption | exact decide_eq_true (by omega) | exact decide_eq_false (by omega) | exact ndT (by omega) | exact ndF (by omega)) ?_ | refine cFalse hs rfl (by first | rfl | assumption | exact decide_eq_true (by omega) | exact decide_eq_false (by omega) | exact ndT (by omega) | exact ndF (by omega)) ?_))
  have hrA := hm.fr.rd' hrx
  refine st hs rfl rfl rfl (d_call hs rfl rfl rfl (pl 9 rfl) ((mk_c A n c _))) ?_; clear hs a; rintro _ w1 ⟨gd, rfl, hN, hf⟩ a hs
  have hD := Dk.start hl hrA hn63 hN hf
  replace hm := hm.gain hf hN
  clear hN hf hrA
  repeat (first | ((with_reducible refine toL hm ?_); (first | refine oneV hs (by first | exact Wnt.none rfl | exact Wnt.some rfl rfl rfl rfl) rfl rfl (by intro w hm; (first | exact r_val hs tab rfl | ((with_reducible apply kLoad); first | exact r_load hs rfl rfl tab rfl rfl (by first | exact Ro.cl (by assumption) hm (by first | exact (fun t => t) | assumption) (by first | rfl | assumption) | exact Ro.cl0 (by assumption) hm (by first | exact (fun t => t) | assumption) (by first | rfl | assumption) | exact hm.cl (by repeat (first | exact mH | apply mT)) (by first | rfl | assumption)) | exact r_loadO hs rfl rfl tab rfl rfl rfl hm (by repeat (first | exact mH | apply mT)) (by rfl) | exact r_loadA hs rfl rfl tab rfl rfl (Ro.ro (by assumption) hm (by first | exact (fun t => t) | assumption)) rfl) | exact r_iz hs tab rfl rfl (by omega) | exact r_iy hs tab rfl rfl (by omega) | exact r_cT hs rfl (by omega) | exact r_cF hs rfl (by omega) | exact r_arH hs rfl (by assumption) (by omega) | exact r_ar hs rfl (by omega) | exact r_remH hs rfl rfl rfl (by assumption) (by omega) (by omega) | exact r_rem64 hs rfl rfl rfl (by omega) (by omega) | exact r_rem hs rfl rfl rfl (by omega) | exact r_bi hs rfl | exact r_pick hs rfl rfl rfl rfl | exact r_neqSt (fl := [(true, 0, 5), (true, 1, 22)]) hs rfl rfl rfl tab (by kernel_rfl) (by kernel_rfl) (by kernel_rfl) (by kernel_rfl) rfl | exact r_eqlSt (fl := [(true, 0, 5), (true, 1, 22)]) hs rfl rfl rfl tab (by kernel_rfl) (by kernel_rfl) (by kernel_rfl) (by kernel_rfl) rfl)) ?_ | refine oneN hs rfl rfl rfl rfl rfl rfl rfl ?_ | refine oneU hs rfl rfl rfl rfl rfl rfl ?_); clear hs a; intro a hs) | ((with_reducible apply lCons); first | (refine dv hs (by first | exact Wnt.none rfl | exact Wnt.some rfl rfl rfl rfl) rfl rfl (by first | exact d_alloc rfl tab rfl rfl hm | exact d_box hs rfl rfl rfl hm | exact d_buildSlice0 rfl tab rfl rfl rfl hm | exact d_buildSlice hs rfl tab rfl rfl rfl rfl rfl rfl rfl rfl rfl hm) ?_; clear hs hm a; rintro _ w ⟨g, rfl, -, hm⟩ a hs) | (refine stn hs rfl rfl (by first | exact d_store hs rfl rfl rfl tab rfl rfl rfl rfl hm (by repeat (first | exact Rep.head _ _ _ | apply Rep.tail)) (by rfl) | exact d_store1 hs rfl rfl rfl tab rfl rfl rfl rfl hm (by repeat (first | exact Rep.head _ _ _ | apply Rep.tail)) (by first | omega | assumption | (simp; omega))) ?_; clear hs hm a; rintro - w hm a hs) ) | (with_reducible first | apply lNilThen | apply lNilBlock | apply lNil | apply wp_seq | apply wp_region_lit | apply wp_block | apply cExit | apply cRet | apply cSkip | apply gThen | apply gBlock | apply eThen | apply eBlockHit | refine eBlock rfl ?_ | apply rThen | apply rBlock) | ((with_reducible apply cCond); first | refine cTrue hs rfl (by first | rfl | assumption | exact decide_eq_true (by omega) | exact decide_eq_false (by omega) | exact ndT (by omega) | exact ndF (by omega)) ?_ | refine cFalse hs rfl (by first | rfl | assumption | exact decide_eq_true (by omega) | exact decide_eq_false (by omega) | exact ndT (by omega) | exact ndF (by omega)) ?_))
  refine st hs rfl rfl rfl (d_call hs rfl rfl rfl (pl 10 rfl) ((siz_c gd A n c 0 xs _ hD))) ?_; clear hs a; rintro _ w2 ⟨gs, m, ms, ss, rfl, hsl, hSz, hrs, hgs, a1, k1, hf⟩ a hs
  have hneS : ∀ b o, (some ⟨gs, 0, none⟩ : Option Addr) = some ⟨b, o, none⟩ → b ≠ gd := fun b o e hb => hm.notown hgs ⟨_, List.Mem.head _, by cases e; rw [hb]; rfl⟩
  have hnoS := fun M' (r : Rep _ (dk gd A n c 0) (dk gd A n c a1) M') h => hm.notown hgs (own_rep r rfl h)
  replace hm := hm.dkt (Rep.head _ _ _) k1 hf
  clear hf hD hgs
  replace hnoS := hnoS _ (Rep.head _ _ _)
  have hmB := hm
  clear hm
  have hm := hmB.rebase
  repeat (first | ((with_reducible refine toL hm ?_); (first | refine oneV hs (by first | exact Wnt.none rfl | exact Wnt.some rfl rfl rfl rfl) rfl rfl (by intro w hm; (first | exact r_val hs tab rfl | ((with_reducible apply kLoad); first | exact r_load hs rfl rfl tab rfl rfl (by first | exact Ro.cl (by assumption) hm (by first | exact (fun t => t) | assumption) (by first | rfl | assumption) | exact Ro.cl0 (by assumption) hm (by first | exact (fun t => t) | assumption) (by first | rfl | assumption) | exact hm.cl (by repeat (first | exact mH | apply mT)) (by first | rfl | assumption)) | exact r_loadO hs rfl rfl tab rfl rfl rfl hm (by repeat (first | exact mH | apply mT)) (by rfl) | exact r_loadA hs rfl rfl tab rfl rfl (Ro.ro (by assumption) hm (by first | exact (fun t => t) | assumption)) rfl) | exact r_iz hs tab rfl rfl (by omega) | exact r_iy hs tab rfl rfl (by omega) | exact r_cT hs rfl (by omega) | exact r_cF hs rfl (by omega) | exact r_arH hs rfl (by assumption) (by omega) | exact r_ar hs rfl (by omega) | exact r_remH hs rfl rfl rfl (by assumption) (by omega) (by omega) | exact r_rem64 hs rfl rfl rfl (by omega) (by omega) | exact r_rem hs rfl rfl rfl (by omega) | exact r_bi hs rfl | exact r_pick hs rfl rfl rfl rfl | exact r_neqSt (fl := [(true, 0, 5), (true, 1, 22)]) hs rfl rfl rfl tab (by kernel_rfl) (by kernel_rfl) (by kernel_rfl) (by kernel_rfl) rfl | exact r_eqlSt (fl := [(true, 0, 5), (true, 1, 22)]) hs rfl rfl rfl tab (by kernel_rfl) (by kernel_rfl) (by kernel_rfl) (by kernel_rfl) rfl)) ?_ | refine oneN hs rfl rfl rfl rfl rfl rfl rfl ?_ | refine oneU hs rfl rfl rfl rfl rfl rfl ?_); clear hs a; intro a hs) | ((with_reducible apply lCons); first | (refine dv hs (by first | exact Wnt.none rfl | exact Wnt.some rfl rfl rfl rfl) rfl rfl (by first | exact d_alloc rfl tab rfl rfl hm | exact d_box hs rfl rfl rfl hm | exact d_buildSlice0 rfl tab rfl rfl rfl hm | exact d_buildSlice hs rfl tab rfl rfl rfl rfl rfl rfl rfl rfl rfl hm) ?_; clear hs hm a; rintro _ w ⟨g, rfl, -, hm⟩ a hs) | (refine stn hs rfl rfl (by first | exact d_store hs rfl rfl rfl tab rfl rfl rfl rfl hm (by repeat (first | exact Rep.head _ _ _ | apply Rep.tail)) (by rfl) | exact d_store1 hs rfl rfl rfl tab rfl rfl rfl rfl hm (by repeat (first | exact Rep.head _ _ _ | apply Rep.tail)) (by first | omega | assumption | (simp; omega))) ?_; clear hs hm a; rintro - w hm a hs) ) | (with_reducible first | apply lNilThen | apply lNilBlock | apply lNil | apply wp_seq | apply wp_region_lit | apply wp_block | apply cExit | apply cRet | apply cSkip | apply gThen | apply gBlock | apply eThen | apply eBlockHit | refine eBlock rfl ?_ | apply rThen | apply rBlock) | ((with_reducible apply cCond); first | refine cTrue hs rfl (by first | rfl | assumption | exact decide_eq_true (by omega) | exact decide_eq_false (by omega) | exact ndT (by omega) | exact ndF (by omega)) ?_ | refine cFalse hs rfl (by first | rfl | assumption | exact decide_eq_true (by omega) | exact decide_eq_false (by omega) | exact ndT (by omega) | exact ndF (by omega)) ?_))
  refine st hs rfl rfl rfl (d_call hs rfl rfl rfl (pl 11 rfl) ((lay_c gd A n c a1 xs (some ⟨gs, 0, none⟩) m ms ss _ k1 hsl hSz hrs hneS))) ?_; clear hs a; rintro _ w3 ⟨x, rfl, hLy, a2, k2, hf⟩ a hs
  have hnoA := fun b o (e : x.A = some ⟨b, o, none⟩) => hm.notown (hLy.new b o e)
  replace hm := hm.dkt (Rep.head _ _ _) k2 hf
  obtain ⟨rfl, rfl, hxB, rfl, hx, hap, -⟩ := hLy
  have hxn : 1 ≤ x.n := by have := hSz.one; rw [hx.sl] at this; exact this
  have hno : x.no _ := LS.no.rep (M := _) ⟨hnoA, fun b o e => by rw [hxB] at e; cases e; exact hnoS⟩ (Rep.head _ _ (dk gd A n c a2)) rfl
  rw [← hxB] at hs
  replace hmB := hmB.trans hm
  clear hm hf hnoA hnoS hneS hrs k1
  have hneg : x.ne gd := hno.ne (List.Mem.head _)
  obtain ⟨M3, hpk⟩ := pack9 hmB hno
  clear hmB hno
  obtain ⟨hmB, hm, hno⟩ := hpk
  unfold LS.l at hs
  repeat (first | ((with_reducible refine toL hm ?_); (first | refine oneV hs (by first | exact Wnt.none rfl | exact Wnt.some rfl rfl rfl rfl) rfl rfl (by intro w hm; (first | exact r_val hs tab rfl | ((with_reducible apply kLoad); first | exact r_load hs rfl rfl tab rfl rfl (by first | exact Ro.cl (by assumption) hm (by first | exact (fun t => t) | assumption) (by first | rfl | assumption) | exact Ro.cl0 (by assumption) hm (by first | exact (fun t => t) | assumption) (by first | rfl | assumption) | exact hm.cl (by repeat (first | exact mH | apply mT)) (by first | rfl | assumption)) | exact r_loadO hs rfl rfl tab rfl rfl rfl hm (by repeat (first | exact mH | apply mT)) (by rfl) | exact r_loadA hs rfl rfl tab rfl rfl (Ro.ro (by assumption) hm (by first | exact (fun t => t) | assumption)) rfl) | exact r_iz hs tab rfl rfl (by omega) | exact r_iy hs tab rfl rfl (by omega) | exact r_cT hs rfl (by omega) | exact r_cF hs rfl (by omega) | exact r_arH hs rfl (by assumption) (by omega) | exact r_ar hs rfl (by omega) | exact r_remH hs rfl rfl rfl (by assumption) (by omega) (by omega) | exact r_rem64 hs rfl rfl rfl (by omega) (by omega) | exact r_rem hs rfl rfl rfl (by omega) | exact r_bi hs rfl | exact r_pick hs rfl rfl rfl rfl | exact r_neqSt (fl := [(true, 0, 5), (true, 1, 22)]) hs rfl rfl rfl tab (by kernel_rfl) (by kernel_rfl) (by kernel_rfl) (by kernel_rfl) rfl | exact r_eqlSt (fl := [(true, 0, 5), (true, 1, 22)]) hs rfl rfl rfl tab (by kernel_rfl) (by kernel_rfl) (by kernel_rfl) (by kernel_rfl) rfl)) ?_ | refine oneN hs rfl rfl rfl rfl rfl rfl rfl ?_ | refine oneU hs rfl rfl rfl rfl rfl rfl ?_); clear hs a; intro a hs) | ((with_reducible apply lCons); first | (refine dv hs (by first | exact Wnt.none rfl | exact Wnt.some rfl rfl rfl rfl) rfl rfl (by first | exact d_alloc rfl tab rfl rfl hm | exact d_box hs rfl rfl rfl hm | exact d_buildSlice0 rfl tab rfl rfl rfl hm | exact d_buildSlice hs rfl tab rfl rfl rfl rfl rfl rfl rfl rfl rfl hm) ?_; clear hs hm a; rintro _ w ⟨g, rfl, -, hm⟩ a hs) | (refine stn hs rfl rfl (by first | exact d_store hs rfl rfl rfl tab rfl rfl rfl rfl hm (by repeat (first | exact Rep.head _ _ _ | apply Rep.tail)) (by rfl) | exact d_store1 hs rfl rfl rfl tab rfl rfl rfl rfl hm (by repeat (first | exact Rep.head _ _ _ | apply Rep.tail)) (by first | omega | assumption | (simp; omega))) ?_; clear hs hm a; rintro - w hm a hs) ) | (with_reducible first | apply lNilThen | apply lNilBlock | apply lNil | apply wp_seq | apply wp_region_lit | apply wp_block | apply cExit | apply cRet | apply cSkip | apply gThen | apply gBlock | apply eThen | apply eBlockHit | refine eBlock rfl ?_ | apply rThen | apply rBlock) | ((with_reducible apply cCond); first | refine cTrue hs rfl (by first | rfl | assumption | exact decide_eq_true (by omega) | exact decide_eq_false (by omega) | exact ndT (by omega) | exact ndF (by omega)) ?_ | refine cFalse hs rfl (by first | rfl | assumption | exact decide_eq_true (by omega) | exact decide_eq_false (by omega) | exact ndT (by omega) | exact ndF (by omega)) ?_))
  obtain ⟨g3, en_⟩ := hs.pt 3 (by exact rfl); subst en_
  obtain ⟨g4, en_⟩ := hs.pt 4 (by exact rfl); subst en_
  obtain ⟨g9, en_⟩ := hs.pt 9 (by exact rfl); subst en_
  refine cMid (fun a w => Sl Try.f7.ntmps [(3, .pointer (some ⟨g3, 0, none⟩)), (4, .pointer (some ⟨g4, 0, none⟩)), (7, .pointer (some ⟨gd, 0, none⟩)), (6, .bool false), (8, .slice x.B x.n x.d), (9, .pointer (some ⟨g9, 0, none⟩))] a ∧ Mm (own M3) w3 [⟨some g9, 30, [.slice x.A x.n x.c, .int .u16 x.key]⟩, dk gd A n c a2, ⟨some g4, 24, [.int .u8 (tc % 3), .int .u16 vc]⟩, ⟨some g3, 24, [.int .u8 (tb % 3), .int .u16 vb]⟩] w) ?_ ?_
  · skip
    refine cDraw (n := 10) [] hm rfl rfl ?_
    clear hm
    intro w2 hm
    refine hTake 0 hs rfl (by kernel_rfl) (Wnt.none rfl) rfl rfl (by intro w hm; replace hm : Mm _ _ _ w := hm; exact r_val hs tab rfl) (hm.sub (List.nil_sublist _)) ?_; clear hs a; intro a hs
    refine hTake 3 hs rfl (by kernel_rfl) (Wnt.none rfl) rfl rfl (by intro w hm; replace hm : Mm _ _ _ w := hm; exact r_val hs tab rfl) (hm.sub (List.nil_sublist _)) ?_; clear hs a; intro a hs
    refine hEach [1, 4] (by kernel_rfl) (eDo hs rfl (Wnt.none rfl) rfl rfl (by first | exact RunV.does (r_load hs rfl rfl tab rfl rfl (by first | exact Ro.cl (by assumption) hm (by first | exact (fun t => t) | assumption) (by first | rfl | assumption) | exact Ro.cl0 (by assumption) hm (by first | exact (fun t => t) | assumption) (by first | rfl | assumption) | exact hm.cl (by repeat (first | exact mH | apply mT)) (by first | rfl | assumption))) | exact RunV.does (r_loadO hs rfl rfl tab rfl rfl rfl hm (by repeat (first | exact mH | apply mT)) (by rfl)) | exact RunV.does (r_val hs tab rfl) | exact RunV.does (r_loadA hs rfl rfl tab rfl rfl (Ro.ro (by assumption) hm (by first | exact (fun t => t) | assumption)) rfl)) ?_ (eDo hs rfl (Wnt.none rfl) rfl rfl (by first | exact RunV.does (r_load hs rfl rfl tab rfl rfl (by first | exact Ro.cl (by assumption) hm (by first | exact (fun t => t) | assumption) (by first | rfl | assumption) | exact Ro.cl0 (by assumption) hm (by first | exact (fun t => t) | assumption) (by first | rfl | assumption) | exact hm.cl (by repeat (first | exact mH | apply mT)) (by first | rfl | assumption))) | exact RunV.does (r_loadO hs rfl rfl tab rfl rfl rfl hm (by repeat (first | exact mH | apply mT)) (by rfl)) | exact RunV.does (r_val hs tab rfl) | exact RunV.does (r_loadA hs rfl rfl tab rfl rfl (Ro.ro (by assumption) hm (by first | exact (fun t => t) | assumption)) rfl)) ?_ eNil))
    · skip
      clear hs a
      rintro _ _ ⟨rfl, rfl⟩ a hs
      refine ⟨hm.sub (by repeat (first | exact List.Sublist.refl _ | exact List.nil_sublist _ | apply List.Sublist.cons_cons | apply List.Sublist.cons)), ?_⟩
      refine hTake 2 hs rfl (by kernel_rfl) (Wnt.none rfl) rfl rfl (by intro w hm; replace hm : Mm _ _ _ w := hm; (first | exact r_remH hs rfl rfl rfl (by assumption) (by omega) (by omega) | exact r_rem64 hs rfl rfl rfl (by omega) (by omega) | exact r_rem hs rfl rfl rfl (by omega) | exact r_bi hs rfl)) (hm.sub (List.nil_sublist _)) ?_; clear hs a; intro a hs
      refine hTake 6 hs rfl (by kernel_rfl) (Wnt.none rfl) rfl rfl (by intro w hm; replace hm : Mm _ _ _ w := hm; exact r_val hs tab rfl) (hm.sub (List.nil_sublist _)) ?_; clear hs a; intro a hs
      refine hEach [4, 7] (by kernel_rfl) (eDo hs rfl (Wnt.none rfl) rfl rfl (by first | exact RunV.does (r_load hs rfl rfl tab rfl rfl (by first | exact Ro.cl (by assumption) hm (by first | exact (fun t => t) | assumption) (by first | rfl | assumption) | exact Ro.cl0 (by assumption) hm (by first | exact (fun t => t) | assumption) (by first | rfl | assumption) | exact hm.cl (by repeat (first | exact mH | apply mT)) (by first | rfl | assumption))) | exact RunV.does (r_loadO hs rfl rfl tab rfl rfl rfl hm (by repeat (first | exact mH | apply mT)) (by rfl)) | exact RunV.does (r_val hs tab rfl) | exact RunV.does (r_loadA hs rfl rfl tab rfl rfl (Ro.ro (by assumption) hm (by first | exact (fun t => t) | assumption)) rfl)) ?_ (eDoN hs rfl (Wnt.none rfl) rfl (by exact d_store hs rfl rfl rfl tab rfl rfl rfl rfl hm (by repeat (first | exact Rep.head _ _ _ | apply Rep.tail)) rfl) ?_ eNil))
      · skip
        clear hs a
        rintro _ _ ⟨rfl, rfl⟩ a hs
        refine ⟨hm.sub (by repeat (first | exact List.Sublist.refl _ | exact List.nil_sublist _ | apply List.Sublist.cons_cons | apply List.Sublist.cons)), ?_⟩
        refine hTake 5 hs rfl (by kernel_rfl) (Wnt.none rfl) rfl rfl (by intro w hm; replace hm : Mm _ _ _ w := hm; (first | exact r_remH hs rfl rfl rfl (by assumption) (by omega) (by omega) | exact r_rem64 hs rfl rfl rfl (by omega) (by omega) | exact r_rem hs rfl rfl rfl (by omega) | exact r_bi hs rfl)) (hm.sub (List.nil_sublist _)) ?_; clear hs a; intro a hs
        refine hEach [7] (by kernel_rfl) (eDoN hs rfl (Wnt.none rfl) rfl (by exact d_store hs rfl rfl rfl tab rfl rfl rfl rfl hm (by repeat (first | exact Rep.head _ _ _ | apply Rep.tail)) rfl) ?_ eNil)
        clear hs hm
        rintro - w27 hm a hs
        refine ⟨hm.sub (by repeat (first | exact List.Sublist.refl _ | exact List.nil_sublist _ | apply List.Sublist.cons_cons | apply List.Sublist.cons)), ?_⟩
        refine hTake 8 hs rfl (by kernel_rfl) (Wnt.none rfl) rfl rfl (by intro w hm; replace hm : Mm _ _ _ w := hm; exact r_val hs tab rfl) (hm.sub (List.nil_sublist _)) ?_; clear hs a; intro a hs
        refine hEach [9] (by kernel_rfl) (eDoN hs rfl (Wnt.none rfl) rfl (by exact d_store hs rfl rfl rfl tab rfl rfl rfl rfl hm (by repeat (first | exact Rep.head _ _ _ | apply Rep.tail)) rfl) ?_ eNil)
        clear hs hm
        rintro - w29 hm a hs
        refine ⟨hm.sub (by repeat (first | exact List.Sublist.refl _ | exact List.nil_sublist _ | apply List.Sublist.cons_cons | apply List.Sublist.cons)), ?_⟩
        refine hDone (by kernel_rfl) ?_
        exact And.intro rfl ⟨hs.sub (Has.all ⟨rfl, rfl, rfl, rfl, rfl, rfl, trivial⟩), hm⟩
      · skip
        clear hs hm
        rintro - w27 hm a hs
        refine ⟨hm.sub (by repeat (first | exact List.Sublist.refl _ | exact List.nil_sublist _ | apply List.Sublist.cons_cons | apply List.Sublist.cons)), ?_⟩
        refine hEach [4] (by kernel_rfl) (eDo hs rfl (Wnt.none rfl) rfl rfl (by first | exact RunV.does (r_load hs rfl rfl tab rfl rfl (by first | exact Ro.cl (by assumption) hm (by first | exact (fun t => t) | assumption) (by first | rfl | assumption) | exact Ro.cl0 (by assumption) hm (by first | exact (fun t => t) | assumption) (by first | rfl | assumption) | exact hm.cl (by repeat (first | exact mH | apply mT)) (by first | rfl | assumption))) | exact RunV.does (r_loadO hs rfl rfl tab rfl rfl rfl hm (by repeat (first | exact mH | apply mT)) (by rfl)) | exact RunV.does (r_val hs tab rfl) | exact RunV.does (r_loadA hs rfl rfl tab rfl rfl (Ro.ro (by assumption) hm (by first | exact (fun t => t) | assumption)) rfl)) ?_ eNil)
        clear hs a
        rintro _ _ ⟨rfl, rfl⟩ a hs
        refine ⟨hm.sub (by repeat (first | exact List.Sublist.refl _ | exact List.nil_sublist _ | apply List.Sublist.cons_cons | apply List.Sublist.cons)), ?_⟩
        refine hTake 5 hs rfl (by kernel_rfl) (Wnt.none rfl) rfl rfl (by intro w hm; replace hm : Mm _ _ _ w := hm; (first | exact r_remH hs rfl rfl rfl (by assumption) (by omega) (by omega) | exact r_rem64 hs rfl rfl rfl (by omega) (by omega) | exact r_rem hs rfl rfl rfl (by omega) | exact r_bi hs rfl)) (hm.sub (List.nil_sublist _)) ?_; clear hs a; intro a hs
        refine hTake 8 hs rfl (by kernel_rfl) (Wnt.none rfl) rfl rfl (by intro w hm; replace hm : Mm _ _ _ w := hm; exact r_val hs tab rfl) (hm.sub (List.nil_sublist _)) ?_; clear hs a; intro a hs
        refine hEach [9] (by kernel_rfl) (eDoN hs rfl (Wnt.none rfl) rfl (by exact d_store hs rfl rfl rfl tab rfl rfl rfl rfl hm (by repeat (first | exact Rep.head _ _ _ | apply Rep.tail)) rfl) ?_ eNil)
        clear hs hm
        rintro - w29 hm a hs
        refine ⟨hm.sub (by repeat (first | exact List.Sublist.refl _ | exact List.nil_sublist _ | apply List.Sublist.cons_cons | apply List.Sublist.cons)), ?_⟩
        refine hDone (by kernel_rfl) ?_
        exact And.intro rfl ⟨hs.sub (Has.all ⟨rfl, rfl, rfl, rfl, rfl, rfl, trivial⟩), hm⟩
    · skip
      clear hs a
      rintro _ _ ⟨rfl, rfl⟩ a hs
      refine ⟨hm.sub (by repeat (first | exact List.Sublist.refl _ | exact List.nil_sublist _ | apply List.Sublist.cons_cons | apply List.Sublist.cons)), ?_⟩
      refine hTake 5 hs rfl (by kernel_rfl) (Wnt.none rfl) rfl rfl (by intro w hm; replace hm : Mm _ _ _ w := hm; (first | exact r_remH hs rfl rfl rfl (by assumption) (by omega) (by omega) | exact r_rem64 hs rfl rfl rfl (by omega) (by omega) | exact r_rem hs rfl rfl rfl (by omega) | exact r_bi hs rfl)) (hm.sub (List.nil_sublist _)) ?_; clear hs a; intro a hs
      refine hEach [1] (by kernel_rfl) (eDo hs rfl (Wnt.none rfl) rfl rfl (by first | exact RunV.does (r_load hs rfl rfl tab rfl rfl (by first | exact Ro.cl (by assumption) hm (by first | exact (fun t => t) | assumption) (by first | rfl | assumption) | exact Ro.cl0 (by assumption) hm (by first | exact (fun t => t) | assumption) (by first | rfl | assumption) | exact hm.cl (by repeat (first | exact mH | apply mT)) (by first | rfl | assumption))) | exact RunV.does (r_loadO hs rfl rfl tab rfl rfl rfl hm (by repeat (first | exact mH | apply mT)) (by rfl)) | exact RunV.does (r_val hs tab rfl) | exact RunV.does (r_loadA hs rfl rfl tab rfl rfl (Ro.ro (by assumption) hm (by first | exact (fun t => t) | assumption)) rfl)) ?_ eNil)
      clear hs a
      rintro _ _ ⟨rfl, rfl⟩ a hs
      refine ⟨hm.sub (by repeat (first | exact List.Sublist.refl _ | exact List.nil_sublist _ | apply List.Sublist.cons_cons | apply List.Sublist.cons)), ?_⟩
      refine hTake 2 hs rfl (by kernel_rfl) (Wnt.none rfl) rfl rfl (by intro w hm; replace hm : Mm _ _ _ w := hm; (first | exact r_remH hs rfl rfl rfl (by assumption) (by omega) (by omega) | exact r_rem64 hs rfl rfl rfl (by omega) (by omega) | exact r_rem hs rfl rfl rfl (by omega) | exact r_bi hs rfl)) (hm.sub (List.nil_sublist _)) ?_; clear hs a; intro a hs
      refine hTake 6 hs rfl (by kernel_rfl) (Wnt.none rfl) rfl rfl (by intro w hm; replace hm : Mm _ _ _ w := hm; exact r_val hs tab rfl) (hm.sub (List.nil_sublist _)) ?_; clear hs a; intro a hs
      refine hEach [7] (by kernel_rfl) (eDoN hs rfl (Wnt.none rfl) rfl (by exact d_store hs rfl rfl rfl tab rfl rfl rfl rfl hm (by repeat (first | exact Rep.head _ _ _ | apply Rep.tail)) rfl) ?_ eNil)
      clear hs hm
      rintro - w27 hm a hs
      refine ⟨hm.sub (by repeat (first | exact List.Sublist.refl _ | exact List.nil_sublist _ | apply List.Sublist.cons_cons | apply List.Sublist.cons)), ?_⟩
      refine hTake 8 hs rfl (by kernel_rfl) (Wnt.none rfl) rfl rfl (by intro w hm; replace hm : Mm _ _ _ w := hm; exact r_val hs tab rfl) (hm.sub (List.nil_sublist _)) ?_; clear hs a; intro a hs
      refine hEach [9] (by kernel_rfl) (eDoN hs rfl (Wnt.none rfl) rfl (by exact d_store hs rfl rfl rfl tab rfl rfl rfl rfl hm (by repeat (first | exact Rep.head _ _ _ | apply Rep.tail)) rfl) ?_ eNil)
      clear hs hm
      rintro - w29 hm a hs
      refine ⟨hm.sub (by repeat (first | exact List.Sublist.refl _ | exact List.nil_sublist _ | apply List.Sublist.cons_cons | apply List.Sublist.cons)), ?_⟩
      refine hDone (by kernel_rfl) ?_
      exact And.intro rfl ⟨hs.sub (Has.all ⟨rfl, rfl, rfl, rfl, rfl, rfl, trivial⟩), hm⟩
  clear hs hm a
  rintro a w ⟨hs, hm⟩
  repeat (first | ((with_reducible refine toL hm ?_); (first | refine oneV hs (by first | exact Wnt.none rfl | exact Wnt.some rfl rfl rfl rfl) rfl rfl (by intro w hm; (first | exact r_val hs tab rfl | ((with_reducible apply kLoad); first | exact r_load hs rfl rfl tab rfl rfl (by first | exact Ro.cl (by assumption) hm (by first | exact (fun t => t) | assumption) (by first | rfl | assumption) | exact Ro.cl0 (by assumption) hm (by first | exact (fun t => t) | assumption) (by first | rfl | assumption) | exact hm.cl (by repeat (first | exact mH | apply mT)) (by first | rfl | assumption)) | exact r_loadO hs rfl rfl tab rfl rfl rfl hm (by repeat (first | exact mH | apply mT)) (by rfl) | exact r_loadA hs rfl rfl tab rfl rfl (Ro.ro (by assumption) hm (by first | exact (fun t => t) | assumption)) rfl) | exact r_iz hs tab rfl rfl (by omega) | exact r_iy hs tab rfl rfl (by omega) | exact r_cT hs rfl (by omega) | exact r_cF hs rfl (by omega) | exact r_arH hs rfl (by assumption) (by omega) | exact r_ar hs rfl (by omega) | exact r_remH hs rfl rfl rfl (by assumption) (by omega) (by omega) | exact r_rem64 hs rfl rfl rfl (by omega) (by omega) | exact r_rem hs rfl rfl rfl (by omega) | exact r_bi hs rfl | exact r_pick hs rfl rfl rfl rfl | exact r_neqSt (fl := [(true, 0, 5), (true, 1, 22)]) hs rfl rfl rfl tab (by kernel_rfl) (by kernel_rfl) (by kernel_rfl) (by kernel_rfl) rfl | exact r_eqlSt (fl := [(true, 0, 5), (true, 1, 22)]) hs rfl rfl rfl tab (by kernel_rfl) (by kernel_rfl) (by kernel_rfl) (by kernel_rfl) rfl)) ?_ | refine oneN hs rfl rfl rfl rfl rfl rfl rfl ?_ | refine oneU hs rfl rfl rfl rfl rfl rfl ?_); clear hs a; intro a hs) | ((with_reducible apply lCons); first | (refine dv hs (by first | exact Wnt.none rfl | exact Wnt.some rfl rfl rfl rfl) rfl rfl (by first | exact d_alloc rfl tab rfl rfl hm | exact d_box hs rfl rfl rfl hm | exact d_buildSlice0 rfl tab rfl rfl rfl hm | exact d_buildSlice hs rfl tab rfl rfl rfl rfl rfl rfl rfl rfl rfl hm) ?_; clear hs hm a; rintro _ w ⟨g, rfl, -, hm⟩ a hs) | (refine stn hs rfl rfl (by first | exact d_store hs rfl rfl rfl tab rfl rfl rfl rfl hm (by repeat (first | exact Rep.head _ _ _ | apply Rep.tail)) (by rfl) | exact d_store1 hs rfl rfl rfl tab rfl rfl rfl rfl hm (by repeat (first | exact Rep.head _ _ _ | apply Rep.tail)) (by first | omega | assumption | (simp; omega))) ?_; clear hs hm a; rintro - w hm a hs) ) | (with_reducible first | apply lNilThen | apply lNilBlock | apply lNil | apply wp_seq | apply wp_region_lit | apply wp_block | apply cExit | apply cRet | apply cSkip | apply gThen | apply gBlock | apply eThen | apply eBlockHit | refine eBlock rfl ?_ | apply rThen | apply rBlock) | ((with_reducible apply cCond); first | refine cTrue hs rfl (by first | rfl | assumption | exact decide_eq_true (by omega) | exact decide_eq_false (by omega) | exact ndT (by omega) | exact ndF (by omega)) ?_ | refine cFalse hs rfl (by first | rfl | assumption | exact decide_eq_true (by omega) | exact decide_eq_false (by omega) | exact ndT (by omega) | exact ndF (by omega)) ?_))
  refine cMid (fun a w => ∃ (t1 v1 t2 v2 : Int) (g10 g11 a9 : Nat), (t1 = 0 ∨ t1 = 1 ∨ t1 = 2) ∧ (0 ≤ v1 ∧ v1 ≤ 65535) ∧ (t2 = 0 ∨ t2 = 1 ∨ t2 = 2) ∧ (0 ≤ v2 ∧ v2 ≤ 65535) ∧ Sl Try.f7.ntmps [(3, .pointer (some ⟨g3, 0, none⟩)), (4, .pointer (some ⟨g4, 0, none⟩)), (10, .pointer (some ⟨g10, 0, none⟩)), (11, .pointer (some ⟨g11, 0, none⟩)), (6, .bool false), (8, .slice x.B x.n x.d), (9, .pointer (some ⟨g9, 0, none⟩))] a ∧ Mm (own M3) w3 [⟨some g11, 24, [.int .u8 t2, .int .u16 v2]⟩, ⟨some g10, 24, [.int .u8 t1, .int .u16 v1]⟩, ⟨some g9, 30, [.slice x.A x.n x.c, .int .u16 x.key]⟩, dk gd A n c a9, ⟨some g4, 24, [.int .u8 (tc % 3), .int .u16 vc]⟩, ⟨some g3, 24, [.int .u8 (tb % 3), .int .u16 vb]⟩] w) ?_ ?_
  · skip
    refine cDraw (n := 12) [⟨some g9, 30, [.slice x.A x.n x.c, .int .u16 x.key]⟩] hm rfl rfl ?_
    clear hm
    intro w2 hm
    refine hTake 0 hs rfl (by kernel_rfl) (Wnt.none rfl) rfl rfl (by intro w hm; replace hm : Mm _ _ _ w := hm; exact r_val hs tab rfl) (hm.sub (by repeat (first | exact List.Sublist.refl _ | exact List.nil_sublist _ | apply List.Sublist.cons_cons | apply List.Sublist.cons))) ?_; clear hs a; intro a hs
    refine hTake 1 hs rfl (by kernel_rfl) (Wnt.none rfl) rfl rfl (by intro w hm; replace hm : Mm _ _ _ w := hm; ((with_reducible apply kLoad); first | exact r_load hs rfl rfl tab rfl rfl (by first | exact Ro.cl (by assumption) hm (by first | exact (fun t => t) | assumption) (by first | rfl | assumption) | exact Ro.cl0 (by assumption) hm (by first | exact (fun t => t) | assumption) (by first | rfl | assumption) | exact hm.cl (by repeat (first | exact mH | apply mT)) (by first | rfl | assumption)) | exact r_loadO hs rfl rfl tab rfl rfl rfl hm (by repeat (first | exact mH | apply mT)) (by rfl) | exact r_loadA hs rfl rfl tab rfl rfl (Ro.ro (by assumption) hm (by first | exact (fun t => t) | assumption)) rfl)) (hm.sub (by repeat (first | exact List.Sublist.refl _ | exact List.nil_sublist _ | apply List.Sublist.cons_cons | apply List.Sublist.cons))) ?_; clear hs a; intro a hs
    refine hTake 2 hs rfl (by kernel_rfl) (Wnt.none rfl) rfl rfl (by intro w hm; replace hm : Mm _ _ _ w := hm; exact r_val hs tab rfl) (hm.sub (by repeat (first | exact List.Sublist.refl _ | exact List.nil_sublist _ | apply List.Sublist.cons_cons | apply List.Sublist.cons))) ?_; clear hs a; intro a hs
    refine hTake 4 hs rfl (by kernel_rfl) (Wnt.none rfl) rfl rfl (by intro w hm; replace hm : Mm _ _ _ w := hm; exact r_val hs tab rfl) (hm.sub (by repeat (first | exact List.Sublist.refl _ | exact List.nil_sublist _ | apply List.Sublist.cons_cons | apply List.Sublist.cons))) ?_; clear hs a; intro a hs
    refine hTake 5 hs rfl (by kernel_rfl) (Wnt.none rfl) rfl rfl (by intro w hm; replace hm : Mm _ _ _ w := hm; ((with_reducible apply kLoad); first | exact r_load hs rfl rfl tab rfl rfl (by first | exact Ro.cl (by assumption) hm (by first | exact (fun t => t) | assumption) (by first | rfl | assumption) | exact Ro.cl0 (by assumption) hm (by first | exact (fun t => t) | assumption) (by first | rfl | assumption) | exact hm.cl (by repeat (first | exact mH | apply mT)) (by first | rfl | assumption)) | exact r_loadO hs rfl rfl tab rfl rfl rfl hm (by repeat (first | exact mH | apply mT)) (by rfl) | exact r_loadA hs rfl rfl tab rfl rfl (Ro.ro (by assumption) hm (by first | exact (fun t => t) | assumption)) rfl)) (hm.sub (by repeat (first | exact List.Sublist.refl _ | exact List.nil_sublist _ | apply List.Sublist.cons_cons | apply List.Sublist.cons))) ?_; clear hs a; intro a hs
    refine hTake 6 hs rfl (by kernel_rfl) (Wnt.none rfl) rfl rfl (by intro w hm; replace hm : Mm _ _ _ w := hm; exact r_val hs tab rfl) (hm.sub (by repeat (first | exact List.Sublist.refl _ | exact List.nil_sublist _ | apply List.Sublist.cons_cons | apply List.Sublist.cons))) ?_; clear hs a; intro a hs
    refine hEach [3, 8, 9] (by kernel_rfl) (eDo hs rfl (Wnt.none rfl) rfl rfl (by exact d_call hs rfl rfl rfl (pl 12 rfl) ((hcl gd _ x _ (Dk.at (hmB.trans hm) (by repeat (first | exact List.Mem.head _ | apply List.Mem.tail)) hl hrx hn63) (hx.own hno hm) hneg hxn))) ?_ (eDo hs rfl (Wnt.none rfl) rfl rfl (by exact d_alloc rfl tab rfl rfl hm) ?_ (eDo hs rfl (Wnt.none rfl) rfl rfl (by exact d_alloc rfl tab rfl rfl hm) ?_ eNil)))
    · skip
      clear hs
      rintro _ w1 ⟨t1, v1, rfl, ht1, hv1, a3, k3, hf⟩ a hs
      replace hm := hm.dkt (by repeat (first | exact Rep.head _ _ _ | apply Rep.tail)) k3 hf
      clear hf
      refine ⟨hm.sub (by repeat (first | exact List.Sublist.refl _ | exact List.nil_sublist _ | apply List.Sublist.cons_cons | apply List.Sublist.cons)), ?_⟩
      refine hEach [7, 8, 9] (by kernel_rfl) (eDo hs rfl (Wnt.none rfl) rfl rfl (by exact d_call hs rfl rfl rfl (pl 12 rfl) ((hcl gd _ x _ (Dk.at (hmB.trans hm) (by repeat (first | exact List.Mem.head _ | apply List.Mem.tail)) hl hrx hn63) (hx.own hno hm) hneg hxn))) ?_ (eDo hs rfl (Wnt.none rfl) rfl rfl (by exact d_alloc rfl tab rfl rfl hm) ?_ (eDo hs rfl (Wnt.none rfl) rfl rfl (by exact d_alloc rfl tab rfl rfl hm) ?_ eNil)))
      · skip
        clear hs
        rintro _ w1 ⟨t2, v2, rfl, ht2, hv2, a4, k4, hf⟩ a hs
        replace hm := hm.dkt (by repeat (first | exact Rep.head _ _ _ | apply Rep.tail)) k4 hf
        clear hf
        refine ⟨hm.sub (by repeat (first | exact List.Sublist.refl _ | exact List.nil_sublist _ | apply List.Sublist.cons_cons | apply List.Sublist.cons)), ?_⟩
        refine hEach [8, 9] (by kernel_rfl) (eDo hs rfl (Wnt.none rfl) rfl rfl (by exact d_alloc rfl tab rfl rfl hm) ?_ (eDo hs rfl (Wnt.none rfl) rfl rfl (by exact d_alloc rfl tab rfl rfl hm) ?_ eNil))
        · skip
          clear hs hm a
          rintro _ w28 ⟨g10, rfl, -, hm⟩ a hs
          refine ⟨hm.sub (by repeat (first | exact List.Sublist.refl _ | exact List.nil_sublist _ | apply List.Sublist.cons_cons | apply List.Sublist.cons)), ?_⟩
          refine hEach [9] (by kernel_rfl) (eDo hs rfl (Wnt.none rfl) rfl rfl (by exact d_alloc rfl tab rfl rfl hm) ?_ eNil)
          clear hs hm a
          rintro _ w29 ⟨g11, rfl, -, hm⟩ a hs
          refine ⟨hm.sub (by repeat (first | exact List.Sublist.refl _ | exact List.nil_sublist _ | apply List.Sublist.cons_cons | apply List.Sublist.cons)), ?_⟩
          refine hEach [10] (by kernel_rfl) (eDoN hs rfl (Wnt.none rfl) rfl (by exact d_store hs rfl rfl rfl tab rfl rfl rfl rfl hm (by repeat (first | exact Rep.head _ _ _ | apply Rep.tail)) rfl) ?_ eNil)
          clear hs hm
          rintro - w30 hm a hs
          refine ⟨hm.sub (by repeat (first | exact List.Sublist.refl _ | exact List.nil_sublist _ | apply List.Sublist.cons_cons | apply List.Sublist.cons)), ?_⟩
          refine hEach [11] (by kernel_rfl) (eDoN hs rfl (Wnt.none rfl) rfl (by exact d_store hs rfl rfl rfl tab rfl rfl rfl rfl hm (by repeat (first | exact Rep.head _ _ _ | apply Rep.tail)) rfl) ?_ eNil)
          clear hs hm
          rintro - w31 hm a hs
          refine ⟨hm.sub (by repeat (first | exact List.Sublist.refl _ | exact List.nil_sublist _ | apply List.Sublist.cons_cons | apply List.Sublist.cons)), ?_⟩
          refine hDone (by kernel_rfl) ?_
          exact And.intro rfl ⟨t1, v1, t2, v2, g10, g11, _, ht1, hv1, ht2, hv2, hs.sub (Has.all ⟨rfl, rfl, rfl, rfl, rfl, rfl, rfl, trivial⟩), by first | exact hm | exact hm.sel [1, 0, 2, 3, 4, 5] (by decide) rfl⟩
        · skip
          clear hs hm a
          rintro _ w29 ⟨g11, rfl, -, hm⟩ a hs
          refine ⟨hm.sub (by repeat (first | exact List.Sublist.refl _ | exact List.nil_sublist _ | apply List.Sublist.cons_cons | apply List.Sublist.cons)), ?_⟩
          refine hEach [8] (by kernel_rfl) (eDo hs rfl (Wnt.none rfl) rfl rfl (by exact d_alloc rfl tab rfl rfl hm) ?_ eNil)
          clear hs hm a
          rintro _ w28 ⟨g10, rfl, -, hm⟩ a hs
          refine ⟨hm.sub (by repeat (first | exact List.Sublist.refl _ | exact List.nil_sublist _ | apply List.Sublist.cons_cons | apply List.Sublist.cons)), ?_⟩
          refine hEach [10] (by kernel_rfl) (eDoN hs rfl (Wnt.none rfl) rfl (by exact d_store hs rfl rfl rfl tab rfl rfl rfl rfl hm (by repeat (first | exact Rep.head _ _ _ | apply Rep.tail)) rfl) ?_ eNil)
          clear hs hm
          rintro - w30 hm a hs
          refine ⟨hm.sub (by repeat (first | exact List.Sublist.refl _ | exact List.nil_sublist _ | apply List.Sublist.cons_cons | apply List.Sublist.cons)), ?_⟩
          refine hEach [11] (by kernel_rfl) (eDoN hs rfl (Wnt.none rfl) rfl (by exact d_store hs rfl rfl rfl tab rfl rfl rfl rfl hm (by repeat (first | exact Rep.head _ _ _ | apply Rep.tail)) rfl) ?_ eNil)
          clear hs hm
          rintro - w31 hm a hs
          refine ⟨hm.sub (by repeat (first | exact List.Sublist.refl _ | exact List.nil_sublist _ | apply List.Sublist.cons_cons | apply List.Sublist.cons)), ?_⟩
          refine hDone (by kernel_rfl) ?_
          exact And.intro rfl ⟨t1, v1, t2, v2, g10, g11, _, ht1, hv1, ht2, hv2, hs.sub (Has.all ⟨rfl, rfl, rfl, rfl, rfl, rfl, rfl, trivial⟩), by first | exact hm | exact hm.sel [1, 0, 2, 3, 4, 5] (by decide) rfl⟩
      · skip
        clear hs hm a
        rintro _ w28 ⟨g10, rfl, -, hm⟩ a hs
        refine ⟨hm.sub (by repeat (first | exact List.Sublist.refl _ | exact List.nil_sublist _ | apply List.Sublist.cons_cons | apply List.Sublist.cons)), ?_⟩
        refine hEach [7, 9] (by kernel_rfl) (eDo hs rfl (Wnt.none rfl) rfl rfl (by exact d_call hs rfl rfl rfl (pl 12 rfl) ((hcl gd _ x _ (Dk.at (hmB.trans hm) (by repeat (first | exact List.Mem.head _ | apply List.Mem.tail)) hl hrx hn63) (hx.own hno hm) hneg hxn))) ?_ (eDo hs rfl (Wnt.none rfl) rfl rfl (by exact d_alloc rfl tab rfl rfl hm) ?_ eNil))
        · skip
          clear hs
          rintro _ w1 ⟨t2, v2, rfl, ht2, hv2, a4, k4, hf⟩ a hs
          replace hm := hm.dkt (by repeat (first | exact Rep.head _ _ _ | apply Rep.tail)) k4 hf
          clear hf
          refine ⟨hm.sub (by repeat (first | exact List.Sublist.refl _ | exact List.nil_sublist _ | apply List.Sublist.cons_cons | apply List.Sublist.cons)), ?_⟩
          refine hEach [9] (by kernel_rfl) (eDo hs rfl (Wnt.none rfl) rfl rfl (by exact d_alloc rfl tab rfl rfl hm) ?_ eNil)
          clear hs hm a
          rintro _ w29 ⟨g11, rfl, -, hm⟩ a hs
          refine ⟨hm.sub (by repeat (first | exact List.Sublist.refl _ | exact List.nil_sublist _ | apply List.Sublist.cons_cons | apply List.Sublist.cons)), ?_⟩
          refine hEach [10] (by kernel_rfl) (eDoN hs rfl (Wnt.none rfl) rfl (by exact d_store hs rfl rfl rfl tab rfl rfl rfl rfl hm (by repeat (first | exact Rep.head _ _ _ | apply Rep.tail)) rfl) ?_ eNil)
          clear hs hm
          rintro - w30 hm a hs
          refine ⟨hm.sub (by repeat (first | exact List.Sublist.refl _ | exact List.nil_sublist _ | apply List.Sublist.cons_cons | apply List.Sublist.cons)), ?_⟩
          refine hEach [11] (by kernel_rfl) (eDoN hs rfl (Wnt.none rfl) rfl (by exact d_store hs rfl rfl rfl tab rfl rfl rfl rfl hm (by repeat (first | exact Rep.head _ _ _ | apply Rep.tail)) rfl) ?_ eNil)
          clear hs hm
          rintro - w31 hm a hs
          refine ⟨hm.sub (by repeat (first | exact List.Sublist.refl _ | exact List.nil_sublist _ | apply List.Sublist.cons_cons | apply List.Sublist.cons)), ?_⟩
          refine hDone (by kernel_rfl) ?_
          exact And.intro rfl ⟨t1, v1, t2, v2, g10, g11, _, ht1, hv1, ht2, hv2, hs.sub (Has.all ⟨rfl, rfl, rfl, rfl, rfl, rfl, rfl, trivial⟩), by first | exact hm | exact hm.sel [1, 0, 2, 3, 4, 5] (by decide) rfl⟩
        · skip
          clear hs hm a
          rintro _ w29 ⟨g11, rfl, -, hm⟩ a hs
          refine ⟨hm.sub (by repeat (first | exact List.Sublist.refl _ | exact List.nil_sublist _ | apply List.Sublist.cons_cons | apply List.Sublist.cons)), ?_⟩
          refine hEach [7] (by kernel_rfl) (eDo hs rfl (Wnt.none rfl) rfl rfl (by exact d_call hs rfl rfl rfl (pl 12 rfl) ((hcl gd _ x _ (Dk.at (hmB.trans hm) (by repeat (first | exact List.Mem.head _ | apply List.Mem.tail)) hl hrx hn63) (hx.own hno hm) hneg hxn))) ?_ eNil)
          clear hs
          rintro _ w1 ⟨t2, v2, rfl, ht2, hv2, a4, k4, hf⟩ a hs
          replace hm := hm.dkt (by repeat (first | exact Rep.head _ _ _ | apply Rep.tail)) k4 hf
          clear hf
          refine ⟨hm.sub (by repeat (first | exact List.Sublist.refl _ | exact List.nil_sublist _ | apply List.Sublist.cons_cons | apply List.Sublist.cons)), ?_⟩
          refine hEach [10] (by kernel_rfl) (eDoN hs rfl (Wnt.none rfl) rfl (by exact d_store hs rfl rfl rfl tab rfl rfl rfl rfl hm (by repeat (first | exact Rep.head _ _ _ | apply Rep.tail)) rfl) ?_ eNil)
          clear hs hm
          rintro - w30 hm a hs
          refine ⟨hm.sub (by repeat (first | exact List.Sublist.refl _ | exact List.nil_sublist _ | apply List.Sublist.cons_cons | apply List.Sublist.cons)), ?_⟩
          refine hEach [11] (by kernel_rfl) (eDoN hs rfl (Wnt.none rfl) rfl (by exact d_store hs rfl rfl rfl tab rfl rfl rfl rfl hm (by repeat (first | exact Rep.head _ _ _ | apply Rep.tail)) rfl) ?_ eNil)
          clear hs hm
          rintro - w31 hm a hs
          refine ⟨hm.sub (by repeat (first | exact List.Sublist.refl _ | exact List.nil_sublist _ | apply List.Sublist.cons_cons | apply List.Sublist.cons)), ?_⟩
          refine hDone (by kernel_rfl) ?_
          exact And.intro rfl ⟨t1, v1, t2, v2, g10, g11, _, ht1, hv1, ht2, hv2, hs.sub (Has.all ⟨rfl, rfl, rfl, rfl, rfl, rfl, rfl, trivial⟩), by first | exact hm | exact hm.sel [1, 0, 2, 3, 4, 5] (by decide) rfl⟩
      · skip
        clear hs hm a
        rintro _ w29 ⟨g11, rfl, -, hm⟩ a hs
        refine ⟨hm.sub (by repeat (first | exact List.Sublist.refl _ | exact List.nil_sublist _ | apply List.Sublist.cons_cons | apply List.Sublist.cons)), ?_⟩
        refine hEach [7, 8] (by kernel_rfl) (eDo hs rfl (Wnt.none rfl) rfl rfl (by exact d_call hs rfl rfl rfl (pl 12 rfl) ((hcl gd _ x _ (Dk.at (hmB.trans hm) (by repeat (first | exact List.Mem.head _ | apply List.Mem.tail)) hl hrx hn63) (hx.own hno hm) hneg hxn))) ?_ (eDo hs rfl (Wnt.none rfl) rfl rfl (by exact d_alloc rfl tab rfl rfl hm) ?_ eNil))
        · skip
          clear hs
          rintro _ w1 ⟨t2, v2, rfl, ht2, hv2, a4, k4, hf⟩ a hs
          replace hm := hm.dkt (by repeat (first | exact Rep.head _ _ _ | apply Rep.tail)) k4 hf
          clear hf
          refine ⟨hm.sub (by repeat (first | exact List.Sublist.refl _ | exact List.nil_sublist _ | apply List.Sublist.cons_cons | apply List.Sublist.cons)), ?_⟩
          refine hEach [8] (by kernel_rfl) (eDo hs rfl (Wnt.none rfl) rfl rfl (by exact d_alloc rfl tab rfl rfl hm) ?_ eNil)
          clear hs hm a
          rintro _ w28 ⟨g10, rfl, -, hm⟩ a hs
          refine ⟨hm.sub (by repeat (first | exact List.Sublist.refl _ | exact List.nil_sublist _ | apply List.Sublist.cons_cons | apply List.Sublist.cons)), ?_⟩
          refine hEach [10] (by kernel_rfl) (eDoN hs rfl (Wnt.none rfl) rfl (by exact d_store hs rfl rfl rfl tab rfl rfl rfl rfl hm (by repeat (first | exact Rep.head _ _ _ | apply Rep.tail)) rfl) ?_ eNil)
          clear hs hm
          rintro - w30 hm a hs
          refine ⟨hm.sub (by repeat (first | exact List.Sublist.refl _ | exact List.nil_sublist _ | apply List.Sublist.cons_cons | apply List.Sublist.cons)), ?_⟩
          refine hEach [11] (by kernel_rfl) (eDoN hs rfl (Wnt.none rfl) rfl (by exact d_store hs rfl rfl rfl tab rfl rfl rfl rfl hm (by repeat (first | exact Rep.head _ _ _ | apply Rep.tail)) rfl) ?_ eNil)
          clear hs hm
          rintro - w31 hm a hs
          refine ⟨hm.sub (by repeat (first | exact List.Sublist.refl _ | exact List.nil_sublist _ | apply List.Sublist.cons_cons | apply List.Sublist.cons)), ?_⟩
          refine hDone (by kernel_rfl) ?_
          exact And.intro rfl ⟨t1, v1, t2, v2, g10, g11, _, ht1, hv1, ht2, hv2, hs.sub (Has.all ⟨rfl, rfl, rfl, rfl, rfl, rfl, rfl, trivial⟩), by first | exact hm | exact hm.sel [1, 0, 2, 3, 4, 5] (by decide) rfl⟩
        · skip
          clear hs hm a
          rintro _ w28 ⟨g10, rfl, -, hm⟩ a hs
          refine ⟨hm.sub (by repeat (first | exact List.Sublist.refl _ | exact List.nil_sublist _ | apply List.Sublist.cons_cons | apply List.Sublist.cons)), ?_⟩
          refine hEach [7] (by kernel_rfl) (eDo hs rfl (Wnt.none rfl) rfl rfl (by exact d_call hs rfl rfl rfl (pl 12 rfl) ((hcl gd _ x _ (Dk.at (hmB.trans hm) (by repeat (first | exact List.Mem.head _ | apply List.Mem.tail)) hl hrx hn63) (hx.own hno hm) hneg hxn))) ?_ eNil)
          clear hs
          rintro _ w1 ⟨t2, v2, rfl, ht2, hv2, a4, k4, hf⟩ a hs
          replace hm := hm.dkt (by repeat (first | exact Rep.head _ _ _ | apply Rep.tail)) k4 hf
          clear hf
          refine ⟨hm.sub (by repeat (first | exact List.Sublist.refl _ | exact List.nil_sublist _ | apply List.Sublist.cons_cons | apply List.Sublist.cons)), ?_⟩
          refine hEach [10] (by kernel_rfl) (eDoN hs rfl (Wnt.none rfl) rfl (by exact d_store hs rfl rfl rfl tab rfl rfl rfl rfl hm (by repeat (first | exact Rep.head _ _ _ | apply Rep.tail)) rfl) ?_ eNil)
          clear hs hm
          rintro - w30 hm a hs
          refine ⟨hm.sub (by repeat (first | exact List.Sublist.refl _ | exact List.nil_sublist _ | apply List.Sublist.cons_cons | apply List.Sublist.cons)), ?_⟩
          refine hEach [11] (by kernel_rfl) (eDoN hs rfl (Wnt.none rfl) rfl (by exact d_store hs rfl rfl rfl tab rfl rfl rfl rfl hm (by repeat (first | exact Rep.head _ _ _ | apply Rep.tail)) rfl) ?_ eNil)
          clear hs hm
          rintro - w31 hm a hs
          refine ⟨hm.sub (by repeat (first | exact List.Sublist.refl _ | exact List.nil_sublist _ | apply List.Sublist.cons_cons | apply List.Sublist.cons)), ?_⟩
          refine hDone (by kernel_rfl) ?_
          exact And.intro rfl ⟨t1, v1, t2, v2, g10, g11, _, ht1, hv1, ht2, hv2, hs.sub (Has.all ⟨rfl, rfl, rfl, rfl, rfl, rfl, rfl, trivial⟩), by first | exact hm | exact hm.sel [1, 0, 2, 3, 4, 5] (by decide) rfl⟩
    · skip
      clear hs hm a
      rintro _ w28 ⟨g10, rfl, -, hm⟩ a hs
      refine ⟨hm.sub (by repeat (first | exact List.Sublist.refl _ | exact List.nil_sublist _ | apply List.Sublist.cons_cons | apply List.Sublist.cons)), ?_⟩
      refine hEach [3, 9] (by kernel_rfl) (eDo hs rfl (Wnt.none rfl) rfl rfl (by exact d_call hs rfl rfl rfl (pl 12 rfl) ((hcl gd _ x _ (Dk.at (hmB.trans hm) (by repeat (first | exact List.Mem.head _ | apply List.Mem.tail)) hl hrx hn63) (hx.own hno hm) hneg hxn))) ?_ (eDo hs rfl (Wnt.none rfl) rfl rfl (by exact d_alloc rfl tab rfl rfl hm) ?_ eNil))
      · skip
        clear hs
        rintro _ w1 ⟨t1, v1, rfl, ht1, hv1, a3, k3, hf⟩ a hs
        replace hm := hm.dkt (by repeat (first | exact Rep.head _ _ _ | apply Rep.tail)) k3 hf
        clear hf
        refine ⟨hm.sub (by repeat (first | exact List.Sublist.refl _ | exact List.nil_sublist _ | apply List.Sublist.cons_cons | apply List.Sublist.cons)), ?_⟩
        refine hEach [7, 9] (by kernel_rfl) (eDo hs rfl (Wnt.none rfl) rfl rfl (by exact d_call hs rfl rfl rfl (pl 12 rfl) ((hcl gd _ x _ (Dk.at (hmB.trans hm) (by repeat (first | exact List.Mem.head _ | apply List.Mem.tail)) hl hrx hn63) (hx.own hno hm) hneg hxn))) ?_ (eDo hs rfl (Wnt.none rfl) rfl rfl (by exact d_alloc rfl tab rfl rfl hm) ?_ eNil))
        · skip
          clear hs
          rintro _ w1 ⟨t2, v2, rfl, ht2, hv2, a4, k4, hf⟩ a hs
          replace hm := hm.dkt (by repeat (first | exact Rep.head _ _ _ | apply Rep.tail)) k4 hf
          clear hf
          refine ⟨hm.sub (by repeat (first | exact List.Sublist.refl _ | exact List.nil_sublist _ | apply List.Sublist.cons_cons | apply List.Sublist.cons)), ?_⟩
          refine hEach [9] (by kernel_rfl) (eDo hs rfl (Wnt.none rfl) rfl rfl (by exact d_alloc rfl tab rfl rfl hm) ?_ eNil)
          clear hs hm a
          rintro _ w29 ⟨g11, rfl, -, hm⟩ a hs
          refine ⟨hm.sub (by repeat (first | exact List.Sublist.refl _ | exact List.nil_sublist _ | apply List.Sublist.cons_cons | apply List.Sublist.cons)), ?_⟩
          refine hEach [10] (by kernel_rfl) (eDoN hs rfl (Wnt.none rfl) rfl (by exact d_store hs rfl rfl rfl tab rfl rfl rfl rfl hm (by repeat (first | exact Rep.head _ _ _ | apply Rep.tail)) rfl) ?_ eNil)
          clear hs hm
          rintro - w30 hm a hs
          refine ⟨hm.sub (by repeat (first | exact List.Sublist.refl _ | exact List.nil_sublist _ | apply List.Sublist.cons_cons | apply List.Sublist.cons)), ?_⟩
          refine hEach [11] (by kernel_rfl) (eDoN hs rfl (Wnt.none rfl) rfl (by exact d_store hs rfl rfl rfl tab rfl rfl rfl rfl hm (by repeat (first | exact Rep.head _ _ _ | apply Rep.tail)) rfl) ?_ eNil)
          clear hs hm
          rintro - w31 hm a hs
          refine ⟨hm.sub (by repeat (first | exact List.Sublist.refl _ | exact List.nil_sublist _ | apply List.Sublist.cons_cons | apply List.Sublist.cons)), ?_⟩
          refine hDone (by kernel_rfl) ?_
          exact And.intro rfl ⟨t1, v1, t2, v2, g10, g11, _, ht1, hv1, ht2, hv2, hs.sub (Has.all ⟨rfl, rfl, rfl, rfl, rfl, rfl, rfl, trivial⟩), by first | exact hm | exact hm.sel [1, 0, 2, 3, 4, 5] (by decide) rfl⟩
        · skip
          clear hs hm a
          rintro _ w29 ⟨g11, rfl, -, hm⟩ a hs
          refine ⟨hm.sub (by repeat (first | exact List.Sublist.refl _ | exact List.nil_sublist _ | apply List.Sublist.cons_cons | apply List.Sublist.cons)), ?_⟩
          refine hEach [7] (by kernel_rfl) (eDo hs rfl (Wnt.none rfl) rfl rfl (by exact d_call hs rfl rfl rfl (pl 12 rfl) ((hcl gd _ x _ (Dk.at (hmB.trans hm) (by repeat (first | exact List.Mem.head _ | apply List.Mem.tail)) hl hrx hn63) (hx.own hno hm) hneg hxn))) ?_ eNil)
          clear hs
          rintro _ w1 ⟨t2, v2, rfl, ht2, hv2, a4, k4, hf⟩ a hs
          replace hm := hm.dkt (by repeat (first | exact Rep.head _ _ _ | apply Rep.tail)) k4 hf
          clear hf
          refine ⟨hm.sub (by repeat (first | exact List.Sublist.refl _ | exact List.nil_sublist _ | apply List.Sublist.cons_cons | apply List.Sublist.cons)), ?_⟩
          refine hEach [10] (by kernel_rfl) (eDoN hs rfl (Wnt.none rfl) rfl (by exact d_store hs rfl rfl rfl tab rfl rfl rfl rfl hm (by repeat (first | exact Rep.head _ _ _ | apply Rep.tail)) rfl) ?_ eNil)
          clear hs hm
          rintro - w30 hm a hs
          refine ⟨hm.sub (by repeat (first | exact List.Sublist.refl _ | exact List.nil_sublist _ | apply List.Sublist.cons_cons | apply List.Sublist.cons)), ?_⟩
          refine hEach [11] (by kernel_rfl) (eDoN hs rfl (Wnt.none rfl) rfl (by exact d_store hs rfl rfl rfl tab rfl rfl rfl rfl hm (by repeat (first | exact Rep.head _ _ _ | apply Rep.tail)) rfl) ?_ eNil)
          clear hs hm
          rintro - w31 hm a hs
          refine ⟨hm.sub (by repeat (first | exact List.Sublist.refl _ | exact List.nil_sublist _ | apply List.Sublist.cons_cons | apply List.Sublist.cons)), ?_⟩
          refine hDone (by kernel_rfl) ?_
          exact And.intro rfl ⟨t1, v1, t2, v2, g10, g11, _, ht1, hv1, ht2, hv2, hs.sub (Has.all ⟨rfl, rfl, rfl, rfl, rfl, rfl, rfl, trivial⟩), by first | exact hm | exact hm.sel [1, 0, 2, 3, 4, 5] (by decide) rfl⟩
      · skip
        clear hs hm a
        rintro _ w29 ⟨g11, rfl, -, hm⟩ a hs
        refine ⟨hm.sub (by repeat (first | exact List.Sublist.refl _ | exact List.nil_sublist _ | apply List.Sublist.cons_cons | apply List.Sublist.cons)), ?_⟩
        refine hEach [3] (by kernel_rfl) (eDo hs rfl (Wnt.none rfl) rfl rfl (by exact d_call hs rfl rfl rfl (pl 12 rfl) ((hcl gd _ x _ (Dk.at (hmB.trans hm) (by repeat (first | exact List.Mem.head _ | apply List.Mem.tail)) hl hrx hn63) (hx.own hno hm) hneg hxn))) ?_ eNil)
        clear hs
        rintro _ w1 ⟨t1, v1, rfl, ht1, hv1, a3, k3, hf⟩ a hs
        replace hm := hm.dkt (by repeat (first | exact Rep.head _ _ _ | apply Rep.tail)) k3 hf
        clear hf
        refine ⟨hm.sub (by repeat (first | exact List.Sublist.refl _ | exact List.nil_sublist _ | apply List.Sublist.cons_cons | apply List.Sublist.cons)), ?_⟩
        refine hEach [7] (by kernel_rfl) (eDo hs rfl (Wnt.none rfl) rfl rfl (by exact d_call hs rfl rfl rfl (pl 12 rfl) ((hcl gd _ x _ (Dk.at (hmB.trans hm) (by repeat (first | exact List.Mem.head _ | apply List.Mem.tail)) hl hrx hn63) (hx.own hno hm) hneg hxn))) ?_ eNil)
        clear hs
        rintro _ w1 ⟨t2, v2, rfl, ht2, hv2, a4, k4, hf⟩ a hs
        replace hm := hm.dkt (by repeat (first | exact Rep.head _ _ _ | apply Rep.tail)) k4 hf
        clear hf
        refine ⟨hm.sub (by repeat (first | exact List.Sublist.refl _ | exact List.nil_sublist _ | apply List.Sublist.cons_cons | apply List.Sublist.cons)), ?_⟩
        refine hEach [10] (by kernel_rfl) (eDoN hs rfl (Wnt.none rfl) rfl (by exact d_store hs rfl rfl rfl tab rfl rfl rfl rfl hm (by repeat (first | exact Rep.head _ _ _ | apply Rep.tail)) rfl) ?_ eNil)
        clear hs hm
        rintro - w30 hm a hs
        refine ⟨hm.sub (by repeat (first | exact List.Sublist.refl _ | exact List.nil_sublist _ | apply List.Sublist.cons_cons | apply List.Sublist.cons)), ?_⟩
        refine hEach [11] (by kernel_rfl) (eDoN hs rfl (Wnt.none rfl) rfl (by exact d_store hs rfl rfl rfl tab rfl rfl rfl rfl hm (by repeat (first | exact Rep.head _ _ _ | apply Rep.tail)) rfl) ?_ eNil)
        clear hs hm
        rintro - w31 hm a hs
        refine ⟨hm.sub (by repeat (first | exact List.Sublist.refl _ | exact List.nil_sublist _ | apply List.Sublist.cons_cons | apply List.Sublist.cons)), ?_⟩
        refine hDone (by kernel_rfl) ?_
        exact And.intro rfl ⟨t1, v1, t2, v2, g10, g11, _, ht1, hv1, ht2, hv2, hs.sub (Has.all ⟨rfl, rfl, rfl, rfl, rfl, rfl, rfl, trivial⟩), by first | exact hm | exact hm.sel [1, 0, 2, 3, 4, 5] (by decide) rfl⟩
    · skip
      clear hs hm a
      rintro _ w29 ⟨g11, rfl, -, hm⟩ a hs
      refine ⟨hm.sub (by repeat (first | exact List.Sublist.refl _ | exact List.nil_sublist _ | apply List.Sublist.cons_cons | apply List.Sublist.cons)), ?_⟩
      refine hEach [3, 8] (by kernel_rfl) (eDo hs rfl (Wnt.none rfl) rfl rfl (by exact d_call hs rfl rfl rfl (pl 12 rfl) ((hcl gd _ x _ (Dk.at (hmB.trans hm) (by repeat (first | exact List.Mem.head _ | apply List.Mem.tail)) hl hrx hn63) (hx.own hno hm) hneg hxn))) ?_ (eDo hs rfl (Wnt.none rfl) rfl rfl (by exact d_alloc rfl tab rfl rfl hm) ?_ eNil))
      · skip
        clear hs
        rintro _ w1 ⟨t1, v1, rfl, ht1, hv1, a3, k3, hf⟩ a hs
        replace hm := hm.dkt (by repeat (first | exact Rep.head _ _ _ | apply Rep.tail)) k3 hf
        clear hf
        refine ⟨hm.sub (by repeat (first | exact List.Sublist.refl _ | exact List.nil_sublist _ | apply List.Sublist.cons_cons | apply List.Sublist.cons)), ?_⟩
        refine hEach [7, 8] (by kernel_rfl) (eDo hs rfl (Wnt.none rfl) rfl rfl (by exact d_call hs rfl rfl rfl (pl 12 rfl) ((hcl gd _ x _ (Dk.at (hmB.trans hm) (by repeat (first | exact List.Mem.head _ | apply List.Mem.tail)) hl hrx hn63) (hx.own hno hm) hneg hxn))) ?_ (eDo hs rfl (Wnt.none rfl) rfl rfl (by exact d_alloc rfl tab rfl rfl hm) ?_ eNil))
        · skip
          clear hs
          rintro _ w1 ⟨t2, v2, rfl, ht2, hv2, a4, k4, hf⟩ a hs
          replace hm := hm.dkt (by repeat (first | exact Rep.head _ _ _ | apply Rep.tail)) k4 hf
          clear hf
          refine ⟨hm.sub (by repeat (first | exact List.Sublist.refl _ | exact List.nil_sublist _ | apply List.Sublist.cons_cons | apply List.Sublist.cons)), ?_⟩
          refine hEach [8] (by kernel_rfl) (eDo hs rfl (Wnt.none rfl) rfl rfl (by exact d_alloc rfl tab rfl rfl hm) ?_ eNil)
          clear hs hm a
          rintro _ w28 ⟨g10, rfl, -, hm⟩ a hs
          refine ⟨hm.sub (by repeat (first | exact List.Sublist.refl _ | exact List.nil_sublist _ | apply List.Sublist.cons_cons | apply List.Sublist.cons)), ?_⟩
          refine hEach [10] (by kernel_rfl) (eDoN hs rfl (Wnt.none rfl) rfl (by exact d_store hs rfl rfl rfl tab rfl rfl rfl rfl hm (by repeat (first | exact Rep.head _ _ _ | apply Rep.tail)) rfl) ?_ eNil)
          clear hs hm
          rintro - w30 hm a hs
          refine ⟨hm.sub (by repeat (first | exact List.Sublist.refl _ | exact List.nil_sublist _ | apply List.Sublist.cons_cons | apply List.Sublist.cons)), ?_⟩
          refine hEach [11] (by kernel_rfl) (eDoN hs rfl (Wnt.none rfl) rfl (by exact d_store hs rfl rfl rfl tab rfl rfl rfl rfl hm (by repeat (first | exact Rep.head _ _ _ | apply Rep.tail)) rfl) ?_ eNil)
          clear hs hm
          rintro - w31 hm a hs
          refine ⟨hm.sub (by repeat (first | exact List.Sublist.refl _ | exact List.nil_sublist _ | apply List.Sublist.cons_cons | apply List.Sublist.cons)), ?_⟩
          refine hDone (by kernel_rfl) ?_
          exact And.intro rfl ⟨t1, v1, t2, v2, g10, g11, _, ht1, hv1, ht2, hv2, hs.sub (Has.all ⟨rfl, rfl, rfl, rfl, rfl, rfl, rfl, trivial⟩), by first | exact hm | exact hm.sel [1, 0, 2, 3, 4, 5] (by decide) rfl⟩
        · skip
          clear hs hm a
          rintro _ w28 ⟨g10, rfl, -, hm⟩ a hs
          refine ⟨hm.sub (by repeat (first | exact List.Sublist.refl _ | exact List.nil_sublist _ | apply List.Sublist.cons_cons | apply List.Sublist.cons)), ?_⟩
          refine hEach [7] (by kernel_rfl) (eDo hs rfl (Wnt.none rfl) rfl rfl (by exact d_call hs rfl rfl rfl (pl 12 rfl) ((hcl gd _ x _ (Dk.at (hmB.trans hm) (by repeat (first | exact List.Mem.head _ | apply List.Mem.tail)) hl hrx hn63) (hx.own hno hm) hneg hxn))) ?_ eNil)
          clear hs
          rintro _ w1 ⟨t2, v2, rfl, ht2, hv2, a4, k4, hf⟩ a hs
          replace hm := hm.dkt (by repeat (first | exact Rep.head _ _ _ | apply Rep.tail)) k4 hf
          clear hf
          refine ⟨hm.sub (by repeat (first | exact List.Sublist.refl _ | exact List.nil_sublist _ | apply List.Sublist.cons_cons | apply List.Sublist.cons)), ?_⟩
          refine hEach [10] (by kernel_rfl) (eDoN hs rfl (Wnt.none rfl) rfl (by exact d_store hs rfl rfl rfl tab rfl rfl rfl rfl hm (by repeat (first | exact Rep.head _ _ _ | apply Rep.tail)) rfl) ?_ eNil)
          clear hs hm
          rintro - w30 hm a hs
          refine ⟨hm.sub (by repeat (first | exact List.Sublist.refl _ | exact List.nil_sublist _ | apply List.Sublist.cons_cons | apply List.Sublist.cons)), ?_⟩
          refine hEach [11] (by kernel_rfl) (eDoN hs rfl (Wnt.none rfl) rfl (by exact d_store hs rfl rfl rfl tab rfl rfl rfl rfl hm (by repeat (first | exact Rep.head _ _ _ | apply Rep.tail)) rfl) ?_ eNil)
          clear hs hm
          rintro - w31 hm a hs
          refine ⟨hm.sub (by repeat (first | exact List.Sublist.refl _ | exact List.nil_sublist _ | apply List.Sublist.cons_cons | apply List.Sublist.cons)), ?_⟩
          refine hDone (by kernel_rfl) ?_
          exact And.intro rfl ⟨t1, v1, t2, v2, g10, g11, _, ht1, hv1, ht2, hv2, hs.sub (Has.all ⟨rfl, rfl, rfl, rfl, rfl, rfl, rfl, trivial⟩), by first | exact hm | exact hm.sel [1, 0, 2, 3, 4, 5] (by decide) rfl⟩
      · skip
        clear hs hm a
        rintro _ w28 ⟨g10, rfl, -, hm⟩ a hs
        refine ⟨hm.sub (by repeat (first | exact List.Sublist.refl _ | exact List.nil_sublist _ | apply List.Sublist.cons_cons | apply List.Sublist.cons)), ?_⟩
        refine hEach [3] (by kernel_rfl) (eDo hs rfl (Wnt.none rfl) rfl rfl (by exact d_call hs rfl rfl rfl (pl 12 rfl) ((hcl gd _ x _ (Dk.at (hmB.trans hm) (by repeat (first | exact List.Mem.head _ | apply List.Mem.tail)) hl hrx hn63) (hx.own hno hm) hneg hxn))) ?_ eNil)
        clear hs
        rintro _ w1 ⟨t1, v1, rfl, ht1, hv1, a3, k3, hf⟩ a hs
        replace hm := hm.dkt (by repeat (first | exact Rep.head _ _ _ | apply Rep.tail)) k3 hf
        clear hf
        refine ⟨hm.sub (by repeat (first | exact List.Sublist.refl _ | exact List.nil_sublist _ | apply List.Sublist.cons_cons | apply List.Sublist.cons)), ?_⟩
        refine hEach [7] (by kernel_rfl) (eDo hs rfl (Wnt.none rfl) rfl rfl (by exact d_call hs rfl rfl rfl (pl 12 rfl) ((hcl gd _ x _ (Dk.at (hmB.trans hm) (by repeat (first | exact List.Mem.head _ | apply List.Mem.tail)) hl hrx hn63) (hx.own hno hm) hneg hxn))) ?_ eNil)
        clear hs
        rintro _ w1 ⟨t2, v2, rfl, ht2, hv2, a4, k4, hf⟩ a hs
        replace hm := hm.dkt (by repeat (first | exact Rep.head _ _ _ | apply Rep.tail)) k4 hf
        clear hf
        refine ⟨hm.sub (by repeat (first | exact List.Sublist.refl _ | exact List.nil_sublist _ | apply List.Sublist.cons_cons | apply List.Sublist.cons)), ?_⟩
        refine hEach [10] (by kernel_rfl) (eDoN hs rfl (Wnt.none rfl) rfl (by exact d_store hs rfl rfl rfl tab rfl rfl rfl rfl hm (by repeat (first | exact Rep.head _ _ _ | apply Rep.tail)) rfl) ?_ eNil)
        clear hs hm
        rintro - w30 hm a hs
        refine ⟨hm.sub (by repeat (first | exact List.Sublist.refl _ | exact List.nil_sublist _ | apply List.Sublist.cons_cons | apply List.Sublist.cons)), ?_⟩
        refine hEach [11] (by kernel_rfl) (eDoN hs rfl (Wnt.none rfl) rfl (by exact d_store hs rfl rfl rfl tab rfl rfl rfl rfl hm (by repeat (first | exact Rep.head _ _ _ | apply Rep.tail)) rfl) ?_ eNil)
        clear hs hm
        rintro - w31 hm a hs
        refine ⟨hm.sub (by repeat (first | exact List.Sublist.refl _ | exact List.nil_sublist _ | apply List.Sublist.cons_cons | apply List.Sublist.cons)), ?_⟩
        refine hDone (by kernel_rfl) ?_
        exact And.intro rfl ⟨t1, v1, t2, v2, g10, g11, _, ht1, hv1, ht2, hv2, hs.sub (Has.all ⟨rfl, rfl, rfl, rfl, rfl, rfl, rfl, trivial⟩), by first | exact hm | exact hm.sel [1, 0, 2, 3, 4, 5] (by decide) rfl⟩
  clear hs hm a
  rintro a w ⟨t1, v1, t2, v2, g10, g11, a9, ht1, hv1, ht2, hv2, hs, hm⟩
  replace hx := hx.own hno hm
  have hF := (hmB.trans hm).fr
  have q3 := hm.ro (k := 0) (n := 2) (g := g3) (by repeat (first | exact List.Mem.head _ | apply List.Mem.tail)) (cutF_ok rfl)
  have q4 := hm.ro (k := 0) (n := 2) (g := g4) (by repeat (first | exact List.Mem.head _ | apply List.Mem.tail)) (cutF_ok rfl)
  have q9 := hm.ro (k := 0) (n := 2) (g := g9) (by repeat (first | exact List.Mem.head _ | apply List.Mem.tail)) (cutF_ok rfl)
  have q10 := hm.ro (k := 0) (n := 2) (g := g10) (by repeat (first | exact List.Mem.head _ | apply List.Mem.tail)) (cutF_ok rfl)
  have q11 := hm.ro (k := 0) (n := 2) (g := g11) (by repeat (first | exact List.Mem.head _ | apply List.Mem.tail)) (cutF_ok rfl)
  clear hm hmB hno k2
  have hm := Mm.nil (fun _ => False) w
  repeat (first | ((with_reducible refine toL hm ?_); (first | refine oneV hs (by first | exact Wnt.none rfl | exact Wnt.some rfl rfl rfl rfl) rfl rfl (by intro w hm; (first | exact r_val hs tab rfl | ((with_reducible apply kLoad); first | exact r_load hs rfl rfl tab rfl rfl (by first | exact Ro.cl (by assumption) hm (by first | exact (fun t => t) | assumption) (by first | rfl | assumption) | exact Ro.cl0 (by assumption) hm (by first | exact (fun t => t) | assumption) (by first | rfl | assumption) | exact hm.cl (by repeat (first | exact mH | apply mT)) (by first | rfl | assumption)) | exact r_loadO hs rfl rfl tab rfl rfl rfl hm (by repeat (first | exact mH | apply mT)) (by rfl) | exact r_loadA hs rfl rfl tab rfl rfl (Ro.ro (by assumption) hm (by first | exact (fun t => t) | assumption)) rfl) | exact r_iz hs tab rfl rfl (by omega) | exact r_iy hs tab rfl rfl (by omega) | exact r_cT hs rfl (by omega) | exact r_cF hs rfl (by omega) | exact r_arH hs rfl (by assumption) (by omega) | exact r_ar hs rfl (by omega) | exact r_remH hs rfl rfl rfl (by assumption) (by omega) (by omega) | exact r_rem64 hs rfl rfl rfl (by omega) (by omega) | exact r_rem hs rfl rfl rfl (by omega) | exact r_bi hs rfl | exact r_pick hs rfl rfl rfl rfl | exact r_neqSt (fl := [(true, 0, 5), (true, 1, 22)]) hs rfl rfl rfl tab (by kernel_rfl) (by kernel_rfl) (by kernel_rfl) (by kernel_rfl) rfl | exact r_eqlSt (fl := [(true, 0, 5), (true, 1, 22)]) hs rfl rfl rfl tab (by kernel_rfl) (by kernel_rfl) (by kernel_rfl) (by kernel_rfl) rfl)) ?_ | refine oneN hs rfl rfl rfl rfl rfl rfl rfl ?_ | refine oneU hs rfl rfl rfl rfl rfl rfl ?_); clear hs a; intro a hs) | ((with_reducible apply lCons); first | (refine dv hs (by first | exact Wnt.none rfl | exact Wnt.some rfl rfl rfl rfl) rfl rfl (by first | exact d_alloc rfl tab rfl rfl hm | exact d_box hs rfl rfl rfl hm | exact d_buildSlice0 rfl tab rfl rfl rfl hm | exact d_buildSlice hs rfl tab rfl rfl rfl rfl rfl rfl rfl rfl rfl hm) ?_; clear hs hm a; rintro _ w ⟨g, rfl, -, hm⟩ a hs) | (refine stn hs rfl rfl (by first | exact d_store hs rfl rfl rfl tab rfl rfl rfl rfl hm (by repeat (first | exact Rep.head _ _ _ | apply Rep.tail)) (by rfl) | exact d_store1 hs rfl rfl rfl tab rfl rfl rfl rfl hm (by repeat (first | exact Rep.head _ _ _ | apply Rep.tail)) (by first | omega | assumption | (simp; omega))) ?_; clear hs hm a; rintro - w hm a hs) ) | (with_reducible first | apply lNilThen | apply lNilBlock | apply lNil | apply wp_seq | apply wp_region_lit | apply wp_block | apply cExit | apply cRet | apply cSkip | apply gThen | apply gBlock | apply eThen | apply eBlockHit | refine eBlock rfl ?_ | apply rThen | apply rBlock) | ((with_reducible apply cCond); first | refine cTrue hs rfl (by first | rfl | assumption | exact decide_eq_true (by omega) | exact decide_eq_false (by omega) | exact ndT (by omega) | exact ndF (by omega)) ?_ | refine cFalse hs rfl (by first | rfl | assumption | exact decide_eq_true (by omega) | exact decide_eq_false (by omega) | exact ndT (by omega) | exact ndF (by omega)) ?_))
  obtain ⟨g47, en_⟩ := hs.ps 47 (by exact rfl); subst en_
  obtain ⟨g50, en_⟩ := hs.ps 50 (by exact rfl); subst en_
  obtain ⟨g53, en_⟩ := hs.ps 53 (by exact rfl); subst en_
  obtain ⟨g54, en_⟩ := hs.ps 54 (by exact rfl); subst en_
  have r47a := hm.ro (k := 0) (n := 2) (g := g47) (by repeat (first | exact List.Mem.head _ | apply List.Mem.tail)) (cutF_ok rfl)
  have r47b := hm.ro (k := 2) (n := 2) (g := g47) (by repeat (first | exact List.Mem.head _ | apply List.Mem.tail)) (cutF_ok rfl)
  have r50a := hm.ro (k := 0) (n := 2) (g := g50) (by repeat (first | exact List.Mem.head _ | apply List.Mem.tail)) (cutF_ok rfl)
  have r50b := hm.ro (k := 2) (n := 2) (g := g50) (by repeat (first | exact List.Mem.head _ | apply List.Mem.tail)) (cutF_ok rfl)
  have r53a := hm.ro (k := 0) (n := 2) (g := g53) (by repeat (first | exact List.Mem.head _ | apply List.Mem.tail)) (cutF_ok rfl)
  have r53b := hm.ro (k := 2) (n := 2) (g := g53) (by repeat (first | exact List.Mem.head _ | apply List.Mem.tail)) (cutF_ok rfl)
  have r54 := hm.ro (k := 0) (n := 3) (g := g54) (by repeat (first | exact List.Mem.head _ | apply List.Mem.tail)) (cutF_ok rfl)
  have p9 := q9.ro hm (fun t => t)
  replace hx := hx.pu hm.fr
  replace hF := hF.pu hm.fr
  clear q3 q4 q9 q10 q11 hm
  rename World => wC
  have hm := Mm.nil (fun _ => False) wC
  obtain ⟨ttb, htb⟩ : ∃ z, tb % 3 = z := ⟨_, rfl⟩
  obtain ⟨ttc, htc⟩ : ∃ z, tc % 3 = z := ⟨_, rfl⟩
  rw [htb] at r47a r53a
  rw [htc] at r47b
  have hpair : ∀ j, j < 3 → ∃ (gj : Nat) (t v s u : Int), ([.slice (some ⟨g47, 0, none⟩) 2 2, .slice (some ⟨g50, 0, none⟩) 2 2, .slice (some ⟨g53, 0, none⟩) 2 2] : List Value)[j]? = some (.slice (some ⟨gj, 0, none⟩) 2 2) ∧ Ro wC gj 0 [.int .u8 t, .int .u16 v] ∧ Ro wC gj 2 [.int .u8 s, .int .u16 u] ∧ (t = 0 ∨ t = 1 ∨ t = 2) ∧ (0 ≤ v ∧ v ≤ 65535) ∧ (s = 0 ∨ s = 1 ∨ s = 2) ∧ (0 ≤ u ∧ u ≤ 65535) := fun j hj => by
    rcases (by omega : j = 0 ∨ j = 1 ∨ j = 2) with rfl | rfl | rfl
    · exact ⟨g47, ttb, vb, ttc, vc, rfl, r47a, r47b, by omega, by omega, by omega, by omega⟩
    · exact ⟨g50, t1, v1, t2, v2, rfl, r50a, r50b, ht1, hv1, ht2, hv2⟩
    · exact ⟨g53, ttb, vb, t1, v1, rfl, r53a, r53b, by omega, by omega, ht1, hv1⟩
  clear r47a r47b r50a r50b r53a r53b
  refine cLoop (X := Nat) (fun j a w' => Sl Try.f7.ntmps [(6, .bool false), (8, .slice x.B x.n x.d), (9, .pointer (some ⟨g9, 0, none⟩)), (54, .slice (some ⟨g54, 0, none⟩) 3 3), (55, .int .i64 3), (56, .int .i64 (j : Int))] a ∧ Mm (fun _ => False) wC [] w' ∧ j ≤ 3) (fun j => 3 - j) 0 ⟨hs.sub (Has.all ⟨rfl, rfl, rfl, rfl, rfl, rfl, trivial⟩), hm, Nat.zero_le _⟩ ?_
  clear hs hm a
  rintro j a w' ⟨hs, hm, hj⟩
  by_cases hj3 : j < 3
  · obtain ⟨gj, t, v, s, u, hcell, hra, hrb, ht, hv, hs1, hu⟩ := hpair j hj3
    obtain ⟨m, k, tr, J, hd1, hd2, hJ1, hJ2, hJB, hcase⟩ := ordLaw hx t v s u
    have c0 := fun w => deq_c x t v t v w
    rw [if_pos ⟨rfl, rfl⟩] at c0
    have c1 := fun w => deq_c x t v s u w
    rw [hJ1] at c1
    have c2 := fun w => deq_c x s u t v w
    rw [hJ2] at c2
    have c3 := fun w (hf : Pu wC w) => dlt_c x t v s u w (hx.pu hf) ht hs1 hv hu
    rw [hd1] at c3
    have c4 := fun w (hf : Pu wC w) => dlt_c x s u t v w (hx.pu hf) hs1 ht hu hv
    rw [hd2] at c4
    unfold LS.l LS.s clV at c0 c1 c2 c3 c4
    dsimp only at c3 c4
    clear hd1 hd2 hJ1 hJ2
    repeat (first | ((with_reducible refine toL hm ?_); (first | refine oneV hs (by first | exact Wnt.none rfl | exact Wnt.some rfl rfl rfl rfl) rfl rfl (by intro w hm; (first | exact r_val hs tab rfl | ((with_reducible apply kLoad); first | exact r_load hs rfl rfl tab rfl rfl (by first | exact Ro.cl (by assumption) hm (by first | exact (fun t => t) | assumption) (by first | rfl | assumption) | exact Ro.cl0 (by assumption) hm (by first | exact (fun t => t) | assumption) (by first | rfl | assumption) | exact hm.cl (by repeat (first | exact mH | apply mT)) (by first | rfl | assumption)) | exact r_loadO hs rfl rfl tab rfl rfl rfl hm (by repeat (first | exact mH | apply mT)) (by rfl) | exact r_loadA hs rfl rfl tab rfl rfl (Ro.ro (by assumption) hm (by first | exact (fun t => t) | assumption)) rfl) | exact r_iz hs tab rfl rfl (by omega) | exact r_iy hs tab rfl rfl (by omega) | exact r_cT hs rfl (by omega) | exact r_cF hs rfl (by omega) | exact r_arH hs rfl (by assumption) (by omega) | exact r_ar hs rfl (by omega) | exact r_remH hs rfl rfl rfl (by assumption) (by omega) (by omega) | exact r_rem64 hs rfl rfl rfl (by omega) (by omega) | exact r_rem hs rfl rfl rfl (by omega) | exact r_bi hs rfl | exact r_pick hs rfl rfl rfl rfl | exact r_neqSt (fl := [(true, 0, 5), (true, 1, 22)]) hs rfl rfl rfl tab (by kernel_rfl) (by kernel_rfl) (by kernel_rfl) (by kernel_rfl) rfl | exact r_eqlSt (fl := [(true, 0, 5), (true, 1, 22)]) hs rfl rfl rfl tab (by kernel_rfl) (by kernel_rfl) (by kernel_rfl) (by kernel_rfl) rfl)) ?_ | refine oneN hs rfl rfl rfl rfl rfl rfl rfl ?_ | refine oneU hs rfl rfl rfl rfl rfl rfl ?_); clear hs a; intro a hs) | ((with_reducible apply lCons); first | (refine dv hs (by first | exact Wnt.none rfl | exact Wnt.some rfl rfl rfl rfl) rfl rfl (by first | exact d_alloc rfl tab rfl rfl hm | exact d_box hs rfl rfl rfl hm | exact d_buildSlice0 rfl tab rfl rfl rfl hm | exact d_buildSlice hs rfl tab rfl rfl rfl rfl rfl rfl rfl rfl rfl hm) ?_; clear hs hm a; rintro _ w ⟨g, rfl, -, hm⟩ a hs) | (refine stn hs rfl rfl (by first | exact d_store hs rfl rfl rfl tab rfl rfl rfl rfl hm (by repeat (first | exact Rep.head _ _ _ | apply Rep.tail)) (by rfl) | exact d_store1 hs rfl rfl rfl tab rfl rfl rfl rfl hm (by repeat (first | exact Rep.head _ _ _ | apply Rep.tail)) (by first | omega | assumption | (simp; omega))) ?_; clear hs hm a; rintro - w hm a hs) ) | (with_reducible first | apply lNilThen | apply lNilBlock | apply lNil | apply wp_seq | apply wp_region_lit | apply wp_block | apply cExit | apply cRet | apply cSkip | apply gThen | apply gBlock | apply eThen | apply eBlockHit | refine eBlock rfl ?_ | apply rThen | apply rBlock) | ((with_reducible apply cCond); first | refine cTrue hs rfl (by first | rfl | assumption | exact decide_eq_true (by omega) | exact decide_eq_false (by omega) | exact ndT (by omega) | exact ndF (by omega)) ?_ | refine cFalse hs rfl (by first | rfl | assumption | exact decide_eq_true (by omega) | exact decide_eq_false (by omega) | exact ndT (by omega) | exact ndF (by omega)) ?_))
    refine cMid (fun a w => ∃ g14, Sl Try.f7.ntmps [(13, .slice (some ⟨gj, 0, none⟩) 2 2), (14, .pointer (some ⟨g14, 0, none⟩)), (15, .int .i64 0), (6, .bool false), (8, .slice x.B x.n x.d), (9, .pointer (some ⟨g9, 0, none⟩)), (54, .slice (some ⟨g54, 0, none⟩) 3 3), (55, .int .i64 3), (56, .int .i64 (j : Int))] a ∧ Mm (fun _ => False) wC [⟨some g14, 24, [.int .u8 0, .int .u16 1]⟩] w) ?_ ?_
    · skip
      refine cDraw (n := 15) [] hm rfl rfl ?_
      clear hm
      intro w2 hm
      refine hTake 0 hs rfl (by kernel_rfl) (Wnt.none rfl) rfl rfl (by intro w hm; replace hm : Mm _ _ _ w := hm; ((with_reducible apply kLoad); first | exact r_load hs rfl rfl tab rfl rfl (by first | exact Ro.cl (by assumption) hm (by first | exact (fun t => t) | assumption) (by first | rfl | assumption) | exact Ro.cl0 (by assumption) hm (by first | exact (fun t => t) | assumption) (by first | rfl | assumption) | exact hm.cl (by repeat (first | exact mH | apply mT)) (by first | rfl | assumption)) | exact r_loadO hs rfl rfl tab rfl rfl rfl hm (by repeat (first | exact mH | apply mT)) (by rfl) | exact r_loadA hs rfl rfl tab rfl rfl (Ro.ro (by assumption) hm (by first | exact (fun t => t) | assumption)) rfl)) (hm.sub (List.nil_sublist _)) ?_; clear hs a; intro a hs
      refine hTake 1 hs rfl (by kernel_rfl) (Wnt.none rfl) rfl rfl (by intro w hm; replace hm : Mm _ _ _ w := hm; exact r_val hs tab rfl) (hm.sub (List.nil_sublist _)) ?_; clear hs a; intro a hs
      refine hTake 2 hs rfl (by kernel_rfl) (Wnt.none rfl) rfl rfl (by intro w hm; replace hm : Mm _ _ _ w := hm; exact r_val hs tab rfl) (hm.sub (List.nil_sublist _)) ?_; clear hs a; intro a hs
      refine hTake 3 hs rfl (by kernel_rfl) (Wnt.none rfl) rfl rfl (by intro w hm; replace hm : Mm _ _ _ w := hm; (first | exact r_iz hs tab rfl rfl (by omega) | exact r_iy hs tab rfl rfl (by omega))) (hm.sub (List.nil_sublist _)) ?_; clear hs a; intro a hs
      refine hTake 4 hs rfl (by kernel_rfl) (Wnt.none rfl) rfl rfl (by intro w hm; replace hm : Mm _ _ _ w := hm; ((with_reducible apply kLoad); first | exact r_load hs rfl rfl tab rfl rfl (by first | exact Ro.cl (by assumption) hm (by first | exact (fun t => t) | assumption) (by first | rfl | assumption) | exact Ro.cl0 (by assumption) hm (by first | exact (fun t => t) | assumption) (by first | rfl | assumption) | exact hm.cl (by repeat (first | exact mH | apply mT)) (by first | rfl | assumption)) | exact r_loadO hs rfl rfl tab rfl rfl rfl hm (by repeat (first | exact mH | apply mT)) (by rfl) | exact r_loadA hs rfl rfl tab rfl rfl (Ro.ro (by assumption) hm (by first | exact (fun t => t) | assumption)) rfl)) (hm.sub (List.nil_sublist _)) ?_; clear hs a; intro a hs
      refine hTake 5 hs rfl (by kernel_rfl) (Wnt.none rfl) rfl rfl (by intro w hm; replace hm : Mm _ _ _ w := hm; exact r_val hs tab rfl) (hm.sub (List.nil_sublist _)) ?_; clear hs a; intro a hs
      refine hTake 6 hs rfl (by kernel_rfl) (Wnt.none rfl) rfl rfl (by intro w hm; replace hm : Mm _ _ _ w := hm; (first | exact r_iz hs tab rfl rfl (by omega) | exact r_iy hs tab rfl rfl (by omega))) (hm.sub (List.nil_sublist _)) ?_; clear hs a; intro a hs
      refine hTake 7 hs rfl (by kernel_rfl) (Wnt.none rfl) rfl rfl (by intro w hm; replace hm : Mm _ _ _ w := hm; ((with_reducible apply kLoad); first | exact r_load hs rfl rfl tab rfl rfl (by first | exact Ro.cl (by assumption) hm (by first | exact (fun t => t) | assumption) (by first | rfl | assumption) | exact Ro.cl0 (by assumption) hm (by first | exact (fun t => t) | assumption) (by first | rfl | assumption) | exact hm.cl (by repeat (first | exact mH | apply mT)) (by first | rfl | assumption)) | exact r_loadO hs rfl rfl tab rfl rfl rfl hm (by repeat (first | exact mH | apply mT)) (by rfl) | exact r_loadA hs rfl rfl tab rfl rfl (Ro.ro (by assumption) hm (by first | exact (fun t => t) | assumption)) rfl)) (hm.sub (List.nil_sublist _)) ?_; clear hs a; intro a hs
      refine hEach [8, 12] (by kernel_rfl) (eDo hs rfl (Wnt.none rfl) rfl rfl (by exact d_call hs rfl rfl rfl (pl 13 rfl) ((c0 _))) ?_ (eDo hs rfl (Wnt.none rfl) rfl rfl (by exact d_alloc rfl tab rfl rfl hm) ?_ eNil))
      · skip
        clear hs
        rintro _ w1 ⟨rfl, hf⟩ a hs
        replace hm := hm.pu hf
        clear hf
        refine ⟨hm.sub (by repeat (first | exact List.Sublist.refl _ | exact List.nil_sublist _ | apply List.Sublist.cons_cons | apply List.Sublist.cons)), ?_⟩
        refine hTake 9 hs rfl (by kernel_rfl) (Wnt.none rfl) rfl rfl (by intro w hm; replace hm : Mm _ _ _ w := hm; exact r_val hs tab rfl) (hm.sub (List.nil_sublist _)) ?_; clear hs a; intro a hs
        refine hTake 10 hs rfl (by kernel_rfl) (Wnt.none rfl) rfl rfl (by intro w hm; replace hm : Mm _ _ _ w := hm; exact r_val hs tab rfl) (hm.sub (List.nil_sublist _)) ?_; clear hs a; intro a hs
        refine hTake 11 hs rfl (by kernel_rfl) (Wnt.none rfl) rfl rfl (by intro w hm; replace hm : Mm _ _ _ w := hm; exact r_val hs tab rfl) (hm.sub (List.nil_sublist _)) ?_; clear hs a; intro a hs
        refine hEach [12] (by kernel_rfl) (eDo hs rfl (Wnt.none rfl) rfl rfl (by exact d_alloc rfl tab rfl rfl hm) ?_ eNil)
        clear hs hm a
        rintro _ w32 ⟨g14, rfl, -, hm⟩ a hs
        refine ⟨hm.sub (by repeat (first | exact List.Sublist.refl _ | exact List.nil_sublist _ | apply List.Sublist.cons_cons | apply List.Sublist.cons)), ?_⟩
        refine hEach [13] (by kernel_rfl) (eDoN hs rfl (Wnt.none rfl) rfl (by exact d_store hs rfl rfl rfl tab rfl rfl rfl rfl hm (by repeat (first | exact Rep.head _ _ _ | apply Rep.tail)) rfl) ?_ eNil)
        clear hs hm
        rintro - w33 hm a hs
        refine ⟨hm.sub (by repeat (first | exact List.Sublist.refl _ | exact List.nil_sublist _ | apply List.Sublist.cons_cons | apply List.Sublist.cons)), ?_⟩
        refine hTake 14 hs rfl (by kernel_rfl) (Wnt.none rfl) rfl rfl (by intro w hm; replace hm : Mm _ _ _ w := hm; exact r_val hs tab rfl) (hm.sub (List.nil_sublist _)) ?_; clear hs a; intro a hs
        refine hDone (by kernel_rfl) ?_
        exact And.intro rfl ⟨g14, hs.sub (Has.all ⟨rfl, rfl, rfl, rfl, rfl, rfl, rfl, rfl, rfl, trivial⟩), hm⟩
      · skip
        clear hs hm a
        rintro _ w32 ⟨g14, rfl, -, hm⟩ a hs
        refine ⟨hm.sub (by repeat (first | exact List.Sublist.refl _ | exact List.nil_sublist _ | apply List.Sublist.cons_cons | apply List.Sublist.cons)), ?_⟩
        refine hEach [8] (by kernel_rfl) (eDo hs rfl (Wnt.none rfl) rfl rfl (by exact d_call hs rfl rfl rfl (pl 13 rfl) ((c0 _))) ?_ eNil)
        clear hs
        rintro _ w1 ⟨rfl, hf⟩ a hs
        replace hm := hm.pu hf
        clear hf
        refine ⟨hm.sub (by repeat (first | exact List.Sublist.refl _ | exact List.nil_sublist _ | apply List.Sublist.cons_cons | apply List.Sublist.cons)), ?_⟩
        refine hTake 9 hs rfl (by kernel_rfl) (Wnt.none rfl) rfl rfl (by intro w hm; replace hm : Mm _ _ _ w := hm; exact r_val hs tab rfl) (hm.sub (List.nil_sublist _)) ?_; clear hs a; intro a hs
        refine hTake 10 hs rfl (by kernel_rfl) (Wnt.none rfl) rfl rfl (by intro w hm; replace hm : Mm _ _ _ w := hm; exact r_val hs tab rfl) (hm.sub (List.nil_sublist _)) ?_; clear hs a; intro a hs
        refine hTake 11 hs rfl (by kernel_rfl) (Wnt.none rfl) rfl rfl (by intro w hm; replace hm : Mm _ _ _ w := hm; exact r_val hs tab rfl) (hm.sub (List.nil_sublist _)) ?_; clear hs a; intro a hs
        refine hEach [13] (by kernel_rfl) (eDoN hs rfl (Wnt.none rfl) rfl (by exact d_store hs rfl rfl rfl tab rfl rfl rfl rfl hm (by repeat (first | exact Rep.head _ _ _ | apply Rep.tail)) rfl) ?_ eNil)
        clear hs hm
        rintro - w33 hm a hs
        refine ⟨hm.sub (by repeat (first | exact List.Sublist.refl _ | exact List.nil_sublist _ | apply List.Sublist.cons_cons | apply List.Sublist.cons)), ?_⟩
        refine hTake 14 hs rfl (by kernel_rfl) (Wnt.none rfl) rfl rfl (by intro w hm; replace hm : Mm _ _ _ w := hm; exact r_val hs tab rfl) (hm.sub (List.nil_sublist _)) ?_; clear hs a; intro a hs
        refine hDone (by kernel_rfl) ?_
        exact And.intro rfl ⟨g14, hs.sub (Has.all ⟨rfl, rfl, rfl, rfl, rfl, rfl, rfl, rfl, rfl, trivial⟩), hm⟩
    clear hs hm a
    rintro a w ⟨g14, hs, hm⟩
    repeat (first | ((with_reducible refine toL hm ?_); (first | refine oneV hs (by first | exact Wnt.none rfl | exact Wnt.some rfl rfl rfl rfl) rfl rfl (by intro w hm; (first | exact r_val hs tab rfl | ((with_reducible apply kLoad); first | exact r_load hs rfl rfl tab rfl rfl (by first | exact Ro.cl (by assumption) hm (by first | exact (fun t => t) | assumption) (by first | rfl | assumption) | exact Ro.cl0 (by assumption) hm (by first | exact (fun t => t) | assumption) (by first | rfl | assumption) | exact hm.cl (by repeat (first | exact mH | apply mT)) (by first | rfl | assumption)) | exact r_loadO hs rfl rfl tab rfl rfl rfl hm (by repeat (first | exact mH | apply mT)) (by rfl) | exact r_loadA hs rfl rfl tab rfl rfl (Ro.ro (by assumption) hm (by first | exact (fun t => t) | assumption)) rfl) | exact r_iz hs tab rfl rfl (by omega) | exact r_iy hs tab rfl rfl (by omega) | exact r_cT hs rfl (by omega) | exact r_cF hs rfl (by omega) | exact r_arH hs rfl (by assumption) (by omega) | exact r_ar hs rfl (by omega) | exact r_remH hs rfl rfl rfl (by assumption) (by omega) (by omega) | exact r_rem64 hs rfl rfl rfl (by omega) (by omega) | exact r_rem hs rfl rfl rfl (by omega) | exact r_bi hs rfl | exact r_pick hs rfl rfl rfl rfl | exact r_neqSt (fl := [(true, 0, 5), (true, 1, 22)]) hs rfl rfl rfl tab (by kernel_rfl) (by kernel_rfl) (by kernel_rfl) (by kernel_rfl) rfl | exact r_eqlSt (fl := [(true, 0, 5), (true, 1, 22)]) hs rfl rfl rfl tab (by kernel_rfl) (by kernel_rfl) (by kernel_rfl) (by kernel_rfl) rfl)) ?_ | refine oneN hs rfl rfl rfl rfl rfl rfl rfl ?_ | refine oneU hs rfl rfl rfl rfl rfl rfl ?_); clear hs a; intro a hs) | ((with_reducible apply lCons); first | (refine dv hs (by first | exact Wnt.none rfl | exact Wnt.some rfl rfl rfl rfl) rfl rfl (by first | exact d_alloc rfl tab rfl rfl hm | exact d_box hs rfl rfl rfl hm | exact d_buildSlice0 rfl tab rfl rfl rfl hm | exact d_buildSlice hs rfl tab rfl rfl rfl rfl rfl rfl rfl rfl rfl hm) ?_; clear hs hm a; rintro _ w ⟨g, rfl, -, hm⟩ a hs) | (refine stn hs rfl rfl (by first | exact d_store hs rfl rfl rfl tab rfl rfl rfl rfl hm (by repeat (first | exact Rep.head _ _ _ | apply Rep.tail)) (by rfl) | exact d_store1 hs rfl rfl rfl tab rfl rfl rfl rfl hm (by repeat (first | exact Rep.head _ _ _ | apply Rep.tail)) (by first | omega | assumption | (simp; omega))) ?_; clear hs hm a; rintro - w hm a hs) ) | (with_reducible first | apply lNilThen | apply lNilBlock | apply lNil | apply wp_seq | apply wp_region_lit | apply wp_block | apply cExit | apply cRet | apply cSkip | apply gThen | apply gBlock | apply eThen | apply eBlockHit | refine eBlock rfl ?_ | apply rThen | apply rBlock) | ((with_reducible apply cCond); first | refine cTrue hs rfl (by first | rfl | assumption | exact decide_eq_true (by omega) | exact decide_eq_false (by omega) | exact ndT (by omega) | exact ndF (by omega)) ?_ | refine cFalse hs rfl (by first | rfl | assumption | exact decide_eq_true (by omega) | exact decide_eq_false (by omega) | exact ndT (by omega) | exact ndF (by omega)) ?_))
    refine cMid (fun a w => ∃ g16, Sl Try.f7.ntmps [(13, .slice (some ⟨gj, 0, none⟩) 2 2), (14, .pointer (some ⟨g14, 0, none⟩)), (15, .int .i64 0), (16, .pointer (some ⟨g16, 0, none⟩)), (17, .int .i64 0), (6, .bool false), (8, .slice x.B x.n x.d), (9, .pointer (some ⟨g9, 0, none⟩)), (54, .slice (some ⟨g54, 0, none⟩) 3 3), (55, .int .i64 3), (56, .int .i64 (j : Int))] a ∧ Mm (fun _ => False) wC [⟨some g16, 24, [.int .u8 0, .int .u16 J]⟩, ⟨some g14, 24, [.int .u8 0, .int .u16 1]⟩] w) ?_ ?_
    · skip
      refine cDraw (n := 15) [] hm rfl rfl ?_
      clear hm
      intro w2 hm
      refine hTake 0 hs rfl (by kernel_rfl) (Wnt.none rfl) rfl rfl (by intro w hm; replace hm : Mm _ _ _ w := hm; ((with_reducible apply kLoad); first | exact r_load hs rfl rfl tab rfl rfl (by first | exact Ro.cl (by assumption) hm (by first | exact (fun t => t) | assumption) (by first | rfl | assumption) | exact Ro.cl0 (by assumption) hm (by first | exact (fun t => t) | assumption) (by first | rfl | assumption) | exact hm.cl (by repeat (first | exact mH | apply mT)) (by first | rfl | assumption)) | exact r_loadO hs rfl rfl tab rfl rfl rfl hm (by repeat (first | exact mH | apply mT)) (by rfl) | exact r_loadA hs rfl rfl tab rfl rfl (Ro.ro (by assumption) hm (by first | exact (fun t => t) | assumption)) rfl)) (hm.sub (List.nil_sublist _)) ?_; clear hs a; intro a hs
      refine hTake 1 hs rfl (by kernel_rfl) (Wnt.none rfl) rfl rfl (by intro w hm; replace hm : Mm _ _ _ w := hm; exact r_val hs tab rfl) (hm.sub (List.nil_sublist _)) ?_; clear hs a; intro a hs
      refine hTake 2 hs rfl (by kernel_rfl) (Wnt.none rfl) rfl rfl (by intro w hm; replace hm : Mm _ _ _ w := hm; exact r_val hs tab rfl) (hm.sub (List.nil_sublist _)) ?_; clear hs a; intro a hs
      refine hTake 3 hs rfl (by kernel_rfl) (Wnt.none rfl) rfl rfl (by intro w hm; replace hm : Mm _ _ _ w := hm; (first | exact r_iz hs tab rfl rfl (by omega) | exact r_iy hs tab rfl rfl (by omega))) (hm.sub (List.nil_sublist _)) ?_; clear hs a; intro a hs
      refine hTake 4 hs rfl (by kernel_rfl) (Wnt.none rfl) rfl rfl (by intro w hm; replace hm : Mm _ _ _ w := hm; ((with_reducible apply kLoad); first | exact r_load hs rfl rfl tab rfl rfl (by first | exact Ro.cl (by assumption) hm (by first | exact (fun t => t) | assumption) (by first | rfl | assumption) | exact Ro.cl0 (by assumption) hm (by first | exact (fun t => t) | assumption) (by first | rfl | assumption) | exact hm.cl (by repeat (first | exact mH | apply mT)) (by first | rfl | assumption)) | exact r_loadO hs rfl rfl tab rfl rfl rfl hm (by repeat (first | exact mH | apply mT)) (by rfl) | exact r_loadA hs rfl rfl tab rfl rfl (Ro.ro (by assumption) hm (by first | exact (fun t => t) | assumption)) rfl)) (hm.sub (List.nil_sublist _)) ?_; clear hs a; intro a hs
      refine hTake 5 hs rfl (by kernel_rfl) (Wnt.none rfl) rfl rfl (by intro w hm; replace hm : Mm _ _ _ w := hm; exact r_val hs tab rfl) (hm.sub (List.nil_sublist _)) ?_; clear hs a; intro a hs
      refine hTake 6 hs rfl (by kernel_rfl) (Wnt.none rfl) rfl rfl (by intro w hm; replace hm : Mm _ _ _ w := hm; (first | exact r_iz hs tab rfl rfl (by omega) | exact r_iy hs tab rfl rfl (by omega))) (hm.sub (List.nil_sublist _)) ?_; clear hs a; intro a hs
      refine hTake 7 hs rfl (by kernel_rfl) (Wnt.none rfl) rfl rfl (by intro w hm; replace hm : Mm _ _ _ w := hm; ((with_reducible apply kLoad); first | exact r_load hs rfl rfl tab rfl rfl (by first | exact Ro.cl (by assumption) hm (by first | exact (fun t => t) | assumption) (by first | rfl | assumption) | exact Ro.cl0 (by assumption) hm (by first | exact (fun t => t) | assumption) (by first | rfl | assumption) | exact hm.cl (by repeat (first | exact mH | apply mT)) (by first | rfl | assumption)) | exact r_loadO hs rfl rfl tab rfl rfl rfl hm (by repeat (first | exact mH | apply mT)) (by rfl) | exact r_loadA hs rfl rfl tab rfl rfl (Ro.ro (by assumption) hm (by first | exact (fun t => t) | assumption)) rfl)) (hm.sub (List.nil_sublist _)) ?_; clear hs a; intro a hs
      refine hEach [8, 12] (by kernel_rfl) (eDo hs rfl (Wnt.none rfl) rfl rfl (by exact d_call hs rfl rfl rfl (pl 13 rfl) ((c1 _))) ?_ (eDo hs rfl (Wnt.none rfl) rfl rfl (by exact d_alloc rfl tab rfl rfl hm) ?_ eNil))
      · skip
        clear hs
        rintro _ w1 ⟨rfl, hf⟩ a hs
        replace hm := hm.pu hf
        clear hf
        refine ⟨hm.sub (by repeat (first | exact List.Sublist.refl _ | exact List.nil_sublist _ | apply List.Sublist.cons_cons | apply List.Sublist.cons)), ?_⟩
        refine hTake 9 hs rfl (by kernel_rfl) (Wnt.none rfl) rfl rfl (by intro w hm; replace hm : Mm _ _ _ w := hm; exact r_val hs tab rfl) (hm.sub (List.nil_sublist _)) ?_; clear hs a; intro a hs
        refine hTake 10 hs rfl (by kernel_rfl) (Wnt.none rfl) rfl rfl (by intro w hm; replace hm : Mm _ _ _ w := hm; exact r_val hs tab rfl) (hm.sub (List.nil_sublist _)) ?_; clear hs a; intro a hs
        refine hTake 11 hs rfl (by kernel_rfl) (Wnt.none rfl) rfl rfl (by intro w hm; replace hm : Mm _ _ _ w := hm; exact r_val hs tab rfl) (hm.sub (List.nil_sublist _)) ?_; clear hs a; intro a hs
        refine hEach [12] (by kernel_rfl) (eDo hs rfl (Wnt.none rfl) rfl rfl (by exact d_alloc rfl tab rfl rfl hm) ?_ eNil)
        clear hs hm a
        rintro _ w32 ⟨g16, rfl, -, hm⟩ a hs
        refine ⟨hm.sub (by repeat (first | exact List.Sublist.refl _ | exact List.nil_sublist _ | apply List.Sublist.cons_cons | apply List.Sublist.cons)), ?_⟩
        refine hEach [13] (by kernel_rfl) (eDoN hs rfl (Wnt.none rfl) rfl (by exact d_store hs rfl rfl rfl tab rfl rfl rfl rfl hm (by repeat (first | exact Rep.head _ _ _ | apply Rep.tail)) rfl) ?_ eNil)
        clear hs hm
        rintro - w33 hm a hs
        refine ⟨hm.sub (by repeat (first | exact List.Sublist.refl _ | exact List.nil_sublist _ | apply List.Sublist.cons_cons | apply List.Sublist.cons)), ?_⟩
        refine hTake 14 hs rfl (by kernel_rfl) (Wnt.none rfl) rfl rfl (by intro w hm; replace hm : Mm _ _ _ w := hm; exact r_val hs tab rfl) (hm.sub (List.nil_sublist _)) ?_; clear hs a; intro a hs
        refine hDone (by kernel_rfl) ?_
        exact And.intro rfl ⟨g16, hs.sub (Has.all ⟨rfl, rfl, rfl, rfl, rfl, rfl, rfl, rfl, rfl, rfl, rfl, trivial⟩), hm⟩
      · skip
        clear hs hm a
        rintro _ w32 ⟨g16, rfl, -, hm⟩ a hs
        refine ⟨hm.sub (by repeat (first | exact List.Sublist.refl _ | exact List.nil_sublist _ | apply List.Sublist.cons_cons | apply List.Sublist.cons)), ?_⟩
        refine hEach [8] (by kernel_rfl) (eDo hs rfl (Wnt.none rfl) rfl rfl (by exact d_call hs rfl rfl rfl (pl 13 rfl) ((c1 _))) ?_ eNil)
        clear hs
        rintro _ w1 ⟨rfl, hf⟩ a hs
        replace hm := hm.pu hf
        clear hf
        refine ⟨hm.sub (by repeat (first | exact List.Sublist.refl _ | exact List.nil_sublist _ | apply List.Sublist.cons_cons | apply List.Sublist.cons)), ?_⟩
        refine hTake 9 hs rfl (by kernel_rfl) (Wnt.none rfl) rfl rfl (by intro w hm; replace hm : Mm _ _ _ w := hm; exact r_val hs tab rfl) (hm.sub (List.nil_sublist _)) ?_; clear hs a; intro a hs
        refine hTake 10 hs rfl (by kernel_rfl) (Wnt.none rfl) rfl rfl (by intro w hm; replace hm : Mm _ _ _ w := hm; exact r_val hs tab rfl) (hm.sub (List.nil_sublist _)) ?_; clear hs a; intro a hs
        refine hTake 11 hs rfl (by kernel_rfl) (Wnt.none rfl) rfl rfl (by intro w hm; replace hm : Mm _ _ _ w := hm; exact r_val hs tab rfl) (hm.sub (List.nil_sublist _)) ?_; clear hs a; intro a hs
        refine hEach [13] (by kernel_rfl) (eDoN hs rfl (Wnt.none rfl) rfl (by exact d_store hs rfl rfl rfl tab rfl rfl rfl rfl hm (by repeat (first | exact Rep.head _ _ _ | apply Rep.tail)) rfl) ?_ eNil)
        clear hs hm
        rintro - w33 hm a hs
        refine ⟨hm.sub (by repeat (first | exact List.Sublist.refl _ | exact List.nil_sublist _ | apply List.Sublist.cons_cons | apply List.Sublist.cons)), ?_⟩
        refine hTake 14 hs rfl (by kernel_rfl) (Wnt.none rfl) rfl rfl (by intro w hm; replace hm : Mm _ _ _ w := hm; exact r_val hs tab rfl) (hm.sub (List.nil_sublist _)) ?_; clear hs a; intro a hs
        refine hDone (by kernel_rfl) ?_
        exact And.intro rfl ⟨g16, hs.sub (Has.all ⟨rfl, rfl, rfl, rfl, rfl, rfl, rfl, rfl, rfl, rfl, rfl, trivial⟩), hm⟩
    clear hs hm a
    rintro a w ⟨g16, hs, hm⟩
    repeat (first | ((with_reducible refine toL hm ?_); (first | refine oneV hs (by first | exact Wnt.none rfl | exact Wnt.some rfl rfl rfl rfl) rfl rfl (by intro w hm; (first | exact r_val hs tab rfl | ((with_reducible apply kLoad); first | exact r_load hs rfl rfl tab rfl rfl (by first | exact Ro.cl (by assumption) hm (by first | exact (fun t => t) | assumption) (by first | rfl | assumption) | exact Ro.cl0 (by assumption) hm (by first | exact (fun t => t) | assumption) (by first | rfl | assumption) | exact hm.cl (by repeat (first | exact mH | apply mT)) (by first | rfl | assumption)) | exact r_loadO hs rfl rfl tab rfl rfl rfl hm (by repeat (first | exact mH | apply mT)) (by rfl) | exact r_loadA hs rfl rfl tab rfl rfl (Ro.ro (by assumption) hm (by first | exact (fun t => t) | assumption)) rfl) | exact r_iz hs tab rfl rfl (by omega) | exact r_iy hs tab rfl rfl (by omega) | exact r_cT hs rfl (by omega) | exact r_cF hs rfl (by omega) | exact r_arH hs rfl (by assumption) (by omega) | exact r_ar hs rfl (by omega) | exact r_remH hs rfl rfl rfl (by assumption) (by omega) (by omega) | exact r_rem64 hs rfl rfl rfl (by omega) (by omega) | exact r_rem hs rfl rfl rfl (by omega) | exact r_bi hs rfl | exact r_pick hs rfl rfl rfl rfl | exact r_neqSt (fl := [(true, 0, 5), (true, 1, 22)]) hs rfl rfl rfl tab (by kernel_rfl) (by kernel_rfl) (by kernel_rfl) (by kernel_rfl) rfl | exact r_eqlSt (fl := [(true, 0, 5), (true, 1, 22)]) hs rfl rfl rfl tab (by kernel_rfl) (by kernel_rfl) (by kernel_rfl) (by kernel_rfl) rfl)) ?_ | refine oneN hs rfl rfl rfl rfl rfl rfl rfl ?_ | refine oneU hs rfl rfl rfl rfl rfl rfl ?_); clear hs a; intro a hs) | ((with_reducible apply lCons); first | (refine dv hs (by first | exact Wnt.none rfl | exact Wnt.some rfl rfl rfl rfl) rfl rfl (by first | exact d_alloc rfl tab rfl rfl hm | exact d_box hs rfl rfl rfl hm | exact d_buildSlice0 rfl tab rfl rfl rfl hm | exact d_buildSlice hs rfl tab rfl rfl rfl rfl rfl rfl rfl rfl rfl hm) ?_; clear hs hm a; rintro _ w ⟨g, rfl, -, hm⟩ a hs) | (refine stn hs rfl rfl (by first | exact d_store hs rfl rfl rfl tab rfl rfl rfl rfl hm (by repeat (first | exact Rep.head _ _ _ | apply Rep.tail)) (by rfl) | exact d_store1 hs rfl rfl rfl tab rfl rfl rfl rfl hm (by repeat (first | exact Rep.head _ _ _ | apply Rep.tail)) (by first | omega | assumption | (simp; omega))) ?_; clear hs hm a; rintro - w hm a hs) ) | (with_reducible first | apply lNilThen | apply lNilBlock | apply lNil | apply wp_seq | apply wp_region_lit | apply wp_block | apply cExit | apply cRet | apply cSkip | apply gThen | apply gBlock | apply eThen | apply eBlockHit | refine eBlock rfl ?_ | apply rThen | apply rBlock) | ((with_reducible apply cCond); first | refine cTrue hs rfl (by first | rfl | assumption | exact decide_eq_true (by omega) | exact decide_eq_false (by omega) | exact ndT (by omega) | exact ndF (by omega)) ?_ | refine cFalse hs rfl (by first | rfl | assumption | exact decide_eq_true (by omega) | exact decide_eq_false (by omega) | exact ndT (by omega) | exact ndF (by omega)) ?_))
    refine cMid (fun a w => ∃ g18, Sl Try.f7.ntmps [(13, .slice (some ⟨gj, 0, none⟩) 2 2), (14, .pointer (some ⟨g14, 0, none⟩)), (15, .int .i64 0), (16, .pointer (some ⟨g16, 0, none⟩)), (17, .int .i64 0), (18, .pointer (some ⟨g18, 0, none⟩)), (19, .int .i64 0), (6, .bool false), (8, .slice x.B x.n x.d), (9, .pointer (some ⟨g9, 0, none⟩)), (54, .slice (some ⟨g54, 0, none⟩) 3 3), (55, .int .i64 3), (56, .int .i64 (j : Int))] a ∧ Mm (fun _ => False) wC [⟨some g18, 24, [.int .u8 0, .int .u16 J]⟩, ⟨some g16, 24, [.int .u8 0, .int .u16 J]⟩, ⟨some g14, 24, [.int .u8 0, .int .u16 1]⟩] w) ?_ ?_
    · skip
      refine cDraw (n := 15) [] hm rfl rfl ?_
      clear hm
      intro w2 hm
      refine hTake 0 hs rfl (by kernel_rfl) (Wnt.none rfl) rfl rfl (by intro w hm; replace hm : Mm _ _ _ w := hm; ((with_reducible apply kLoad); first | exact r_load hs rfl rfl tab rfl rfl (by first | exact Ro.cl (by assumption) hm (by first | exact (fun t => t) | assumption) (by first | rfl | assumption) | exact Ro.cl0 (by assumption) hm (by first | exact (fun t => t) | assumption) (by first | rfl | assumption) | exact hm.cl (by repeat (first | exact mH | apply mT)) (by first | rfl | assumption)) | exact r_loadO hs rfl rfl tab rfl rfl rfl hm (by repeat (first | exact mH | apply mT)) (by rfl) | exact r_loadA hs rfl rfl tab rfl rfl (Ro.ro (by assumption) hm (by first | exact (fun t => t) | assumption)) rfl)) (hm.sub (List.nil_sublist _)) ?_; clear hs a; intro a hs
      refine hTake 1 hs rfl (by kernel_rfl) (Wnt.none rfl) rfl rfl (by intro w hm; replace hm : Mm _ _ _ w := hm; exact r_val hs tab rfl) (hm.sub (List.nil_sublist _)) ?_; clear hs a; intro a hs
      refine hTake 2 hs rfl (by kernel_rfl) (Wnt.none rfl) rfl rfl (by intro w hm; replace hm : Mm _ _ _ w := hm; exact r_val hs tab rfl) (hm.sub (List.nil_sublist _)) ?_; clear hs a; intro a hs
      refine hTake 3 hs rfl (by kernel_rfl) (Wnt.none rfl) rfl rfl (by intro w hm; replace hm : Mm _ _ _ w := hm; (first | exact r_iz hs tab rfl rfl (by omega) | exact r_iy hs tab rfl rfl (by omega))) (hm.sub (List.nil_sublist _)) ?_; clear hs a; intro a hs
      refine hTake 4 hs rfl (by kernel_rfl) (Wnt.none rfl) rfl rfl (by intro w hm; replace hm : Mm _ _ _ w := hm; ((with_reducible apply kLoad); first | exact r_load hs rfl rfl tab rfl rfl (by first | exact Ro.cl (by assumption) hm (by first | exact (fun t => t) | assumption) (by first | rfl | assumption) | exact Ro.cl0 (by assumption) hm (by first | exact (fun t => t) | assumption) (by first | rfl | assumption) | exact hm.cl (by repeat (first | exact mH | apply mT)) (by first | rfl | assumption)) | exact r_loadO hs rfl rfl tab rfl rfl rfl hm (by repeat (first | exact mH | apply mT)) (by rfl) | exact r_loadA hs rfl rfl tab rfl rfl (Ro.ro (by assumption) hm (by first | exact (fun t => t) | assumption)) rfl)) (hm.sub (List.nil_sublist _)) ?_; clear hs a; intro a hs
      refine hTake 5 hs rfl (by kernel_rfl) (Wnt.none rfl) rfl rfl (by intro w hm; replace hm : Mm _ _ _ w := hm; exact r_val hs tab rfl) (hm.sub (List.nil_sublist _)) ?_; clear hs a; intro a hs
      refine hTake 6 hs rfl (by kernel_rfl) (Wnt.none rfl) rfl rfl (by intro w hm; replace hm : Mm _ _ _ w := hm; (first | exact r_iz hs tab rfl rfl (by omega) | exact r_iy hs tab rfl rfl (by omega))) (hm.sub (List.nil_sublist _)) ?_; clear hs a; intro a hs
      refine hTake 7 hs rfl (by kernel_rfl) (Wnt.none rfl) rfl rfl (by intro w hm; replace hm : Mm _ _ _ w := hm; ((with_reducible apply kLoad); first | exact r_load hs rfl rfl tab rfl rfl (by first | exact Ro.cl (by assumption) hm (by first | exact (fun t => t) | assumption) (by first | rfl | assumption) | exact Ro.cl0 (by assumption) hm (by first | exact (fun t => t) | assumption) (by first | rfl | assumption) | exact hm.cl (by repeat (first | exact mH | apply mT)) (by first | rfl | assumption)) | exact r_loadO hs rfl rfl tab rfl rfl rfl hm (by repeat (first | exact mH | apply mT)) (by rfl) | exact r_loadA hs rfl rfl tab rfl rfl (Ro.ro (by assumption) hm (by first | exact (fun t => t) | assumption)) rfl)) (hm.sub (List.nil_sublist _)) ?_; clear hs a; intro a hs
      refine hEach [8, 12] (by kernel_rfl) (eDo hs rfl (Wnt.none rfl) rfl rfl (by exact d_call hs rfl rfl rfl (pl 13 rfl) ((c2 _))) ?_ (eDo hs rfl (Wnt.none rfl) rfl rfl (by exact d_alloc rfl tab rfl rfl hm) ?_ eNil))
      · skip
        clear hs
        rintro _ w1 ⟨rfl, hf⟩ a hs
        replace hm := hm.pu hf
        clear hf
        refine ⟨hm.sub (by repeat (first | exact List.Sublist.refl _ | exact List.nil_sublist _ | apply List.Sublist.cons_cons | apply List.Sublist.cons)), ?_⟩
        refine hTake 9 hs rfl (by kernel_rfl) (Wnt.none rfl) rfl rfl (by intro w hm; replace hm : Mm _ _ _ w := hm; exact r_val hs tab rfl) (hm.sub (List.nil_sublist _)) ?_; clear hs a; intro a hs
        refine hTake 10 hs rfl (by kernel_rfl) (Wnt.none rfl) rfl rfl (by intro w hm; replace hm : Mm _ _ _ w := hm; exact r_val hs tab rfl) (hm.sub (List.nil_sublist _)) ?_; clear hs a; intro a hs
        refine hTake 11 hs rfl (by kernel_rfl) (Wnt.none rfl) rfl rfl (by intro w hm; replace hm : Mm _ _ _ w := hm; exact r_val hs tab rfl) (hm.sub (List.nil_sublist _)) ?_; clear hs a; intro a hs
        refine hEach [12] (by kernel_rfl) (eDo hs rfl (Wnt.none rfl) rfl rfl (by exact d_alloc rfl tab rfl rfl hm) ?_ eNil)
        clear hs hm a
        rintro _ w32 ⟨g18, rfl, -, hm⟩ a hs
        refine ⟨hm.sub (by repeat (first | exact List.Sublist.refl _ | exact List.nil_sublist _ | apply List.Sublist.cons_cons | apply List.Sublist.cons)), ?_⟩
        refine hEach [13] (by kernel_rfl) (eDoN hs rfl (Wnt.none rfl) rfl (by exact d_store hs rfl rfl rfl tab rfl rfl rfl rfl hm (by repeat (first | exact Rep.head _ _ _ | apply Rep.tail)) rfl) ?_ eNil)
        clear hs hm
        rintro - w33 hm a hs
        refine ⟨hm.sub (by repeat (first | exact List.Sublist.refl _ | exact List.nil_sublist _ | apply List.Sublist.cons_cons | apply List.Sublist.cons)), ?_⟩
        refine hTake 14 hs rfl (by kernel_rfl) (Wnt.none rfl) rfl rfl (by intro w hm; replace hm : Mm _ _ _ w := hm; exact r_val hs tab rfl) (hm.sub (List.nil_sublist _)) ?_; clear hs a; intro a hs
        refine hDone (by kernel_rfl) ?_
        exact And.intro rfl ⟨g18, hs.sub (Has.all ⟨rfl, rfl, rfl, rfl, rfl, rfl, rfl, rfl, rfl, rfl, rfl, rfl, rfl, trivial⟩), hm⟩
      · skip
        clear hs hm a
        rintro _ w32 ⟨g18, rfl, -, hm⟩ a hs
        refine ⟨hm.sub (by repeat (first | exact List.Sublist.refl _ | exact List.nil_sublist _ | apply List.Sublist.cons_cons | apply List.Sublist.cons)), ?_⟩
        refine hEach [8] (by kernel_rfl) (eDo hs rfl (Wnt.none rfl) rfl rfl (by exact d_call hs rfl rfl rfl (pl 13 rfl) ((c2 _))) ?_ eNil)
        clear hs
        rintro _ w1 ⟨rfl, hf⟩ a hs
        replace hm := hm.pu hf
        clear hf
        refine ⟨hm.sub (by repeat (first | exact List.Sublist.refl _ | exact List.nil_sublist _ | apply List.Sublist.cons_cons | apply List.Sublist.cons)), ?_⟩
        refine hTake 9 hs rfl (by kernel_rfl) (Wnt.none rfl) rfl rfl (by intro w hm; replace hm : Mm _ _ _ w := hm; exact r_val hs tab rfl) (hm.sub (List.nil_sublist _)) ?_; clear hs a; intro a hs
        refine hTake 10 hs rfl (by kernel_rfl) (Wnt.none rfl) rfl rfl (by intro w hm; replace hm : Mm _ _ _ w := hm; exact r_val hs tab rfl) (hm.sub (List.nil_sublist _)) ?_; clear hs a; intro a hs
        refine hTake 11 hs rfl (by kernel_rfl) (Wnt.none rfl) rfl rfl (by intro w hm; replace hm : Mm _ _ _ w := hm; exact r_val hs tab rfl) (hm.sub (List.nil_sublist _)) ?_; clear hs a; intro a hs
        refine hEach [13] (by kernel_rfl) (eDoN hs rfl (Wnt.none rfl) rfl (by exact d_store hs rfl rfl rfl tab rfl rfl rfl rfl hm (by repeat (first | exact Rep.head _ _ _ | apply Rep.tail)) rfl) ?_ eNil)
        clear hs hm
        rintro - w33 hm a hs
        refine ⟨hm.sub (by repeat (first | exact List.Sublist.refl _ | exact List.nil_sublist _ | apply List.Sublist.cons_cons | apply List.Sublist.cons)), ?_⟩
        refine hTake 14 hs rfl (by kernel_rfl) (Wnt.none rfl) rfl rfl (by intro w hm; replace hm : Mm _ _ _ w := hm; exact r_val hs tab rfl) (hm.sub (List.nil_sublist _)) ?_; clear hs a; intro a hs
        refine hDone (by kernel_rfl) ?_
        exact And.intro rfl ⟨g18, hs.sub (Has.all ⟨rfl, rfl, rfl, rfl, rfl, rfl, rfl, rfl, rfl, rfl, rfl, rfl, rfl, trivial⟩), hm⟩
    clear hs hm a
    rintro a w ⟨g18, hs, hm⟩
    rcases hcase with ⟨htr, rfl | rfl⟩ | ⟨rfl, ⟨rfl, rfl, rfl⟩ | ⟨rfl, rfl, rfl⟩ | ⟨rfl, rfl, rfl⟩⟩
    · skip
      replace hJB : ((t == s) && ((v == u) && true)) = false := hJB
      repeat (first | ((with_reducible first | refine toL hm ?_ | refine toQ ?_); (first | refine oneV hs (by first | exact Wnt.none rfl | exact Wnt.some rfl rfl rfl rfl) rfl rfl (by intro w hm; (first | exact r_val hs tab rfl | ((with_reducible apply kLoad); first | exact r_load hs rfl rfl tab rfl rfl (by first | exact Ro.cl (by assumption) hm (by first | exact (fun t => t) | assumption) (by first | rfl | assumption) | exact Ro.cl0 (by assumption) hm (by first | exact (fun t => t) | assumption) (by first | rfl | assumption) | exact hm.cl (by repeat (first | exact mH | apply mT)) (by first | rfl | assumption)) | exact r_loadO hs rfl rfl tab rfl rfl rfl hm (by repeat (first | exact mH | apply mT)) (by rfl) | exact r_loadA hs rfl rfl tab rfl rfl (Ro.ro (by assumption) hm (by first | exact (fun t => t) | assumption)) rfl) | exact r_iz hs tab rfl rfl (by omega) | exact r_iy hs tab rfl rfl (by omega) | exact r_cT hs rfl (by omega) | exact r_cF hs rfl (by omega) | exact r_arH hs rfl (by assumption) (by omega) | exact r_ar hs rfl (by omega) | exact r_remH hs rfl rfl rfl (by assumption) (by omega) (by omega) | exact r_rem64 hs rfl rfl rfl (by omega) (by omega) | exact r_rem hs rfl rfl rfl (by omega) | exact r_bi hs rfl | exact r_pick hs rfl rfl rfl rfl | exact r_neqSt (fl := [(true, 0, 5), (true, 1, 22)]) hs rfl rfl rfl tab (by kernel_rfl) (by kernel_rfl) (by kernel_rfl) (by kernel_rfl) rfl | exact r_eqlSt (fl := [(true, 0, 5), (true, 1, 22)]) hs rfl rfl rfl tab (by kernel_rfl) (by kernel_rfl) (by kernel_rfl) (by kernel_rfl) rfl)) ?_ | refine oneN hs rfl rfl rfl rfl rfl rfl rfl ?_ | refine oneU hs rfl rfl rfl rfl rfl rfl ?_); clear hs a; intro a hs) | ((with_reducible apply lCons); first | (refine dv hs (by first | exact Wnt.none rfl | exact Wnt.some rfl rfl rfl rfl) rfl rfl (by first | exact d_alloc rfl tab rfl rfl hm | exact d_box hs rfl rfl rfl hm | exact d_buildSlice0 rfl tab rfl rfl rfl hm | exact d_buildSlice hs rfl tab rfl rfl rfl rfl rfl rfl rfl rfl rfl hm) ?_; clear hs hm a; rintro _ w ⟨g, rfl, -, hm⟩ a hs) | (refine stn hs rfl rfl (by first | exact d_store hs rfl rfl rfl tab rfl rfl rfl rfl hm (by repeat (first | exact Rep.head _ _ _ | apply Rep.tail)) (by rfl) | exact d_store1 hs rfl rfl rfl tab rfl rfl rfl rfl hm (by repeat (first | exact Rep.head _ _ _ | apply Rep.tail)) (by first | omega | assumption | (simp; omega))) ?_; clear hs hm a; rintro - w hm a hs) ) | ((with_reducible apply qNil); clear hm; intro w hm) | ((with_reducible refine cQuiet hm ?_ ?_ ?_ ?_); rfl; kernel_rfl; kernel_rfl) | (with_reducible first | apply lNilThen | apply lNilBlock | apply lNil | apply wp_seq | apply wp_region_lit | apply wp_block | apply cExit | apply cRet | apply cSkip | apply gThen | apply gBlock | apply eThen | apply eBlockHit | refine eBlock rfl ?_ | apply rThen | apply rBlock) | ((with_reducible apply cCond); first | refine cTrue hs rfl (by first | rfl | assumption | exact decide_eq_true (by omega) | exact decide_eq_false (by omega) | exact ndT (by omega) | exact ndF (by omega)) ?_ | refine cFalse hs rfl (by first | rfl | assumption | exact decide_eq_true (by omega) | exact decide_eq_false (by omega) | exact ndT (by omega) | exact ndF (by omega)) ?_))
      rw [hJB] at hs
      repeat (first | ((with_reducible first | refine toL hm ?_ | refine toQ ?_); (first | refine oneV hs (by first | exact Wnt.none rfl | exact Wnt.some rfl rfl rfl rfl) rfl rfl (by intro w hm; (first | exact r_val hs tab rfl | ((with_reducible apply kLoad); first | exact r_load hs rfl rfl tab rfl rfl (by first | exact Ro.cl (by assumption) hm (by first | exact (fun t => t) | assumption) (by first | rfl | assumption) | exact Ro.cl0 (by assumption) hm (by first | exact (fun t => t) | assumption) (by first | rfl | assumption) | exact hm.cl (by repeat (first | exact mH | apply mT)) (by first | rfl | assumption)) | exact r_loadO hs rfl rfl tab rfl rfl rfl hm (by repeat (first | exact mH | apply mT)) (by rfl) | exact r_loadA hs rfl rfl tab rfl rfl (Ro.ro (by assumption) hm (by first | exact (fun t => t) | assumption)) rfl) | exact r_iz hs tab rfl rfl (by omega) | exact r_iy hs tab rfl rfl (by omega) | exact r_cT hs rfl (by omega) | exact r_cF hs rfl (by omega) | exact r_arH hs rfl (by assumption) (by omega) | exact r_ar hs rfl (by omega) | exact r_remH hs rfl rfl rfl (by assumption) (by omega) (by omega) | exact r_rem64 hs rfl rfl rfl (by omega) (by omega) | exact r_rem hs rfl rfl rfl (by omega) | exact r_bi hs rfl | exact r_pick hs rfl rfl rfl rfl | exact r_neqSt (fl := [(true, 0, 5), (true, 1, 22)]) hs rfl rfl rfl tab (by kernel_rfl) (by kernel_rfl) (by kernel_rfl) (by kernel_rfl) rfl | exact r_eqlSt (fl := [(true, 0, 5), (true, 1, 22)]) hs rfl rfl rfl tab (by kernel_rfl) (by kernel_rfl) (by kernel_rfl) (by kernel_rfl) rfl)) ?_ | refine oneN hs rfl rfl rfl rfl rfl rfl rfl ?_ | refine oneU hs rfl rfl rfl rfl rfl rfl ?_); clear hs a; intro a hs) | ((with_reducible apply lCons); first | (refine dv hs (by first | exact Wnt.none rfl | exact Wnt.some rfl rfl rfl rfl) rfl rfl (by first | exact d_alloc rfl tab rfl rfl hm | exact d_box hs rfl rfl rfl hm | exact d_buildSlice0 rfl tab rfl rfl rfl hm | exact d_buildSlice hs rfl tab rfl rfl rfl rfl rfl rfl rfl rfl rfl hm) ?_; clear hs hm a; rintro _ w ⟨g, rfl, -, hm⟩ a hs) | (refine stn hs rfl rfl (by first | exact d_store hs rfl rfl rfl tab rfl rfl rfl rfl hm (by repeat (first | exact Rep.head _ _ _ | apply Rep.tail)) (by rfl) | exact d_store1 hs rfl rfl rfl tab rfl rfl rfl rfl hm (by repeat (first | exact Rep.head _ _ _ | apply Rep.tail)) (by first | omega | assumption | (simp; omega))) ?_; clear hs hm a; rintro - w hm a hs) ) | ((with_reducible apply qNil); clear hm; intro w hm) | ((with_reducible refine cQuiet hm ?_ ?_ ?_ ?_); rfl; kernel_rfl; kernel_rfl) | (with_reducible first | apply lNilThen | apply lNilBlock | apply lNil | apply wp_seq | apply wp_region_lit | apply wp_block | apply cExit | apply cRet | apply cSkip | apply gThen | apply gBlock | apply eThen | apply eBlockHit | refine eBlock rfl ?_ | apply rThen | apply rBlock) | ((with_reducible apply cCond); first | refine cTrue hs rfl (by first | rfl | assumption | exact decide_eq_true (by omega) | exact decide_eq_false (by omega) | exact ndT (by omega) | exact ndF (by omega)) ?_ | refine cFalse hs rfl (by first | rfl | assumption | exact decide_eq_true (by omega) | exact decide_eq_false (by omega) | exact ndT (by omega) | exact ndF (by omega)) ?_))
      refine cMid (fun a w => ∃ g20, Sl Try.f7.ntmps [(13, .slice (some ⟨gj, 0, none⟩) 2 2), (15, .int .i64 tr), (16, .pointer (some ⟨g16, 0, none⟩)), (20, .pointer (some ⟨g20, 0, none⟩)), (6, .bool false), (8, .slice x.B x.n x.d), (9, .pointer (some ⟨g9, 0, none⟩)), (54, .slice (some ⟨g54, 0, none⟩) 3 3), (55, .int .i64 3), (56, .int .i64 (j : Int))] a ∧ Mm (fun _ => False) wC [⟨some g20, 24, [.int .u8 0, .int .u16 m]⟩, ⟨some g16, 24, [.int .u8 0, .int .u16 0]⟩] w) ?_ ?_
      · skip
        refine cDraw (n := 15) [] hm rfl rfl ?_
        clear hm
        intro w2 hm
        refine hTake 0 hs rfl (by kernel_rfl) (Wnt.none rfl) rfl rfl (by intro w hm; replace hm : Mm _ _ _ w := hm; ((with_reducible apply kLoad); first | exact r_load hs rfl rfl tab rfl rfl (by first | exact Ro.cl (by assumption) hm (by first | exact (fun t => t) | assumption) (by first | rfl | assumption) | exact Ro.cl0 (by assumption) hm (by first | exact (fun t => t) | assumption) (by first | rfl | assumption) | exact hm.cl (by repeat (first | exact mH | apply mT)) (by first | rfl | assumption)) | exact r_loadO hs rfl rfl tab rfl rfl rfl hm (by repeat (first | exact mH | apply mT)) (by rfl) | exact r_loadA hs rfl rfl tab rfl rfl (Ro.ro (by assumption) hm (by first | exact (fun t => t) | assumption)) rfl)) (hm.sub (List.nil_sublist _)) ?_; clear hs a; intro a hs
        refine hTake 1 hs rfl (by kernel_rfl) (Wnt.none rfl) rfl rfl (by intro w hm; replace hm : Mm _ _ _ w := hm; exact r_val hs tab rfl) (hm.sub (List.nil_sublist _)) ?_; clear hs a; intro a hs
        refine hTake 2 hs rfl (by kernel_rfl) (Wnt.none rfl) rfl rfl (by intro w hm; replace hm : Mm _ _ _ w := hm; exact r_val hs tab rfl) (hm.sub (List.nil_sublist _)) ?_; clear hs a; intro a hs
        refine hTake 3 hs rfl (by kernel_rfl) (Wnt.none rfl) rfl rfl (by intro w hm; replace hm : Mm _ _ _ w := hm; (first | exact r_iz hs tab rfl rfl (by omega) | exact r_iy hs tab rfl rfl (by omega))) (hm.sub (List.nil_sublist _)) ?_; clear hs a; intro a hs
        refine hTake 4 hs rfl (by kernel_rfl) (Wnt.none rfl) rfl rfl (by intro w hm; replace hm : Mm _ _ _ w := hm; ((with_reducible apply kLoad); first | exact r_load hs rfl rfl tab rfl rfl (by first | exact Ro.cl (by assumption) hm (by first | exact (fun t => t) | assumption) (by first | rfl | assumption) | exact Ro.cl0 (by assumption) hm (by first | exact (fun t => t) | assumption) (by first | rfl | assumption) | exact hm.cl (by repeat (first | exact mH | apply mT)) (by first | rfl | assumption)) | exact r_loadO hs rfl rfl tab rfl rfl rfl hm (by repeat (first | exact mH | apply mT)) (by rfl) | exact r_loadA hs rfl rfl tab rfl rfl (Ro.ro (by assumption) hm (by first | exact (fun t => t) | assumption)) rfl)) (hm.sub (List.nil_sublist _)) ?_; clear hs a; intro a hs
        refine hTake 5 hs rfl (by kernel_rfl) (Wnt.none rfl) rfl rfl (by intro w hm; replace hm : Mm _ _ _ w := hm; exact r_val hs tab rfl) (hm.sub (List.nil_sublist _)) ?_; clear hs a; intro a hs
        refine hTake 6 hs rfl (by kernel_rfl) (Wnt.none rfl) rfl rfl (by intro w hm; replace hm : Mm _ _ _ w := hm; (first | exact r_iz hs tab rfl rfl (by omega) | exact r_iy hs tab rfl rfl (by omega))) (hm.sub (List.nil_sublist _)) ?_; clear hs a; intro a hs
        refine hTake 7 hs rfl (by kernel_rfl) (Wnt.none rfl) rfl rfl (by intro w hm; replace hm : Mm _ _ _ w := hm; ((with_reducible apply kLoad); first | exact r_load hs rfl rfl tab rfl rfl (by first | exact Ro.cl (by assumption) hm (by first | exact (fun t => t) | assumption) (by first | rfl | assumption) | exact Ro.cl0 (by assumption) hm (by first | exact (fun t => t) | assumption) (by first | rfl | assumption) | exact hm.cl (by repeat (first | exact mH | apply mT)) (by first | rfl | assumption)) | exact r_loadO hs rfl rfl tab rfl rfl rfl hm (by repeat (first | exact mH | apply mT)) (by rfl) | exact r_loadA hs rfl rfl tab rfl rfl (Ro.ro (by assumption) hm (by first | exact (fun t => t) | assumption)) rfl)) (hm.sub (List.nil_sublist _)) ?_; clear hs a; intro a hs
        refine hEach [8, 12] (by kernel_rfl) (eDo hs rfl (Wnt.none rfl) rfl rfl (by exact d_call hs rfl rfl rfl (pl 13 rfl) ((c3 _ hm.fr))) ?_ (eDo hs rfl (Wnt.none rfl) rfl rfl (by exact d_alloc rfl tab rfl rfl hm) ?_ eNil))
        · skip
          clear hs
          rintro _ w1 ⟨rfl, hf⟩ a hs
          replace hm := hm.pu hf
          clear hf
          refine ⟨hm.sub (by repeat (first | exact List.Sublist.refl _ | exact List.nil_sublist _ | apply List.Sublist.cons_cons | apply List.Sublist.cons)), ?_⟩
          refine hTake 9 hs rfl (by kernel_rfl) (Wnt.none rfl) rfl rfl (by intro w hm; replace hm : Mm _ _ _ w := hm; exact r_val hs tab rfl) (hm.sub (List.nil_sublist _)) ?_; clear hs a; intro a hs
          refine hTake 10 hs rfl (by kernel_rfl) (Wnt.none rfl) rfl rfl (by intro w hm; replace hm : Mm _ _ _ w := hm; exact r_val hs tab rfl) (hm.sub (List.nil_sublist _)) ?_; clear hs a; intro a hs
          refine hTake 11 hs rfl (by kernel_rfl) (Wnt.none rfl) rfl rfl (by intro w hm; replace hm : Mm _ _ _ w := hm; exact r_val hs tab rfl) (hm.sub (List.nil_sublist _)) ?_; clear hs a; intro a hs
          refine hEach [12] (by kernel_rfl) (eDo hs rfl (Wnt.none rfl) rfl rfl (by exact d_alloc rfl tab rfl rfl hm) ?_ eNil)
          clear hs hm a
          rintro _ w32 ⟨g20, rfl, -, hm⟩ a hs
          refine ⟨hm.sub (by repeat (first | exact List.Sublist.refl _ | exact List.nil_sublist _ | apply List.Sublist.cons_cons | apply List.Sublist.cons)), ?_⟩
          refine hEach [13] (by kernel_rfl) (eDoN hs rfl (Wnt.none rfl) rfl (by exact d_store hs rfl rfl rfl tab rfl rfl rfl rfl hm (by repeat (first | exact Rep.head _ _ _ | apply Rep.tail)) rfl) ?_ eNil)
          clear hs hm
          rintro - w33 hm a hs
          refine ⟨hm.sub (by repeat (first | exact List.Sublist.refl _ | exact List.nil_sublist _ | apply List.Sublist.cons_cons | apply List.Sublist.cons)), ?_⟩
          refine hTake 14 hs rfl (by kernel_rfl) (Wnt.none rfl) rfl rfl (by intro w hm; replace hm : Mm _ _ _ w := hm; exact r_val hs tab rfl) (hm.sub (List.nil_sublist _)) ?_; clear hs a; intro a hs
          refine hDone (by kernel_rfl) ?_
          exact And.intro rfl ⟨g20, hs.sub (Has.all ⟨rfl, rfl, rfl, rfl, rfl, rfl, rfl, rfl, rfl, rfl, trivial⟩), hm.sel [0, 2] (by decide) rfl⟩
        · skip
          clear hs hm a
          rintro _ w32 ⟨g20, rfl, -, hm⟩ a hs
          refine ⟨hm.sub (by repeat (first | exact List.Sublist.refl _ | exact List.nil_sublist _ | apply List.Sublist.cons_cons | apply List.Sublist.cons)), ?_⟩
          refine hEach [8] (by kernel_rfl) (eDo hs rfl (Wnt.none rfl) rfl rfl (by exact d_call hs rfl rfl rfl (pl 13 rfl) ((c3 _ hm.fr))) ?_ eNil)
          clear hs
          rintro _ w1 ⟨rfl, hf⟩ a hs
          replace hm := hm.pu hf
          clear hf
          refine ⟨hm.sub (by repeat (first | exact List.Sublist.refl _ | exact List.nil_sublist _ | apply List.Sublist.cons_cons | apply List.Sublist.cons)), ?_⟩
          refine hTake 9 hs rfl (by kernel_rfl) (Wnt.none rfl) rfl rfl (by intro w hm; replace hm : Mm _ _ _ w := hm; exact r_val hs tab rfl) (hm.sub (List.nil_sublist _)) ?_; clear hs a; intro a hs
          refine hTake 10 hs rfl (by kernel_rfl) (Wnt.none rfl) rfl rfl (by intro w hm; replace hm : Mm _ _ _ w := hm; exact r_val hs tab rfl) (hm.sub (List.nil_sublist _)) ?_; clear hs a; intro a hs
          refine hTake 11 hs rfl (by kernel_rfl) (Wnt.none rfl) rfl rfl (by intro w hm; replace hm : Mm _ _ _ w := hm; exact r_val hs tab rfl) (hm.sub (List.nil_sublist _)) ?_; clear hs a; intro a hs
          refine hEach [13] (by kernel_rfl) (eDoN hs rfl (Wnt.none rfl) rfl (by exact d_store hs rfl rfl rfl tab rfl rfl rfl rfl hm (by repeat (first | exact Rep.head _ _ _ | apply Rep.tail)) rfl) ?_ eNil)
          clear hs hm
          rintro - w33 hm a hs
          refine ⟨hm.sub (by repeat (first | exact List.Sublist.refl _ | exact List.nil_sublist _ | apply List.Sublist.cons_cons | apply List.Sublist.cons)), ?_⟩
          refine hTake 14 hs rfl (by kernel_rfl) (Wnt.none rfl) rfl rfl (by intro w hm; replace hm : Mm _ _ _ w := hm; exact r_val hs tab rfl) (hm.sub (List.nil_sublist _)) ?_; clear hs a; intro a hs
          refine hDone (by kernel_rfl) ?_
          exact And.intro rfl ⟨g20, hs.sub (Has.all ⟨rfl, rfl, rfl, rfl, rfl, rfl, rfl, rfl, rfl, rfl, trivial⟩), hm.sel [0, 2] (by decide) rfl⟩
      clear hs hm a
      rintro a w ⟨g20, hs, hm⟩
      repeat (first | ((with_reducible refine toL hm ?_); (first | refine oneV hs (by first | exact Wnt.none rfl | exact Wnt.some rfl rfl rfl rfl) rfl rfl (by intro w hm; (first | exact r_val hs tab rfl | ((with_reducible apply kLoad); first | exact r_load hs rfl rfl tab rfl rfl (by first | exact Ro.cl (by assumption) hm (by first | exact (fun t => t) | assumption) (by first | rfl | assumption) | exact Ro.cl0 (by assumption) hm (by first | exact (fun t => t) | assumption) (by first | rfl | assumption) | exact hm.cl (by repeat (first | exact mH | apply mT)) (by first | rfl | assumption)) | exact r_loadO hs rfl rfl tab rfl rfl rfl hm (by repeat (first | exact mH | apply mT)) (by rfl) | exact r_loadA hs rfl rfl tab rfl rfl (Ro.ro (by assumption) hm (by first | exact (fun t => t) | assumption)) rfl) | exact r_iz hs tab rfl rfl (by omega) | exact r_iy hs tab rfl rfl (by omega) | exact r_cT hs rfl (by omega) | exact r_cF hs rfl (by omega) | exact r_arH hs rfl (by assumption) (by omega) | exact r_ar hs rfl (by omega) | exact r_remH hs rfl rfl rfl (by assumption) (by omega) (by omega) | exact r_rem64 hs rfl rfl rfl (by omega) (by omega) | exact r_rem hs rfl rfl rfl (by omega) | exact r_bi hs rfl | exact r_pick hs rfl rfl rfl rfl | exact r_neqSt (fl := [(true, 0, 5), (true, 1, 22)]) hs rfl rfl rfl tab (by kernel_rfl) (by kernel_rfl) (by kernel_rfl) (by kernel_rfl) rfl | exact r_eqlSt (fl := [(true, 0, 5), (true, 1, 22)]) hs rfl rfl rfl tab (by kernel_rfl) (by kernel_rfl) (by kernel_rfl) (by kernel_rfl) rfl)) ?_ | refine oneN hs rfl rfl rfl rfl rfl rfl rfl ?_ | refine oneU hs rfl rfl rfl rfl rfl rfl ?_); clear hs a; intro a hs) | ((with_reducible apply lCons); first | (refine dv hs (by first | exact Wnt.none rfl | exact Wnt.some rfl rfl rfl rfl) rfl rfl (by first | exact d_alloc rfl tab rfl rfl hm | exact d_box hs rfl rfl rfl hm | exact d_buildSlice0 rfl tab rfl rfl rfl hm | exact d_buildSlice hs rfl tab rfl rfl rfl rfl rfl rfl rfl rfl rfl hm) ?_; clear hs hm a; rintro _ w ⟨g, rfl, -, hm⟩ a hs) | (refine stn hs rfl rfl (by first | exact d_store hs rfl rfl rfl tab rfl rfl rfl rfl hm (by repeat (first | exact Rep.head _ _ _ | apply Rep.tail)) (by rfl) | exact d_store1 hs rfl rfl rfl tab rfl rfl rfl rfl hm (by repeat (first | exact Rep.head _ _ _ | apply Rep.tail)) (by first | omega | assumption | (simp; omega))) ?_; clear hs hm a; rintro - w hm a hs) ) | (with_reducible first | apply lNilThen | apply lNilBlock | apply lNil | apply wp_seq | apply wp_region_lit | apply wp_block | apply cExit | apply cRet | apply cSkip | apply gThen | apply gBlock | apply eThen | apply eBlockHit | refine eBlock rfl ?_ | apply rThen | apply rBlock) | ((with_reducible apply cCond); first | refine cTrue hs rfl (by first | rfl | assumption | exact decide_eq_true (by omega) | exact decide_eq_false (by omega) | exact ndT (by omega) | exact ndF (by omega)) ?_ | refine cFalse hs rfl (by first | rfl | assumption | exact decide_eq_true (by omega) | exact decide_eq_false (by omega) | exact ndT (by omega) | exact ndF (by omega)) ?_))
      refine cMid (fun a w => ∃ g21, Sl Try.f7.ntmps [(13, .slice (some ⟨gj, 0, none⟩) 2 2), (15, .int .i64 tr), (16, .pointer (some ⟨g16, 0, none⟩)), (17, .int .i64 tr), (20, .pointer (some ⟨g20, 0, none⟩)), (21, .pointer (some ⟨g21, 0, none⟩)), (6, .bool false), (8, .slice x.B x.n x.d), (9, .pointer (some ⟨g9, 0, none⟩)), (54, .slice (some ⟨g54, 0, none⟩) 3 3), (55, .int .i64 3), (56, .int .i64 (j : Int))] a ∧ Mm (fun _ => False) wC [⟨some g21, 24, [.int .u8 0, .int .u16 k]⟩, ⟨some g20, 24, [.int .u8 0, .int .u16 m]⟩, ⟨some g16, 24, [.int .u8 0, .int .u16 0]⟩] w) ?_ ?_
      · skip
        refine cDraw (n := 15) [] hm rfl rfl ?_
        clear hm
        intro w2 hm
        refine hTake 0 hs rfl (by kernel_rfl) (Wnt.none rfl) rfl rfl (by intro w hm; replace hm : Mm _ _ _ w := hm; ((with_reducible apply kLoad); first | exact r_load hs rfl rfl tab rfl rfl (by first | exact Ro.cl (by assumption) hm (by first | exact (fun t => t) | assumption) (by first | rfl | assumption) | exact Ro.cl0 (by assumption) hm (by first | exact (fun t => t) | assumption) (by first | rfl | assumption) | exact hm.cl (by repeat (first | exact mH | apply mT)) (by first | rfl | assumption)) | exact r_loadO hs rfl rfl tab rfl rfl rfl hm (by repeat (first | exact mH | apply mT)) (by rfl) | exact r_loadA hs rfl rfl tab rfl rfl (Ro.ro (by assumption) hm (by first | exact (fun t => t) | assumption)) rfl)) (hm.sub (List.nil_sublist _)) ?_; clear hs a; intro a hs
        refine hTake 1 hs rfl (by kernel_rfl) (Wnt.none rfl) rfl rfl (by intro w hm; replace hm : Mm _ _ _ w := hm; exact r_val hs tab rfl) (hm.sub (List.nil_sublist _)) ?_; clear hs a; intro a hs
        refine hTake 2 hs rfl (by kernel_rfl) (Wnt.none rfl) rfl rfl (by intro w hm; replace hm : Mm _ _ _ w := hm; exact r_val hs tab rfl) (hm.sub (List.nil_sublist _)) ?_; clear hs a; intro a hs
        refine hTake 3 hs rfl (by kernel_rfl) (Wnt.none rfl) rfl rfl (by intro w hm; replace hm : Mm _ _ _ w := hm; (first | exact r_iz hs tab rfl rfl (by omega) | exact r_iy hs tab rfl rfl (by omega))) (hm.sub (List.nil_sublist _)) ?_; clear hs a; intro a hs
        refine hTake 4 hs rfl (by kernel_rfl) (Wnt.none rfl) rfl rfl (by intro w hm; replace hm : Mm _ _ _ w := hm; ((with_reducible apply kLoad); first | exact r_load hs rfl rfl tab rfl rfl (by first | exact Ro.cl (by assumption) hm (by first | exact (fun t => t) | assumption) (by first | rfl | assumption) | exact Ro.cl0 (by assumption) hm (by first | exact (fun t => t) | assumption) (by first | rfl | assumption) | exact hm.cl (by repeat (first | exact mH | apply mT)) (by first | rfl | assumption)) | exact r_loadO hs rfl rfl tab rfl rfl rfl hm (by repeat (first | exact mH | apply mT)) (by rfl) | exact r_loadA hs rfl rfl tab rfl rfl (Ro.ro (by assumption) hm (by first | exact (fun t => t) | assumption)) rfl)) (hm.sub (List.nil_sublist _)) ?_; clear hs a; intro a hs
        refine hTake 5 hs rfl (by kernel_rfl) (Wnt.none rfl) rfl rfl (by intro w hm; replace hm : Mm _ _ _ w := hm; exact r_val hs tab rfl) (hm.sub (List.nil_sublist _)) ?_; clear hs a; intro a hs
        refine hTake 6 hs rfl (by kernel_rfl) (Wnt.none rfl) rfl rfl (by intro w hm; replace hm : Mm _ _ _ w := hm; (first | exact r_iz hs tab rfl rfl (by omega) | exact r_iy hs tab rfl rfl (by omega))) (hm.sub (List.nil_sublist _)) ?_; clear hs a; intro a hs
        refine hTake 7 hs rfl (by kernel_rfl) (Wnt.none rfl) rfl rfl (by intro w hm; replace hm : Mm _ _ _ w := hm; ((with_reducible apply kLoad); first | exact r_load hs rfl rfl tab rfl rfl (by first | exact Ro.cl (by assumption) hm (by first | exact (fun t => t) | assumption) (by first | rfl | assumption) | exact Ro.cl0 (by assumption) hm (by first | exact (fun t => t) | assumption) (by first | rfl | assumption) | exact hm.cl (by repeat (first | exact mH | apply mT)) (by first | rfl | assumption)) | exact r_loadO hs rfl rfl tab rfl rfl rfl hm (by repeat (first | exact mH | apply mT)) (by rfl) | exact r_loadA hs rfl rfl tab rfl rfl (Ro.ro (by assumption) hm (by first | exact (fun t => t) | assumption)) rfl)) (hm.sub (List.nil_sublist _)) ?_; clear hs a; intro a hs
        refine hEach [8, 12] (by kernel_rfl) (eDo hs rfl (Wnt.none rfl) rfl rfl (by exact d_call hs rfl rfl rfl (pl 13 rfl) ((c4 _ hm.fr))) ?_ (eDo hs rfl (Wnt.none rfl) rfl rfl (by exact d_alloc rfl tab rfl rfl hm) ?_ eNil))
        · skip
          clear hs
          rintro _ w1 ⟨rfl, hf⟩ a hs
          replace hm := hm.pu hf
          clear hf
          refine ⟨hm.sub (by repeat (first | exact List.Sublist.refl _ | exact List.nil_sublist _ | apply List.Sublist.cons_cons | apply List.Sublist.cons)), ?_⟩
          refine hTake 9 hs rfl (by kernel_rfl) (Wnt.none rfl) rfl rfl (by intro w hm; replace hm : Mm _ _ _ w := hm; exact r_val hs tab rfl) (hm.sub (List.nil_sublist _)) ?_; clear hs a; intro a hs
          refine hTake 10 hs rfl (by kernel_rfl) (Wnt.none rfl) rfl rfl (by intro w hm; replace hm : Mm _ _ _ w := hm; exact r_val hs tab rfl) (hm.sub (List.nil_sublist _)) ?_; clear hs a; intro a hs
          refine hTake 11 hs rfl (by kernel_rfl) (Wnt.none rfl) rfl rfl (by intro w hm; replace hm : Mm _ _ _ w := hm; exact r_val hs tab rfl) (hm.sub (List.nil_sublist _)) ?_; clear hs a; intro a hs
          refine hEach [12] (by kernel_rfl) (eDo hs rfl (Wnt.none rfl) rfl rfl (by exact d_alloc rfl tab rfl rfl hm) ?_ eNil)
          clear hs hm a
          rintro _ w32 ⟨g21, rfl, -, hm⟩ a hs
          refine ⟨hm.sub (by repeat (first | exact List.Sublist.refl _ | exact List.nil_sublist _ | apply List.Sublist.cons_cons | apply List.Sublist.cons)), ?_⟩
          refine hEach [13] (by kernel_rfl) (eDoN hs rfl (Wnt.none rfl) rfl (by exact d_store hs rfl rfl rfl tab rfl rfl rfl rfl hm (by repeat (first | exact Rep.head _ _ _ | apply Rep.tail)) rfl) ?_ eNil)
          clear hs hm
          rintro - w33 hm a hs
          refine ⟨hm.sub (by repeat (first | exact List.Sublist.refl _ | exact List.nil_sublist _ | apply List.Sublist.cons_cons | apply List.Sublist.cons)), ?_⟩
          refine hTake 14 hs rfl (by kernel_rfl) (Wnt.none rfl) rfl rfl (by intro w hm; replace hm : Mm _ _ _ w := hm; exact r_val hs tab rfl) (hm.sub (List.nil_sublist _)) ?_; clear hs a; intro a hs
          refine hDone (by kernel_rfl) ?_
          exact And.intro rfl ⟨g21, hs.sub (Has.all ⟨rfl, rfl, rfl, rfl, rfl, rfl, rfl, rfl, rfl, rfl, rfl, rfl, trivial⟩), hm⟩
        · skip
          clear hs hm a
          rintro _ w32 ⟨g21, rfl, -, hm⟩ a hs
          refine ⟨hm.sub (by repeat (first | exact List.Sublist.refl _ | exact List.nil_sublist _ | apply List.Sublist.cons_cons | apply List.Sublist.cons)), ?_⟩
          refine hEach [8] (by kernel_rfl) (eDo hs rfl (Wnt.none rfl) rfl rfl (by exact d_call hs rfl rfl rfl (pl 13 rfl) ((c4 _ hm.fr))) ?_ eNil)
          clear hs
          rintro _ w1 ⟨rfl, hf⟩ a hs
          replace hm := hm.pu hf
          clear hf
          refine ⟨hm.sub (by repeat (first | exact List.Sublist.refl _ | exact List.nil_sublist _ | apply List.Sublist.cons_cons | apply List.Sublist.cons)), ?_⟩
          refine hTake 9 hs rfl (by kernel_rfl) (Wnt.none rfl) rfl rfl (by intro w hm; replace hm : Mm _ _ _ w := hm; exact r_val hs tab rfl) (hm.sub (List.nil_sublist _)) ?_; clear hs a; intro a hs
          refine hTake 10 hs rfl (by kernel_rfl) (Wnt.none rfl) rfl rfl (by intro w hm; replace hm : Mm _ _ _ w := hm; exact r_val hs tab rfl) (hm.sub (List.nil_sublist _)) ?_; clear hs a; intro a hs
          refine hTake 11 hs rfl (by kernel_rfl) (Wnt.none rfl) rfl rfl (by intro w hm; replace hm : Mm _ _ _ w := hm; exact r_val hs tab rfl) (hm.sub (List.nil_sublist _)) ?_; clear hs a; intro a hs
          refine hEach [13] (by kernel_rfl) (eDoN hs rfl (Wnt.none rfl) rfl (by exact d_store hs rfl rfl rfl tab rfl rfl rfl rfl hm (by repeat (first | exact Rep.head _ _ _ | apply Rep.tail)) rfl) ?_ eNil)
          clear hs hm
          rintro - w33 hm a hs
          refine ⟨hm.sub (by repeat (first | exact List.Sublist.refl _ | exact List.nil_sublist _ | apply List.Sublist.cons_cons | apply List.Sublist.cons)), ?_⟩
          refine hTake 14 hs rfl (by kernel_rfl) (Wnt.none rfl) rfl rfl (by intro w hm; replace hm : Mm _ _ _ w := hm; exact r_val hs tab rfl) (hm.sub (List.nil_sublist _)) ?_; clear hs a; intro a hs
          refine hDone (by kernel_rfl) ?_
          exact And.intro rfl ⟨g21, hs.sub (Has.all ⟨rfl, rfl, rfl, rfl, rfl, rfl, rfl, rfl, rfl, rfl, rfl, rfl, trivial⟩), hm⟩
      clear hs hm a
      rintro a w ⟨g21, hs, hm⟩
      repeat (first | ((with_reducible refine toL hm ?_); (first | refine oneV hs (by first | exact Wnt.none rfl | exact Wnt.some rfl rfl rfl rfl) rfl rfl (by intro w hm; (first | exact r_val hs tab rfl | ((with_reducible apply kLoad); first | exact r_load hs rfl rfl tab rfl rfl (by first | exact Ro.cl (by assumption) hm (by first | exact (fun t => t) | assumption) (by first | rfl | assumption) | exact Ro.cl0 (by assumption) hm (by first | exact (fun t => t) | assumption) (by first | rfl | assumption) | exact hm.cl (by repeat (first | exact mH | apply mT)) (by first | rfl | assumption)) | exact r_loadO hs rfl rfl tab rfl rfl rfl hm (by repeat (first | exact mH | apply mT)) (by rfl) | exact r_loadA hs rfl rfl tab rfl rfl (Ro.ro (by assumption) hm (by first | exact (fun t => t) | assumption)) rfl) | exact r_iz hs tab rfl rfl (by omega) | exact r_iy hs tab rfl rfl (by omega) | exact r_cT hs rfl (by omega) | exact r_cF hs rfl (by omega) | exact r_arH hs rfl (by assumption) (by omega) | exact r_ar hs rfl (by omega) | exact r_remH hs rfl rfl rfl (by assumption) (by omega) (by omega) | exact r_rem64 hs rfl rfl rfl (by omega) (by omega) | exact r_rem hs rfl rfl rfl (by omega) | exact r_bi hs rfl | exact r_pick hs rfl rfl rfl rfl | exact r_neqSt (fl := [(true, 0, 5), (true, 1, 22)]) hs rfl rfl rfl tab (by kernel_rfl) (by kernel_rfl) (by kernel_rfl) (by kernel_rfl) rfl | exact r_eqlSt (fl := [(true, 0, 5), (true, 1, 22)]) hs rfl rfl rfl tab (by kernel_rfl) (by kernel_rfl) (by kernel_rfl) (by kernel_rfl) rfl)) ?_ | refine oneN hs rfl rfl rfl rfl rfl rfl rfl ?_ | refine oneU hs rfl rfl rfl rfl rfl rfl ?_); clear hs a; intro a hs) | ((with_reducible apply lCons); first | (refine dv hs (by first | exact Wnt.none rfl | exact Wnt.some rfl rfl rfl rfl) rfl rfl (by first | exact d_alloc rfl tab rfl rfl hm | exact d_box hs rfl rfl rfl hm | exact d_buildSlice0 rfl tab rfl rfl rfl hm | exact d_buildSlice hs rfl tab rfl rfl rfl rfl rfl rfl rfl rfl rfl hm) ?_; clear hs hm a; rintro _ w ⟨g, rfl, -, hm⟩ a hs) | (refine stn hs rfl rfl (by first | exact d_store hs rfl rfl rfl tab rfl rfl rfl rfl hm (by repeat (first | exact Rep.head _ _ _ | apply Rep.tail)) (by rfl) | exact d_store1 hs rfl rfl rfl tab rfl rfl rfl rfl hm (by repeat (first | exact Rep.head _ _ _ | apply Rep.tail)) (by first | omega | assumption | (simp; omega))) ?_; clear hs hm a; rintro - w hm a hs) ) | (with_reducible first | apply lNilThen | apply lNilBlock | apply lNil | apply wp_seq | apply wp_region_lit | apply wp_block | apply cExit | apply cRet | apply cSkip | apply gThen | apply gBlock | apply eThen | apply eBlockHit | refine eBlock rfl ?_ | apply rThen | apply rBlock) | ((with_reducible apply cCond); first | refine cTrue hs rfl (by first | rfl | assumption | exact decide_eq_true (by omega) | exact decide_eq_false (by omega) | exact ndT (by omega) | exact ndF (by omega)) ?_ | refine cFalse hs rfl (by first | rfl | assumption | exact decide_eq_true (by omega) | exact decide_eq_false (by omega) | exact ndT (by omega) | exact ndF (by omega)) ?_))
      exact ⟨j + 1, by omega, hs.sub (Has.all ⟨rfl, rfl, rfl, rfl, rfl, rfl, trivial⟩), hm.sub (List.nil_sublist _), by omega⟩
    · skip
      replace hJB : ((t == s) && ((v == u) && true)) = true := hJB
      repeat (first | ((with_reducible first | refine toL hm ?_ | refine toQ ?_); (first | refine oneV hs (by first | exact Wnt.none rfl | exact Wnt.some rfl rfl rfl rfl) rfl rfl (by intro w hm; (first | exact r_val hs tab rfl | ((with_reducible apply kLoad); first | exact r_load hs rfl rfl tab rfl rfl (by first | exact Ro.cl (by assumption) hm (by first | exact (fun t => t) | assumption) (by first | rfl | assumption) | exact Ro.cl0 (by assumption) hm (by first | exact (fun t => t) | assumption) (by first | rfl | assumption) | exact hm.cl (by repeat (first | exact mH | apply mT)) (by first | rfl | assumption)) | exact r_loadO hs rfl rfl tab rfl rfl rfl hm (by repeat (first | exact mH | apply mT)) (by rfl) | exact r_loadA hs rfl rfl tab rfl rfl (Ro.ro (by assumption) hm (by first | exact (fun t => t) | assumption)) rfl) | exact r_iz hs tab rfl rfl (by omega) | exact r_iy hs tab rfl rfl (by omega) | exact r_cT hs rfl (by omega) | exact r_cF hs rfl (by omega) | exact r_arH hs rfl (by assumption) (by omega) | exact r_ar hs rfl (by omega) | exact r_remH hs rfl rfl rfl (by assumption) (by omega) (by omega) | exact r_rem64 hs rfl rfl rfl (by omega) (by omega) | exact r_rem hs rfl rfl rfl (by omega) | exact r_bi hs rfl | exact r_pick hs rfl rfl rfl rfl | exact r_neqSt (fl := [(true, 0, 5), (true, 1, 22)]) hs rfl rfl rfl tab (by kernel_rfl) (by kernel_rfl) (by kernel_rfl) (by kernel_rfl) rfl | exact r_eqlSt (fl := [(true, 0, 5), (true, 1, 22)]) hs rfl rfl rfl tab (by kernel_rfl) (by kernel_rfl) (by kernel_rfl) (by kernel_rfl) rfl)) ?_ | refine oneN hs rfl rfl rfl rfl rfl rfl rfl ?_ | refine oneU hs rfl rfl rfl rfl rfl rfl ?_); clear hs a; intro a hs) | ((with_reducible apply lCons); first | (refine dv hs (by first | exact Wnt.none rfl | exact Wnt.some rfl rfl rfl rfl) rfl rfl (by first | exact d_alloc rfl tab rfl rfl hm | exact d_box hs rfl rfl rfl hm | exact d_buildSlice0 rfl tab rfl rfl rfl hm | exact d_buildSlice hs rfl tab rfl rfl rfl rfl rfl rfl rfl rfl rfl hm) ?_; clear hs hm a; rintro _ w ⟨g, rfl, -, hm⟩ a hs) | (refine stn hs rfl rfl (by first | exact d_store hs rfl rfl rfl tab rfl rfl rfl rfl hm (by repeat (first | exact Rep.head _ _ _ | apply Rep.tail)) (by rfl) | exact d_store1 hs rfl rfl rfl tab rfl rfl rfl rfl hm (by repeat (first | exact Rep.head _ _ _ | apply Rep.tail)) (by first | omega | assumption | (simp; omega))) ?_; clear hs hm a; rintro - w hm a hs) ) | ((with_reducible apply qNil); clear hm; intro w hm) | ((with_reducible refine cQuiet hm ?_ ?_ ?_ ?_); rfl; kernel_rfl; kernel_rfl) | (with_reducible first | apply lNilThen | apply lNilBlock | apply lNil | apply wp_seq | apply wp_region_lit | apply wp_block | apply cExit | apply cRet | apply cSkip | apply gThen | apply gBlock | apply eThen | apply eBlockHit | refine eBlock rfl ?_ | apply rThen | apply rBlock) | ((with_reducible apply cCond); first | refine cTrue hs rfl (by first | rfl | assumption | exact decide_eq_true (by omega) | exact decide_eq_false (by omega) | exact ndT (by omega) | exact ndF (by omega)) ?_ | refine cFalse hs rfl (by first | rfl | assumption | exact decide_eq_true (by omega) | exact decide_eq_false (by omega) | exact ndT (by omega) | exact ndF (by omega)) ?_))
      rw [hJB] at hs
      repeat (first | ((with_reducible first | refine toL hm ?_ | refine toQ ?_); (first | refine oneV hs (by first | exact Wnt.none rfl | exact Wnt.some rfl rfl rfl rfl) rfl rfl (by intro w hm; (first | exact r_val hs tab rfl | ((with_reducible apply kLoad); first | exact r_load hs rfl rfl tab rfl rfl (by first | exact Ro.cl (by assumption) hm (by first | exact (fun t => t) | assumption) (by first | rfl | assumption) | exact Ro.cl0 (by assumption) hm (by first | exact (fun t => t) | assumption) (by first | rfl | assumption) | exact hm.cl (by repeat (first | exact mH | apply mT)) (by first | rfl | assumption)) | exact r_loadO hs rfl rfl tab rfl rfl rfl hm (by repeat (first | exact mH | apply mT)) (by rfl) | exact r_loadA hs rfl rfl tab rfl rfl (Ro.ro (by assumption) hm (by first | exact (fun t => t) | assumption)) rfl) | exact r_iz hs tab rfl rfl (by omega) | exact r_iy hs tab rfl rfl (by omega) | exact r_cT hs rfl (by omega) | exact r_cF hs rfl (by omega) | exact r_arH hs rfl (by assumption) (by omega) | exact r_ar hs rfl (by omega) | exact r_remH hs rfl rfl rfl (by assumption) (by omega) (by omega) | exact r_rem64 hs rfl rfl rfl (by omega) (by omega) | exact r_rem hs rfl rfl rfl (by omega) | exact r_bi hs rfl | exact r_pick hs rfl rfl rfl rfl | exact r_neqSt (fl := [(true, 0, 5), (true, 1, 22)]) hs rfl rfl rfl tab (by kernel_rfl) (by kernel_rfl) (by kernel_rfl) (by kernel_rfl) rfl | exact r_eqlSt (fl := [(true, 0, 5), (true, 1, 22)]) hs rfl rfl rfl tab (by kernel_rfl) (by kernel_rfl) (by kernel_rfl) (by kernel_rfl) rfl)) ?_ | refine oneN hs rfl rfl rfl rfl rfl rfl rfl ?_ | refine oneU hs rfl rfl rfl rfl rfl rfl ?_); clear hs a; intro a hs) | ((with_reducible apply lCons); first | (refine dv hs (by first | exact Wnt.none rfl | exact Wnt.some rfl rfl rfl rfl) rfl rfl (by first | exact d_alloc rfl tab rfl rfl hm | exact d_box hs rfl rfl rfl hm | exact d_buildSlice0 rfl tab rfl rfl rfl hm | exact d_buildSlice hs rfl tab rfl rfl rfl rfl rfl rfl rfl rfl rfl hm) ?_; clear hs hm a; rintro _ w ⟨g, rfl, -, hm⟩ a hs) | (refine stn hs rfl rfl (by first | exact d_store hs rfl rfl rfl tab rfl rfl rfl rfl hm (by repeat (first | exact Rep.head _ _ _ | apply Rep.tail)) (by rfl) | exact d_store1 hs rfl rfl rfl tab rfl rfl rfl rfl hm (by repeat (first | exact Rep.head _ _ _ | apply Rep.tail)) (by first | omega | assumption | (simp; omega))) ?_; clear hs hm a; rintro - w hm a hs) ) | ((with_reducible apply qNil); clear hm; intro w hm) | ((with_reducible refine cQuiet hm ?_ ?_ ?_ ?_); rfl; kernel_rfl; kernel_rfl) | (with_reducible first | apply lNilThen | apply lNilBlock | apply lNil | apply wp_seq | apply wp_region_lit | apply wp_block | apply cExit | apply cRet | apply cSkip | apply gThen | apply gBlock | apply eThen | apply eBlockHit | refine eBlock rfl ?_ | apply rThen | apply rBlock) | ((with_reducible apply cCond); first | refine cTrue hs rfl (by first | rfl | assumption | exact decide_eq_true (by omega) | exact decide_eq_false (by omega) | exact ndT (by omega) | exact ndF (by omega)) ?_ | refine cFalse hs rfl (by first | rfl | assumption | exact decide_eq_true (by omega) | exact decide_eq_false (by omega) | exact ndT (by omega) | exact ndF (by omega)) ?_))
      refine cMid (fun a w => ∃ g20, Sl Try.f7.ntmps [(13, .slice (some ⟨gj, 0, none⟩) 2 2), (15, .int .i64 tr), (16, .pointer (some ⟨g16, 0, none⟩)), (20, .pointer (some ⟨g20, 0, none⟩)), (6, .bool false), (8, .slice x.B x.n x.d), (9, .pointer (some ⟨g9, 0, none⟩)), (54, .slice (some ⟨g54, 0, none⟩) 3 3), (55, .int .i64 3), (56, .int .i64 (j : Int))] a ∧ Mm (fun _ => False) wC [⟨some g20, 24, [.int .u8 0, .int .u16 m]⟩, ⟨some g16, 24, [.int .u8 0, .int .u16 1]⟩] w) ?_ ?_
      · skip
        refine cDraw (n := 15) [] hm rfl rfl ?_
        clear hm
        intro w2 hm
        refine hTake 0 hs rfl (by kernel_rfl) (Wnt.none rfl) rfl rfl (by intro w hm; replace hm : Mm _ _ _ w := hm; ((with_reducible apply kLoad); first | exact r_load hs rfl rfl tab rfl rfl (by first | exact Ro.cl (by assumption) hm (by first | exact (fun t => t) | assumption) (by first | rfl | assumption) | exact Ro.cl0 (by assumption) hm (by first | exact (fun t => t) | assumption) (by first | rfl | assumption) | exact hm.cl (by repeat (first | exact mH | apply mT)) (by first | rfl | assumption)) | exact r_loadO hs rfl rfl tab rfl rfl rfl hm (by repeat (first | exact mH | apply mT)) (by rfl) | exact r_loadA hs rfl rfl tab rfl rfl (Ro.ro (by assumption) hm (by first | exact (fun t => t) | assumption)) rfl)) (hm.sub (List.nil_sublist _)) ?_; clear hs a; intro a hs
        refine hTake 1 hs rfl (by kernel_rfl) (Wnt.none rfl) rfl rfl (by intro w hm; replace hm : Mm _ _ _ w := hm; exact r_val hs tab rfl) (hm.sub (List.nil_sublist _)) ?_; clear hs a; intro a hs
        refine hTake 2 hs rfl (by kernel_rfl) (Wnt.none rfl) rfl rfl (by intro w hm; replace hm : Mm _ _ _ w := hm; exact r_val hs tab rfl) (hm.sub (List.nil_sublist _)) ?_; clear hs a; intro a hs
        refine hTake 3 hs rfl (by kernel_rfl) (Wnt.none rfl) rfl rfl (by intro w hm; replace hm : Mm _ _ _ w := hm; (first | exact r_iz hs tab rfl rfl (by omega) | exact r_iy hs tab rfl rfl (by omega))) (hm.sub (List.nil_sublist _)) ?_; clear hs a; intro a hs
        refine hTake 4 hs rfl (by kernel_rfl) (Wnt.none rfl) rfl rfl (by intro w hm; replace hm : Mm _ _ _ w := hm; ((with_reducible apply kLoad); first | exact r_load hs rfl rfl tab rfl rfl (by first | exact Ro.cl (by assumption) hm (by first | exact (fun t => t) | assumption) (by first | rfl | assumption) | exact Ro.cl0 (by assumption) hm (by first | exact (fun t => t) | assumption) (by first | rfl | assumption) | exact hm.cl (by repeat (first | exact mH | apply mT)) (by first | rfl | assumption)) | exact r_loadO hs rfl rfl tab rfl rfl rfl hm (by repeat (first | exact mH | apply mT)) (by rfl) | exact r_loadA hs rfl rfl tab rfl rfl (Ro.ro (by assumption) hm (by first | exact (fun t => t) | assumption)) rfl)) (hm.sub (List.nil_sublist _)) ?_; clear hs a; intro a hs
        refine hTake 5 hs rfl (by kernel_rfl) (Wnt.none rfl) rfl rfl (by intro w hm; replace hm : Mm _ _ _ w := hm; exact r_val hs tab rfl) (hm.sub (List.nil_sublist _)) ?_; clear hs a; intro a hs
        refine hTake 6 hs rfl (by kernel_rfl) (Wnt.none rfl) rfl rfl (by intro w hm; replace hm : Mm _ _ _ w := hm; (first | exact r_iz hs tab rfl rfl (by omega) | exact r_iy hs tab rfl rfl (by omega))) (hm.sub (List.nil_sublist _)) ?_; clear hs a; intro a hs
        refine hTake 7 hs rfl (by kernel_rfl) (Wnt.none rfl) rfl rfl (by intro w hm; replace hm : Mm _ _ _ w := hm; ((with_reducible apply kLoad); first | exact r_load hs rfl rfl tab rfl rfl (by first | exact Ro.cl (by assumption) hm (by first | exact (fun t => t) | assumption) (by first | rfl | assumption) | exact Ro.cl0 (by assumption) hm (by first | exact (fun t => t) | assumption) (by first | rfl | assumption) | exact hm.cl (by repeat (first | exact mH | apply mT)) (by first | rfl | assumption)) | exact r_loadO hs rfl rfl tab rfl rfl rfl hm (by repeat (first | exact mH | apply mT)) (by rfl) | exact r_loadA hs rfl rfl tab rfl rfl (Ro.ro (by assumption) hm (by first | exact (fun t => t) | assumption)) rfl)) (hm.sub (List.nil_sublist _)) ?_; clear hs a; intro a hs
        refine hEach [8, 12] (by kernel_rfl) (eDo hs rfl (Wnt.none rfl) rfl rfl (by exact d_call hs rfl rfl rfl (pl 13 rfl) ((c3 _ hm.fr))) ?_ (eDo hs rfl (Wnt.none rfl) rfl rfl (by exact d_alloc rfl tab rfl rfl hm) ?_ eNil))
        · skip
          clear hs
          rintro _ w1 ⟨rfl, hf⟩ a hs
          replace hm := hm.pu hf
          clear hf
          refine ⟨hm.sub (by repeat (first | exact List.Sublist.refl _ | exact List.nil_sublist _ | apply List.Sublist.cons_cons | apply List.Sublist.cons)), ?_⟩
          refine hTake 9 hs rfl (by kernel_rfl) (Wnt.none rfl) rfl rfl (by intro w hm; replace hm : Mm _ _ _ w := hm; exact r_val hs tab rfl) (hm.sub (List.nil_sublist _)) ?_; clear hs a; intro a hs
          refine hTake 10 hs rfl (by kernel_rfl) (Wnt.none rfl) rfl rfl (by intro w hm; replace hm : Mm _ _ _ w := hm; exact r_val hs tab rfl) (hm.sub (List.nil_sublist _)) ?_; clear hs a; intro a hs
          refine hTake 11 hs rfl (by kernel_rfl) (Wnt.none rfl) rfl rfl (by intro w hm; replace hm : Mm _ _ _ w := hm; exact r_val hs tab rfl) (hm.sub (List.nil_sublist _)) ?_; clear hs a; intro a hs
          refine hEach [12] (by kernel_rfl) (eDo hs rfl (Wnt.none rfl) rfl rfl (by exact d_alloc rfl tab rfl rfl hm) ?_ eNil)
          clear hs hm a
          rintro _ w32 ⟨g20, rfl, -, hm⟩ a hs
          refine ⟨hm.sub (by repeat (first | exact List.Sublist.refl _ | exact List.nil_sublist _ | apply List.Sublist.cons_cons | apply List.Sublist.cons)), ?_⟩
          refine hEach [13] (by kernel_rfl) (eDoN hs rfl (Wnt.none rfl) rfl (by exact d_store hs rfl rfl rfl tab rfl rfl rfl rfl hm (by repeat (first | exact Rep.head _ _ _ | apply Rep.tail)) rfl) ?_ eNil)
          clear hs hm
          rintro - w33 hm a hs
          refine ⟨hm.sub (by repeat (first | exact List.Sublist.refl _ | exact List.nil_sublist _ | apply List.Sublist.cons_cons | apply List.Sublist.cons)), ?_⟩
          refine hTake 14 hs rfl (by kernel_rfl) (Wnt.none rfl) rfl rfl (by intro w hm; replace hm : Mm _ _ _ w := hm; exact r_val hs tab rfl) (hm.sub (List.nil_sublist _)) ?_; clear hs a; intro a hs
          refine hDone (by kernel_rfl) ?_
          exact And.intro rfl ⟨g20, hs.sub (Has.all ⟨rfl, rfl, rfl, rfl, rfl, rfl, rfl, rfl, rfl, rfl, trivial⟩), hm.sel [0, 2] (by decide) rfl⟩
        · skip
          clear hs hm a
          rintro _ w32 ⟨g20, rfl, -, hm⟩ a hs
          refine ⟨hm.sub (by repeat (first | exact List.Sublist.refl _ | exact List.nil_sublist _ | apply List.Sublist.cons_cons | apply List.Sublist.cons)), ?_⟩
          refine hEach [8] (by kernel_rfl) (eDo hs rfl (Wnt.none rfl) rfl rfl (by exact d_call hs rfl rfl rfl (pl 13 rfl) ((c3 _ hm.fr))) ?_ eNil)
          clear hs
          rintro _ w1 ⟨rfl, hf⟩ a hs
          replace hm := hm.pu hf
          clear hf
          refine ⟨hm.sub (by repeat (first | exact List.Sublist.refl _ | exact List.nil_sublist _ | apply List.Sublist.cons_cons | apply List.Sublist.cons)), ?_⟩
          refine hTake 9 hs rfl (by kernel_rfl) (Wnt.none rfl) rfl rfl (by intro w hm; replace hm : Mm _ _ _ w := hm; exact r_val hs tab rfl) (hm.sub (List.nil_sublist _)) ?_; clear hs a; intro a hs
          refine hTake 10 hs rfl (by kernel_rfl) (Wnt.none rfl) rfl rfl (by intro w hm; replace hm : Mm _ _ _ w := hm; exact r_val hs tab rfl) (hm.sub (List.nil_sublist _)) ?_; clear hs a; intro a hs
          refine hTake 11 hs rfl (by kernel_rfl) (Wnt.none rfl) rfl rfl (by intro w hm; replace hm : Mm _ _ _ w := hm; exact r_val hs tab rfl) (hm.sub (List.nil_sublist _)) ?_; clear hs a; intro a hs
          refine hEach [13] (by kernel_rfl) (eDoN hs rfl (Wnt.none rfl) rfl (by exact d_store hs rfl rfl rfl tab rfl rfl rfl rfl hm (by repeat (first | exact Rep.head _ _ _ | apply Rep.tail)) rfl) ?_ eNil)
          clear hs hm
          rintro - w33 hm a hs
          refine ⟨hm.sub (by repeat (first | exact List.Sublist.refl _ | exact List.nil_sublist _ | apply List.Sublist.cons_cons | apply List.Sublist.cons)), ?_⟩
          refine hTake 14 hs rfl (by kernel_rfl) (Wnt.none rfl) rfl rfl (by intro w hm; replace hm : Mm _ _ _ w := hm; exact r_val hs tab rfl) (hm.sub (List.nil_sublist _)) ?_; clear hs a; intro a hs
          refine hDone (by kernel_rfl) ?_
          exact And.intro rfl ⟨g20, hs.sub (Has.all ⟨rfl, rfl, rfl, rfl, rfl, rfl, rfl, rfl, rfl, rfl, trivial⟩), hm.sel [0, 2] (by decide) rfl⟩
      clear hs hm a
      rintro a w ⟨g20, hs, hm⟩
      repeat (first | ((with_reducible refine toL hm ?_); (first | refine oneV hs (by first | exact Wnt.none rfl | exact Wnt.some rfl rfl rfl rfl) rfl rfl (by intro w hm; (first | exact r_val hs tab rfl | ((with_reducible apply kLoad); first | exact r_load hs rfl rfl tab rfl rfl (by first | exact Ro.cl (by assumption) hm (by first | exact (fun t => t) | assumption) (by first | rfl | assumption) | exact Ro.cl0 (by assumption) hm (by first | exact (fun t => t) | assumption) (by first | rfl | assumption) | exact hm.cl (by repeat (first | exact mH | apply mT)) (by first | rfl | assumption)) | exact r_loadO hs rfl rfl tab rfl rfl rfl hm (by repeat (first | exact mH | apply mT)) (by rfl) | exact r_loadA hs rfl rfl tab rfl rfl (Ro.ro (by assumption) hm (by first | exact (fun t => t) | assumption)) rfl) | exact r_iz hs tab rfl rfl (by omega) | exact r_iy hs tab rfl rfl (by omega) | exact r_cT hs rfl (by omega) | exact r_cF hs rfl (by omega) | exact r_arH hs rfl (by assumption) (by omega) | exact r_ar hs rfl (by omega) | exact r_remH hs rfl rfl rfl (by assumption) (by omega) (by omega) | exact r_rem64 hs rfl rfl rfl (by omega) (by omega) | exact r_rem hs rfl rfl rfl (by omega) | exact r_bi hs rfl | exact r_pick hs rfl rfl rfl rfl | exact r_neqSt (fl := [(true, 0, 5), (true, 1, 22)]) hs rfl rfl rfl tab (by kernel_rfl) (by kernel_rfl) (by kernel_rfl) (by kernel_rfl) rfl | exact r_eqlSt (fl := [(true, 0, 5), (true, 1, 22)]) hs rfl rfl rfl tab (by kernel_rfl) (by kernel_rfl) (by kernel_rfl) (by kernel_rfl) rfl)) ?_ | refine oneN hs rfl rfl rfl rfl rfl rfl rfl ?_ | refine oneU hs rfl rfl rfl rfl rfl rfl ?_); clear hs a; intro a hs) | ((with_reducible apply lCons); first | (refine dv hs (by first | exact Wnt.none rfl | exact Wnt.some rfl rfl rfl rfl) rfl rfl (by first | exact d_alloc rfl tab rfl rfl hm | exact d_box hs rfl rfl rfl hm | exact d_buildSlice0 rfl tab rfl rfl rfl hm | exact d_buildSlice hs rfl tab rfl rfl rfl rfl rfl rfl rfl rfl rfl hm) ?_; clear hs hm a; rintro _ w ⟨g, rfl, -, hm⟩ a hs) | (refine stn hs rfl rfl (by first | exact d_store hs rfl rfl rfl tab rfl rfl rfl rfl hm (by repeat (first | exact Rep.head _ _ _ | apply Rep.tail)) (by rfl) | exact d_store1 hs rfl rfl rfl tab rfl rfl rfl rfl hm (by repeat (first | exact Rep.head _ _ _ | apply Rep.tail)) (by first | omega | assumption | (simp; omega))) ?_; clear hs hm a; rintro - w hm a hs) ) | (with_reducible first | apply lNilThen | apply lNilBlock | apply lNil | apply wp_seq | apply wp_region_lit | apply wp_block | apply cExit | apply cRet | apply cSkip | apply gThen | apply gBlock | apply eThen | apply eBlockHit | refine eBlock rfl ?_ | apply rThen | apply rBlock) | ((with_reducible apply cCond); first | refine cTrue hs rfl (by first | rfl | assumption | exact decide_eq_true (by omega) | exact decide_eq_false (by omega) | exact ndT (by omega) | exact ndF (by omega)) ?_ | refine cFalse hs rfl (by first | rfl | assumption | exact decide_eq_true (by omega) | exact decide_eq_false (by omega) | exact ndT (by omega) | exact ndF (by omega)) ?_))
      refine cMid (fun a w => ∃ g21, Sl Try.f7.ntmps [(13, .slice (some ⟨gj, 0, none⟩) 2 2), (15, .int .i64 tr), (16, .pointer (some ⟨g16, 0, none⟩)), (17, .int .i64 tr), (20, .pointer (some ⟨g20, 0, none⟩)), (21, .pointer (some ⟨g21, 0, none⟩)), (6, .bool false), (8, .slice x.B x.n x.d), (9, .pointer (some ⟨g9, 0, none⟩)), (54, .slice (some ⟨g54, 0, none⟩) 3 3), (55, .int .i64 3), (56, .int .i64 (j : Int))] a ∧ Mm (fun _ => False) wC [⟨some g21, 24, [.int .u8 0, .int .u16 k]⟩, ⟨some g20, 24, [.int .u8 0, .int .u16 m]⟩, ⟨some g16, 24, [.int .u8 0, .int .u16 1]⟩] w) ?_ ?_
      · skip
        refine cDraw (n := 15) [] hm rfl rfl ?_
        clear hm
        intro w2 hm
        refine hTake 0 hs rfl (by kernel_rfl) (Wnt.none rfl) rfl rfl (by intro w hm; replace hm : Mm _ _ _ w := hm; ((with_reducible apply kLoad); first | exact r_load hs rfl rfl tab rfl rfl (by first | exact Ro.cl (by assumption) hm (by first | exact (fun t => t) | assumption) (by first | rfl | assumption) | exact Ro.cl0 (by assumption) hm (by first | exact (fun t => t) | assumption) (by first | rfl | assumption) | exact hm.cl (by repeat (first | exact mH | apply mT)) (by first | rfl | assumption)) | exact r_loadO hs rfl rfl tab rfl rfl rfl hm (by repeat (first | exact mH | apply mT)) (by rfl) | exact r_loadA hs rfl rfl tab rfl rfl (Ro.ro (by assumption) hm (by first | exact (fun t => t) | assumption)) rfl)) (hm.sub (List.nil_sublist _)) ?_; clear hs a; intro a hs
        refine hTake 1 hs rfl (by kernel_rfl) (Wnt.none rfl) rfl rfl (by intro w hm; replace hm : Mm _ _ _ w := hm; exact r_val hs tab rfl) (hm.sub (List.nil_sublist _)) ?_; clear hs a; intro a hs
        refine hTake 2 hs rfl (by kernel_rfl) (Wnt.none rfl) rfl rfl (by intro w hm; replace hm : Mm _ _ _ w := hm; exact r_val hs tab rfl) (hm.sub (List.nil_sublist _)) ?_; clear hs a; intro a hs
        refine hTake 3 hs rfl (by kernel_rfl) (Wnt.none rfl) rfl rfl (by intro w hm; replace hm : Mm _ _ _ w := hm; (first | exact r_iz hs tab rfl rfl (by omega) | exact r_iy hs tab rfl rfl (by omega))) (hm.sub (List.nil_sublist _)) ?_; clear hs a; intro a hs
        refine hTake 4 hs rfl (by kernel_rfl) (Wnt.none rfl) rfl rfl (by intro w hm; replace hm : Mm _ _ _ w := hm; ((with_reducible apply kLoad); first | exact r_load hs rfl rfl tab rfl rfl (by first | exact Ro.cl (by assumption) hm (by first | exact (fun t => t) | assumption) (by first | rfl | assumption) | exact Ro.cl0 (by assumption) hm (by first | exact (fun t => t) | assumption) (by first | rfl | assumption) | exact hm.cl (by repeat (first | exact mH | apply mT)) (by first | rfl | assumption)) | exact r_loadO hs rfl rfl tab rfl rfl rfl hm (by repeat (first | exact mH | apply mT)) (by rfl) | exact r_loadA hs rfl rfl tab rfl rfl (Ro.ro (by assumption) hm (by first | exact (fun t => t) | assumption)) rfl)) (hm.sub (List.nil_sublist _)) ?_; clear hs a; intro a hs
        refine hTake 5 hs rfl (by kernel_rfl) (Wnt.none rfl) rfl rfl (by intro w hm; replace hm : Mm _ _ _ w := hm; exact r_val hs tab rfl) (hm.sub (List.nil_sublist _)) ?_; clear hs a; intro a hs
        refine hTake 6 hs rfl (by kernel_rfl) (Wnt.none rfl) rfl rfl (by intro w hm; replace hm : Mm _ _ _ w := hm; (first | exact r_iz hs tab rfl rfl (by omega) | exact r_iy hs tab rfl rfl (by omega))) (hm.sub (List.nil_sublist _)) ?_; clear hs a; intro a hs
        refine hTake 7 hs rfl (by kernel_rfl) (Wnt.none rfl) rfl rfl (by intro w hm; replace hm : Mm _ _ _ w := hm; ((with_reducible apply kLoad); first | exact r_load hs rfl rfl tab rfl rfl (by first | exact Ro.cl (by assumption) hm (by first | exact (fun t => t) | assumption) (by first | rfl | assumption) | exact Ro.cl0 (by assumption) hm (by first | exact (fun t => t) | assumption) (by first | rfl | assumption) | exact hm.cl (by repeat (first | exact mH | apply mT)) (by first | rfl | assumption)) | exact r_loadO hs rfl rfl tab rfl rfl rfl hm (by repeat (first | exact mH | apply mT)) (by rfl) | exact r_loadA hs rfl rfl tab rfl rfl (Ro.ro (by assumption) hm (by first | exact (fun t => t) | assumption)) rfl)) (hm.sub (List.nil_sublist _)) ?_; clear hs a; intro a hs
        refine hEach [8, 12] (by kernel_rfl) (eDo hs rfl (Wnt.none rfl) rfl rfl (by exact d_call hs rfl rfl rfl (pl 13 rfl) ((c4 _ hm.fr))) ?_ (eDo hs rfl (Wnt.none rfl) rfl rfl (by exact d_alloc rfl tab rfl rfl hm) ?_ eNil))
        · skip
          clear hs
          rintro _ w1 ⟨rfl, hf⟩ a hs
          replace hm := hm.pu hf
          clear hf
          refine ⟨hm.sub (by repeat (first | exact List.Sublist.refl _ | exact List.nil_sublist _ | apply List.Sublist.cons_cons | apply List.Sublist.cons)), ?_⟩
          refine hTake 9 hs rfl (by kernel_rfl) (Wnt.none rfl) rfl rfl (by intro w hm; replace hm : Mm _ _ _ w := hm; exact r_val hs tab rfl) (hm.sub (List.nil_sublist _)) ?_; clear hs a; intro a hs
          refine hTake 10 hs rfl (by kernel_rfl) (Wnt.none rfl) rfl rfl (by intro w hm; replace hm : Mm _ _ _ w := hm; exact r_val hs tab rfl) (hm.sub (List.nil_sublist _)) ?_; clear hs a; intro a hs
          refine hTake 11 hs rfl (by kernel_rfl) (Wnt.none rfl) rfl rfl (by intro w hm; replace hm : Mm _ _ _ w := hm; exact r_val hs tab rfl) (hm.sub (List.nil_sublist _)) ?_; clear hs a; intro a hs
          refine hEach [12] (by kernel_rfl) (eDo hs rfl (Wnt.none rfl) rfl rfl (by exact d_alloc rfl tab rfl rfl hm) ?_ eNil)
          clear hs hm a
          rintro _ w32 ⟨g21, rfl, -, hm⟩ a hs
          refine ⟨hm.sub (by repeat (first | exact List.Sublist.refl _ | exact List.nil_sublist _ | apply List.Sublist.cons_cons | apply List.Sublist.cons)), ?_⟩
          refine hEach [13] (by kernel_rfl) (eDoN hs rfl (Wnt.none rfl) rfl (by exact d_store hs rfl rfl rfl tab rfl rfl rfl rfl hm (by repeat (first | exact Rep.head _ _ _ | apply Rep.tail)) rfl) ?_ eNil)
          clear hs hm
          rintro - w33 hm a hs
          refine ⟨hm.sub (by repeat (first | exact List.Sublist.refl _ | exact List.nil_sublist _ | apply List.Sublist.cons_cons | apply List.Sublist.cons)), ?_⟩
          refine hTake 14 hs rfl (by kernel_rfl) (Wnt.none rfl) rfl rfl (by intro w hm; replace hm : Mm _ _ _ w := hm; exact r_val hs tab rfl) (hm.sub (List.nil_sublist _)) ?_; clear hs a; intro a hs
          refine hDone (by kernel_rfl) ?_
          exact And.intro rfl ⟨g21, hs.sub (Has.all ⟨rfl, rfl, rfl, rfl, rfl, rfl, rfl, rfl, rfl, rfl, rfl, rfl, trivial⟩), hm⟩
        · skip
          clear hs hm a
          rintro _ w32 ⟨g21, rfl, -, hm⟩ a hs
          refine ⟨hm.sub (by repeat (first | exact List.Sublist.refl _ | exact List.nil_sublist _ | apply List.Sublist.cons_cons | apply List.Sublist.cons)), ?_⟩
          refine hEach [8] (by kernel_rfl) (eDo hs rfl (Wnt.none rfl) rfl rfl (by exact d_call hs rfl rfl rfl (pl 13 rfl) ((c4 _ hm.fr))) ?_ eNil)
          clear hs
          rintro _ w1 ⟨rfl, hf⟩ a hs
          replace hm := hm.pu hf
          clear hf
          refine ⟨hm.sub (by repeat (first | exact List.Sublist.refl _ | exact List.nil_sublist _ | apply List.Sublist.cons_cons | apply List.Sublist.cons)), ?_⟩
          refine hTake 9 hs rfl (by kernel_rfl) (Wnt.none rfl) rfl rfl (by intro w hm; replace hm : Mm _ _ _ w := hm; exact r_val hs tab rfl) (hm.sub (List.nil_sublist _)) ?_; clear hs a; intro a hs
          refine hTake 10 hs rfl (by kernel_rfl) (Wnt.none rfl) rfl rfl (by intro w hm; replace hm : Mm _ _ _ w := hm; exact r_val hs tab rfl) (hm.sub (List.nil_sublist _)) ?_; clear hs a; intro a hs
          refine hTake 11 hs rfl (by kernel_rfl) (Wnt.none rfl) rfl rfl (by intro w hm; replace hm : Mm _ _ _ w := hm; exact r_val hs tab rfl) (hm.sub (List.nil_sublist _)) ?_; clear hs a; intro a hs
          refine hEach [13] (by kernel_rfl) (eDoN hs rfl (Wnt.none rfl) rfl (by exact d_store hs rfl rfl rfl tab rfl rfl rfl rfl hm (by repeat (first | exact Rep.head _ _ _ | apply Rep.tail)) rfl) ?_ eNil)
          clear hs hm
          rintro - w33 hm a hs
          refine ⟨hm.sub (by repeat (first | exact List.Sublist.refl _ | exact List.nil_sublist _ | apply List.Sublist.cons_cons | apply List.Sublist.cons)), ?_⟩
          refine hTake 14 hs rfl (by kernel_rfl) (Wnt.none rfl) rfl rfl (by intro w hm; replace hm : Mm _ _ _ w := hm; exact r_val hs tab rfl) (hm.sub (List.nil_sublist _)) ?_; clear hs a; intro a hs
          refine hDone (by kernel_rfl) ?_
          exact And.intro rfl ⟨g21, hs.sub (Has.all ⟨rfl, rfl, rfl, rfl, rfl, rfl, rfl, rfl, rfl, rfl, rfl, rfl, trivial⟩), hm⟩
      clear hs hm a
      rintro a w ⟨g21, hs, hm⟩
      repeat (first | ((with_reducible refine toL hm ?_); (first | refine oneV hs (by first | exact Wnt.none rfl | exact Wnt.some rfl rfl rfl rfl) rfl rfl (by intro w hm; (first | exact r_val hs tab rfl | ((with_reducible apply kLoad); first | exact r_load hs rfl rfl tab rfl rfl (by first | exact Ro.cl (by assumption) hm (by first | exact (fun t => t) | assumption) (by first | rfl | assumption) | exact Ro.cl0 (by assumption) hm (by first | exact (fun t => t) | assumption) (by first | rfl | assumption) | exact hm.cl (by repeat (first | exact mH | apply mT)) (by first | rfl | assumption)) | exact r_loadO hs rfl rfl tab rfl rfl rfl hm (by repeat (first | exact mH | apply mT)) (by rfl) | exact r_loadA hs rfl rfl tab rfl rfl (Ro.ro (by assumption) hm (by first | exact (fun t => t) | assumption)) rfl) | exact r_iz hs tab rfl rfl (by omega) | exact r_iy hs tab rfl rfl (by omega) | exact r_cT hs rfl (by omega) | exact r_cF hs rfl (by omega) | exact r_arH hs rfl (by assumption) (by omega) | exact r_ar hs rfl (by omega) | exact r_remH hs rfl rfl rfl (by assumption) (by omega) (by omega) | exact r_rem64 hs rfl rfl rfl (by omega) (by omega) | exact r_rem hs rfl rfl rfl (by omega) | exact r_bi hs rfl | exact r_pick hs rfl rfl rfl rfl | exact r_neqSt (fl := [(true, 0, 5), (true, 1, 22)]) hs rfl rfl rfl tab (by kernel_rfl) (by kernel_rfl) (by kernel_rfl) (by kernel_rfl) rfl | exact r_eqlSt (fl := [(true, 0, 5), (true, 1, 22)]) hs rfl rfl rfl tab (by kernel_rfl) (by kernel_rfl) (by kernel_rfl) (by kernel_rfl) rfl)) ?_ | refine oneN hs rfl rfl rfl rfl rfl rfl rfl ?_ | refine oneU hs rfl rfl rfl rfl rfl rfl ?_); clear hs a; intro a hs) | ((with_reducible apply lCons); first | (refine dv hs (by first | exact Wnt.none rfl | exact Wnt.some rfl rfl rfl rfl) rfl rfl (by first | exact d_alloc rfl tab rfl rfl hm | exact d_box hs rfl rfl rfl hm | exact d_buildSlice0 rfl tab rfl rfl rfl hm | exact d_buildSlice hs rfl tab rfl rfl rfl rfl rfl rfl rfl rfl rfl hm) ?_; clear hs hm a; rintro _ w ⟨g, rfl, -, hm⟩ a hs) | (refine stn hs rfl rfl (by first | exact d_store hs rfl rfl rfl tab rfl rfl rfl rfl hm (by repeat (first | exact Rep.head _ _ _ | apply Rep.tail)) (by rfl) | exact d_store1 hs rfl rfl rfl tab rfl rfl rfl rfl hm (by repeat (first | exact Rep.head _ _ _ | apply Rep.tail)) (by first | omega | assumption | (simp; omega))) ?_; clear hs hm a; rintro - w hm a hs) ) | (with_reducible first | apply lNilThen | apply lNilBlock | apply lNil | apply wp_seq | apply wp_region_lit | apply wp_block | apply cExit | apply cRet | apply cSkip | apply gThen | apply gBlock | apply eThen | apply eBlockHit | refine eBlock rfl ?_ | apply rThen | apply rBlock) | ((with_reducible apply cCond); first | refine cTrue hs rfl (by first | rfl | assumption | exact decide_eq_true (by omega) | exact decide_eq_false (by omega) | exact ndT (by omega) | exact ndF (by omega)) ?_ | refine cFalse hs rfl (by first | rfl | assumption | exact decide_eq_true (by omega) | exact decide_eq_false (by omega) | exact ndT (by omega) | exact ndF (by omega)) ?_))
      exact ⟨j + 1, by omega, hs.sub (Has.all ⟨rfl, rfl, rfl, rfl, rfl, rfl, trivial⟩), hm.sub (List.nil_sublist _), by omega⟩
    · skip
      replace hJB : ((t == s) && ((v == u) && true)) = false := hJB
      repeat (first | ((with_reducible first | refine toL hm ?_ | refine toQ ?_); (first | refine oneV hs (by first | exact Wnt.none rfl | exact Wnt.some rfl rfl rfl rfl) rfl rfl (by intro w hm; (first | exact r_val hs tab rfl | ((with_reducible apply kLoad); first | exact r_load hs rfl rfl tab rfl rfl (by first | exact Ro.cl (by assumption) hm (by first | exact (fun t => t) | assumption) (by first | rfl | assumption) | exact Ro.cl0 (by assumption) hm (by first | exact (fun t => t) | assumption) (by first | rfl | assumption) | exact hm.cl (by repeat (first | exact mH | apply mT)) (by first | rfl | assumption)) | exact r_loadO hs rfl rfl tab rfl rfl rfl hm (by repeat (first | exact mH | apply mT)) (by rfl) | exact r_loadA hs rfl rfl tab rfl rfl (Ro.ro (by assumption) hm (by first | exact (fun t => t) | assumption)) rfl) | exact r_iz hs tab rfl rfl (by omega) | exact r_iy hs tab rfl rfl (by omega) | exact r_cT hs rfl (by omega) | exact r_cF hs rfl (by omega) | exact r_arH hs rfl (by assumption) (by omega) | exact r_ar hs rfl (by omega) | exact r_remH hs rfl rfl rfl (by assumption) (by omega) (by omega) | exact r_rem64 hs rfl rfl rfl (by omega) (by omega) | exact r_rem hs rfl rfl rfl (by omega) | exact r_bi hs rfl | exact r_pick hs rfl rfl rfl rfl | exact r_neqSt (fl := [(true, 0, 5), (true, 1, 22)]) hs rfl rfl rfl tab (by kernel_rfl) (by kernel_rfl) (by kernel_rfl) (by kernel_rfl) rfl | exact r_eqlSt (fl := [(true, 0, 5), (true, 1, 22)]) hs rfl rfl rfl tab (by kernel_rfl) (by kernel_rfl) (by kernel_rfl) (by kernel_rfl) rfl)) ?_ | refine oneN hs rfl rfl rfl rfl rfl rfl rfl ?_ | refine oneU hs rfl rfl rfl rfl rfl rfl ?_); clear hs a; intro a hs) | ((with_reducible apply lCons); first | (refine dv hs (by first | exact Wnt.none rfl | exact Wnt.some rfl rfl rfl rfl) rfl rfl (by first | exact d_alloc rfl tab rfl rfl hm | exact d_box hs rfl rfl rfl hm | exact d_buildSlice0 rfl tab rfl rfl rfl hm | exact d_buildSlice hs rfl tab rfl rfl rfl rfl rfl rfl rfl rfl rfl hm) ?_; clear hs hm a; rintro _ w ⟨g, rfl, -, hm⟩ a hs) | (refine stn hs rfl rfl (by first | exact d_store hs rfl rfl rfl tab rfl rfl rfl rfl hm (by repeat (first | exact Rep.head _ _ _ | apply Rep.tail)) (by rfl) | exact d_store1 hs rfl rfl rfl tab rfl rfl rfl rfl hm (by repeat (first | exact Rep.head _ _ _ | apply Rep.tail)) (by first | omega | assumption | (simp; omega))) ?_; clear hs hm a; rintro - w hm a hs) ) | ((with_reducible apply qNil); clear hm; intro w hm) | ((with_reducible refine cQuiet hm ?_ ?_ ?_ ?_); rfl; kernel_rfl; kernel_rfl) | (with_reducible first | apply lNilThen | apply lNilBlock | apply lNil | apply wp_seq | apply wp_region_lit | apply wp_block | apply cExit | apply cRet | apply cSkip | apply gThen | apply gBlock | apply eThen | apply eBlockHit | refine eBlock rfl ?_ | apply rThen | apply rBlock) | ((with_reducible apply cCond); first | refine cTrue hs rfl (by first | rfl | assumption | exact decide_eq_true (by omega) | exact decide_eq_false (by omega) | exact ndT (by omega) | exact ndF (by omega)) ?_ | refine cFalse hs rfl (by first | rfl | assumption | exact decide_eq_true (by omega) | exact decide_eq_false (by omega) | exact ndT (by omega) | exact ndF (by omega)) ?_))
      rw [hJB] at hs
      repeat (first | ((with_reducible first | refine toL hm ?_ | refine toQ ?_); (first | refine oneV hs (by first | exact Wnt.none rfl | exact Wnt.some rfl rfl rfl rfl) rfl rfl (by intro w hm; (first | exact r_val hs tab rfl | ((with_reducible apply kLoad); first | exact r_load hs rfl rfl tab rfl rfl (by first | exact Ro.cl (by assumption) hm (by first | exact (fun t => t) | assumption) (by first | rfl | assumption) | exact Ro.cl0 (by assumption) hm (by first | exact (fun t => t) | assumption) (by first | rfl | assumption) | exact hm.cl (by repeat (first | exact mH | apply mT)) (by first | rfl | assumption)) | exact r_loadO hs rfl rfl tab rfl rfl rfl hm (by repeat (first | exact mH | apply mT)) (by rfl) | exact r_loadA hs rfl rfl tab rfl rfl (Ro.ro (by assumption) hm (by first | exact (fun t => t) | assumption)) rfl) | exact r_iz hs tab rfl rfl (by omega) | exact r_iy hs tab rfl rfl (by omega) | exact r_cT hs rfl (by omega) | exact r_cF hs rfl (by omega) | exact r_arH hs rfl (by assumption) (by omega) | exact r_ar hs rfl (by omega) | exact r_remH hs rfl rfl rfl (by assumption) (by omega) (by omega) | exact r_rem64 hs rfl rfl rfl (by omega) (by omega) | exact r_rem hs rfl rfl rfl (by omega) | exact r_bi hs rfl | exact r_pick hs rfl rfl rfl rfl | exact r_neqSt (fl := [(true, 0, 5), (true, 1, 22)]) hs rfl rfl rfl tab (by kernel_rfl) (by kernel_rfl) (by kernel_rfl) (by kernel_rfl) rfl | exact r_eqlSt (fl := [(true, 0, 5), (true, 1, 22)]) hs rfl rfl rfl tab (by kernel_rfl) (by kernel_rfl) (by kernel_rfl) (by kernel_rfl) rfl)) ?_ | refine oneN hs rfl rfl rfl rfl rfl rfl rfl ?_ | refine oneU hs rfl rfl rfl rfl rfl rfl ?_); clear hs a; intro a hs) | ((with_reducible apply lCons); first | (refine dv hs (by first | exact Wnt.none rfl | exact Wnt.some rfl rfl rfl rfl) rfl rfl (by first | exact d_alloc rfl tab rfl rfl hm | exact d_box hs rfl rfl rfl hm | exact d_buildSlice0 rfl tab rfl rfl rfl hm | exact d_buildSlice hs rfl tab rfl rfl rfl rfl rfl rfl rfl rfl rfl hm) ?_; clear hs hm a; rintro _ w ⟨g, rfl, -, hm⟩ a hs) | (refine stn hs rfl rfl (by first | exact d_store hs rfl rfl rfl tab rfl rfl rfl rfl hm (by repeat (first | exact Rep.head _ _ _ | apply Rep.tail)) (by rfl) | exact d_store1 hs rfl rfl rfl tab rfl rfl rfl rfl hm (by repeat (first | exact Rep.head _ _ _ | apply Rep.tail)) (by first | omega | assumption | (simp; omega))) ?_; clear hs hm a; rintro - w hm a hs) ) | ((with_reducible apply qNil); clear hm; intro w hm) | ((with_reducible refine cQuiet hm ?_ ?_ ?_ ?_); rfl; kernel_rfl; kernel_rfl) | (with_reducible first | apply lNilThen | apply lNilBlock | apply lNil | apply wp_seq | apply wp_region_lit | apply wp_block | apply cExit | apply cRet | apply cSkip | apply gThen | apply gBlock | apply eThen | apply eBlockHit | refine eBlock rfl ?_ | apply rThen | apply rBlock) | ((with_reducible apply cCond); first | refine cTrue hs rfl (by first | rfl | assumption | exact decide_eq_true (by omega) | exact decide_eq_false (by omega) | exact ndT (by omega) | exact ndF (by omega)) ?_ | refine cFalse hs rfl (by first | rfl | assumption | exact decide_eq_true (by omega) | exact decide_eq_false (by omega) | exact ndT (by omega) | exact ndF (by omega)) ?_))
      refine cMid (fun a w => ∃ g20, Sl Try.f7.ntmps [(13, .slice (some ⟨gj, 0, none⟩) 2 2), (15, .int .i64 0), (16, .pointer (some ⟨g16, 0, none⟩)), (20, .pointer (some ⟨g20, 0, none⟩)), (6, .bool false), (8, .slice x.B x.n x.d), (9, .pointer (some ⟨g9, 0, none⟩)), (54, .slice (some ⟨g54, 0, none⟩) 3 3), (55, .int .i64 3), (56, .int .i64 (j : Int))] a ∧ Mm (fun _ => False) wC [⟨some g20, 24, [.int .u8 0, .int .u16 1]⟩, ⟨some g16, 24, [.int .u8 0, .int .u16 0]⟩] w) ?_ ?_
      · skip
        refine cDraw (n := 15) [] hm rfl rfl ?_
        clear hm
        intro w2 hm
        refine hTake 0 hs rfl (by kernel_rfl) (Wnt.none rfl) rfl rfl (by intro w hm; replace hm : Mm _ _ _ w := hm; ((with_reducible apply kLoad); first | exact r_load hs rfl rfl tab rfl rfl (by first | exact Ro.cl (by assumption) hm (by first | exact (fun t => t) | assumption) (by first | rfl | assumption) | exact Ro.cl0 (by assumption) hm (by first | exact (fun t => t) | assumption) (by first | rfl | assumption) | exact hm.cl (by repeat (first | exact mH | apply mT)) (by first | rfl | assumption)) | exact r_loadO hs rfl rfl tab rfl rfl rfl hm (by repeat (first | exact mH | apply mT)) (by rfl) | exact r_loadA hs rfl rfl tab rfl rfl (Ro.ro (by assumption) hm (by first | exact (fun t => t) | assumption)) rfl)) (hm.sub (List.nil_sublist _)) ?_; clear hs a; intro a hs
        refine hTake 1 hs rfl (by kernel_rfl) (Wnt.none rfl) rfl rfl (by intro w hm; replace hm : Mm _ _ _ w := hm; exact r_val hs tab rfl) (hm.sub (List.nil_sublist _)) ?_; clear hs a; intro a hs
        refine hTake 2 hs rfl (by kernel_rfl) (Wnt.none rfl) rfl rfl (by intro w hm; replace hm : Mm _ _ _ w := hm; exact r_val hs tab rfl) (hm.sub (List.nil_sublist _)) ?_; clear hs a; intro a hs
        refine hTake 3 hs rfl (by kernel_rfl) (Wnt.none rfl) rfl rfl (by intro w hm; replace hm : Mm _ _ _ w := hm; (first | exact r_iz hs tab rfl rfl (by omega) | exact r_iy hs tab rfl rfl (by omega))) (hm.sub (List.nil_sublist _)) ?_; clear hs a; intro a hs
        refine hTake 4 hs rfl (by kernel_rfl) (Wnt.none rfl) rfl rfl (by intro w hm; replace hm : Mm _ _ _ w := hm; ((with_reducible apply kLoad); first | exact r_load hs rfl rfl tab rfl rfl (by first | exact Ro.cl (by assumption) hm (by first | exact (fun t => t) | assumption) (by first | rfl | assumption) | exact Ro.cl0 (by assumption) hm (by first | exact (fun t => t) | assumption) (by first | rfl | assumption) | exact hm.cl (by repeat (first | exact mH | apply mT)) (by first | rfl | assumption)) | exact r_loadO hs rfl rfl tab rfl rfl rfl hm (by repeat (first | exact mH | apply mT)) (by rfl) | exact r_loadA hs rfl rfl tab rfl rfl (Ro.ro (by assumption) hm (by first | exact (fun t => t) | assumption)) rfl)) (hm.sub (List.nil_sublist _)) ?_; clear hs a; intro a hs
        refine hTake 5 hs rfl (by kernel_rfl) (Wnt.none rfl) rfl rfl (by intro w hm; replace hm : Mm _ _ _ w := hm; exact r_val hs tab rfl) (hm.sub (List.nil_sublist _)) ?_; clear hs a; intro a hs
        refine hTake 6 hs rfl (by kernel_rfl) (Wnt.none rfl) rfl rfl (by intro w hm; replace hm : Mm _ _ _ w := hm; (first | exact r_iz hs tab rfl rfl (by omega) | exact r_iy hs tab rfl rfl (by omega))) (hm.sub (List.nil_sublist _)) ?_; clear hs a; intro a hs
        refine hTake 7 hs rfl (by kernel_rfl) (Wnt.none rfl) rfl rfl (by intro w hm; replace hm : Mm _ _ _ w := hm; ((with_reducible apply kLoad); first | exact r_load hs rfl rfl tab rfl rfl (by first | exact Ro.cl (by assumption) hm (by first | exact (fun t => t) | assumption) (by first | rfl | assumption) | exact Ro.cl0 (by assumption) hm (by first | exact (fun t => t) | assumption) (by first | rfl | assumption) | exact hm.cl (by repeat (first | exact mH | apply mT)) (by first | rfl | assumption)) | exact r_loadO hs rfl rfl tab rfl rfl rfl hm (by repeat (first | exact mH | apply mT)) (by rfl) | exact r_loadA hs rfl rfl tab rfl rfl (Ro.ro (by assumption) hm (by first | exact (fun t => t) | assumption)) rfl)) (hm.sub (List.nil_sublist _)) ?_; clear hs a; intro a hs
        refine hEach [8, 12] (by kernel_rfl) (eDo hs rfl (Wnt.none rfl) rfl rfl (by exact d_call hs rfl rfl rfl (pl 13 rfl) ((c3 _ hm.fr))) ?_ (eDo hs rfl (Wnt.none rfl) rfl rfl (by exact d_alloc rfl tab rfl rfl hm) ?_ eNil))
        · skip
          clear hs
          rintro _ w1 ⟨rfl, hf⟩ a hs
          replace hm := hm.pu hf
          clear hf
          refine ⟨hm.sub (by repeat (first | exact List.Sublist.refl _ | exact List.nil_sublist _ | apply List.Sublist.cons_cons | apply List.Sublist.cons)), ?_⟩
          refine hTake 9 hs rfl (by kernel_rfl) (Wnt.none rfl) rfl rfl (by intro w hm; replace hm : Mm _ _ _ w := hm; exact r_val hs tab rfl) (hm.sub (List.nil_sublist _)) ?_; clear hs a; intro a hs
          refine hTake 10 hs rfl (by kernel_rfl) (Wnt.none rfl) rfl rfl (by intro w hm; replace hm : Mm _ _ _ w := hm; exact r_val hs tab rfl) (hm.sub (List.nil_sublist _)) ?_; clear hs a; intro a hs
          refine hTake 11 hs rfl (by kernel_rfl) (Wnt.none rfl) rfl rfl (by intro w hm; replace hm : Mm _ _ _ w := hm; exact r_val hs tab rfl) (hm.sub (List.nil_sublist _)) ?_; clear hs a; intro a hs
          refine hEach [12] (by kernel_rfl) (eDo hs rfl (Wnt.none rfl) rfl rfl (by exact d_alloc rfl tab rfl rfl hm) ?_ eNil)
          clear hs hm a
          rintro _ w32 ⟨g20, rfl, -, hm⟩ a hs
          refine ⟨hm.sub (by repeat (first | exact List.Sublist.refl _ | exact List.nil_sublist _ | apply List.Sublist.cons_cons | apply List.Sublist.cons)), ?_⟩
          refine hEach [13] (by kernel_rfl) (eDoN hs rfl (Wnt.none rfl) rfl (by exact d_store hs rfl rfl rfl tab rfl rfl rfl rfl hm (by repeat (first | exact Rep.head _ _ _ | apply Rep.tail)) rfl) ?_ eNil)
          clear hs hm
          rintro - w33 hm a hs
          refine ⟨hm.sub (by repeat (first | exact List.Sublist.refl _ | exact List.nil_sublist _ | apply List.Sublist.cons_cons | apply List.Sublist.cons)), ?_⟩
          refine hTake 14 hs rfl (by kernel_rfl) (Wnt.none rfl) rfl rfl (by intro w hm; replace hm : Mm _ _ _ w := hm; exact r_val hs tab rfl) (hm.sub (List.nil_sublist _)) ?_; clear hs a; intro a hs
          refine hDone (by kernel_rfl) ?_
          exact And.intro rfl ⟨g20, hs.sub (Has.all ⟨rfl, rfl, rfl, rfl, rfl, rfl, rfl, rfl, rfl, rfl, trivial⟩), hm.sel [0, 2] (by decide) rfl⟩
        · skip
          clear hs hm a
          rintro _ w32 ⟨g20, rfl, -, hm⟩ a hs
          refine ⟨hm.sub (by repeat (first | exact List.Sublist.refl _ | exact List.nil_sublist _ | apply List.Sublist.cons_cons | apply List.Sublist.cons)), ?_⟩
          refine hEach [8] (by kernel_rfl) (eDo hs rfl (Wnt.none rfl) rfl rfl (by exact d_call hs rfl rfl rfl (pl 13 rfl) ((c3 _ hm.fr))) ?_ eNil)
          clear hs
          rintro _ w1 ⟨rfl, hf⟩ a hs
          replace hm := hm.pu hf
          clear hf
          refine ⟨hm.sub (by repeat (first | exact List.Sublist.refl _ | exact List.nil_sublist _ | apply List.Sublist.cons_cons | apply List.Sublist.cons)), ?_⟩
          refine hTake 9 hs rfl (by kernel_rfl) (Wnt.none rfl) rfl rfl (by intro w hm; replace hm : Mm _ _ _ w := hm; exact r_val hs tab rfl) (hm.sub (List.nil_sublist _)) ?_; clear hs a; intro a hs
          refine hTake 10 hs rfl (by kernel_rfl) (Wnt.none rfl) rfl rfl (by intro w hm; replace hm : Mm _ _ _ w := hm; exact r_val hs tab rfl) (hm.sub (List.nil_sublist _)) ?_; clear hs a; intro a hs
          refine hTake 11 hs rfl (by kernel_rfl) (Wnt.none rfl) rfl rfl (by intro w hm; replace hm : Mm _ _ _ w := hm; exact r_val hs tab rfl) (hm.sub (List.nil_sublist _)) ?_; clear hs a; intro a hs
          refine hEach [13] (by kernel_rfl) (eDoN hs rfl (Wnt.none rfl) rfl (by exact d_store hs rfl rfl rfl tab rfl rfl rfl rfl hm (by repeat (first | exact Rep.head _ _ _ | apply Rep.tail)) rfl) ?_ eNil)
          clear hs hm
          rintro - w33 hm a hs
          refine ⟨hm.sub (by repeat (first | exact List.Sublist.refl _ | exact List.nil_sublist _ | apply List.Sublist.cons_cons | apply List.Sublist.cons)), ?_⟩
          refine hTake 14 hs rfl (by kernel_rfl) (Wnt.none rfl) rfl rfl (by intro w hm; replace hm : Mm _ _ _ w := hm; exact r_val hs tab rfl) (hm.sub (List.nil_sublist _)) ?_; clear hs a; intro a hs
          refine hDone (by kernel_rfl) ?_
          exact And.intro rfl ⟨g20, hs.sub (Has.all ⟨rfl, rfl, rfl, rfl, rfl, rfl, rfl, rfl, rfl, rfl, trivial⟩), hm.sel [0, 2] (by decide) rfl⟩
      clear hs hm a
      rintro a w ⟨g20, hs, hm⟩
      repeat (first | ((with_reducible refine toL hm ?_); (first | refine oneV hs (by first | exact Wnt.none rfl | exact Wnt.some rfl rfl rfl rfl) rfl rfl (by intro w hm; (first | exact r_val hs tab rfl | ((with_reducible apply kLoad); first | exact r_load hs rfl rfl tab rfl rfl (by first | exact Ro.cl (by assumption) hm (by first | exact (fun t => t) | assumption) (by first | rfl | assumption) | exact Ro.cl0 (by assumption) hm (by first | exact (fun t => t) | assumption) (by first | rfl | assumption) | exact hm.cl (by repeat (first | exact mH | apply mT)) (by first | rfl | assumption)) | exact r_loadO hs rfl rfl tab rfl rfl rfl hm (by repeat (first | exact mH | apply mT)) (by rfl) | exact r_loadA hs rfl rfl tab rfl rfl (Ro.ro (by assumption) hm (by first | exact (fun t => t) | assumption)) rfl) | exact r_iz hs tab rfl rfl (by omega) | exact r_iy hs tab rfl rfl (by omega) | exact r_cT hs rfl (by omega) | exact r_cF hs rfl (by omega) | exact r_arH hs rfl (by assumption) (by omega) | exact r_ar hs rfl (by omega) | exact r_remH hs rfl rfl rfl (by assumption) (by omega) (by omega) | exact r_rem64 hs rfl rfl rfl (by omega) (by omega) | exact r_rem hs rfl rfl rfl (by omega) | exact r_bi hs rfl | exact r_pick hs rfl rfl rfl rfl | exact r_neqSt (fl := [(true, 0, 5), (true, 1, 22)]) hs rfl rfl rfl tab (by kernel_rfl) (by kernel_rfl) (by kernel_rfl) (by kernel_rfl) rfl | exact r_eqlSt (fl := [(true, 0, 5), (true, 1, 22)]) hs rfl rfl rfl tab (by kernel_rfl) (by kernel_rfl) (by kernel_rfl) (by kernel_rfl) rfl)) ?_ | refine oneN hs rfl rfl rfl rfl rfl rfl rfl ?_ | refine oneU hs rfl rfl rfl rfl rfl rfl ?_); clear hs a; intro a hs) | ((with_reducible apply lCons); first | (refine dv hs (by first | exact Wnt.none rfl | exact Wnt.some rfl rfl rfl rfl) rfl rfl (by first | exact d_alloc rfl tab rfl rfl hm | exact d_box hs rfl rfl rfl hm | exact d_buildSlice0 rfl tab rfl rfl rfl hm | exact d_buildSlice hs rfl tab rfl rfl rfl rfl rfl rfl rfl rfl rfl hm) ?_; clear hs hm a; rintro _ w ⟨g, rfl, -, hm⟩ a hs) | (refine stn hs rfl rfl (by first | exact d_store hs rfl rfl rfl tab rfl rfl rfl rfl hm (by repeat (first | exact Rep.head _ _ _ | apply Rep.tail)) (by rfl) | exact d_store1 hs rfl rfl rfl tab rfl rfl rfl rfl hm (by repeat (first | exact Rep.head _ _ _ | apply Rep.tail)) (by first | omega | assumption | (simp; omega))) ?_; clear hs hm a; rintro - w hm a hs) ) | (with_reducible first | apply lNilThen | apply lNilBlock | apply lNil | apply wp_seq | apply wp_region_lit | apply wp_block | apply cExit | apply cRet | apply cSkip | apply gThen | apply gBlock | apply eThen | apply eBlockHit | refine eBlock rfl ?_ | apply rThen | apply rBlock) | ((with_reducible apply cCond); first | refine cTrue hs rfl (by first | rfl | assumption | exact decide_eq_true (by omega) | exact decide_eq_false (by omega) | exact ndT (by omega) | exact ndF (by omega)) ?_ | refine cFalse hs rfl (by first | rfl | assumption | exact decide_eq_true (by omega) | exact decide_eq_false (by omega) | exact ndT (by omega) | exact ndF (by omega)) ?_))
      refine cMid (fun a w => ∃ g21, Sl Try.f7.ntmps [(13, .slice (some ⟨gj, 0, none⟩) 2 2), (15, .int .i64 0), (16, .pointer (some ⟨g16, 0, none⟩)), (17, .int .i64 0), (20, .pointer (some ⟨g20, 0, none⟩)), (21, .pointer (some ⟨g21, 0, none⟩)), (6, .bool false), (8, .slice x.B x.n x.d), (9, .pointer (some ⟨g9, 0, none⟩)), (54, .slice (some ⟨g54, 0, none⟩) 3 3), (55, .int .i64 3), (56, .int .i64 (j : Int))] a ∧ Mm (fun _ => False) wC [⟨some g21, 24, [.int .u8 0, .int .u16 0]⟩, ⟨some g20, 24, [.int .u8 0, .int .u16 1]⟩, ⟨some g16, 24, [.int .u8 0, .int .u16 0]⟩] w) ?_ ?_
      · skip
        refine cDraw (n := 15) [] hm rfl rfl ?_
        clear hm
        intro w2 hm
        refine hTake 0 hs rfl (by kernel_rfl) (Wnt.none rfl) rfl rfl (by intro w hm; replace hm : Mm _ _ _ w := hm; ((with_reducible apply kLoad); first | exact r_load hs rfl rfl tab rfl rfl (by first | exact Ro.cl (by assumption) hm (by first | exact (fun t => t) | assumption) (by first | rfl | assumption) | exact Ro.cl0 (by assumption) hm (by first | exact (fun t => t) | assumption) (by first | rfl | assumption) | exact hm.cl (by repeat (first | exact mH | apply mT)) (by first | rfl | assumption)) | exact r_loadO hs rfl rfl tab rfl rfl rfl hm (by repeat (first | exact mH | apply mT)) (by rfl) | exact r_loadA hs rfl rfl tab rfl rfl (Ro.ro (by assumption) hm (by first | exact (fun t => t) | assumption)) rfl)) (hm.sub (List.nil_sublist _)) ?_; clear hs a; intro a hs
        refine hTake 1 hs rfl (by kernel_rfl) (Wnt.none rfl) rfl rfl (by intro w hm; replace hm : Mm _ _ _ w := hm; exact r_val hs tab rfl) (hm.sub (List.nil_sublist _)) ?_; clear hs a; intro a hs
        refine hTake 2 hs rfl (by kernel_rfl) (Wnt.none rfl) rfl rfl (by intro w hm; replace hm : Mm _ _ _ w := hm; exact r_val hs tab rfl) (hm.sub (List.nil_sublist _)) ?_; clear hs a; intro a hs
        refine hTake 3 hs rfl (by kernel_rfl) (Wnt.none rfl) rfl rfl (by intro w hm; replace hm : Mm _ _ _ w := hm; (first | exact r_iz hs tab rfl rfl (by omega) | exact r_iy hs tab rfl rfl (by omega))) (hm.sub (List.nil_sublist _)) ?_; clear hs a; intro a hs
        refine hTake 4 hs rfl (by kernel_rfl) (Wnt.none rfl) rfl rfl (by intro w hm; replace hm : Mm _ _ _ w := hm; ((with_reducible apply kLoad); first | exact r_load hs rfl rfl tab rfl rfl (by first | exact Ro.cl (by assumption) hm (by first | exact (fun t => t) | assumption) (by first | rfl | assumption) | exact Ro.cl0 (by assumption) hm (by first | exact (fun t => t) | assumption) (by first | rfl | assumption) | exact hm.cl (by repeat (first | exact mH | apply mT)) (by first | rfl | assumption)) | exact r_loadO hs rfl rfl tab rfl rfl rfl hm (by repeat (first | exact mH | apply mT)) (by rfl) | exact r_loadA hs rfl rfl tab rfl rfl (Ro.ro (by assumption) hm (by first | exact (fun t => t) | assumption)) rfl)) (hm.sub (List.nil_sublist _)) ?_; clear hs a; intro a hs
        refine hTake 5 hs rfl (by kernel_rfl) (Wnt.none rfl) rfl rfl (by intro w hm; replace hm : Mm _ _ _ w := hm; exact r_val hs tab rfl) (hm.sub (List.nil_sublist _)) ?_; clear hs a; intro a hs
        refine hTake 6 hs rfl (by kernel_rfl) (Wnt.none rfl) rfl rfl (by intro w hm; replace hm : Mm _ _ _ w := hm; (first | exact r_iz hs tab rfl rfl (by omega) | exact r_iy hs tab rfl rfl (by omega))) (hm.sub (List.nil_sublist _)) ?_; clear hs a; intro a hs
        refine hTake 7 hs rfl (by kernel_rfl) (Wnt.none rfl) rfl rfl (by intro w hm; replace hm : Mm _ _ _ w := hm; ((with_reducible apply kLoad); first | exact r_load hs rfl rfl tab rfl rfl (by first | exact Ro.cl (by assumption) hm (by first | exact (fun t => t) | assumption) (by first | rfl | assumption) | exact Ro.cl0 (by assumption) hm (by first | exact (fun t => t) | assumption) (by first | rfl | assumption) | exact hm.cl (by repeat (first | exact mH | apply mT)) (by first | rfl | assumption)) | exact r_loadO hs rfl rfl tab rfl rfl rfl hm (by repeat (first | exact mH | apply mT)) (by rfl) | exact r_loadA hs rfl rfl tab rfl rfl (Ro.ro (by assumption) hm (by first | exact (fun t => t) | assumption)) rfl)) (hm.sub (List.nil_sublist _)) ?_; clear hs a; intro a hs
        refine hEach [8, 12] (by kernel_rfl) (eDo hs rfl (Wnt.none rfl) rfl rfl (by exact d_call hs rfl rfl rfl (pl 13 rfl) ((c4 _ hm.fr))) ?_ (eDo hs rfl (Wnt.none rfl) rfl rfl (by exact d_alloc rfl tab rfl rfl hm) ?_ eNil))
        · skip
          clear hs
          rintro _ w1 ⟨rfl, hf⟩ a hs
          replace hm := hm.pu hf
          clear hf
          refine ⟨hm.sub (by repeat (first | exact List.Sublist.refl _ | exact List.nil_sublist _ | apply List.Sublist.cons_cons | apply List.Sublist.cons)), ?_⟩
          refine hTake 9 hs rfl (by kernel_rfl) (Wnt.none rfl) rfl rfl (by intro w hm; replace hm : Mm _ _ _ w := hm; exact r_val hs tab rfl) (hm.sub (List.nil_sublist _)) ?_; clear hs a; intro a hs
          refine hTake 10 hs rfl (by kernel_rfl) (Wnt.none rfl) rfl rfl (by intro w hm; replace hm : Mm _ _ _ w := hm; exact r_val hs tab rfl) (hm.sub (List.nil_sublist _)) ?_; clear hs a; intro a hs
          refine hTake 11 hs rfl (by kernel_rfl) (Wnt.none rfl) rfl rfl (by intro w hm; replace hm : Mm _ _ _ w := hm; exact r_val hs tab rfl) (hm.sub (List.nil_sublist _)) ?_; clear hs a; intro a hs
          refine hEach [12] (by kernel_rfl) (eDo hs rfl (Wnt.none rfl) rfl rfl (by exact d_alloc rfl tab rfl rfl hm) ?_ eNil)
          clear hs hm a
          rintro _ w32 ⟨g21, rfl, -, hm⟩ a hs
          refine ⟨hm.sub (by repeat (first | exact List.Sublist.refl _ | exact List.nil_sublist _ | apply List.Sublist.cons_cons | apply List.Sublist.cons)), ?_⟩
          refine hEach [13] (by kernel_rfl) (eDoN hs rfl (Wnt.none rfl) rfl (by exact d_store hs rfl rfl rfl tab rfl rfl rfl rfl hm (by repeat (first | exact Rep.head _ _ _ | apply Rep.tail)) rfl) ?_ eNil)
          clear hs hm
          rintro - w33 hm a hs
          refine ⟨hm.sub (by repeat (first | exact List.Sublist.refl _ | exact List.nil_sublist _ | apply List.Sublist.cons_cons | apply List.Sublist.cons)), ?_⟩
          refine hTake 14 hs rfl (by kernel_rfl) (Wnt.none rfl) rfl rfl (by intro w hm; replace hm : Mm _ _ _ w := hm; exact r_val hs tab rfl) (hm.sub (List.nil_sublist _)) ?_; clear hs a; intro a hs
          refine hDone (by kernel_rfl) ?_
          exact And.intro rfl ⟨g21, hs.sub (Has.all ⟨rfl, rfl, rfl, rfl, rfl, rfl, rfl, rfl, rfl, rfl, rfl, rfl, trivial⟩), hm⟩
        · skip
          clear hs hm a
          rintro _ w32 ⟨g21, rfl, -, hm⟩ a hs
          refine ⟨hm.sub (by repeat (first | exact List.Sublist.refl _ | exact List.nil_sublist _ | apply List.Sublist.cons_cons | apply List.Sublist.cons)), ?_⟩
          refine hEach [8] (by kernel_rfl) (eDo hs rfl (Wnt.none rfl) rfl rfl (by exact d_call hs rfl rfl rfl (pl 13 rfl) ((c4 _ hm.fr))) ?_ eNil)
          clear hs
          rintro _ w1 ⟨rfl, hf⟩ a hs
          replace hm := hm.pu hf
          clear hf
          refine ⟨hm.sub (by repeat (first | exact List.Sublist.refl _ | exact List.nil_sublist _ | apply List.Sublist.cons_cons | apply List.Sublist.cons)), ?_⟩
          refine hTake 9 hs rfl (by kernel_rfl) (Wnt.none rfl) rfl rfl (by intro w hm; replace hm : Mm _ _ _ w := hm; exact r_val hs tab rfl) (hm.sub (List.nil_sublist _)) ?_; clear hs a; intro a hs
          refine hTake 10 hs rfl (by kernel_rfl) (Wnt.none rfl) rfl rfl (by intro w hm; replace hm : Mm _ _ _ w := hm; exact r_val hs tab rfl) (hm.sub (List.nil_sublist _)) ?_; clear hs a; intro a hs
          refine hTake 11 hs rfl (by kernel_rfl) (Wnt.none rfl) rfl rfl (by intro w hm; replace hm : Mm _ _ _ w := hm; exact r_val hs tab rfl) (hm.sub (List.nil_sublist _)) ?_; clear hs a; intro a hs
          refine hEach [13] (by kernel_rfl) (eDoN hs rfl (Wnt.none rfl) rfl (by exact d_store hs rfl rfl rfl tab rfl rfl rfl rfl hm (by repeat (first | exact Rep.head _ _ _ | apply Rep.tail)) rfl) ?_ eNil)
          clear hs hm
          rintro - w33 hm a hs
          refine ⟨hm.sub (by repeat (first | exact List.Sublist.refl _ | exact List.nil_sublist _ | apply List.Sublist.cons_cons | apply List.Sublist.cons)), ?_⟩
          refine hTake 14 hs rfl (by kernel_rfl) (Wnt.none rfl) rfl rfl (by intro w hm; replace hm : Mm _ _ _ w := hm; exact r_val hs tab rfl) (hm.sub (List.nil_sublist _)) ?_; clear hs a; intro a hs
          refine hDone (by kernel_rfl) ?_
          exact And.intro rfl ⟨g21, hs.sub (Has.all ⟨rfl, rfl, rfl, rfl, rfl, rfl, rfl, rfl, rfl, rfl, rfl, rfl, trivial⟩), hm⟩
      clear hs hm a
      rintro a w ⟨g21, hs, hm⟩
      repeat (first | ((with_reducible refine toL hm ?_); (first | refine oneV hs (by first | exact Wnt.none rfl | exact Wnt.some rfl rfl rfl rfl) rfl rfl (by intro w hm; (first | exact r_val hs tab rfl | ((with_reducible apply kLoad); first | exact r_load hs rfl rfl tab rfl rfl (by first | exact Ro.cl (by assumption) hm (by first | exact (fun t => t) | assumption) (by first | rfl | assumption) | exact Ro.cl0 (by assumption) hm (by first | exact (fun t => t) | assumption) (by first | rfl | assumption) | exact hm.cl (by repeat (first | exact mH | apply mT)) (by first | rfl | assumption)) | exact r_loadO hs rfl rfl tab rfl rfl rfl hm (by repeat (first | exact mH | apply mT)) (by rfl) | exact r_loadA hs rfl rfl tab rfl rfl (Ro.ro (by assumption) hm (by first | exact (fun t => t) | assumption)) rfl) | exact r_iz hs tab rfl rfl (by omega) | exact r_iy hs tab rfl rfl (by omega) | exact r_cT hs rfl (by omega) | exact r_cF hs rfl (by omega) | exact r_arH hs rfl (by assumption) (by omega) | exact r_ar hs rfl (by omega) | exact r_remH hs rfl rfl rfl (by assumption) (by omega) (by omega) | exact r_rem64 hs rfl rfl rfl (by omega) (by omega) | exact r_rem hs rfl rfl rfl (by omega) | exact r_bi hs rfl | exact r_pick hs rfl rfl rfl rfl | exact r_neqSt (fl := [(true, 0, 5), (true, 1, 22)]) hs rfl rfl rfl tab (by kernel_rfl) (by kernel_rfl) (by kernel_rfl) (by kernel_rfl) rfl | exact r_eqlSt (fl := [(true, 0, 5), (true, 1, 22)]) hs rfl rfl rfl tab (by kernel_rfl) (by kernel_rfl) (by kernel_rfl) (by kernel_rfl) rfl)) ?_ | refine oneN hs rfl rfl rfl rfl rfl rfl rfl ?_ | refine oneU hs rfl rfl rfl rfl rfl rfl ?_); clear hs a; intro a hs) | ((with_reducible apply lCons); first | (refine dv hs (by first | exact Wnt.none rfl | exact Wnt.some rfl rfl rfl rfl) rfl rfl (by first | exact d_alloc rfl tab rfl rfl hm | exact d_box hs rfl rfl rfl hm | exact d_buildSlice0 rfl tab rfl rfl rfl hm | exact d_buildSlice hs rfl tab rfl rfl rfl rfl rfl rfl rfl rfl rfl hm) ?_; clear hs hm a; rintro _ w ⟨g, rfl, -, hm⟩ a hs) | (refine stn hs rfl rfl (by first | exact d_store hs rfl rfl rfl tab rfl rfl rfl rfl hm (by repeat (first | exact Rep.head _ _ _ | apply Rep.tail)) (by rfl) | exact d_store1 hs rfl rfl rfl tab rfl rfl rfl rfl hm (by repeat (first | exact Rep.head _ _ _ | apply Rep.tail)) (by first | omega | assumption | (simp; omega))) ?_; clear hs hm a; rintro - w hm a hs) ) | (with_reducible first | apply lNilThen | apply lNilBlock | apply lNil | apply wp_seq | apply wp_region_lit | apply wp_block | apply cExit | apply cRet | apply cSkip | apply gThen | apply gBlock | apply eThen | apply eBlockHit | refine eBlock rfl ?_ | apply rThen | apply rBlock) | ((with_reducible apply cCond); first | refine cTrue hs rfl (by first | rfl | assumption | exact decide_eq_true (by omega) | exact decide_eq_false (by omega) | exact ndT (by omega) | exact ndF (by omega)) ?_ | refine cFalse hs rfl (by first | rfl | assumption | exact decide_eq_true (by omega) | exact decide_eq_false (by omega) | exact ndT (by omega) | exact ndF (by omega)) ?_))
      exact ⟨j + 1, by omega, hs.sub (Has.all ⟨rfl, rfl, rfl, rfl, rfl, rfl, trivial⟩), hm.sub (List.nil_sublist _), by omega⟩
    · skip
      replace hJB : ((t == s) && ((v == u) && true)) = false := hJB
      repeat (first | ((with_reducible first | refine toL hm ?_ | refine toQ ?_); (first | refine oneV hs (by first | exact Wnt.none rfl | exact Wnt.some rfl rfl rfl rfl) rfl rfl (by intro w hm; (first | exact r_val hs tab rfl | ((with_reducible apply kLoad); first | exact r_load hs rfl rfl tab rfl rfl (by first | exact Ro.cl (by assumption) hm (by first | exact (fun t => t) | assumption) (by first | rfl | assumption) | exact Ro.cl0 (by assumption) hm (by first | exact (fun t => t) | assumption) (by first | rfl | assumption) | exact hm.cl (by repeat (first | exact mH | apply mT)) (by first | rfl | assumption)) | exact r_loadO hs rfl rfl tab rfl rfl rfl hm (by repeat (first | exact mH | apply mT)) (by rfl) | exact r_loadA hs rfl rfl tab rfl rfl (Ro.ro (by assumption) hm (by first | exact (fun t => t) | assumption)) rfl) | exact r_iz hs tab rfl rfl (by omega) | exact r_iy hs tab rfl rfl (by omega) | exact r_cT hs rfl (by omega) | exact r_cF hs rfl (by omega) | exact r_arH hs rfl (by assumption) (by omega) | exact r_ar hs rfl (by omega) | exact r_remH hs rfl rfl rfl (by assumption) (by omega) (by omega) | exact r_rem64 hs rfl rfl rfl (by omega) (by omega) | exact r_rem hs rfl rfl rfl (by omega) | exact r_bi hs rfl | exact r_pick hs rfl rfl rfl rfl | exact r_neqSt (fl := [(true, 0, 5), (true, 1, 22)]) hs rfl rfl rfl tab (by kernel_rfl) (by kernel_rfl) (by kernel_rfl) (by kernel_rfl) rfl | exact r_eqlSt (fl := [(true, 0, 5), (true, 1, 22)]) hs rfl rfl rfl tab (by kernel_rfl) (by kernel_rfl) (by kernel_rfl) (by kernel_rfl) rfl)) ?_ | refine oneN hs rfl rfl rfl rfl rfl rfl rfl ?_ | refine oneU hs rfl rfl rfl rfl rfl rfl ?_); clear hs a; intro a hs) | ((with_reducible apply lCons); first | (refine dv hs (by first | exact Wnt.none rfl | exact Wnt.some rfl rfl rfl rfl) rfl rfl (by first | exact d_alloc rfl tab rfl rfl hm | exact d_box hs rfl rfl rfl hm | exact d_buildSlice0 rfl tab rfl rfl rfl hm | exact d_buildSlice hs rfl tab rfl rfl rfl rfl rfl rfl rfl rfl rfl hm) ?_; clear hs hm a; rintro _ w ⟨g, rfl, -, hm⟩ a hs) | (refine stn hs rfl rfl (by first | exact d_store hs rfl rfl rfl tab rfl rfl rfl rfl hm (by repeat (first | exact Rep.head _ _ _ | apply Rep.tail)) (by rfl) | exact d_store1 hs rfl rfl rfl tab rfl rfl rfl rfl hm (by repeat (first | exact Rep.head _ _ _ | apply Rep.tail)) (by first | omega | assumption | (simp; omega))) ?_; clear hs hm a; rintro - w hm a hs) ) | ((with_reducible apply qNil); clear hm; intro w hm) | ((with_reducible refine cQuiet hm ?_ ?_ ?_ ?_); rfl; kernel_rfl; kernel_rfl) | (with_reducible first | apply lNilThen | apply lNilBlock | apply lNil | apply wp_seq | apply wp_region_lit | apply wp_block | apply cExit | apply cRet | apply cSkip | apply gThen | apply gBlock | apply eThen | apply eBlockHit | refine eBlock rfl ?_ | apply rThen | apply rBlock) | ((with_reducible apply cCond); first | refine cTrue hs rfl (by first | rfl | assumption | exact decide_eq_true (by omega) | exact decide_eq_false (by omega) | exact ndT (by omega) | exact ndF (by omega)) ?_ | refine cFalse hs rfl (by first | rfl | assumption | exact decide_eq_true (by omega) | exact decide_eq_false (by omega) | exact ndT (by omega) | exact ndF (by omega)) ?_))
      rw [hJB] at hs
      repeat (first | ((with_reducible first | refine toL hm ?_ | refine toQ ?_); (first | refine oneV hs (by first | exact Wnt.none rfl | exact Wnt.some rfl rfl rfl rfl) rfl rfl (by intro w hm; (first | exact r_val hs tab rfl | ((with_reducible apply kLoad); first | exact r_load hs rfl rfl tab rfl rfl (by first | exact Ro.cl (by assumption) hm (by first | exact (fun t => t) | assumption) (by first | rfl | assumption) | exact Ro.cl0 (by assumption) hm (by first | exact (fun t => t) | assumption) (by first | rfl | assumption) | exact hm.cl (by repeat (first | exact mH | apply mT)) (by first | rfl | assumption)) | exact r_loadO hs rfl rfl tab rfl rfl rfl hm (by repeat (first | exact mH | apply mT)) (by rfl) | exact r_loadA hs rfl rfl tab rfl rfl (Ro.ro (by assumption) hm (by first | exact (fun t => t) | assumption)) rfl) | exact r_iz hs tab rfl rfl (by omega) | exact r_iy hs tab rfl rfl (by omega) | exact r_cT hs rfl (by omega) | exact r_cF hs rfl (by omega) | exact r_arH hs rfl (by assumption) (by omega) | exact r_ar hs rfl (by omega) | exact r_remH hs rfl rfl rfl (by assumption) (by omega) (by omega) | exact r_rem64 hs rfl rfl rfl (by omega) (by omega) | exact r_rem hs rfl rfl rfl (by omega) | exact r_bi hs rfl | exact r_pick hs rfl rfl rfl rfl | exact r_neqSt (fl := [(true, 0, 5), (true, 1, 22)]) hs rfl rfl rfl tab (by kernel_rfl) (by kernel_rfl) (by kernel_rfl) (by kernel_rfl) rfl | exact r_eqlSt (fl := [(true, 0, 5), (true, 1, 22)]) hs rfl rfl rfl tab (by kernel_rfl) (by kernel_rfl) (by kernel_rfl) (by kernel_rfl) rfl)) ?_ | refine oneN hs rfl rfl rfl rfl rfl rfl rfl ?_ | refine oneU hs rfl rfl rfl rfl rfl rfl ?_); clear hs a; intro a hs) | ((with_reducible apply lCons); first | (refine dv hs (by first | exact Wnt.none rfl | exact Wnt.some rfl rfl rfl rfl) rfl rfl (by first | exact d_alloc rfl tab rfl rfl hm | exact d_box hs rfl rfl rfl hm | exact d_buildSlice0 rfl tab rfl rfl rfl hm | exact d_buildSlice hs rfl tab rfl rfl rfl rfl rfl rfl rfl rfl rfl hm) ?_; clear hs hm a; rintro _ w ⟨g, rfl, -, hm⟩ a hs) | (refine stn hs rfl rfl (by first | exact d_store hs rfl rfl rfl tab rfl rfl rfl rfl hm (by repeat (first | exact Rep.head _ _ _ | apply Rep.tail)) (by rfl) | exact d_store1 hs rfl rfl rfl tab rfl rfl rfl rfl hm (by repeat (first | exact Rep.head _ _ _ | apply Rep.tail)) (by first | omega | assumption | (simp; omega))) ?_; clear hs hm a; rintro - w hm a hs) ) | ((with_reducible apply qNil); clear hm; intro w hm) | ((with_reducible refine cQuiet hm ?_ ?_ ?_ ?_); rfl; kernel_rfl; kernel_rfl) | (with_reducible first | apply lNilThen | apply lNilBlock | apply lNil | apply wp_seq | apply wp_region_lit | apply wp_block | apply cExit | apply cRet | apply cSkip | apply gThen | apply gBlock | apply eThen | apply eBlockHit | refine eBlock rfl ?_ | apply rThen | apply rBlock) | ((with_reducible apply cCond); first | refine cTrue hs rfl (by first | rfl | assumption | exact decide_eq_true (by omega) | exact decide_eq_false (by omega) | exact ndT (by omega) | exact ndF (by omega)) ?_ | refine cFalse hs rfl (by first | rfl | assumption | exact decide_eq_true (by omega) | exact decide_eq_false (by omega) | exact ndT (by omega) | exact ndF (by omega)) ?_))
      refine cMid (fun a w => ∃ g20, Sl Try.f7.ntmps [(13, .slice (some ⟨gj, 0, none⟩) 2 2), (15, .int .i64 0), (16, .pointer (some ⟨g16, 0, none⟩)), (20, .pointer (some ⟨g20, 0, none⟩)), (6, .bool false), (8, .slice x.B x.n x.d), (9, .pointer (some ⟨g9, 0, none⟩)), (54, .slice (some ⟨g54, 0, none⟩) 3 3), (55, .int .i64 3), (56, .int .i64 (j : Int))] a ∧ Mm (fun _ => False) wC [⟨some g20, 24, [.int .u8 0, .int .u16 0]⟩, ⟨some g16, 24, [.int .u8 0, .int .u16 0]⟩] w) ?_ ?_
      · skip
        refine cDraw (n := 15) [] hm rfl rfl ?_
        clear hm
        intro w2 hm
        refine hTake 0 hs rfl (by kernel_rfl) (Wnt.none rfl) rfl rfl (by intro w hm; replace hm : Mm _ _ _ w := hm; ((with_reducible apply kLoad); first | exact r_load hs rfl rfl tab rfl rfl (by first | exact Ro.cl (by assumption) hm (by first | exact (fun t => t) | assumption) (by first | rfl | assumption) | exact Ro.cl0 (by assumption) hm (by first | exact (fun t => t) | assumption) (by first | rfl | assumption) | exact hm.cl (by repeat (first | exact mH | apply mT)) (by first | rfl | assumption)) | exact r_loadO hs rfl rfl tab rfl rfl rfl hm (by repeat (first | exact mH | apply mT)) (by rfl) | exact r_loadA hs rfl rfl tab rfl rfl (Ro.ro (by assumption) hm (by first | exact (fun t => t) | assumption)) rfl)) (hm.sub (List.nil_sublist _)) ?_; clear hs a; intro a hs
        refine hTake 1 hs rfl (by kernel_rfl) (Wnt.none rfl) rfl rfl (by intro w hm; replace hm : Mm _ _ _ w := hm; exact r_val hs tab rfl) (hm.sub (List.nil_sublist _)) ?_; clear hs a; intro a hs
        refine hTake 2 hs rfl (by kernel_rfl) (Wnt.none rfl) rfl rfl (by intro w hm; replace hm : Mm _ _ _ w := hm; exact r_val hs tab rfl) (hm.sub (List.nil_sublist _)) ?_; clear hs a; intro a hs
        refine hTake 3 hs rfl (by kernel_rfl) (Wnt.none rfl) rfl rfl (by intro w hm; replace hm : Mm _ _ _ w := hm; (first | exact r_iz hs tab rfl rfl (by omega) | exact r_iy hs tab rfl rfl (by omega))) (hm.sub (List.nil_sublist _)) ?_; clear hs a; intro a hs
        refine hTake 4 hs rfl (by kernel_rfl) (Wnt.none rfl) rfl rfl (by intro w hm; replace hm : Mm _ _ _ w := hm; ((with_reducible apply kLoad); first | exact r_load hs rfl rfl tab rfl rfl (by first | exact Ro.cl (by assumption) hm (by first | exact (fun t => t) | assumption) (by first | rfl | assumption) | exact Ro.cl0 (by assumption) hm (by first | exact (fun t => t) | assumption) (by first | rfl | assumption) | exact hm.cl (by repeat (first | exact mH | apply mT)) (by first | rfl | assumption)) | exact r_loadO hs rfl rfl tab rfl rfl rfl hm (by repeat (first | exact mH | apply mT)) (by rfl) | exact r_loadA hs rfl rfl tab rfl rfl (Ro.ro (by assumption) hm (by first | exact (fun t => t) | assumption)) rfl)) (hm.sub (List.nil_sublist _)) ?_; clear hs a; intro a hs
        refine hTake 5 hs rfl (by kernel_rfl) (Wnt.none rfl) rfl rfl (by intro w hm; replace hm : Mm _ _ _ w := hm; exact r_val hs tab rfl) (hm.sub (List.nil_sublist _)) ?_; clear hs a; intro a hs
        refine hTake 6 hs rfl (by kernel_rfl) (Wnt.none rfl) rfl rfl (by intro w hm; replace hm : Mm _ _ _ w := hm; (first | exact r_iz hs tab rfl rfl (by omega) | exact r_iy hs tab rfl rfl (by omega))) (hm.sub (List.nil_sublist _)) ?_; clear hs a; intro a hs
        refine hTake 7 hs rfl (by kernel_rfl) (Wnt.none rfl) rfl rfl (by intro w hm; replace hm : Mm _ _ _ w := hm; ((with_reducible apply kLoad); first | exact r_load hs rfl rfl tab rfl rfl (by first | exact Ro.cl (by assumption) hm (by first | exact (fun t => t) | assumption) (by first | rfl | assumption) | exact Ro.cl0 (by assumption) hm (by first | exact (fun t => t) | assumption) (by first | rfl | assumption) | exact hm.cl (by repeat (first | exact mH | apply mT)) (by first | rfl | assumption)) | exact r_loadO hs rfl rfl tab rfl rfl rfl hm (by repeat (first | exact mH | apply mT)) (by rfl) | exact r_loadA hs rfl rfl tab rfl rfl (Ro.ro (by assumption) hm (by first | exact (fun t => t) | assumption)) rfl)) (hm.sub (List.nil_sublist _)) ?_; clear hs a; intro a hs
        refine hEach [8, 12] (by kernel_rfl) (eDo hs rfl (Wnt.none rfl) rfl rfl (by exact d_call hs rfl rfl rfl (pl 13 rfl) ((c3 _ hm.fr))) ?_ (eDo hs rfl (Wnt.none rfl) rfl rfl (by exact d_alloc rfl tab rfl rfl hm) ?_ eNil))
        · skip
          clear hs
          rintro _ w1 ⟨rfl, hf⟩ a hs
          replace hm := hm.pu hf
          clear hf
          refine ⟨hm.sub (by repeat (first | exact List.Sublist.refl _ | exact List.nil_sublist _ | apply List.Sublist.cons_cons | apply List.Sublist.cons)), ?_⟩
          refine hTake 9 hs rfl (by kernel_rfl) (Wnt.none rfl) rfl rfl (by intro w hm; replace hm : Mm _ _ _ w := hm; exact r_val hs tab rfl) (hm.sub (List.nil_sublist _)) ?_; clear hs a; intro a hs
          refine hTake 10 hs rfl (by kernel_rfl) (Wnt.none rfl) rfl rfl (by intro w hm; replace hm : Mm _ _ _ w := hm; exact r_val hs tab rfl) (hm.sub (List.nil_sublist _)) ?_; clear hs a; intro a hs
          refine hTake 11 hs rfl (by kernel_rfl) (Wnt.none rfl) rfl rfl (by intro w hm; replace hm : Mm _ _ _ w := hm; exact r_val hs tab rfl) (hm.sub (List.nil_sublist _)) ?_; clear hs a; intro a hs
          refine hEach [12] (by kernel_rfl) (eDo hs rfl (Wnt.none rfl) rfl rfl (by exact d_alloc rfl tab rfl rfl hm) ?_ eNil)
          clear hs hm a
          rintro _ w32 ⟨g20, rfl, -, hm⟩ a hs
          refine ⟨hm.sub (by repeat (first | exact List.Sublist.refl _ | exact List.nil_sublist _ | apply List.Sublist.cons_cons | apply List.Sublist.cons)), ?_⟩
          refine hEach [13] (by kernel_rfl) (eDoN hs rfl (Wnt.none rfl) rfl (by exact d_store hs rfl rfl rfl tab rfl rfl rfl rfl hm (by repeat (first | exact Rep.head _ _ _ | apply Rep.tail)) rfl) ?_ eNil)
          clear hs hm
          rintro - w33 hm a hs
          refine ⟨hm.sub (by repeat (first | exact List.Sublist.refl _ | exact List.nil_sublist _ | apply List.Sublist.cons_cons | apply List.Sublist.cons)), ?_⟩
          refine hTake 14 hs rfl (by kernel_rfl) (Wnt.none rfl) rfl rfl (by intro w hm; replace hm : Mm _ _ _ w := hm; exact r_val hs tab rfl) (hm.sub (List.nil_sublist _)) ?_; clear hs a; intro a hs
          refine hDone (by kernel_rfl) ?_
          exact And.intro rfl ⟨g20, hs.sub (Has.all ⟨rfl, rfl, rfl, rfl, rfl, rfl, rfl, rfl, rfl, rfl, trivial⟩), hm.sel [0, 2] (by decide) rfl⟩
        · skip
          clear hs hm a
          rintro _ w32 ⟨g20, rfl, -, hm⟩ a hs
          refine ⟨hm.sub (by repeat (first | exact List.Sublist.refl _ | exact List.nil_sublist _ | apply List.Sublist.cons_cons | apply List.Sublist.cons)), ?_⟩
          refine hEach [8] (by kernel_rfl) (eDo hs rfl (Wnt.none rfl) rfl rfl (by exact d_call hs rfl rfl rfl (pl 13 rfl) ((c3 _ hm.fr))) ?_ eNil)
          clear hs
          rintro _ w1 ⟨rfl, hf⟩ a hs
          replace hm := hm.pu hf
          clear hf
          refine ⟨hm.sub (by repeat (first | exact List.Sublist.refl _ | exact List.nil_sublist _ | apply List.Sublist.cons_cons | apply List.Sublist.cons)), ?_⟩
          refine hTake 9 hs rfl (by kernel_rfl) (Wnt.none rfl) rfl rfl (by intro w hm; replace hm : Mm _ _ _ w := hm; exact r_val hs tab rfl) (hm.sub (List.nil_sublist _)) ?_; clear hs a; intro a hs
          refine hTake 10 hs rfl (by kernel_rfl) (Wnt.none rfl) rfl rfl (by intro w hm; replace hm : Mm _ _ _ w := hm; exact r_val hs tab rfl) (hm.sub (List.nil_sublist _)) ?_; clear hs a; intro a hs
          refine hTake 11 hs rfl (by kernel_rfl) (Wnt.none rfl) rfl rfl (by intro w hm; replace hm : Mm _ _ _ w := hm; exact r_val hs tab rfl) (hm.sub (List.nil_sublist _)) ?_; clear hs a; intro a hs
          refine hEach [13] (by kernel_rfl) (eDoN hs rfl (Wnt.none rfl) rfl (by exact d_store hs rfl rfl rfl tab rfl rfl rfl rfl hm (by repeat (first | exact Rep.head _ _ _ | apply Rep.tail)) rfl) ?_ eNil)
          clear hs hm
          rintro - w33 hm a hs
          refine ⟨hm.sub (by repeat (first | exact List.Sublist.refl _ | exact List.nil_sublist _ | apply List.Sublist.cons_cons | apply List.Sublist.cons)), ?_⟩
          refine hTake 14 hs rfl (by kernel_rfl) (Wnt.none rfl) rfl rfl (by intro w hm; replace hm : Mm _ _ _ w := hm; exact r_val hs tab rfl) (hm.sub (List.nil_sublist _)) ?_; clear hs a; intro a hs
          refine hDone (by kernel_rfl) ?_
          exact And.intro rfl ⟨g20, hs.sub (Has.all ⟨rfl, rfl, rfl, rfl, rfl, rfl, rfl, rfl, rfl, rfl, trivial⟩), hm.sel [0, 2] (by decide) rfl⟩
      clear hs hm a
      rintro a w ⟨g20, hs, hm⟩
      repeat (first | ((with_reducible refine toL hm ?_); (first | refine oneV hs (by first | exact Wnt.none rfl | exact Wnt.some rfl rfl rfl rfl) rfl rfl (by intro w hm; (first | exact r_val hs tab rfl | ((with_reducible apply kLoad); first | exact r_load hs rfl rfl tab rfl rfl (by first | exact Ro.cl (by assumption) hm (by first | exact (fun t => t) | assumption) (by first | rfl | assumption) | exact Ro.cl0 (by assumption) hm (by first | exact (fun t => t) | assumption) (by first | rfl | assumption) | exact hm.cl (by repeat (first | exact mH | apply mT)) (by first | rfl | assumption)) | exact r_loadO hs rfl rfl tab rfl rfl rfl hm (by repeat (first | exact mH | apply mT)) (by rfl) | exact r_loadA hs rfl rfl tab rfl rfl (Ro.ro (by assumption) hm (by first | exact (fun t => t) | assumption)) rfl) | exact r_iz hs tab rfl rfl (by omega) | exact r_iy hs tab rfl rfl (by omega) | exact r_cT hs rfl (by omega) | exact r_cF hs rfl (by omega) | exact r_arH hs rfl (by assumption) (by omega) | exact r_ar hs rfl (by omega) | exact r_remH hs rfl rfl rfl (by assumption) (by omega) (by omega) | exact r_rem64 hs rfl rfl rfl (by omega) (by omega) | exact r_rem hs rfl rfl rfl (by omega) | exact r_bi hs rfl | exact r_pick hs rfl rfl rfl rfl | exact r_neqSt (fl := [(true, 0, 5), (true, 1, 22)]) hs rfl rfl rfl tab (by kernel_rfl) (by kernel_rfl) (by kernel_rfl) (by kernel_rfl) rfl | exact r_eqlSt (fl := [(true, 0, 5), (true, 1, 22)]) hs rfl rfl rfl tab (by kernel_rfl) (by kernel_rfl) (by kernel_rfl) (by kernel_rfl) rfl)) ?_ | refine oneN hs rfl rfl rfl rfl rfl rfl rfl ?_ | refine oneU hs rfl rfl rfl rfl rfl rfl ?_); clear hs a; intro a hs) | ((with_reducible apply lCons); first | (refine dv hs (by first | exact Wnt.none rfl | exact Wnt.some rfl rfl rfl rfl) rfl rfl (by first | exact d_alloc rfl tab rfl rfl hm | exact d_box hs rfl rfl rfl hm | exact d_buildSlice0 rfl tab rfl rfl rfl hm | exact d_buildSlice hs rfl tab rfl rfl rfl rfl rfl rfl rfl rfl rfl hm) ?_; clear hs hm a; rintro _ w ⟨g, rfl, -, hm⟩ a hs) | (refine stn hs rfl rfl (by first | exact d_store hs rfl rfl rfl tab rfl rfl rfl rfl hm (by repeat (first | exact Rep.head _ _ _ | apply Rep.tail)) (by rfl) | exact d_store1 hs rfl rfl rfl tab rfl rfl rfl rfl hm (by repeat (first | exact Rep.head _ _ _ | apply Rep.tail)) (by first | omega | assumption | (simp; omega))) ?_; clear hs hm a; rintro - w hm a hs) ) | (with_reducible first | apply lNilThen | apply lNilBlock | apply lNil | apply wp_seq | apply wp_region_lit | apply wp_block | apply cExit | apply cRet | apply cSkip | apply gThen | apply gBlock | apply eThen | apply eBlockHit | refine eBlock rfl ?_ | apply rThen | apply rBlock) | ((with_reducible apply cCond); first | refine cTrue hs rfl (by first | rfl | assumption | exact decide_eq_true (by omega) | exact decide_eq_false (by omega) | exact ndT (by omega) | exact ndF (by omega)) ?_ | refine cFalse hs rfl (by first | rfl | assumption | exact decide_eq_true (by omega) | exact decide_eq_false (by omega) | exact ndT (by omega) | exact ndF (by omega)) ?_))
      refine cMid (fun a w => ∃ g21, Sl Try.f7.ntmps [(13, .slice (some ⟨gj, 0, none⟩) 2 2), (15, .int .i64 0), (16, .pointer (some ⟨g16, 0, none⟩)), (17, .int .i64 0), (20, .pointer (some ⟨g20, 0, none⟩)), (21, .pointer (some ⟨g21, 0, none⟩)), (6, .bool false), (8, .slice x.B x.n x.d), (9, .pointer (some ⟨g9, 0, none⟩)), (54, .slice (some ⟨g54, 0, none⟩) 3 3), (55, .int .i64 3), (56, .int .i64 (j : Int))] a ∧ Mm (fun _ => False) wC [⟨some g21, 24, [.int .u8 0, .int .u16 1]⟩, ⟨some g20, 24, [.int .u8 0, .int .u16 0]⟩, ⟨some g16, 24, [.int .u8 0, .int .u16 0]⟩] w) ?_ ?_
      · skip
        refine cDraw (n := 15) [] hm rfl rfl ?_
        clear hm
        intro w2 hm
        refine hTake 0 hs rfl (by kernel_rfl) (Wnt.none rfl) rfl rfl (by intro w hm; replace hm : Mm _ _ _ w := hm; ((with_reducible apply kLoad); first | exact r_load hs rfl rfl tab rfl rfl (by first | exact Ro.cl (by assumption) hm (by first | exact (fun t => t) | assumption) (by first | rfl | assumption) | exact Ro.cl0 (by assumption) hm (by first | exact (fun t => t) | assumption) (by first | rfl | assumption) | exact hm.cl (by repeat (first | exact mH | apply mT)) (by first | rfl | assumption)) | exact r_loadO hs rfl rfl tab rfl rfl rfl hm (by repeat (first | exact mH | apply mT)) (by rfl) | exact r_loadA hs rfl rfl tab rfl rfl (Ro.ro (by assumption) hm (by first | exact (fun t => t) | assumption)) rfl)) (hm.sub (List.nil_sublist _)) ?_; clear hs a; intro a hs
        refine hTake 1 hs rfl (by kernel_rfl) (Wnt.none rfl) rfl rfl (by intro w hm; replace hm : Mm _ _ _ w := hm; exact r_val hs tab rfl) (hm.sub (List.nil_sublist _)) ?_; clear hs a; intro a hs
        refine hTake 2 hs rfl (by kernel_rfl) (Wnt.none rfl) rfl rfl (by intro w hm; replace hm : Mm _ _ _ w := hm; exact r_val hs tab rfl) (hm.sub (List.nil_sublist _)) ?_; clear hs a; intro a hs
        refine hTake 3 hs rfl (by kernel_rfl) (Wnt.none rfl) rfl rfl (by intro w hm; replace hm : Mm _ _ _ w := hm; (first | exact r_iz hs tab rfl rfl (by omega) | exact r_iy hs tab rfl rfl (by omega))) (hm.sub (List.nil_sublist _)) ?_; clear hs a; intro a hs
        refine hTake 4 hs rfl (by kernel_rfl) (Wnt.none rfl) rfl rfl (by intro w hm; replace hm : Mm _ _ _ w := hm; ((with_reducible apply kLoad); first | exact r_load hs rfl rfl tab rfl rfl (by first | exact Ro.cl (by assumption) hm (by first | exact (fun t => t) | assumption) (by first | rfl | assumption) | exact Ro.cl0 (by assumption) hm (by first | exact (fun t => t) | assumption) (by first | rfl | assumption) | exact hm.cl (by repeat (first | exact mH | apply mT)) (by first | rfl | assumption)) | exact r_loadO hs rfl rfl tab rfl rfl rfl hm (by repeat (first | exact mH | apply mT)) (by rfl) | exact r_loadA hs rfl rfl tab rfl rfl (Ro.ro (by assumption) hm (by first | exact (fun t => t) | assumption)) rfl)) (hm.sub (List.nil_sublist _)) ?_; clear hs a; intro a hs
        refine hTake 5 hs rfl (by kernel_rfl) (Wnt.none rfl) rfl rfl (by intro w hm; replace hm : Mm _ _ _ w := hm; exact r_val hs tab rfl) (hm.sub (List.nil_sublist _)) ?_; clear hs a; intro a hs
        refine hTake 6 hs rfl (by kernel_rfl) (Wnt.none rfl) rfl rfl (by intro w hm; replace hm : Mm _ _ _ w := hm; (first | exact r_iz hs tab rfl rfl (by omega) | exact r_iy hs tab rfl rfl (by omega))) (hm.sub (List.nil_sublist _)) ?_; clear hs a; intro a hs
        refine hTake 7 hs rfl (by kernel_rfl) (Wnt.none rfl) rfl rfl (by intro w hm; replace hm : Mm _ _ _ w := hm; ((with_reducible apply kLoad); first | exact r_load hs rfl rfl tab rfl rfl (by first | exact Ro.cl (by assumption) hm (by first | exact (fun t => t) | assumption) (by first | rfl | assumption) | exact Ro.cl0 (by assumption) hm (by first | exact (fun t => t) | assumption) (by first | rfl | assumption) | exact hm.cl (by repeat (first | exact mH | apply mT)) (by first | rfl | assumption)) | exact r_loadO hs rfl rfl tab rfl rfl rfl hm (by repeat (first | exact mH | apply mT)) (by rfl) | exact r_loadA hs rfl rfl tab rfl rfl (Ro.ro (by assumption) hm (by first | exact (fun t => t) | assumption)) rfl)) (hm.sub (List.nil_sublist _)) ?_; clear hs a; intro a hs
        refine hEach [8, 12] (by kernel_rfl) (eDo hs rfl (Wnt.none rfl) rfl rfl (by exact d_call hs rfl rfl rfl (pl 13 rfl) ((c4 _ hm.fr))) ?_ (eDo hs rfl (Wnt.none rfl) rfl rfl (by exact d_alloc rfl tab rfl rfl hm) ?_ eNil))
        · skip
          clear hs
          rintro _ w1 ⟨rfl, hf⟩ a hs
          replace hm := hm.pu hf
          clear hf
          refine ⟨hm.sub (by repeat (first | exact List.Sublist.refl _ | exact List.nil_sublist _ | apply List.Sublist.cons_cons | apply List.Sublist.cons)), ?_⟩
          refine hTake 9 hs rfl (by kernel_rfl) (Wnt.none rfl) rfl rfl (by intro w hm; replace hm : Mm _ _ _ w := hm; exact r_val hs tab rfl) (hm.sub (List.nil_sublist _)) ?_; clear hs a; intro a hs
          refine hTake 10 hs rfl (by kernel_rfl) (Wnt.none rfl) rfl rfl (by intro w hm; replace hm : Mm _ _ _ w := hm; exact r_val hs tab rfl) (hm.sub (List.nil_sublist _)) ?_; clear hs a; intro a hs
          refine hTake 11 hs rfl (by kernel_rfl) (Wnt.none rfl) rfl rfl (by intro w hm; replace hm : Mm _ _ _ w := hm; exact r_val hs tab rfl) (hm.sub (List.nil_sublist _)) ?_; clear hs a; intro a hs
          refine hEach [12] (by kernel_rfl) (eDo hs rfl (Wnt.none rfl) rfl rfl (by exact d_alloc rfl tab rfl rfl hm) ?_ eNil)
          clear hs hm a
          rintro _ w32 ⟨g21, rfl, -, hm⟩ a hs
          refine ⟨hm.sub (by repeat (first | exact List.Sublist.refl _ | exact List.nil_sublist _ | apply List.Sublist.cons_cons | apply List.Sublist.cons)), ?_⟩
          refine hEach [13] (by kernel_rfl) (eDoN hs rfl (Wnt.none rfl) rfl (by exact d_store hs rfl rfl rfl tab rfl rfl rfl rfl hm (by repeat (first | exact Rep.head _ _ _ | apply Rep.tail)) rfl) ?_ eNil)
          clear hs hm
          rintro - w33 hm a hs
          refine ⟨hm.sub (by repeat (first | exact List.Sublist.refl _ | exact List.nil_sublist _ | apply List.Sublist.cons_cons | apply List.Sublist.cons)), ?_⟩
          refine hTake 14 hs rfl (by kernel_rfl) (Wnt.none rfl) rfl rfl (by intro w hm; replace hm : Mm _ _ _ w := hm; exact r_val hs tab rfl) (hm.sub (List.nil_sublist _)) ?_; clear hs a; intro a hs
          refine hDone (by kernel_rfl) ?_
          exact And.intro rfl ⟨g21, hs.sub (Has.all ⟨rfl, rfl, rfl, rfl, rfl, rfl, rfl, rfl, rfl, rfl, rfl, rfl, trivial⟩), hm⟩
        · skip
          clear hs hm a
          rintro _ w32 ⟨g21, rfl, -, hm⟩ a hs
          refine ⟨hm.sub (by repeat (first | exact List.Sublist.refl _ | exact List.nil_sublist _ | apply List.Sublist.cons_cons | apply List.Sublist.cons)), ?_⟩
          refine hEach [8] (by kernel_rfl) (eDo hs rfl (Wnt.none rfl) rfl rfl (by exact d_call hs rfl rfl rfl (pl 13 rfl) ((c4 _ hm.fr))) ?_ eNil)
          clear hs
          rintro _ w1 ⟨rfl, hf⟩ a hs
          replace hm := hm.pu hf
          clear hf
          refine ⟨hm.sub (by repeat (first | exact List.Sublist.refl _ | exact List.nil_sublist _ | apply List.Sublist.cons_cons | apply List.Sublist.cons)), ?_⟩
          refine hTake 9 hs rfl (by kernel_rfl) (Wnt.none rfl) rfl rfl (by intro w hm; replace hm : Mm _ _ _ w := hm; exact r_val hs tab rfl) (hm.sub (List.nil_sublist _)) ?_; clear hs a; intro a hs
          refine hTake 10 hs rfl (by kernel_rfl) (Wnt.none rfl) rfl rfl (by intro w hm; replace hm : Mm _ _ _ w := hm; exact r_val hs tab rfl) (hm.sub (List.nil_sublist _)) ?_; clear hs a; intro a hs
          refine hTake 11 hs rfl (by kernel_rfl) (Wnt.none rfl) rfl rfl (by intro w hm; replace hm : Mm _ _ _ w := hm; exact r_val hs tab rfl) (hm.sub (List.nil_sublist _)) ?_; clear hs a; intro a hs
          refine hEach [13] (by kernel_rfl) (eDoN hs rfl (Wnt.none rfl) rfl (by exact d_store hs rfl rfl rfl tab rfl rfl rfl rfl hm (by repeat (first | exact Rep.head _ _ _ | apply Rep.tail)) rfl) ?_ eNil)
          clear hs hm
          rintro - w33 hm a hs
          refine ⟨hm.sub (by repeat (first | exact List.Sublist.refl _ | exact List.nil_sublist _ | apply List.Sublist.cons_cons | apply List.Sublist.cons)), ?_⟩
          refine hTake 14 hs rfl (by kernel_rfl) (Wnt.none rfl) rfl rfl (by intro w hm; replace hm : Mm _ _ _ w := hm; exact r_val hs tab rfl) (hm.sub (List.nil_sublist _)) ?_; clear hs a; intro a hs
          refine hDone (by kernel_rfl) ?_
          exact And.intro rfl ⟨g21, hs.sub (Has.all ⟨rfl, rfl, rfl, rfl, rfl, rfl, rfl, rfl, rfl, rfl, rfl, rfl, trivial⟩), hm⟩
      clear hs hm a
      rintro a w ⟨g21, hs, hm⟩
      repeat (first | ((with_reducible refine toL hm ?_); (first | refine oneV hs (by first | exact Wnt.none rfl | exact Wnt.some rfl rfl rfl rfl) rfl rfl (by intro w hm; (first | exact r_val hs tab rfl | ((with_reducible apply kLoad); first | exact r_load hs rfl rfl tab rfl rfl (by first | exact Ro.cl (by assumption) hm (by first | exact (fun t => t) | assumption) (by first | rfl | assumption) | exact Ro.cl0 (by assumption) hm (by first | exact (fun t => t) | assumption) (by first | rfl | assumption) | exact hm.cl (by repeat (first | exact mH | apply mT)) (by first | rfl | assumption)) | exact r_loadO hs rfl rfl tab rfl rfl rfl hm (by repeat (first | exact mH | apply mT)) (by rfl) | exact r_loadA hs rfl rfl tab rfl rfl (Ro.ro (by assumption) hm (by first | exact (fun t => t) | assumption)) rfl) | exact r_iz hs tab rfl rfl (by omega) | exact r_iy hs tab rfl rfl (by omega) | exact r_cT hs rfl (by omega) | exact r_cF hs rfl (by omega) | exact r_arH hs rfl (by assumption) (by omega) | exact r_ar hs rfl (by omega) | exact r_remH hs rfl rfl rfl (by assumption) (by omega) (by omega) | exact r_rem64 hs rfl rfl rfl (by omega) (by omega) | exact r_rem hs rfl rfl rfl (by omega) | exact r_bi hs rfl | exact r_pick hs rfl rfl rfl rfl | exact r_neqSt (fl := [(true, 0, 5), (true, 1, 22)]) hs rfl rfl rfl tab (by kernel_rfl) (by kernel_rfl) (by kernel_rfl) (by kernel_rfl) rfl | exact r_eqlSt (fl := [(true, 0, 5), (true, 1, 22)]) hs rfl rfl rfl tab (by kernel_rfl) (by kernel_rfl) (by kernel_rfl) (by kernel_rfl) rfl)) ?_ | refine oneN hs rfl rfl rfl rfl rfl rfl rfl ?_ | refine oneU hs rfl rfl rfl rfl rfl rfl ?_); clear hs a; intro a hs) | ((with_reducible apply lCons); first | (refine dv hs (by first | exact Wnt.none rfl | exact Wnt.some rfl rfl rfl rfl) rfl rfl (by first | exact d_alloc rfl tab rfl rfl hm | exact d_box hs rfl rfl rfl hm | exact d_buildSlice0 rfl tab rfl rfl rfl hm | exact d_buildSlice hs rfl tab rfl rfl rfl rfl rfl rfl rfl rfl rfl hm) ?_; clear hs hm a; rintro _ w ⟨g, rfl, -, hm⟩ a hs) | (refine stn hs rfl rfl (by first | exact d_store hs rfl rfl rfl tab rfl rfl rfl rfl hm (by repeat (first | exact Rep.head _ _ _ | apply Rep.tail)) (by rfl) | exact d_store1 hs rfl rfl rfl tab rfl rfl rfl rfl hm (by repeat (first | exact Rep.head _ _ _ | apply Rep.tail)) (by first | omega | assumption | (simp; omega))) ?_; clear hs hm a; rintro - w hm a hs) ) | (with_reducible first | apply lNilThen | apply lNilBlock | apply lNil | apply wp_seq | apply wp_region_lit | apply wp_block | apply cExit | apply cRet | apply cSkip | apply gThen | apply gBlock | apply eThen | apply eBlockHit | refine eBlock rfl ?_ | apply rThen | apply rBlock) | ((with_reducible apply cCond); first | refine cTrue hs rfl (by first | rfl | assumption | exact decide_eq_true (by omega) | exact decide_eq_false (by omega) | exact ndT (by omega) | exact ndF (by omega)) ?_ | refine cFalse hs rfl (by first | rfl | assumption | exact decide_eq_true (by omega) | exact decide_eq_false (by omega) | exact ndT (by omega) | exact ndF (by omega)) ?_))
      exact ⟨j + 1, by omega, hs.sub (Has.all ⟨rfl, rfl, rfl, rfl, rfl, rfl, trivial⟩), hm.sub (List.nil_sublist _), by omega⟩
    · skip
      replace hJB : ((t == s) && ((v == u) && true)) = true := hJB
      repeat (first | ((with_reducible first | refine toL hm ?_ | refine toQ ?_); (first | refine oneV hs (by first | exact Wnt.none rfl | exact Wnt.some rfl rfl rfl rfl) rfl rfl (by intro w hm; (first | exact r_val hs tab rfl | ((with_reducible apply kLoad); first | exact r_load hs rfl rfl tab rfl rfl (by first | exact Ro.cl (by assumption) hm (by first | exact (fun t => t) | assumption) (by first | rfl | assumption) | exact Ro.cl0 (by assumption) hm (by first | exact (fun t => t) | assumption) (by first | rfl | assumption) | exact hm.cl (by repeat (first | exact mH | apply mT)) (by first | rfl | assumption)) | exact r_loadO hs rfl rfl tab rfl rfl rfl hm (by repeat (first | exact mH | apply mT)) (by rfl) | exact r_loadA hs rfl rfl tab rfl rfl (Ro.ro (by assumption) hm (by first | exact (fun t => t) | assumption)) rfl) | exact r_iz hs tab rfl rfl (by omega) | exact r_iy hs tab rfl rfl (by omega) | exact r_cT hs rfl (by omega) | exact r_cF hs rfl (by omega) | exact r_arH hs rfl (by assumption) (by omega) | exact r_ar hs rfl (by omega) | exact r_remH hs rfl rfl rfl (by assumption) (by omega) (by omega) | exact r_rem64 hs rfl rfl rfl (by omega) (by omega) | exact r_rem hs rfl rfl rfl (by omega) | exact r_bi hs rfl | exact r_pick hs rfl rfl rfl rfl | exact r_neqSt (fl := [(true, 0, 5), (true, 1, 22)]) hs rfl rfl rfl tab (by kernel_rfl) (by kernel_rfl) (by kernel_rfl) (by kernel_rfl) rfl | exact r_eqlSt (fl := [(true, 0, 5), (true, 1, 22)]) hs rfl rfl rfl tab (by kernel_rfl) (by kernel_rfl) (by kernel_rfl) (by kernel_rfl) rfl)) ?_ | refine oneN hs rfl rfl rfl rfl rfl rfl rfl ?_ | refine oneU hs rfl rfl rfl rfl rfl rfl ?_); clear hs a; intro a hs) | ((with_reducible apply lCons); first | (refine dv hs (by first | exact Wnt.none rfl | exact Wnt.some rfl rfl rfl rfl) rfl rfl (by first | exact d_alloc rfl tab rfl rfl hm | exact d_box hs rfl rfl rfl hm | exact d_buildSlice0 rfl tab rfl rfl rfl hm | exact d_buildSlice hs rfl tab rfl rfl rfl rfl rfl rfl rfl rfl rfl hm) ?_; clear hs hm a; rintro _ w ⟨g, rfl, -, hm⟩ a hs) | (refine stn hs rfl rfl (by first | exact d_store hs rfl rfl rfl tab rfl rfl rfl rfl hm (by repeat (first | exact Rep.head _ _ _ | apply Rep.tail)) (by rfl) | exact d_store1 hs rfl rfl rfl tab rfl rfl rfl rfl hm (by repeat (first | exact Rep.head _ _ _ | apply Rep.tail)) (by first | omega | assumption | (simp; omega))) ?_; clear hs hm a; rintro - w hm a hs) ) | ((with_reducible apply qNil); clear hm; intro w hm) | ((with_reducible refine cQuiet hm ?_ ?_ ?_ ?_); rfl; kernel_rfl; kernel_rfl) | (with_reducible first | apply lNilThen | apply lNilBlock | apply lNil | apply wp_seq | apply wp_region_lit | apply wp_block | apply cExit | apply cRet | apply cSkip | apply gThen | apply gBlock | apply eThen | apply eBlockHit | refine eBlock rfl ?_ | apply rThen | apply rBlock) | ((with_reducible apply cCond); first | refine cTrue hs rfl (by first | rfl | assumption | exact decide_eq_true (by omega) | exact decide_eq_false (by omega) | exact ndT (by omega) | exact ndF (by omega)) ?_ | refine cFalse hs rfl (by first | rfl | assumption | exact decide_eq_true (by omega) | exact decide_eq_false (by omega) | exact ndT (by omega) | exact ndF (by omega)) ?_))
      rw [hJB] at hs
      repeat (first | ((with_reducible first | refine toL hm ?_ | refine toQ ?_); (first | refine oneV hs (by first | exact Wnt.none rfl | exact Wnt.some rfl rfl rfl rfl) rfl rfl (by intro w hm; (first | exact r_val hs tab rfl | ((with_reducible apply kLoad); first | exact r_load hs rfl rfl tab rfl rfl (by first | exact Ro.cl (by assumption) hm (by first | exact (fun t => t) | assumption) (by first | rfl | assumption) | exact Ro.cl0 (by assumption) hm (by first | exact (fun t => t) | assumption) (by first | rfl | assumption) | exact hm.cl (by repeat (first | exact mH | apply mT)) (by first | rfl | assumption)) | exact r_loadO hs rfl rfl tab rfl rfl rfl hm (by repeat (first | exact mH | apply mT)) (by rfl) | exact r_loadA hs rfl rfl tab rfl rfl (Ro.ro (by assumption) hm (by first | exact (fun t => t) | assumption)) rfl) | exact r_iz hs tab rfl rfl (by omega) | exact r_iy hs tab rfl rfl (by omega) | exact r_cT hs rfl (by omega) | exact r_cF hs rfl (by omega) | exact r_arH hs rfl (by assumption) (by omega) | exact r_ar hs rfl (by omega) | exact r_remH hs rfl rfl rfl (by assumption) (by omega) (by omega) | exact r_rem64 hs rfl rfl rfl (by omega) (by omega) | exact r_rem hs rfl rfl rfl (by omega) | exact r_bi hs rfl | exact r_pick hs rfl rfl rfl rfl | exact r_neqSt (fl := [(true, 0, 5), (true, 1, 22)]) hs rfl rfl rfl tab (by kernel_rfl) (by kernel_rfl) (by kernel_rfl) (by kernel_rfl) rfl | exact r_eqlSt (fl := [(true, 0, 5), (true, 1, 22)]) hs rfl rfl rfl tab (by kernel_rfl) (by kernel_rfl) (by kernel_rfl) (by kernel_rfl) rfl)) ?_ | refine oneN hs rfl rfl rfl rfl rfl rfl rfl ?_ | refine oneU hs rfl rfl rfl rfl rfl rfl ?_); clear hs a; intro a hs) | ((with_reducible apply lCons); first | (refine dv hs (by first | exact Wnt.none rfl | exact Wnt.some rfl rfl rfl rfl) rfl rfl (by first | exact d_alloc rfl tab rfl rfl hm | exact d_box hs rfl rfl rfl hm | exact d_buildSlice0 rfl tab rfl rfl rfl hm | exact d_buildSlice hs rfl tab rfl rfl rfl rfl rfl rfl rfl rfl rfl hm) ?_; clear hs hm a; rintro _ w ⟨g, rfl, -, hm⟩ a hs) | (refine stn hs rfl rfl (by first | exact d_store hs rfl rfl rfl tab rfl rfl rfl rfl hm (by repeat (first | exact Rep.head _ _ _ | apply Rep.tail)) (by rfl) | exact d_store1 hs rfl rfl rfl tab rfl rfl rfl rfl hm (by repeat (first | exact Rep.head _ _ _ | apply Rep.tail)) (by first | omega | assumption | (simp; omega))) ?_; clear hs hm a; rintro - w hm a hs) ) | ((with_reducible apply qNil); clear hm; intro w hm) | ((with_reducible refine cQuiet hm ?_ ?_ ?_ ?_); rfl; kernel_rfl; kernel_rfl) | (with_reducible first | apply lNilThen | apply lNilBlock | apply lNil | apply wp_seq | apply wp_region_lit | apply wp_block | apply cExit | apply cRet | apply cSkip | apply gThen | apply gBlock | apply eThen | apply eBlockHit | refine eBlock rfl ?_ | apply rThen | apply rBlock) | ((with_reducible apply cCond); first | refine cTrue hs rfl (by first | rfl | assumption | exact decide_eq_true (by omega) | exact decide_eq_false (by omega) | exact ndT (by omega) | exact ndF (by omega)) ?_ | refine cFalse hs rfl (by first | rfl | assumption | exact decide_eq_true (by omega) | exact decide_eq_false (by omega) | exact ndT (by omega) | exact ndF (by omega)) ?_))
      refine cMid (fun a w => ∃ g20, Sl Try.f7.ntmps [(13, .slice (some ⟨gj, 0, none⟩) 2 2), (15, .int .i64 0), (16, .pointer (some ⟨g16, 0, none⟩)), (20, .pointer (some ⟨g20, 0, none⟩)), (6, .bool false), (8, .slice x.B x.n x.d), (9, .pointer (some ⟨g9, 0, none⟩)), (54, .slice (some ⟨g54, 0, none⟩) 3 3), (55, .int .i64 3), (56, .int .i64 (j : Int))] a ∧ Mm (fun _ => False) wC [⟨some g20, 24, [.int .u8 0, .int .u16 0]⟩, ⟨some g16, 24, [.int .u8 0, .int .u16 1]⟩] w) ?_ ?_
      · skip
        refine cDraw (n := 15) [] hm rfl rfl ?_
        clear hm
        intro w2 hm
        refine hTake 0 hs rfl (by kernel_rfl) (Wnt.none rfl) rfl rfl (by intro w hm; replace hm : Mm _ _ _ w := hm; ((with_reducible apply kLoad); first | exact r_load hs rfl rfl tab rfl rfl (by first | exact Ro.cl (by assumption) hm (by first | exact (fun t => t) | assumption) (by first | rfl | assumption) | exact Ro.cl0 (by assumption) hm (by first | exact (fun t => t) | assumption) (by first | rfl | assumption) | exact hm.cl (by repeat (first | exact mH | apply mT)) (by first | rfl | assumption)) | exact r_loadO hs rfl rfl tab rfl rfl rfl hm (by repeat (first | exact mH | apply mT)) (by rfl) | exact r_loadA hs rfl rfl tab rfl rfl (Ro.ro (by assumption) hm (by first | exact (fun t => t) | assumption)) rfl)) (hm.sub (List.nil_sublist _)) ?_; clear hs a; intro a hs
        refine hTake 1 hs rfl (by kernel_rfl) (Wnt.none rfl) rfl rfl (by intro w hm; replace hm : Mm _ _ _ w := hm; exact r_val hs tab rfl) (hm.sub (List.nil_sublist _)) ?_; clear hs a; intro a hs
        refine hTake 2 hs rfl (by kernel_rfl) (Wnt.none rfl) rfl rfl (by intro w hm; replace hm : Mm _ _ _ w := hm; exact r_val hs tab rfl) (hm.sub (List.nil_sublist _)) ?_; clear hs a; intro a hs
        refine hTake 3 hs rfl (by kernel_rfl) (Wnt.none rfl) rfl rfl (by intro w hm; replace hm : Mm _ _ _ w := hm; (first | exact r_iz hs tab rfl rfl (by omega) | exact r_iy hs tab rfl rfl (by omega))) (hm.sub (List.nil_sublist _)) ?_; clear hs a; intro a hs
        refine hTake 4 hs rfl (by kernel_rfl) (Wnt.none rfl) rfl rfl (by intro w hm; replace hm : Mm _ _ _ w := hm; ((with_reducible apply kLoad); first | exact r_load hs rfl rfl tab rfl rfl (by first | exact Ro.cl (by assumption) hm (by first | exact (fun t => t) | assumption) (by first | rfl | assumption) | exact Ro.cl0 (by assumption) hm (by first | exact (fun t => t) | assumption) (by first | rfl | assumption) | exact hm.cl (by repeat (first | exact mH | apply mT)) (by first | rfl | assumption)) | exact r_loadO hs rfl rfl tab rfl rfl rfl hm (by repeat (first | exact mH | apply mT)) (by rfl) | exact r_loadA hs rfl rfl tab rfl rfl (Ro.ro (by assumption) hm (by first | exact (fun t => t) | assumption)) rfl)) (hm.sub (List.nil_sublist _)) ?_; clear hs a; intro a hs
        refine hTake 5 hs rfl (by kernel_rfl) (Wnt.none rfl) rfl rfl (by intro w hm; replace hm : Mm _ _ _ w := hm; exact r_val hs tab rfl) (hm.sub (List.nil_sublist _)) ?_; clear hs a; intro a hs
        refine hTake 6 hs rfl (by kernel_rfl) (Wnt.none rfl) rfl rfl (by intro w hm; replace hm : Mm _ _ _ w := hm; (first | exact r_iz hs tab rfl rfl (by omega) | exact r_iy hs tab rfl rfl (by omega))) (hm.sub (List.nil_sublist _)) ?_; clear hs a; intro a hs
        refine hTake 7 hs rfl (by kernel_rfl) (Wnt.none rfl) rfl rfl (by intro w hm; replace hm : Mm _ _ _ w := hm; ((with_reducible apply kLoad); first | exact r_load hs rfl rfl tab rfl rfl (by first | exact Ro.cl (by assumption) hm (by first | exact (fun t => t) | assumption) (by first | rfl | assumption) | exact Ro.cl0 (by assumption) hm (by first | exact (fun t => t) | assumption) (by first | rfl | assumption) | exact hm.cl (by repeat (first | exact mH | apply mT)) (by first | rfl | assumption)) | exact r_loadO hs rfl rfl tab rfl rfl rfl hm (by repeat (first | exact mH | apply mT)) (by rfl) | exact r_loadA hs rfl rfl tab rfl rfl (Ro.ro (by assumption) hm (by first | exact (fun t => t) | assumption)) rfl)) (hm.sub (List.nil_sublist _)) ?_; clear hs a; intro a hs
        refine hEach [8, 12] (by kernel_rfl) (eDo hs rfl (Wnt.none rfl) rfl rfl (by exact d_call hs rfl rfl rfl (pl 13 rfl) ((c3 _ hm.fr))) ?_ (eDo hs rfl (Wnt.none rfl) rfl rfl (by exact d_alloc rfl tab rfl rfl hm) ?_ eNil))
        · skip
          clear hs
          rintro _ w1 ⟨rfl, hf⟩ a hs
          replace hm := hm.pu hf
          clear hf
          refine ⟨hm.sub (by repeat (first | exact List.Sublist.refl _ | exact List.nil_sublist _ | apply List.Sublist.cons_cons | apply List.Sublist.cons)), ?_⟩
          refine hTake 9 hs rfl (by kernel_rfl) (Wnt.none rfl) rfl rfl (by intro w hm; replace hm : Mm _ _ _ w := hm; exact r_val hs tab rfl) (hm.sub (List.nil_sublist _)) ?_; clear hs a; intro a hs
          refine hTake 10 hs rfl (by kernel_rfl) (Wnt.none rfl) rfl rfl (by intro w hm; replace hm : Mm _ _ _ w := hm; exact r_val hs tab rfl) (hm.sub (List.nil_sublist _)) ?_; clear hs a; intro a hs
          refine hTake 11 hs rfl (by kernel_rfl) (Wnt.none rfl) rfl rfl (by intro w hm; replace hm : Mm _ _ _ w := hm; exact r_val hs tab rfl) (hm.sub (List.nil_sublist _)) ?_; clear hs a; intro a hs
          refine hEach [12] (by kernel_rfl) (eDo hs rfl (Wnt.none rfl) rfl rfl (by exact d_alloc rfl tab rfl rfl hm) ?_ eNil)
          clear hs hm a
          rintro _ w32 ⟨g20, rfl, -, hm⟩ a hs
          refine ⟨hm.sub (by repeat (first | exact List.Sublist.refl _ | exact List.nil_sublist _ | apply List.Sublist.cons_cons | apply List.Sublist.cons)), ?_⟩
          refine hEach [13] (by kernel_rfl) (eDoN hs rfl (Wnt.none rfl) rfl (by exact d_store hs rfl rfl rfl tab rfl rfl rfl rfl hm (by repeat (first | exact Rep.head _ _ _ | apply Rep.tail)) rfl) ?_ eNil)
          clear hs hm
          rintro - w33 hm a hs
          refine ⟨hm.sub (by repeat (first | exact List.Sublist.refl _ | exact List.nil_sublist _ | apply List.Sublist.cons_cons | apply List.Sublist.cons)), ?_⟩
          refine hTake 14 hs rfl (by kernel_rfl) (Wnt.none rfl) rfl rfl (by intro w hm; replace hm : Mm _ _ _ w := hm; exact r_val hs tab rfl) (hm.sub (List.nil_sublist _)) ?_; clear hs a; intro a hs
          refine hDone (by kernel_rfl) ?_
          exact And.intro rfl ⟨g20, hs.sub (Has.all ⟨rfl, rfl, rfl, rfl, rfl, rfl, rfl, rfl, rfl, rfl, trivial⟩), hm.sel [0, 2] (by decide) rfl⟩
        · skip
          clear hs hm a
          rintro _ w32 ⟨g20, rfl, -, hm⟩ a hs
          refine ⟨hm.sub (by repeat (first | exact List.Sublist.refl _ | exact List.nil_sublist _ | apply List.Sublist.cons_cons | apply List.Sublist.cons)), ?_⟩
          refine hEach [8] (by kernel_rfl) (eDo hs rfl (Wnt.none rfl) rfl rfl (by exact d_call hs rfl rfl rfl (pl 13 rfl) ((c3 _ hm.fr))) ?_ eNil)
          clear hs
          rintro _ w1 ⟨rfl, hf⟩ a hs
          replace hm := hm.pu hf
          clear hf
          refine ⟨hm.sub (by repeat (first | exact List.Sublist.refl _ | exact List.nil_sublist _ | apply List.Sublist.cons_cons | apply List.Sublist.cons)), ?_⟩
          refine hTake 9 hs rfl (by kernel_rfl) (Wnt.none rfl) rfl rfl (by intro w hm; replace hm : Mm _ _ _ w := hm; exact r_val hs tab rfl) (hm.sub (List.nil_sublist _)) ?_; clear hs a; intro a hs
          refine hTake 10 hs rfl (by kernel_rfl) (Wnt.none rfl) rfl rfl (by intro w hm; replace hm : Mm _ _ _ w := hm; exact r_val hs tab rfl) (hm.sub (List.nil_sublist _)) ?_; clear hs a; intro a hs
          refine hTake 11 hs rfl (by kernel_rfl) (Wnt.none rfl) rfl rfl (by intro w hm; replace hm : Mm _ _ _ w := hm; exact r_val hs tab rfl) (hm.sub (List.nil_sublist _)) ?_; clear hs a; intro a hs
          refine hEach [13] (by kernel_rfl) (eDoN hs rfl (Wnt.none rfl) rfl (by exact d_store hs rfl rfl rfl tab rfl rfl rfl rfl hm (by repeat (first | exact Rep.head _ _ _ | apply Rep.tail)) rfl) ?_ eNil)
          clear hs hm
          rintro - w33 hm a hs
          refine ⟨hm.sub (by repeat (first | exact List.Sublist.refl _ | exact List.nil_sublist _ | apply List.Sublist.cons_cons | apply List.Sublist.cons)), ?_⟩
          refine hTake 14 hs rfl (by kernel_rfl) (Wnt.none rfl) rfl rfl (by intro w hm; replace hm : Mm _ _ _ w := hm; exact r_val hs tab rfl) (hm.sub (List.nil_sublist _)) ?_; clear hs a; intro a hs
          refine hDone (by kernel_rfl) ?_
          exact And.intro rfl ⟨g20, hs.sub (Has.all ⟨rfl, rfl, rfl, rfl, rfl, rfl, rfl, rfl, rfl, rfl, trivial⟩), hm.sel [0, 2] (by decide) rfl⟩
      clear hs hm a
      rintro a w ⟨g20, hs, hm⟩
      repeat (first | ((with_reducible refine toL hm ?_); (first | refine oneV hs (by first | exact Wnt.none rfl | exact Wnt.some rfl rfl rfl rfl) rfl rfl (by intro w hm; (first | exact r_val hs tab rfl | ((with_reducible apply kLoad); first | exact r_load hs rfl rfl tab rfl rfl (by first | exact Ro.cl (by assumption) hm (by first | exact (fun t => t) | assumption) (by first | rfl | assumption) | exact Ro.cl0 (by assumption) hm (by first | exact (fun t => t) | assumption) (by first | rfl | assumption) | exact hm.cl (by repeat (first | exact mH | apply mT)) (by first | rfl | assumption)) | exact r_loadO hs rfl rfl tab rfl rfl rfl hm (by repeat (first | exact mH | apply mT)) (by rfl) | exact r_loadA hs rfl rfl tab rfl rfl (Ro.ro (by assumption) hm (by first | exact (fun t => t) | assumption)) rfl) | exact r_iz hs tab rfl rfl (by omega) | exact r_iy hs tab rfl rfl (by omega) | exact r_cT hs rfl (by omega) | exact r_cF hs rfl (by omega) | exact r_arH hs rfl (by assumption) (by omega) | exact r_ar hs rfl (by omega) | exact r_remH hs rfl rfl rfl (by assumption) (by omega) (by omega) | exact r_rem64 hs rfl rfl rfl (by omega) (by omega) | exact r_rem hs rfl rfl rfl (by omega) | exact r_bi hs rfl | exact r_pick hs rfl rfl rfl rfl | exact r_neqSt (fl := [(true, 0, 5), (true, 1, 22)]) hs rfl rfl rfl tab (by kernel_rfl) (by kernel_rfl) (by kernel_rfl) (by kernel_rfl) rfl | exact r_eqlSt (fl := [(true, 0, 5), (true, 1, 22)]) hs rfl rfl rfl tab (by kernel_rfl) (by kernel_rfl) (by kernel_rfl) (by kernel_rfl) rfl)) ?_ | refine oneN hs rfl rfl rfl rfl rfl rfl rfl ?_ | refine oneU hs rfl rfl rfl rfl rfl rfl ?_); clear hs a; intro a hs) | ((with_reducible apply lCons); first | (refine dv hs (by first | exact Wnt.none rfl | exact Wnt.some rfl rfl rfl rfl) rfl rfl (by first | exact d_alloc rfl tab rfl rfl hm | exact d_box hs rfl rfl rfl hm | exact d_buildSlice0 rfl tab rfl rfl rfl hm | exact d_buildSlice hs rfl tab rfl rfl rfl rfl rfl rfl rfl rfl rfl hm) ?_; clear hs hm a; rintro _ w ⟨g, rfl, -, hm⟩ a hs) | (refine stn hs rfl rfl (by first | exact d_store hs rfl rfl rfl tab rfl rfl rfl rfl hm (by repeat (first | exact Rep.head _ _ _ | apply Rep.tail)) (by rfl) | exact d_store1 hs rfl rfl rfl tab rfl rfl rfl rfl hm (by repeat (first | exact Rep.head _ _ _ | apply Rep.tail)) (by first | omega | assumption | (simp; omega))) ?_; clear hs hm a; rintro - w hm a hs) ) | (with_reducible first | apply lNilThen | apply lNilBlock | apply lNil | apply wp_seq | apply wp_region_lit | apply wp_block | apply cExit | apply cRet | apply cSkip | apply gThen | apply gBlock | apply eThen | apply eBlockHit | refine eBlock rfl ?_ | apply rThen | apply rBlock) | ((with_reducible apply cCond); first | refine cTrue hs rfl (by first | rfl | assumption | exact decide_eq_true (by omega) | exact decide_eq_false (by omega) | exact ndT (by omega) | exact ndF (by omega)) ?_ | refine cFalse hs rfl (by first | rfl | assumption | exact decide_eq_true (by omega) | exact decide_eq_false (by omega) | exact ndT (by omega) | exact ndF (by omega)) ?_))
      refine cMid (fun a w => ∃ g21, Sl Try.f7.ntmps [(13, .slice (some ⟨gj, 0, none⟩) 2 2), (15, .int .i64 0), (16, .pointer (some ⟨g16, 0, none⟩)), (17, .int .i64 0), (20, .pointer (some ⟨g20, 0, none⟩)), (21, .pointer (some ⟨g21, 0, none⟩)), (6, .bool false), (8, .slice x.B x.n x.d), (9, .pointer (some ⟨g9, 0, none⟩)), (54, .slice (some ⟨g54, 0, none⟩) 3 3), (55, .int .i64 3), (56, .int .i64 (j : Int))] a ∧ Mm (fun _ => False) wC [⟨some g21, 24, [.int .u8 0, .int .u16 0]⟩, ⟨some g20, 24, [.int .u8 0, .int .u16 0]⟩, ⟨some g16, 24, [.int .u8 0, .int .u16 1]⟩] w) ?_ ?_
      · skip
        refine cDraw (n := 15) [] hm rfl rfl ?_
        clear hm
        intro w2 hm
        refine hTake 0 hs rfl (by kernel_rfl) (Wnt.none rfl) rfl rfl (by intro w hm; replace hm : Mm _ _ _ w := hm; ((with_reducible apply kLoad); first | exact r_load hs rfl rfl tab rfl rfl (by first | exact Ro.cl (by assumption) hm (by first | exact (fun t => t) | assumption) (by first | rfl | assumption) | exact Ro.cl0 (by assumption) hm (by first | exact (fun t => t) | assumption) (by first | rfl | assumption) | exact hm.cl (by repeat (first | exact mH | apply mT)) (by first | rfl | assumption)) | exact r_loadO hs rfl rfl tab rfl rfl rfl hm (by repeat (first | exact mH | apply mT)) (by rfl) | exact r_loadA hs rfl rfl tab rfl rfl (Ro.ro (by assumption) hm (by first | exact (fun t => t) | assumption)) rfl)) (hm.sub (List.nil_sublist _)) ?_; clear hs a; intro a hs
        refine hTake 1 hs rfl (by kernel_rfl) (Wnt.none rfl) rfl rfl (by intro w hm; replace hm : Mm _ _ _ w := hm; exact r_val hs tab rfl) (hm.sub (List.nil_sublist _)) ?_; clear hs a; intro a hs
        refine hTake 2 hs rfl (by kernel_rfl) (Wnt.none rfl) rfl rfl (by intro w hm; replace hm : Mm _ _ _ w := hm; exact r_val hs tab rfl) (hm.sub (List.nil_sublist _)) ?_; clear hs a; intro a hs
        refine hTake 3 hs rfl (by kernel_rfl) (Wnt.none rfl) rfl rfl (by intro w hm; replace hm : Mm _ _ _ w := hm; (first | exact r_iz hs tab rfl rfl (by omega) | exact r_iy hs tab rfl rfl (by omega))) (hm.sub (List.nil_sublist _)) ?_; clear hs a; intro a hs
        refine hTake 4 hs rfl (by kernel_rfl) (Wnt.none rfl) rfl rfl (by intro w hm; replace hm : Mm _ _ _ w := hm; ((with_reducible apply kLoad); first | exact r_load hs rfl rfl tab rfl rfl (by first | exact Ro.cl (by assumption) hm (by first | exact (fun t => t) | assumption) (by first | rfl | assumption) | exact Ro.cl0 (by assumption) hm (by first | exact (fun t => t) | assumption) (by first | rfl | assumption) | exact hm.cl (by repeat (first | exact mH | apply mT)) (by first | rfl | assumption)) | exact r_loadO hs rfl rfl tab rfl rfl rfl hm (by repeat (first | exact mH | apply mT)) (by rfl) | exact r_loadA hs rfl rfl tab rfl rfl (Ro.ro (by assumption) hm (by first | exact (fun t => t) | assumption)) rfl)) (hm.sub (List.nil_sublist _)) ?_; clear hs a; intro a hs
        refine hTake 5 hs rfl (by kernel_rfl) (Wnt.none rfl) rfl rfl (by intro w hm; replace hm : Mm _ _ _ w := hm; exact r_val hs tab rfl) (hm.sub (List.nil_sublist _)) ?_; clear hs a; intro a hs
        refine hTake 6 hs rfl (by kernel_rfl) (Wnt.none rfl) rfl rfl (by intro w hm; replace hm : Mm _ _ _ w := hm; (first | exact r_iz hs tab rfl rfl (by omega) | exact r_iy hs tab rfl rfl (by omega))) (hm.sub (List.nil_sublist _)) ?_; clear hs a; intro a hs
        refine hTake 7 hs rfl (by kernel_rfl) (Wnt.none rfl) rfl rfl (by intro w hm; replace hm : Mm _ _ _ w := hm; ((with_reducible apply kLoad); first | exact r_load hs rfl rfl tab rfl rfl (by first | exact Ro.cl (by assumption) hm (by first | exact (fun t => t) | assumption) (by first | rfl | assumption) | exact Ro.cl0 (by assumption) hm (by first | exact (fun t => t) | assumption) (by first | rfl | assumption) | exact hm.cl (by repeat (first | exact mH | apply mT)) (by first | rfl | assumption)) | exact r_loadO hs rfl rfl tab rfl rfl rfl hm (by repeat (first | exact mH | apply mT)) (by rfl) | exact r_loadA hs rfl rfl tab rfl rfl (Ro.ro (by assumption) hm (by first | exact (fun t => t) | assumption)) rfl)) (hm.sub (List.nil_sublist _)) ?_; clear hs a; intro a hs
        refine hEach [8, 12] (by kernel_rfl) (eDo hs rfl (Wnt.none rfl) rfl rfl (by exact d_call hs rfl rfl rfl (pl 13 rfl) ((c4 _ hm.fr))) ?_ (eDo hs rfl (Wnt.none rfl) rfl rfl (by exact d_alloc rfl tab rfl rfl hm) ?_ eNil))
        · skip
          clear hs
          rintro _ w1 ⟨rfl, hf⟩ a hs
          replace hm := hm.pu hf
          clear hf
          refine ⟨hm.sub (by repeat (first | exact List.Sublist.refl _ | exact List.nil_sublist _ | apply List.Sublist.cons_cons | apply List.Sublist.cons)), ?_⟩
          refine hTake 9 hs rfl (by kernel_rfl) (Wnt.none rfl) rfl rfl (by intro w hm; replace hm : Mm _ _ _ w := hm; exact r_val hs tab rfl) (hm.sub (List.nil_sublist _)) ?_; clear hs a; intro a hs
          refine hTake 10 hs rfl (by kernel_rfl) (Wnt.none rfl) rfl rfl (by intro w hm; replace hm : Mm _ _ _ w := hm; exact r_val hs tab rfl) (hm.sub (List.nil_sublist _)) ?_; clear hs a; intro a hs
          refine hTake 11 hs rfl (by kernel_rfl) (Wnt.none rfl) rfl rfl (by intro w hm; replace hm : Mm _ _ _ w := hm; exact r_val hs tab rfl) (hm.sub (List.nil_sublist _)) ?_; clear hs a; intro a hs
          refine hEach [12] (by kernel_rfl) (eDo hs rfl (Wnt.none rfl) rfl rfl (by exact d_alloc rfl tab rfl rfl hm) ?_ eNil)
          clear hs hm a
          rintro _ w32 ⟨g21, rfl, -, hm⟩ a hs
          refine ⟨hm.sub (by repeat (first | exact List.Sublist.refl _ | exact List.nil_sublist _ | apply List.Sublist.cons_cons | apply List.Sublist.cons)), ?_⟩
          refine hEach [13] (by kernel_rfl) (eDoN hs rfl (Wnt.none rfl) rfl (by exact d_store hs rfl rfl rfl tab rfl rfl rfl rfl hm (by repeat (first | exact Rep.head _ _ _ | apply Rep.tail)) rfl) ?_ eNil)
          clear hs hm
          rintro - w33 hm a hs
          refine ⟨hm.sub (by repeat (first | exact List.Sublist.refl _ | exact List.nil_sublist _ | apply List.Sublist.cons_cons | apply List.Sublist.cons)), ?_⟩
          refine hTake 14 hs rfl (by kernel_rfl) (Wnt.none rfl) rfl rfl (by intro w hm; replace hm : Mm _ _ _ w := hm; exact r_val hs tab rfl) (hm.sub (List.nil_sublist _)) ?_; clear hs a; intro a hs
          refine hDone (by kernel_rfl) ?_
          exact And.intro rfl ⟨g21, hs.sub (Has.all ⟨rfl, rfl, rfl, rfl, rfl, rfl, rfl, rfl, rfl, rfl, rfl, rfl, trivial⟩), hm⟩
        · skip
          clear hs hm a
          rintro _ w32 ⟨g21, rfl, -, hm⟩ a hs
          refine ⟨hm.sub (by repeat (first | exact List.Sublist.refl _ | exact List.nil_sublist _ | apply List.Sublist.cons_cons | apply List.Sublist.cons)), ?_⟩
          refine hEach [8] (by kernel_rfl) (eDo hs rfl (Wnt.none rfl) rfl rfl (by exact d_call hs rfl rfl rfl (pl 13 rfl) ((c4 _ hm.fr))) ?_ eNil)
          clear hs
          rintro _ w1 ⟨rfl, hf⟩ a hs
          replace hm := hm.pu hf
          clear hf
          refine ⟨hm.sub (by repeat (first | exact List.Sublist.refl _ | exact List.nil_sublist _ | apply List.Sublist.cons_cons | apply List.Sublist.cons)), ?_⟩
          refine hTake 9 hs rfl (by kernel_rfl) (Wnt.none rfl) rfl rfl (by intro w hm; replace hm : Mm _ _ _ w := hm; exact r_val hs tab rfl) (hm.sub (List.nil_sublist _)) ?_; clear hs a; intro a hs
          refine hTake 10 hs rfl (by kernel_rfl) (Wnt.none rfl) rfl rfl (by intro w hm; replace hm : Mm _ _ _ w := hm; exact r_val hs tab rfl) (hm.sub (List.nil_sublist _)) ?_; clear hs a; intro a hs
          refine hTake 11 hs rfl (by kernel_rfl) (Wnt.none rfl) rfl rfl (by intro w hm; replace hm : Mm _ _ _ w := hm; exact r_val hs tab rfl) (hm.sub (List.nil_sublist _)) ?_; clear hs a; intro a hs
          refine hEach [13] (by kernel_rfl) (eDoN hs rfl (Wnt.none rfl) rfl (by exact d_store hs rfl rfl rfl tab rfl rfl rfl rfl hm (by repeat (first | exact Rep.head _ _ _ | apply Rep.tail)) rfl) ?_ eNil)
          clear hs hm
          rintro - w33 hm a hs
          refine ⟨hm.sub (by repeat (first | exact List.Sublist.refl _ | exact List.nil_sublist _ | apply List.Sublist.cons_cons | apply List.Sublist.cons)), ?_⟩
          refine hTake 14 hs rfl (by kernel_rfl) (Wnt.none rfl) rfl rfl (by intro w hm; replace hm : Mm _ _ _ w := hm; exact r_val hs tab rfl) (hm.sub (List.nil_sublist _)) ?_; clear hs a; intro a hs
          refine hDone (by kernel_rfl) ?_
          exact And.intro rfl ⟨g21, hs.sub (Has.all ⟨rfl, rfl, rfl, rfl, rfl, rfl, rfl, rfl, rfl, rfl, rfl, rfl, trivial⟩), hm⟩
      clear hs hm a
      rintro a w ⟨g21, hs, hm⟩
      repeat (first | ((with_reducible refine toL hm ?_); (first | refine oneV hs (by first | exact Wnt.none rfl | exact Wnt.some rfl rfl rfl rfl) rfl rfl (by intro w hm; (first | exact r_val hs tab rfl | ((with_reducible apply kLoad); first | exact r_load hs rfl rfl tab rfl rfl (by first | exact Ro.cl (by assumption) hm (by first | exact (fun t => t) | assumption) (by first | rfl | assumption) | exact Ro.cl0 (by assumption) hm (by first | exact (fun t => t) | assumption) (by first | rfl | assumption) | exact hm.cl (by repeat (first | exact mH | apply mT)) (by first | rfl | assumption)) | exact r_loadO hs rfl rfl tab rfl rfl rfl hm (by repeat (first | exact mH | apply mT)) (by rfl) | exact r_loadA hs rfl rfl tab rfl rfl (Ro.ro (by assumption) hm (by first | exact (fun t => t) | assumption)) rfl) | exact r_iz hs tab rfl rfl (by omega) | exact r_iy hs tab rfl rfl (by omega) | exact r_cT hs rfl (by omega) | exact r_cF hs rfl (by omega) | exact r_arH hs rfl (by assumption) (by omega) | exact r_ar hs rfl (by omega) | exact r_remH hs rfl rfl rfl (by assumption) (by omega) (by omega) | exact r_rem64 hs rfl rfl rfl (by omega) (by omega) | exact r_rem hs rfl rfl rfl (by omega) | exact r_bi hs rfl | exact r_pick hs rfl rfl rfl rfl | exact r_neqSt (fl := [(true, 0, 5), (true, 1, 22)]) hs rfl rfl rfl tab (by kernel_rfl) (by kernel_rfl) (by kernel_rfl) (by kernel_rfl) rfl | exact r_eqlSt (fl := [(true, 0, 5), (true, 1, 22)]) hs rfl rfl rfl tab (by kernel_rfl) (by kernel_rfl) (by kernel_rfl) (by kernel_rfl) rfl)) ?_ | refine oneN hs rfl rfl rfl rfl rfl rfl rfl ?_ | refine oneU hs rfl rfl rfl rfl rfl rfl ?_); clear hs a; intro a hs) | ((with_reducible apply lCons); first | (refine dv hs (by first | exact Wnt.none rfl | exact Wnt.some rfl rfl rfl rfl) rfl rfl (by first | exact d_alloc rfl tab rfl rfl hm | exact d_box hs rfl rfl rfl hm | exact d_buildSlice0 rfl tab rfl rfl rfl hm | exact d_buildSlice hs rfl tab rfl rfl rfl rfl rfl rfl rfl rfl rfl hm) ?_; clear hs hm a; rintro _ w ⟨g, rfl, -, hm⟩ a hs) | (refine stn hs rfl rfl (by first | exact d_store hs rfl rfl rfl tab rfl rfl rfl rfl hm (by repeat (first | exact Rep.head _ _ _ | apply Rep.tail)) (by rfl) | exact d_store1 hs rfl rfl rfl tab rfl rfl rfl rfl hm (by repeat (first | exact Rep.head _ _ _ | apply Rep.tail)) (by first | omega | assumption | (simp; omega))) ?_; clear hs hm a; rintro - w hm a hs) ) | (with_reducible first | apply lNilThen | apply lNilBlock | apply lNil | apply wp_seq | apply wp_region_lit | apply wp_block | apply cExit | apply cRet | apply cSkip | apply gThen | apply gBlock | apply eThen | apply eBlockHit | refine eBlock rfl ?_ | apply rThen | apply rBlock) | ((with_reducible apply cCond); first | refine cTrue hs rfl (by first | rfl | assumption | exact decide_eq_true (by omega) | exact decide_eq_false (by omega) | exact ndT (by omega) | exact ndF (by omega)) ?_ | refine cFalse hs rfl (by first | rfl | assumption | exact decide_eq_true (by omega) | exact decide_eq_false (by omega) | exact ndT (by omega) | exact ndF (by omega)) ?_))
      exact ⟨j + 1, by omega, hs.sub (Has.all ⟨rfl, rfl, rfl, rfl, rfl, rfl, trivial⟩), hm.sub (List.nil_sublist _), by omega⟩
  · repeat (first | ((with_reducible refine toL hm ?_); (first | refine oneV hs (by first | exact Wnt.none rfl | exact Wnt.some rfl rfl rfl rfl) rfl rfl (by intro w hm; (first | exact r_val hs tab rfl | ((with_reducible apply kLoad); first | exact r_load hs rfl rfl tab rfl rfl (by first | exact Ro.cl (by assumption) hm (by first | exact (fun t => t) | assumption) (by first | rfl | assumption) | exact Ro.cl0 (by assumption) hm (by first | exact (fun t => t) | assumption) (by first | rfl | assumption) | exact hm.cl (by repeat (first | exact mH | apply mT)) (by first | rfl | assumption)) | exact r_loadO hs rfl rfl tab rfl rfl rfl hm (by repeat (first | exact mH | apply mT)) (by rfl) | exact r_loadA hs rfl rfl tab rfl rfl (Ro.ro (by assumption) hm (by first | exact (fun t => t) | assumption)) rfl) | exact r_iz hs tab rfl rfl (by omega) | exact r_iy hs tab rfl rfl (by omega) | exact r_cT hs rfl (by omega) | exact r_cF hs rfl (by omega) | exact r_arH hs rfl (by assumption) (by omega) | exact r_ar hs rfl (by omega) | exact r_remH hs rfl rfl rfl (by assumption) (by omega) (by omega) | exact r_rem64 hs rfl rfl rfl (by omega) (by omega) | exact r_rem hs rfl rfl rfl (by omega) | exact r_bi hs rfl | exact r_pick hs rfl rfl rfl rfl | exact r_neqSt (fl := [(true, 0, 5), (true, 1, 22)]) hs rfl rfl rfl tab (by kernel_rfl) (by kernel_rfl) (by kernel_rfl) (by kernel_rfl) rfl | exact r_eqlSt (fl := [(true, 0, 5), (true, 1, 22)]) hs rfl rfl rfl tab (by kernel_rfl) (by kernel_rfl) (by kernel_rfl) (by kernel_rfl) rfl)) ?_ | refine oneN hs rfl rfl rfl rfl rfl rfl rfl ?_ | refine oneU hs rfl rfl rfl rfl rfl rfl ?_); clear hs a; intro a hs) | ((with_reducible apply lCons); first | (refine dv hs (by first | exact Wnt.none rfl | exact Wnt.some rfl rfl rfl rfl) rfl rfl (by first | exact d_alloc rfl tab rfl rfl hm | exact d_box hs rfl rfl rfl hm | exact d_buildSlice0 rfl tab rfl rfl rfl hm | exact d_buildSlice hs rfl tab rfl rfl rfl rfl rfl rfl rfl rfl rfl hm) ?_; clear hs hm a; rintro _ w ⟨g, rfl, -, hm⟩ a hs) | (refine stn hs rfl rfl (by first | exact d_store hs rfl rfl rfl tab rfl rfl rfl rfl hm (by repeat (first | exact Rep.head _ _ _ | apply Rep.tail)) (by rfl) | exact d_store1 hs rfl rfl rfl tab rfl rfl rfl rfl hm (by repeat (first | exact Rep.head _ _ _ | apply Rep.tail)) (by first | omega | assumption | (simp; omega))) ?_; clear hs hm a; rintro - w hm a hs) | (refine dv hs (by first | exact Wnt.none rfl | exact Wnt.some rfl rfl rfl rfl) rfl rfl (d_call hs rfl rfl rfl (pl 15 rfl) (awk_c _)) ?_; clear hs a; rintro _ w ⟨rfl, hf⟩ a hs; replace hm := hm.pu hf; clear hf)) | (with_reducible first | apply lNilThen | apply lNilBlock | apply lNil | apply wp_seq | apply wp_region_lit | apply wp_block | apply cExit | apply cRet | apply cSkip | apply gThen | apply gBlock | apply eThen | apply eBlockHit | refine eBlock rfl ?_ | apply rThen | apply rBlock) | ((with_reducible apply cCond); first | refine cTrue hs rfl (by first | rfl | assumption | exact decide_eq_true (by omega) | exact decide_eq_false (by omega) | exact ndT (by omega) | exact ndF (by omega)) ?_ | refine cFalse hs rfl (by first | rfl | assumption | exact decide_eq_true (by omega) | exact decide_eq_false (by omega) | exact ndT (by omega) | exact ndF (by omega)) ?_))
    exact gRet1 hs rfl rfl ⟨rfl, hF.pu hm.fr⟩
theorem walk_AluOrder (x0 x1 y0 y1 : Int) (A : Option Addr) (n c : Nat) (xs : List Int) (w : World) (h0 : (Lit.int .u8 x0).wf = true ∧ (Lit.int .u16 x1).wf = true) (h1 : (Lit.int .u8 y0).wf = true ∧ (Lit.int .u16 y1).wf = true) (h : IsInts .i64 w A n c xs) : Calls Try.prog 7 #[.agg #[.int .u8 x0, .int .u16 x1], .agg #[.int .u8 y0, .int .u16 y1], .slice A n c] w (fun e w' => e = .returned (.bool true) ∧ Pu w w') :=
  (ord_c x0 x1 y0 y1 A n c xs w (by simpa [Lit.wf, IntKind.min, IntKind.max, IntKind.signed, IntKind.bits] using h0) (by simpa [Lit.wf, IntKind.min, IntKind.max, IntKind.signed, IntKind.bits] using h1) h).law
end Go.Proofs.Ytfcimpfhfbkgbaa
