/- CompareFirst: the walk. -/
import Derived.Test.YtkbohmocpogdnaaCmpRaw
namespace Go.Proofs.Ytkbohmocpogdnaa
open Go.ChangeShapes Go.WideShapes Go.ChangeAt Go.RowKit

theorem dp_bytes' {W : World} {cs : List Value} (h : Dp W (.sl (.int .u8) 1 1) cs) : ∃ b : BS, cs = [b.v] ∧ b.ok W ∧ b.n ≤ 140737488351232 ∧ b.n ≤ b.c := by
  obtain ⟨b, rfl, h1, h2⟩ := dp_bytes h
  obtain ⟨A, n, c, rows, e, hl, hn, hc, hm, hr, hrow⟩ := h
  obtain ⟨B, m, d, xs⟩ := b
  have e' := (List.cons.inj e).1
  unfold BS.v at e'
  injection e' with q1 q2 q3
  dsimp only at *
  exact ⟨_, rfl, h1, h2, by dsimp only; omega⟩
theorem opn_bs' {H : Type} {enc : TypeId × Value → H} {W : World} {base b0 : Nat} {spare : Nat → Bool} {held : Bool} {v : Value} {d : DataW H} {p : List MemPlace} {r : Reach} (hval : Value.okWide Try.prog W r b0 24 v) (hw : ∀ k ∈ d.weights Try.prog 24, k ≤ reachBytes) (h : DataW.Trod enc Try.prog W base spare held 24 v d p) : ∃ y : BS, v = y.v ∧ y.ok W ∧ y.n ≤ 140737488351232 ∧ y.n ≤ y.c := by
  obtain ⟨A, m, c, rfl, h1⟩ := opn_sl 9 Try.underlying24 (l := .sl (.int .u8) 1 1) (by kernel_rfl) hw hval h
  obtain ⟨y, hy, hok⟩ := dp_bytes' h1
  exact ⟨y, by simpa using hy, hok⟩

theorem xor8 (a b : Nat) (ha : a < 256) (hb : b < 256) : bits .xor .u8 (a : Int) (b : Int) = ((a ^^^ b : Nat) : Int) := by
  have hx : a ^^^ b < 2 ^ 8 := Nat.xor_lt_two_pow (by omega) (by omega)
  have h1 : (BitVec.ofInt 8 (a : Int)).toNat = a := by
    rw [BitVec.ofInt_natCast, BitVec.toNat_ofNat]; exact Nat.mod_eq_of_lt (by omega)
  have h2 : (BitVec.ofInt 8 (b : Int)).toNat = b := by
    rw [BitVec.ofInt_natCast, BitVec.toNat_ofNat]; exact Nat.mod_eq_of_lt (by omega)
  show IntKind.u8.wrap ((BitVec.ofInt 8 (a : Int) ^^^ BitVec.ofInt 8 (b : Int)).toNat : Int) = _
  rw [BitVec.toNat_xor, h1, h2]
  simp [IntKind.wrap, IntKind.bits, IntKind.signed]
  omega
/-- another byte -/
theorem xor_other {x y : Int} (hx : 0 ≤ x ∧ x ≤ 255) (hy : 1 ≤ y ∧ y ≤ 255) : (0 ≤ bits .xor .u8 x y ∧ bits .xor .u8 x y ≤ 255) ∧ x ≠ bits .xor .u8 x y := by
  obtain ⟨a, rfl⟩ : ∃ a : Nat, x = a := ⟨x.toNat, by omega⟩
  obtain ⟨b, rfl⟩ : ∃ b : Nat, y = b := ⟨y.toNat, by omega⟩
  have h := xor8 a b (by omega) (by omega)
  have hx : a ^^^ b < 2 ^ 8 := Nat.xor_lt_two_pow (by omega) (by omega)
  rw [h]
  refine ⟨by omega, fun e => ?_⟩
  have e' : a = a ^^^ b := by omega
  have e2 : a ^^^ a = b := by
    conv => lhs; rhs; rw [e']
    rw [← Nat.xor_assoc, Nat.xor_self, Nat.zero_xor]
  rw [Nat.xor_self] at e2
  omega
theorem firstF_at (xs ys zs : List Int) (x y : Int) (h : x ≠ y) : ∀ j, firstF j (xs ++ x :: ys) (xs ++ y :: zs) = ((j + xs.length : Nat) : Int) := by
  induction xs with
  | nil => intro j; simp [firstF, h]
  | cons a t ih => intro j; simp only [List.cons_append, firstF, if_true, ih, List.length_cons]; congr 1; omega
theorem firstF_self (xs : List Int) : ∀ j, firstF j xs xs = -1 := by
  induction xs with
  | nil => intro j; rfl
  | cons a t ih => intro j; simp only [firstF, if_true, ih]
theorem firstF_more (xs : List Int) (z : Int) (zs : List Int) : ∀ j, firstF j xs (xs ++ z :: zs) = ((j + xs.length : Nat) : Int) := by
  induction xs with
  | nil => intro j; rfl
  | cons a t ih => intro j; simp only [List.cons_append, firstF, if_true, ih, List.length_cons]; congr 1; omega

theorem bys_app (x y : List Int) : bys (x ++ y) = bys x ++ bys y := List.map_append ..
theorem fst_ok {A : Option Addr} {n c : Nat} {xs : List Int} {w w' : World} (h : (BS.mk A n c xs).ok w) (hf : Pu w w') : (BS.mk A n c xs).ok w' := h.pu hf
set_option maxHeartbeats 8000000 in
theorem fst_c (x y : BS) (at_ b : Int) (w : World) (hx : x.ok w) (hxc : x.n ≤ x.c) (hy : y.ok w) (hat : -9223372036854775808 ≤ at_ ∧ at_ ≤ 9223372036854775807) (hb : 0 ≤ b ∧ b ≤ 255) (hxn : x.n ≤ 140737488351232) (hyn : y.n ≤ 140737488351232) :
    Ret Try.prog 5 [x.v, .int .i64 at_, .int .u8 b, y.v] w (fun v w' => v = .bool true ∧ Pu w w') := by
  obtain ⟨A, n, c, xs⟩ := x
  obtain ⟨B, m, d, ys⟩ := y
  have hx1 := hx.1
  have hx2 := hx.2.1
  have hx3 := hx.2.2
  have hy1 := hy.1
  have hy2 := hy.2.1
  have hy3 := hy.2.2
  unfold BS.v
  dsimp only at *
  by_cases h5 : 500 < n + m
  · refine enterR Try.func5 rfl rfl rfl fun a hs hm => ?_
    repeat (first
      | ((with_reducible apply lCons); (first
          | (refine wv hs (by first | exact Wnt.none rfl | exact Wnt.some rfl rfl rfl rfl) rfl rfl (by (first | ((with_reducible apply kMove); first | exact r_move hs rfl rfl) | ((with_reducible apply kAssign); first | exact r_assign hs rfl rfl) | ((with_reducible apply kLoad); first | exact r_load hs rfl rfl tab rfl rfl (by first | exact hm.cl (by repeat (first | exact List.Mem.head _ | apply List.Mem.tail)) (by first | rfl | assumption) | exact Ro.cl (by assumption) hm (by first | exact (fun t => t) | assumption) (by first | rfl | assumption)) | exact r_loadO hs rfl rfl tab rfl rfl rfl hm (by repeat (first | exact List.Mem.head _ | apply List.Mem.tail)) (by rfl) | exact r_loadA hs rfl rfl tab rfl rfl (Ro.ro (by assumption) hm (by first | exact (fun t => t) | assumption)) rfl) | ((with_reducible apply kField); first | exact r_fieldAddr hs rfl rfl tab rfl rfl rfl rfl rfl) | ((with_reducible apply kIx); first | exact r_ix01 hs rfl rfl rfl tab rfl rfl rfl rfl (by omega) | exact r_ix0 hs rfl rfl rfl tab rfl rfl rfl (by omega) | exact r_ix1 hs rfl rfl rfl tab rfl rfl rfl rfl (by omega) | exact r_ix hs rfl rfl rfl tab rfl rfl rfl (by omega) | exact r_ixa1 hs rfl rfl rfl tab rfl rfl rfl rfl (by omega) | exact r_ixa hs rfl rfl rfl tab rfl rfl rfl (by omega) | exact r_ix01l hs rfl rfl rfl rfl tab rfl rfl rfl rfl (by omega) | exact r_ix0l hs rfl rfl rfl rfl tab rfl rfl rfl (by omega) | exact r_ix1l hs rfl rfl rfl rfl tab rfl rfl rfl rfl (by omega) | exact r_ixl hs rfl rfl rfl rfl tab rfl rfl rfl (by omega) | exact r_ixa1l hs rfl rfl rfl rfl tab rfl rfl rfl rfl (by omega) | exact r_ixal hs rfl rfl rfl rfl tab rfl rfl rfl (by omega)) | ((with_reducible apply kBin); first | exact r_T (r_lss hs rfl rfl rfl) (by omega) | exact r_F (r_lss hs rfl rfl rfl) (by omega) | exact r_T (r_eql hs rfl rfl rfl) (by omega) | exact r_F (r_eql hs rfl rfl rfl) (by omega) | exact r_T (r_leq hs rfl rfl rfl) (by omega) | exact r_F (r_leq hs rfl rfl rfl) (by omega) | exact r_T (r_gtr hs rfl rfl rfl) (by omega) | exact r_F (r_gtr hs rfl rfl rfl) (by omega) | exact r_T (r_geq hs rfl rfl rfl) (by omega) | exact r_F (r_geq hs rfl rfl rfl) (by omega) | exact r_nT (r_neq hs rfl rfl rfl) (by omega) | exact r_nF (r_neq hs rfl rfl rfl) (by omega) | exact r_lss hs rfl rfl rfl | exact r_add64 hs rfl rfl rfl (by omega) | exact r_sub64 hs rfl rfl rfl (by omega) | exact r_eql hs rfl rfl rfl | exact r_neq hs rfl rfl rfl | exact r_leq hs rfl rfl rfl | exact r_gtr hs rfl rfl rfl | exact r_geq hs rfl rfl rfl | exact r_eqlB hs rfl rfl rfl tab rfl rfl | exact r_neqB hs rfl rfl rfl tab rfl rfl | exact r_mul64 hs rfl rfl rfl (by omega) | exact r_quo64 hs rfl rfl rfl (by omega) (by omega) | exact r_rem64 hs rfl rfl rfl (by omega) (by omega) | exact r_seql hs rfl rfl rfl | exact r_sneq hs rfl rfl rfl | exact r_eqnil hs rfl rfl rfl tab rfl rfl | exact r_neqnil hs rfl rfl rfl tab rfl rfl | exact r_and hs rfl rfl rfl | exact r_or hs rfl rfl rfl | exact r_xor hs rfl rfl rfl | exact r_add hs rfl rfl rfl | exact r_sub hs rfl rfl rfl | exact r_mul hs rfl rfl rfl) | ((with_reducible apply kUn); first | exact r_not hs rfl rfl | exact r_neg64 hs rfl rfl (by omega)) | ((with_reducible apply kCall); first | exact r_len hs rfl rfl rfl tab rfl rfl | exact r_slen hs rfl rfl rfl tab rfl rfl | exact r_min hs rfl rfl rfl | exact r_max hs rfl rfl rfl) | ((with_reducible apply kPick); first | exact r_pickT hs rfl rfl rfl | exact r_pickF hs rfl rfl rfl | exact r_pick hs rfl rfl rfl rfl) | ((with_reducible apply kBuild); first | exact r_build hs rfl tab rfl rfl rfl rfl rfl rfl | exact r_buildA hs rfl tab rfl rfl rfl rfl rfl rfl) | ((with_reducible apply kConv); first | exact r_conv hs rfl rfl tab rfl rfl rfl | exact r_b2s hs rfl rfl tab rfl rfl rfl rfl rfl rfl (by first | exact Fr.rd' hm.fr (by assumption) | exact Mm.rd_row hm (by repeat (first | exact List.Mem.head _ | apply List.Mem.tail)) (by assumption)) (by assumption)) | ((with_reducible apply kFunc); first | exact r_makeFunc hs rfl rfl rfl) | ((with_reducible apply kExt); first | exact r_extract hs rfl rfl rfl) | ((with_reducible apply kNil); first | exact r_nilCheck hs rfl rfl | exact r_nilCheckF hs rfl rfl rfl) | ((with_reducible apply kFld); first | exact r_field hs rfl rfl tab rfl rfl rfl rfl rfl rfl) | ((with_reducible apply kSlice); first | exact r_sliceArr hs rfl rfl tab rfl rfl rfl | exact r_sliceArrTo hs rfl rfl rfl tab rfl rfl rfl (by omega) (by omega) | exact r_sliceTo hs rfl rfl rfl tab rfl rfl rfl (by omega) (by omega) | exact r_sliceFrom hs rfl rfl rfl tab rfl rfl rfl (by omega) (by omega)))) ?_; clear hs a; intro a hs)
          | (refine dv hs (by first | exact Wnt.none rfl | exact Wnt.some rfl rfl rfl rfl) rfl rfl (by first | exact d_buildSlice0 rfl tab rfl rfl rfl hm | exact d_alloc rfl tab rfl rfl hm | exact d_box hs rfl rfl rfl hm | exact d_buildSlice hs rfl tab rfl rfl rfl rfl rfl rfl rfl rfl rfl hm | exact d_makeSlice hs rfl rfl rfl tab rfl rfl rfl rfl rfl (by omega) rfl hm) ?_; clear hs hm a; rintro _ w ⟨g, rfl, -, hm⟩ a hs)
          | (refine stn hs rfl rfl (by first | exact d_store hs rfl rfl rfl tab rfl rfl rfl rfl hm (by repeat (first | exact Rep.head _ _ _ | apply Rep.tail)) (by rfl) | exact d_store1 hs rfl rfl rfl tab rfl rfl rfl rfl hm (by repeat (first | exact Rep.head _ _ _ | apply Rep.tail)) (by first | omega | assumption | (simp; omega))) ?_; clear hs hm a; rintro - w hm a hs)
          | (refine sno hs rfl rfl rfl rfl rfl rfl rfl ?_; clear hs a; intro a hs)
          | (refine snu hs rfl rfl rfl rfl rfl rfl ?_; clear hs a; intro a hs)
          | (refine dv hs (by first | exact Wnt.none rfl | exact Wnt.some rfl rfl rfl rfl) rfl rfl (d_call hs rfl rfl rfl (pl 7 rfl) (awake_c _)) ?_; clear hs a; rintro _ w ⟨rfl, hf⟩ a hs; replace hm := hm.pu hf; clear hf)
          ))
      | (with_reducible apply lNilThen)
      | (with_reducible apply lNilBlock)
      | (with_reducible apply lNil)
      | (with_reducible apply wp_seq)
      | (with_reducible apply wp_region_lit)
      | (with_reducible apply wp_block)
      | (with_reducible apply cExit)
      | (with_reducible apply cRet)
      | (with_reducible apply cSkip)
      | (with_reducible apply gThen)
      | (with_reducible apply gBlock)
      | (with_reducible apply eThen)
      | (with_reducible apply eBlockHit)
      | (with_reducible refine eBlock rfl ?_)
      | (with_reducible apply rThen)
      | (with_reducible apply rBlock)
      | ((with_reducible apply cCond); (first | refine cTrue hs rfl (by first | rfl | assumption | exact decide_eq_true (by omega) | exact decide_eq_false (by omega) | exact ndT (by omega) | exact ndF (by omega)) ?_ | refine cFalse hs rfl (by first | rfl | assumption | exact decide_eq_true (by omega) | exact decide_eq_false (by omega) | exact ndT (by omega) | exact ndF (by omega)) ?_))
      )
    exact gRet1 hs rfl rfl ⟨rfl, hm.fr⟩
  have hmod := fun w => mod_c at_ (n + 1) w hat (by omega)
  obtain ⟨k, hk⟩ : ∃ k : Nat, at_ % ((n : Int) + 1) = k := ⟨(at_ % ((n : Int) + 1)).toNat, by have := Int.emod_nonneg at_ (b := (n : Int) + 1) (by omega); omega⟩
  have hkn : k ≤ n := by have := Int.emod_lt_of_pos at_ (b := (n : Int) + 1) (by omega); omega
  rw [hk] at hmod
  refine enterR Try.func5 rfl rfl rfl fun a hs hm => ?_
  repeat (first
    | ((with_reducible apply lCons); (first
        | (refine wv hs (by first | exact Wnt.none rfl | exact Wnt.some rfl rfl rfl rfl) rfl rfl (by (first | ((with_reducible apply kMove); first | exact r_move hs rfl rfl) | ((with_reducible apply kAssign); first | exact r_assign hs rfl rfl) | ((with_reducible apply kLoad); first | exact r_load hs rfl rfl tab rfl rfl (by first | exact hm.cl (by repeat (first | exact List.Mem.head _ | apply List.Mem.tail)) (by first | rfl | assumption) | exact Ro.cl (by assumption) hm (by first | exact (fun t => t) | assumption) (by first | rfl | assumption)) | exact r_loadO hs rfl rfl tab rfl rfl rfl hm (by repeat (first | exact List.Mem.head _ | apply List.Mem.tail)) (by rfl) | exact r_loadA hs rfl rfl tab rfl rfl (Ro.ro (by assumption) hm (by first | exact (fun t => t) | assumption)) rfl) | ((with_reducible apply kField); first | exact r_fieldAddr hs rfl rfl tab rfl rfl rfl rfl rfl) | ((with_reducible apply kIx); first | exact r_ix01 hs rfl rfl rfl tab rfl rfl rfl rfl (by omega) | exact r_ix0 hs rfl rfl rfl tab rfl rfl rfl (by omega) | exact r_ix1 hs rfl rfl rfl tab rfl rfl rfl rfl (by omega) | exact r_ix hs rfl rfl rfl tab rfl rfl rfl (by omega) | exact r_ixa1 hs rfl rfl rfl tab rfl rfl rfl rfl (by omega) | exact r_ixa hs rfl rfl rfl tab rfl rfl rfl (by omega) | exact r_ix01l hs rfl rfl rfl rfl tab rfl rfl rfl rfl (by omega) | exact r_ix0l hs rfl rfl rfl rfl tab rfl rfl rfl (by omega) | exact r_ix1l hs rfl rfl rfl rfl tab rfl rfl rfl rfl (by omega) | exact r_ixl hs rfl rfl rfl rfl tab rfl rfl rfl (by omega) | exact r_ixa1l hs rfl rfl rfl rfl tab rfl rfl rfl rfl (by omega) | exact r_ixal hs rfl rfl rfl rfl tab rfl rfl rfl (by omega)) | ((with_reducible apply kBin); first | exact r_T (r_lss hs rfl rfl rfl) (by omega) | exact r_F (r_lss hs rfl rfl rfl) (by omega) | exact r_T (r_eql hs rfl rfl rfl) (by omega) | exact r_F (r_eql hs rfl rfl rfl) (by omega) | exact r_T (r_leq hs rfl rfl rfl) (by omega) | exact r_F (r_leq hs rfl rfl rfl) (by omega) | exact r_T (r_gtr hs rfl rfl rfl) (by omega) | exact r_F (r_gtr hs rfl rfl rfl) (by omega) | exact r_T (r_geq hs rfl rfl rfl) (by omega) | exact r_F (r_geq hs rfl rfl rfl) (by omega) | exact r_nT (r_neq hs rfl rfl rfl) (by omega) | exact r_nF (r_neq hs rfl rfl rfl) (by omega) | exact r_lss hs rfl rfl rfl | exact r_add64 hs rfl rfl rfl (by omega) | exact r_sub64 hs rfl rfl rfl (by omega) | exact r_eql hs rfl rfl rfl | exact r_neq hs rfl rfl rfl | exact r_leq hs rfl rfl rfl | exact r_gtr hs rfl rfl rfl | exact r_geq hs rfl rfl rfl | exact r_eqlB hs rfl rfl rfl tab rfl rfl | exact r_neqB hs rfl rfl rfl tab rfl rfl | exact r_mul64 hs rfl rfl rfl (by omega) | exact r_quo64 hs rfl rfl rfl (by omega) (by omega) | exact r_rem64 hs rfl rfl rfl (by omega) (by omega) | exact r_seql hs rfl rfl rfl | exact r_sneq hs rfl rfl rfl | exact r_eqnil hs rfl rfl rfl tab rfl rfl | exact r_neqnil hs rfl rfl rfl tab rfl rfl | exact r_and hs rfl rfl rfl | exact r_or hs rfl rfl rfl | exact r_xor hs rfl rfl rfl | exact r_add hs rfl rfl rfl | exact r_sub hs rfl rfl rfl | exact r_mul hs rfl rfl rfl) | ((with_reducible apply kUn); first | exact r_not hs rfl rfl | exact r_neg64 hs rfl rfl (by omega)) | ((with_reducible apply kCall); first | exact r_len hs rfl rfl rfl tab rfl rfl | exact r_slen hs rfl rfl rfl tab rfl rfl | exact r_min hs rfl rfl rfl | exact r_max hs rfl rfl rfl) | ((with_reducible apply kPick); first | exact r_pickT hs rfl rfl rfl | exact r_pickF hs rfl rfl rfl | exact r_pick hs rfl rfl rfl rfl) | ((with_reducible apply kBuild); first | exact r_build hs rfl tab rfl rfl rfl rfl rfl rfl | exact r_buildA hs rfl tab rfl rfl rfl rfl rfl rfl) | ((with_reducible apply kConv); first | exact r_conv hs rfl rfl tab rfl rfl rfl | exact r_b2s hs rfl rfl tab rfl rfl rfl rfl rfl rfl (by first | exact Fr.rd' hm.fr (by assumption) | exact Mm.rd_row hm (by repeat (first | exact List.Mem.head _ | apply List.Mem.tail)) (by assumption)) (by assumption)) | ((with_reducible apply kFunc); first | exact r_makeFunc hs rfl rfl rfl) | ((with_reducible apply kExt); first | exact r_extract hs rfl rfl rfl) | ((with_reducible apply kNil); first | exact r_nilCheck hs rfl rfl | exact r_nilCheckF hs rfl rfl rfl) | ((with_reducible apply kFld); first | exact r_field hs rfl rfl tab rfl rfl rfl rfl rfl rfl) | ((with_reducible apply kSlice); first | exact r_sliceArr hs rfl rfl tab rfl rfl rfl | exact r_sliceArrTo hs rfl rfl rfl tab rfl rfl rfl (by omega) (by omega) | exact r_sliceTo hs rfl rfl rfl tab rfl rfl rfl (by omega) (by omega) | exact r_sliceFrom hs rfl rfl rfl tab rfl rfl rfl (by omega) (by omega)))) ?_; clear hs a; intro a hs)
        | (refine dv hs (by first | exact Wnt.none rfl | exact Wnt.some rfl rfl rfl rfl) rfl rfl (by first | exact d_buildSlice0 rfl tab rfl rfl rfl hm | exact d_alloc rfl tab rfl rfl hm | exact d_box hs rfl rfl rfl hm | exact d_buildSlice hs rfl tab rfl rfl rfl rfl rfl rfl rfl rfl rfl hm | exact d_makeSlice hs rfl rfl rfl tab rfl rfl rfl rfl rfl (by omega) rfl hm) ?_; clear hs hm a; rintro _ w ⟨g, rfl, -, hm⟩ a hs)
        | (refine stn hs rfl rfl (by first | exact d_store hs rfl rfl rfl tab rfl rfl rfl rfl hm (by repeat (first | exact Rep.head _ _ _ | apply Rep.tail)) (by rfl) | exact d_store1 hs rfl rfl rfl tab rfl rfl rfl rfl hm (by repeat (first | exact Rep.head _ _ _ | apply Rep.tail)) (by first | omega | assumption | (simp; omega))) ?_; clear hs hm a; rintro - w hm a hs)
        | (refine sno hs rfl rfl rfl rfl rfl rfl rfl ?_; clear hs a; intro a hs)
        | (refine snu hs rfl rfl rfl rfl rfl rfl ?_; clear hs a; intro a hs)
        | (refine dv hs (by first | exact Wnt.none rfl | exact Wnt.some rfl rfl rfl rfl) rfl rfl (d_call hs rfl rfl rfl (pl 16 rfl) (hmod _)) ?_; clear hs a; rintro _ w ⟨rfl, hf⟩ a hs; replace hm := hm.pu hf; clear hf)
        ))
    | (with_reducible apply lNilThen)
    | (with_reducible apply lNilBlock)
    | (with_reducible apply lNil)
    | (with_reducible apply wp_seq)
    | (with_reducible apply wp_region_lit)
    | (with_reducible apply wp_block)
    | (with_reducible apply cExit)
    | (with_reducible apply cRet)
    | (with_reducible apply cSkip)
    | (with_reducible apply gThen)
    | (with_reducible apply gBlock)
    | (with_reducible apply eThen)
    | (with_reducible apply eBlockHit)
    | (with_reducible refine eBlock rfl ?_)
    | (with_reducible apply rThen)
    | (with_reducible apply rBlock)
    | ((with_reducible apply cCond); (first | refine cTrue hs rfl (by first | rfl | assumption | exact decide_eq_true (by omega) | exact decide_eq_false (by omega) | exact ndT (by omega) | exact ndF (by omega)) ?_ | refine cFalse hs rfl (by first | rfl | assumption | exact decide_eq_true (by omega) | exact decide_eq_false (by omega) | exact ndT (by omega) | exact ndF (by omega)) ?_))
    )
  rename_i w0 _
  have htk : (bys (xs.take k)).length = k * 1 := by rw [bys_len, List.length_take]; omega
  have htr : Rd w w.heap.size A (bys (xs.take k)) := by
    intro h0
    obtain ⟨b1, o1, e1, e2, e3⟩ := hm.fr.rd' hx2 (by rw [bys_len, List.length_take] at h0; rw [bys_len]; omega)
    exact ⟨b1, o1, e1, e2, fun j u hj => e3 j u (by
      unfold bys at hj
      rw [List.map_take, List.getElem?_take] at hj
      split at hj
      · exact hj
      · cases hj)⟩
  refine dv hs (Wnt.none rfl) rfl rfl (d_appendS (A := some g) (n := 0) (c := 0) (m := k) hs rfl rfl rfl rfl tab rfl rfl rfl rfl rfl hm (List.Mem.head _) (Row.room0 g _) htk htr (isB_one _) (by show (0 + k) * 1 ≤ _; omega) (by omega)) ?_
  clear hs
  rintro _ w1 ⟨A1, c1, cs1, rfl, hr, hM⟩ a hs
  replace hm := hM _ (Rep.head _ _ _)
  clear hM
  replace hr : Row A1 (0 + k) c1 1 ([] ++ bys (xs.take k)) cs1 := hr
  rw [Nat.zero_add, List.nil_append] at hr
  rw [Nat.zero_add] at hs
  by_cases hlt : k < n
  · obtain ⟨b1, o1, rfl, hb1, r1⟩ := hx2.ro (by rw [bys_len]; omega)
    have e1 := bys_some (xs := xs) (k := k) (by omega)
    have hxk := hx3 xs[k] (List.getElem_mem (by omega))
    have hsplit : xs = xs.take k ++ xs[k] :: xs.drop (k + 1) := by rw [← List.drop_eq_getElem_cons]; exact (List.take_append_drop k xs).symm
    generalize hX : xs[k]'(_) = X at *
    obtain ⟨mm, hmm⟩ : ∃ mm, mm = IntKind.u8.wrap (1 + b % 255) := ⟨_, rfl⟩
    have hmb : 1 ≤ mm ∧ mm ≤ 255 := by
      rw [hmm]
      simp [IntKind.wrap, IntKind.bits, IntKind.signed]
      omega
    have hxo := xor_other hxk hmb
    repeat (first
      | ((with_reducible apply lCons); (first
          | (refine wv hs (by first | exact Wnt.none rfl | exact Wnt.some rfl rfl rfl rfl) rfl rfl (by (first | ((with_reducible apply kMove); first | exact r_move hs rfl rfl) | ((with_reducible apply kAssign); first | exact r_assign hs rfl rfl) | ((with_reducible apply kLoad); first | exact r_load hs rfl rfl tab rfl rfl (by first | exact hm.cl (by repeat (first | exact List.Mem.head _ | apply List.Mem.tail)) (by first | rfl | assumption) | exact Ro.cl (by assumption) hm (by first | exact (fun t => t) | assumption) (by first | rfl | assumption)) | exact r_loadO hs rfl rfl tab rfl rfl rfl hm (by repeat (first | exact List.Mem.head _ | apply List.Mem.tail)) (by rfl) | exact r_loadA hs rfl rfl tab rfl rfl (Ro.ro (by assumption) hm (by first | exact (fun t => t) | assumption)) rfl) | ((with_reducible apply kField); first | exact r_fieldAddr hs rfl rfl tab rfl rfl rfl rfl rfl) | ((with_reducible apply kIx); first | exact r_ix01 hs rfl rfl rfl tab rfl rfl rfl rfl (by omega) | exact r_ix0 hs rfl rfl rfl tab rfl rfl rfl (by omega) | exact r_ix1 hs rfl rfl rfl tab rfl rfl rfl rfl (by omega) | exact r_ix hs rfl rfl rfl tab rfl rfl rfl (by omega) | exact r_ixa1 hs rfl rfl rfl tab rfl rfl rfl rfl (by omega) | exact r_ixa hs rfl rfl rfl tab rfl rfl rfl (by omega) | exact r_ix01l hs rfl rfl rfl rfl tab rfl rfl rfl rfl (by omega) | exact r_ix0l hs rfl rfl rfl rfl tab rfl rfl rfl (by omega) | exact r_ix1l hs rfl rfl rfl rfl tab rfl rfl rfl rfl (by omega) | exact r_ixl hs rfl rfl rfl rfl tab rfl rfl rfl (by omega) | exact r_ixa1l hs rfl rfl rfl rfl tab rfl rfl rfl rfl (by omega) | exact r_ixal hs rfl rfl rfl rfl tab rfl rfl rfl (by omega)) | ((with_reducible apply kBin); first | exact r_T (r_lss hs rfl rfl rfl) (by omega) | exact r_F (r_lss hs rfl rfl rfl) (by omega) | exact r_T (r_eql hs rfl rfl rfl) (by omega) | exact r_F (r_eql hs rfl rfl rfl) (by omega) | exact r_T (r_leq hs rfl rfl rfl) (by omega) | exact r_F (r_leq hs rfl rfl rfl) (by omega) | exact r_T (r_gtr hs rfl rfl rfl) (by omega) | exact r_F (r_gtr hs rfl rfl rfl) (by omega) | exact r_T (r_geq hs rfl rfl rfl) (by omega) | exact r_F (r_geq hs rfl rfl rfl) (by omega) | exact r_nT (r_neq hs rfl rfl rfl) (by omega) | exact r_nF (r_neq hs rfl rfl rfl) (by omega) | exact r_lss hs rfl rfl rfl | exact r_add64 hs rfl rfl rfl (by omega) | exact r_sub64 hs rfl rfl rfl (by omega) | exact r_eql hs rfl rfl rfl | exact r_neq hs rfl rfl rfl | exact r_leq hs rfl rfl rfl | exact r_gtr hs rfl rfl rfl | exact r_geq hs rfl rfl rfl | exact r_eqlB hs rfl rfl rfl tab rfl rfl | exact r_neqB hs rfl rfl rfl tab rfl rfl | exact r_mul64 hs rfl rfl rfl (by omega) | exact r_quo64 hs rfl rfl rfl (by omega) (by omega) | exact r_rem64 hs rfl rfl rfl (by omega) (by omega) | exact r_seql hs rfl rfl rfl | exact r_sneq hs rfl rfl rfl | exact r_eqnil hs rfl rfl rfl tab rfl rfl | exact r_neqnil hs rfl rfl rfl tab rfl rfl | exact r_and hs rfl rfl rfl | exact r_or hs rfl rfl rfl | exact r_xor hs rfl rfl rfl | exact r_add hs rfl rfl rfl | exact r_sub hs rfl rfl rfl | exact r_mul hs rfl rfl rfl) | ((with_reducible apply kUn); first | exact r_not hs rfl rfl | exact r_neg64 hs rfl rfl (by omega)) | ((with_reducible apply kCall); first | exact r_len hs rfl rfl rfl tab rfl rfl | exact r_slen hs rfl rfl rfl tab rfl rfl | exact r_min hs rfl rfl rfl | exact r_max hs rfl rfl rfl) | ((with_reducible apply kPick); first | exact r_pickT hs rfl rfl rfl | exact r_pickF hs rfl rfl rfl | exact r_pick hs rfl rfl rfl rfl) | ((with_reducible apply kBuild); first | exact r_build hs rfl tab rfl rfl rfl rfl rfl rfl | exact r_buildA hs rfl tab rfl rfl rfl rfl rfl rfl) | ((with_reducible apply kConv); first | exact r_conv hs rfl rfl tab rfl rfl rfl | exact r_b2s hs rfl rfl tab rfl rfl rfl rfl rfl rfl (by first | exact Fr.rd' hm.fr (by assumption) | exact Mm.rd_row hm (by repeat (first | exact List.Mem.head _ | apply List.Mem.tail)) (by assumption)) (by assumption)) | ((with_reducible apply kFunc); first | exact r_makeFunc hs rfl rfl rfl) | ((with_reducible apply kExt); first | exact r_extract hs rfl rfl rfl) | ((with_reducible apply kNil); first | exact r_nilCheck hs rfl rfl | exact r_nilCheckF hs rfl rfl rfl) | ((with_reducible apply kFld); first | exact r_field hs rfl rfl tab rfl rfl rfl rfl rfl rfl) | ((with_reducible apply kSlice); first | exact r_sliceArr hs rfl rfl tab rfl rfl rfl | exact r_sliceArrTo hs rfl rfl rfl tab rfl rfl rfl (by omega) (by omega) | exact r_sliceTo hs rfl rfl rfl tab rfl rfl rfl (by omega) (by omega) | exact r_sliceFrom hs rfl rfl rfl tab rfl rfl rfl (by omega) (by omega)))) ?_; clear hs a; intro a hs)
          | (refine dv hs (by first | exact Wnt.none rfl | exact Wnt.some rfl rfl rfl rfl) rfl rfl (by first | exact d_buildSlice0 rfl tab rfl rfl rfl hm | exact d_alloc rfl tab rfl rfl hm | exact d_box hs rfl rfl rfl hm | exact d_buildSlice hs rfl tab rfl rfl rfl rfl rfl rfl rfl rfl rfl hm | exact d_makeSlice hs rfl rfl rfl tab rfl rfl rfl rfl rfl (by omega) rfl hm) ?_; clear hs hm a; rintro _ w ⟨g, rfl, -, hm⟩ a hs)
          | (refine stn hs rfl rfl (by first | exact d_store hs rfl rfl rfl tab rfl rfl rfl rfl hm (by repeat (first | exact Rep.head _ _ _ | apply Rep.tail)) (by rfl) | exact d_store1 hs rfl rfl rfl tab rfl rfl rfl rfl hm (by repeat (first | exact Rep.head _ _ _ | apply Rep.tail)) (by first | omega | assumption | (simp; omega))) ?_; clear hs hm a; rintro - w hm a hs)
          | (refine sno hs rfl rfl rfl rfl rfl rfl rfl ?_; clear hs a; intro a hs)
          | (refine snu hs rfl rfl rfl rfl rfl rfl ?_; clear hs a; intro a hs)
          ))
      | (with_reducible apply lNilThen)
      | (with_reducible apply lNilBlock)
      | (with_reducible apply lNil)
      | (with_reducible apply wp_seq)
      | (with_reducible apply wp_region_lit)
      | (with_reducible apply wp_block)
      | (with_reducible apply cExit)
      | (with_reducible apply cRet)
      | (with_reducible apply cSkip)
      | (with_reducible apply gThen)
      | (with_reducible apply gBlock)
      | (with_reducible apply eThen)
      | (with_reducible apply eBlockHit)
      | (with_reducible refine eBlock rfl ?_)
      | (with_reducible apply rThen)
      | (with_reducible apply rBlock)
      | ((with_reducible apply cCond); (first | refine cTrue hs rfl (by first | rfl | assumption | exact decide_eq_true (by omega) | exact decide_eq_false (by omega) | exact ndT (by omega) | exact ndF (by omega)) ?_ | refine cFalse hs rfl (by first | rfl | assumption | exact decide_eq_true (by omega) | exact decide_eq_false (by omega) | exact ndT (by omega) | exact ndF (by omega)) ?_))
      )
    refine dv hs (Wnt.none rfl) rfl rfl (d_append (A := A1) (n := k) (c := c1) (news := [.int .u8 (bits .xor .u8 X mm)]) hs rfl rfl rfl rfl rfl tab rfl rfl rfl rfl rfl hm (List.Mem.tail _ (List.Mem.head _)) hr rfl (hm.ro (n := 1) (List.Mem.head _) (cutF_ok (k := 0) (by rw [hmm]; rfl))) rfl (by show (k + 1) * 1 ≤ _; omega) (by omega)) ?_
    clear hs
    rintro _ w2 ⟨A2, c2, cs2, rfl, hr, hM⟩ a hs
    replace hm := hM _ (Rep.tail _ (Rep.head _ _ _))
    clear hM
    replace hr : Row A2 (k + 1) c2 1 (bys (xs.take k ++ [bits .xor .u8 X mm])) cs2 := by rw [bys_app]; exact hr
    repeat (first
      | ((with_reducible apply lCons); (first
          | (refine wv hs (by first | exact Wnt.none rfl | exact Wnt.some rfl rfl rfl rfl) rfl rfl (by (first | ((with_reducible apply kMove); first | exact r_move hs rfl rfl) | ((with_reducible apply kAssign); first | exact r_assign hs rfl rfl) | ((with_reducible apply kLoad); first | exact r_load hs rfl rfl tab rfl rfl (by first | exact hm.cl (by repeat (first | exact List.Mem.head _ | apply List.Mem.tail)) (by first | rfl | assumption) | exact Ro.cl (by assumption) hm (by first | exact (fun t => t) | assumption) (by first | rfl | assumption)) | exact r_loadO hs rfl rfl tab rfl rfl rfl hm (by repeat (first | exact List.Mem.head _ | apply List.Mem.tail)) (by rfl) | exact r_loadA hs rfl rfl tab rfl rfl (Ro.ro (by assumption) hm (by first | exact (fun t => t) | assumption)) rfl) | ((with_reducible apply kField); first | exact r_fieldAddr hs rfl rfl tab rfl rfl rfl rfl rfl) | ((with_reducible apply kIx); first | exact r_ix01 hs rfl rfl rfl tab rfl rfl rfl rfl (by omega) | exact r_ix0 hs rfl rfl rfl tab rfl rfl rfl (by omega) | exact r_ix1 hs rfl rfl rfl tab rfl rfl rfl rfl (by omega) | exact r_ix hs rfl rfl rfl tab rfl rfl rfl (by omega) | exact r_ixa1 hs rfl rfl rfl tab rfl rfl rfl rfl (by omega) | exact r_ixa hs rfl rfl rfl tab rfl rfl rfl (by omega) | exact r_ix01l hs rfl rfl rfl rfl tab rfl rfl rfl rfl (by omega) | exact r_ix0l hs rfl rfl rfl rfl tab rfl rfl rfl (by omega) | exact r_ix1l hs rfl rfl rfl rfl tab rfl rfl rfl rfl (by omega) | exact r_ixl hs rfl rfl rfl rfl tab rfl rfl rfl (by omega) | exact r_ixa1l hs rfl rfl rfl rfl tab rfl rfl rfl rfl (by omega) | exact r_ixal hs rfl rfl rfl rfl tab rfl rfl rfl (by omega)) | ((with_reducible apply kBin); first | exact r_T (r_lss hs rfl rfl rfl) (by omega) | exact r_F (r_lss hs rfl rfl rfl) (by omega) | exact r_T (r_eql hs rfl rfl rfl) (by omega) | exact r_F (r_eql hs rfl rfl rfl) (by omega) | exact r_T (r_leq hs rfl rfl rfl) (by omega) | exact r_F (r_leq hs rfl rfl rfl) (by omega) | exact r_T (r_gtr hs rfl rfl rfl) (by omega) | exact r_F (r_gtr hs rfl rfl rfl) (by omega) | exact r_T (r_geq hs rfl rfl rfl) (by omega) | exact r_F (r_geq hs rfl rfl rfl) (by omega) | exact r_nT (r_neq hs rfl rfl rfl) (by omega) | exact r_nF (r_neq hs rfl rfl rfl) (by omega) | exact r_lss hs rfl rfl rfl | exact r_add64 hs rfl rfl rfl (by omega) | exact r_sub64 hs rfl rfl rfl (by omega) | exact r_eql hs rfl rfl rfl | exact r_neq hs rfl rfl rfl | exact r_leq hs rfl rfl rfl | exact r_gtr hs rfl rfl rfl | exact r_geq hs rfl rfl rfl | exact r_eqlB hs rfl rfl rfl tab rfl rfl | exact r_neqB hs rfl rfl rfl tab rfl rfl | exact r_mul64 hs rfl rfl rfl (by omega) | exact r_quo64 hs rfl rfl rfl (by omega) (by omega) | exact r_rem64 hs rfl rfl rfl (by omega) (by omega) | exact r_seql hs rfl rfl rfl | exact r_sneq hs rfl rfl rfl | exact r_eqnil hs rfl rfl rfl tab rfl rfl | exact r_neqnil hs rfl rfl rfl tab rfl rfl | exact r_and hs rfl rfl rfl | exact r_or hs rfl rfl rfl | exact r_xor hs rfl rfl rfl | exact r_add hs rfl rfl rfl | exact r_sub hs rfl rfl rfl | exact r_mul hs rfl rfl rfl) | ((with_reducible apply kUn); first | exact r_not hs rfl rfl | exact r_neg64 hs rfl rfl (by omega)) | ((with_reducible apply kCall); first | exact r_len hs rfl rfl rfl tab rfl rfl | exact r_slen hs rfl rfl rfl tab rfl rfl | exact r_min hs rfl rfl rfl | exact r_max hs rfl rfl rfl) | ((with_reducible apply kPick); first | exact r_pickT hs rfl rfl rfl | exact r_pickF hs rfl rfl rfl | exact r_pick hs rfl rfl rfl rfl) | ((with_reducible apply kBuild); first | exact r_build hs rfl tab rfl rfl rfl rfl rfl rfl | exact r_buildA hs rfl tab rfl rfl rfl rfl rfl rfl) | ((with_reducible apply kConv); first | exact r_conv hs rfl rfl tab rfl rfl rfl | exact r_b2s hs rfl rfl tab rfl rfl rfl rfl rfl rfl (by first | exact Fr.rd' hm.fr (by assumption) | exact Mm.rd_row hm (by repeat (first | exact List.Mem.head _ | apply List.Mem.tail)) (by assumption)) (by assumption)) | ((with_reducible apply kFunc); first | exact r_makeFunc hs rfl rfl rfl) | ((with_reducible apply kExt); first | exact r_extract hs rfl rfl rfl) | ((with_reducible apply kNil); first | exact r_nilCheck hs rfl rfl | exact r_nilCheckF hs rfl rfl rfl) | ((with_reducible apply kFld); first | exact r_field hs rfl rfl tab rfl rfl rfl rfl rfl rfl) | ((with_reducible apply kSlice); first | exact r_sliceArr hs rfl rfl tab rfl rfl rfl | exact r_sliceArrTo hs rfl rfl rfl tab rfl rfl rfl (by omega) (by omega) | exact r_sliceTo hs rfl rfl rfl tab rfl rfl rfl (by omega) (by omega) | exact r_sliceFrom hs rfl rfl rfl tab rfl rfl rfl (by omega) (by omega)))) ?_; clear hs a; intro a hs)
          | (refine dv hs (by first | exact Wnt.none rfl | exact Wnt.some rfl rfl rfl rfl) rfl rfl (by first | exact d_buildSlice0 rfl tab rfl rfl rfl hm | exact d_alloc rfl tab rfl rfl hm | exact d_box hs rfl rfl rfl hm | exact d_buildSlice hs rfl tab rfl rfl rfl rfl rfl rfl rfl rfl rfl hm | exact d_makeSlice hs rfl rfl rfl tab rfl rfl rfl rfl rfl (by omega) rfl hm) ?_; clear hs hm a; rintro _ w ⟨g, rfl, -, hm⟩ a hs)
          | (refine stn hs rfl rfl (by first | exact d_store hs rfl rfl rfl tab rfl rfl rfl rfl hm (by repeat (first | exact Rep.head _ _ _ | apply Rep.tail)) (by rfl) | exact d_store1 hs rfl rfl rfl tab rfl rfl rfl rfl hm (by repeat (first | exact Rep.head _ _ _ | apply Rep.tail)) (by first | omega | assumption | (simp; omega))) ?_; clear hs hm a; rintro - w hm a hs)
          | (refine sno hs rfl rfl rfl rfl rfl rfl rfl ?_; clear hs a; intro a hs)
          | (refine snu hs rfl rfl rfl rfl rfl rfl ?_; clear hs a; intro a hs)
          ))
      | (with_reducible apply lNilThen)
      | (with_reducible apply lNilBlock)
      | (with_reducible apply lNil)
      | (with_reducible apply wp_seq)
      | (with_reducible apply wp_region_lit)
      | (with_reducible apply wp_block)
      | (with_reducible apply cExit)
      | (with_reducible apply cRet)
      | (with_reducible apply cSkip)
      | (with_reducible apply gThen)
      | (with_reducible apply gBlock)
      | (with_reducible apply eThen)
      | (with_reducible apply eBlockHit)
      | (with_reducible refine eBlock rfl ?_)
      | (with_reducible apply rThen)
      | (with_reducible apply rBlock)
      | ((with_reducible apply cCond); (first | refine cTrue hs rfl (by first | rfl | assumption | exact decide_eq_true (by omega) | exact decide_eq_false (by omega) | exact ndT (by omega) | exact ndF (by omega)) ?_ | refine cFalse hs rfl (by first | rfl | assumption | exact decide_eq_true (by omega) | exact decide_eq_false (by omega) | exact ndT (by omega) | exact ndF (by omega)) ?_))
      )
    refine dv hs (Wnt.none rfl) rfl rfl (d_appendS (A := A2) (n := k + 1) (c := c2) (m := m) hs rfl rfl rfl rfl tab rfl rfl rfl rfl rfl hm (List.Mem.tail _ (List.Mem.head _)) hr (by rw [bys_len, hy1]; exact (Nat.mul_one _).symm) (hm.fr.rd' hy2) (isB_one _) (by show (k + 1 + m) * 1 ≤ _; omega) (by omega)) ?_
    clear hs
    rintro _ w3 ⟨A3, c3, cs3, rfl, hr, hM⟩ a hs
    replace hm := hM _ (Rep.tail _ (Rep.head _ _ _))
    clear hM
    replace hr : Row A3 (k + 1 + m) c3 1 (bys (xs.take k ++ [bits .xor .u8 X mm] ++ ys)) cs3 := by rw [bys_app _ ys]; exact hr
    generalize bits .xor .u8 X mm = Z at *
    have hB : (BS.mk (A3.map fun g => ⟨g, 0, none⟩) (k + 1 + m) c3 (xs.take k ++ [Z] ++ ys)).ok w3 := ⟨by simp; omega, hm.rd_row (by repeat (first | exact List.Mem.head _ | apply List.Mem.tail)) hr, fun x hx => by
      rcases List.mem_append.1 hx with h | h
      · rcases List.mem_append.1 h with h | h
        · exact hx3 x (List.mem_of_mem_take h)
        · rcases List.mem_singleton.1 h with rfl; exact hxo.1
      · exact hy3 x h⟩
    have f1 : firstF 0 xs (xs.take k ++ [Z] ++ ys) = k := by
      have h := firstF_at (xs.take k) (xs.drop (k + 1)) ys X Z hxo.2 0
      rw [← hsplit, List.length_take] at h
      rw [List.append_assoc]
      exact h.trans (by congr 1; omega)
    have f2 : firstF 0 (xs.take k ++ [Z] ++ ys) xs = k := by
      have h := firstF_at (xs.take k) ys (xs.drop (k + 1)) Z X (fun e => hxo.2 e.symm) 0
      rw [← hsplit, List.length_take] at h
      rw [List.append_assoc]
      exact h.trans (by congr 1; omega)
    have hF := hm.fr
    have c1 := fun w'' (hf : Pu w3 w'') => first_c _ _ w'' ((hx.pu hF).pu hf) (hB.pu hf) hxn (by dsimp only; omega)
    have c2 := fun w'' (hf : Pu w3 w'') => first_c _ _ w'' (hB.pu hf) ((hx.pu hF).pu hf) (by dsimp only; omega) hxn
    have c3 := fun w'' (hf : Pu w3 w'') => first_c _ _ w'' ((hx.pu hF).pu hf) ((hx.pu hF).pu hf) hxn hxn
    simp only [f1, f2, firstF_self] at c1 c2 c3
    clear hm
    have hm := Mm.nil (fun _ => False) w3
    repeat (first
      | ((with_reducible apply lCons); (first
          | (refine wv hs (by first | exact Wnt.none rfl | exact Wnt.some rfl rfl rfl rfl) rfl rfl (by (first | ((with_reducible apply kMove); first | exact r_move hs rfl rfl) | ((with_reducible apply kAssign); first | exact r_assign hs rfl rfl) | ((with_reducible apply kLoad); first | exact r_load hs rfl rfl tab rfl rfl (by first | exact hm.cl (by repeat (first | exact List.Mem.head _ | apply List.Mem.tail)) (by first | rfl | assumption) | exact Ro.cl (by assumption) hm (by first | exact (fun t => t) | assumption) (by first | rfl | assumption)) | exact r_loadO hs rfl rfl tab rfl rfl rfl hm (by repeat (first | exact List.Mem.head _ | apply List.Mem.tail)) (by rfl) | exact r_loadA hs rfl rfl tab rfl rfl (Ro.ro (by assumption) hm (by first | exact (fun t => t) | assumption)) rfl) | ((with_reducible apply kField); first | exact r_fieldAddr hs rfl rfl tab rfl rfl rfl rfl rfl) | ((with_reducible apply kIx); first | exact r_ix01 hs rfl rfl rfl tab rfl rfl rfl rfl (by omega) | exact r_ix0 hs rfl rfl rfl tab rfl rfl rfl (by omega) | exact r_ix1 hs rfl rfl rfl tab rfl rfl rfl rfl (by omega) | exact r_ix hs rfl rfl rfl tab rfl rfl rfl (by omega) | exact r_ixa1 hs rfl rfl rfl tab rfl rfl rfl rfl (by omega) | exact r_ixa hs rfl rfl rfl tab rfl rfl rfl (by omega) | exact r_ix01l hs rfl rfl rfl rfl tab rfl rfl rfl rfl (by omega) | exact r_ix0l hs rfl rfl rfl rfl tab rfl rfl rfl (by omega) | exact r_ix1l hs rfl rfl rfl rfl tab rfl rfl rfl rfl (by omega) | exact r_ixl hs rfl rfl rfl rfl tab rfl rfl rfl (by omega) | exact r_ixa1l hs rfl rfl rfl rfl tab rfl rfl rfl rfl (by omega) | exact r_ixal hs rfl rfl rfl rfl tab rfl rfl rfl (by omega)) | ((with_reducible apply kBin); first | exact r_T (r_lss hs rfl rfl rfl) (by omega) | exact r_F (r_lss hs rfl rfl rfl) (by omega) | exact r_T (r_eql hs rfl rfl rfl) (by omega) | exact r_F (r_eql hs rfl rfl rfl) (by omega) | exact r_T (r_leq hs rfl rfl rfl) (by omega) | exact r_F (r_leq hs rfl rfl rfl) (by omega) | exact r_T (r_gtr hs rfl rfl rfl) (by omega) | exact r_F (r_gtr hs rfl rfl rfl) (by omega) | exact r_T (r_geq hs rfl rfl rfl) (by omega) | exact r_F (r_geq hs rfl rfl rfl) (by omega) | exact r_nT (r_neq hs rfl rfl rfl) (by omega) | exact r_nF (r_neq hs rfl rfl rfl) (by omega) | exact r_lss hs rfl rfl rfl | exact r_add64 hs rfl rfl rfl (by omega) | exact r_sub64 hs rfl rfl rfl (by omega) | exact r_eql hs rfl rfl rfl | exact r_neq hs rfl rfl rfl | exact r_leq hs rfl rfl rfl | exact r_gtr hs rfl rfl rfl | exact r_geq hs rfl rfl rfl | exact r_eqlB hs rfl rfl rfl tab rfl rfl | exact r_neqB hs rfl rfl rfl tab rfl rfl | exact r_mul64 hs rfl rfl rfl (by omega) | exact r_quo64 hs rfl rfl rfl (by omega) (by omega) | exact r_rem64 hs rfl rfl rfl (by omega) (by omega) | exact r_seql hs rfl rfl rfl | exact r_sneq hs rfl rfl rfl | exact r_eqnil hs rfl rfl rfl tab rfl rfl | exact r_neqnil hs rfl rfl rfl tab rfl rfl | exact r_and hs rfl rfl rfl | exact r_or hs rfl rfl rfl | exact r_xor hs rfl rfl rfl | exact r_add hs rfl rfl rfl | exact r_sub hs rfl rfl rfl | exact r_mul hs rfl rfl rfl) | ((with_reducible apply kUn); first | exact r_not hs rfl rfl | exact r_neg64 hs rfl rfl (by omega)) | ((with_reducible apply kCall); first | exact r_len hs rfl rfl rfl tab rfl rfl | exact r_slen hs rfl rfl rfl tab rfl rfl | exact r_min hs rfl rfl rfl | exact r_max hs rfl rfl rfl) | ((with_reducible apply kPick); first | exact r_pickT hs rfl rfl rfl | exact r_pickF hs rfl rfl rfl | exact r_pick hs rfl rfl rfl rfl) | ((with_reducible apply kBuild); first | exact r_build hs rfl tab rfl rfl rfl rfl rfl rfl | exact r_buildA hs rfl tab rfl rfl rfl rfl rfl rfl) | ((with_reducible apply kConv); first | exact r_conv hs rfl rfl tab rfl rfl rfl | exact r_b2s hs rfl rfl tab rfl rfl rfl rfl rfl rfl (by first | exact Fr.rd' hm.fr (by assumption) | exact Mm.rd_row hm (by repeat (first | exact List.Mem.head _ | apply List.Mem.tail)) (by assumption)) (by assumption)) | ((with_reducible apply kFunc); first | exact r_makeFunc hs rfl rfl rfl) | ((with_reducible apply kExt); first | exact r_extract hs rfl rfl rfl) | ((with_reducible apply kNil); first | exact r_nilCheck hs rfl rfl | exact r_nilCheckF hs rfl rfl rfl) | ((with_reducible apply kFld); first | exact r_field hs rfl rfl tab rfl rfl rfl rfl rfl rfl) | ((with_reducible apply kSlice); first | exact r_sliceArr hs rfl rfl tab rfl rfl rfl | exact r_sliceArrTo hs rfl rfl rfl tab rfl rfl rfl (by omega) (by omega) | exact r_sliceTo hs rfl rfl rfl tab rfl rfl rfl (by omega) (by omega) | exact r_sliceFrom hs rfl rfl rfl tab rfl rfl rfl (by omega) (by omega)))) ?_; clear hs a; intro a hs)
          | (refine dv hs (by first | exact Wnt.none rfl | exact Wnt.some rfl rfl rfl rfl) rfl rfl (by first | exact d_buildSlice0 rfl tab rfl rfl rfl hm | exact d_alloc rfl tab rfl rfl hm | exact d_box hs rfl rfl rfl hm | exact d_buildSlice hs rfl tab rfl rfl rfl rfl rfl rfl rfl rfl rfl hm | exact d_makeSlice hs rfl rfl rfl tab rfl rfl rfl rfl rfl (by omega) rfl hm) ?_; clear hs hm a; rintro _ w ⟨g, rfl, -, hm⟩ a hs)
          | (refine stn hs rfl rfl (by first | exact d_store hs rfl rfl rfl tab rfl rfl rfl rfl hm (by repeat (first | exact Rep.head _ _ _ | apply Rep.tail)) (by rfl) | exact d_store1 hs rfl rfl rfl tab rfl rfl rfl rfl hm (by repeat (first | exact Rep.head _ _ _ | apply Rep.tail)) (by first | omega | assumption | (simp; omega))) ?_; clear hs hm a; rintro - w hm a hs)
          | (refine sno hs rfl rfl rfl rfl rfl rfl rfl ?_; clear hs a; intro a hs)
          | (refine snu hs rfl rfl rfl rfl rfl rfl ?_; clear hs a; intro a hs)
          | (refine dv hs (by first | exact Wnt.none rfl | exact Wnt.some rfl rfl rfl rfl) rfl rfl (d_call hs rfl rfl rfl (pl 13 rfl) (c1 _ hm.fr)) ?_; clear hs a; rintro _ w ⟨rfl, hf⟩ a hs; replace hm := hm.pu hf; clear hf)
          | (refine dv hs (by first | exact Wnt.none rfl | exact Wnt.some rfl rfl rfl rfl) rfl rfl (d_call hs rfl rfl rfl (pl 13 rfl) (c2 _ hm.fr)) ?_; clear hs a; rintro _ w ⟨rfl, hf⟩ a hs; replace hm := hm.pu hf; clear hf)
          | (refine dv hs (by first | exact Wnt.none rfl | exact Wnt.some rfl rfl rfl rfl) rfl rfl (d_call hs rfl rfl rfl (pl 13 rfl) (c3 _ hm.fr)) ?_; clear hs a; rintro _ w ⟨rfl, hf⟩ a hs; replace hm := hm.pu hf; clear hf)
          | (refine dv hs (by first | exact Wnt.none rfl | exact Wnt.some rfl rfl rfl rfl) rfl rfl (d_call hs rfl rfl rfl (pl 7 rfl) (awake_c _)) ?_; clear hs a; rintro _ w ⟨rfl, hf⟩ a hs; replace hm := hm.pu hf; clear hf)
          ))
      | ((with_reducible apply qCons); (first
          | (refine qw hs (by first | exact Wnt.none rfl | exact Wnt.some rfl rfl rfl rfl) rfl rfl (by intro w hm; (first | ((with_reducible apply kMove); first | exact r_move hs rfl rfl) | ((with_reducible apply kAssign); first | exact r_assign hs rfl rfl) | ((with_reducible apply kLoad); first | exact r_load hs rfl rfl tab rfl rfl (by first | exact hm.cl (by repeat (first | exact List.Mem.head _ | apply List.Mem.tail)) (by first | rfl | assumption) | exact Ro.cl (by assumption) hm (by first | exact (fun t => t) | assumption) (by first | rfl | assumption)) | exact r_loadO hs rfl rfl tab rfl rfl rfl hm (by repeat (first | exact List.Mem.head _ | apply List.Mem.tail)) (by rfl) | exact r_loadA hs rfl rfl tab rfl rfl (Ro.ro (by assumption) hm (by first | exact (fun t => t) | assumption)) rfl) | ((with_reducible apply kField); first | exact r_fieldAddr hs rfl rfl tab rfl rfl rfl rfl rfl) | ((with_reducible apply kIx); first | exact r_ix01 hs rfl rfl rfl tab rfl rfl rfl rfl (by omega) | exact r_ix0 hs rfl rfl rfl tab rfl rfl rfl (by omega) | exact r_ix1 hs rfl rfl rfl tab rfl rfl rfl rfl (by omega) | exact r_ix hs rfl rfl rfl tab rfl rfl rfl (by omega) | exact r_ixa1 hs rfl rfl rfl tab rfl rfl rfl rfl (by omega) | exact r_ixa hs rfl rfl rfl tab rfl rfl rfl (by omega) | exact r_ix01l hs rfl rfl rfl rfl tab rfl rfl rfl rfl (by omega) | exact r_ix0l hs rfl rfl rfl rfl tab rfl rfl rfl (by omega) | exact r_ix1l hs rfl rfl rfl rfl tab rfl rfl rfl rfl (by omega) | exact r_ixl hs rfl rfl rfl rfl tab rfl rfl rfl (by omega) | exact r_ixa1l hs rfl rfl rfl rfl tab rfl rfl rfl rfl (by omega) | exact r_ixal hs rfl rfl rfl rfl tab rfl rfl rfl (by omega)) | ((with_reducible apply kBin); first | exact r_T (r_lss hs rfl rfl rfl) (by omega) | exact r_F (r_lss hs rfl rfl rfl) (by omega) | exact r_T (r_eql hs rfl rfl rfl) (by omega) | exact r_F (r_eql hs rfl rfl rfl) (by omega) | exact r_T (r_leq hs rfl rfl rfl) (by omega) | exact r_F (r_leq hs rfl rfl rfl) (by omega) | exact r_T (r_gtr hs rfl rfl rfl) (by omega) | exact r_F (r_gtr hs rfl rfl rfl) (by omega) | exact r_T (r_geq hs rfl rfl rfl) (by omega) | exact r_F (r_geq hs rfl rfl rfl) (by omega) | exact r_nT (r_neq hs rfl rfl rfl) (by omega) | exact r_nF (r_neq hs rfl rfl rfl) (by omega) | exact r_lss hs rfl rfl rfl | exact r_add64 hs rfl rfl rfl (by omega) | exact r_sub64 hs rfl rfl rfl (by omega) | exact r_eql hs rfl rfl rfl | exact r_neq hs rfl rfl rfl | exact r_leq hs rfl rfl rfl | exact r_gtr hs rfl rfl rfl | exact r_geq hs rfl rfl rfl | exact r_eqlB hs rfl rfl rfl tab rfl rfl | exact r_neqB hs rfl rfl rfl tab rfl rfl | exact r_mul64 hs rfl rfl rfl (by omega) | exact r_quo64 hs rfl rfl rfl (by omega) (by omega) | exact r_rem64 hs rfl rfl rfl (by omega) (by omega) | exact r_seql hs rfl rfl rfl | exact r_sneq hs rfl rfl rfl | exact r_eqnil hs rfl rfl rfl tab rfl rfl | exact r_neqnil hs rfl rfl rfl tab rfl rfl | exact r_and hs rfl rfl rfl | exact r_or hs rfl rfl rfl | exact r_xor hs rfl rfl rfl | exact r_add hs rfl rfl rfl | exact r_sub hs rfl rfl rfl | exact r_mul hs rfl rfl rfl) | ((with_reducible apply kUn); first | exact r_not hs rfl rfl | exact r_neg64 hs rfl rfl (by omega)) | ((with_reducible apply kCall); first | exact r_len hs rfl rfl rfl tab rfl rfl | exact r_slen hs rfl rfl rfl tab rfl rfl | exact r_min hs rfl rfl rfl | exact r_max hs rfl rfl rfl) | ((with_reducible apply kPick); first | exact r_pickT hs rfl rfl rfl | exact r_pickF hs rfl rfl rfl | exact r_pick hs rfl rfl rfl rfl) | ((with_reducible apply kBuild); first | exact r_build hs rfl tab rfl rfl rfl rfl rfl rfl | exact r_buildA hs rfl tab rfl rfl rfl rfl rfl rfl) | ((with_reducible apply kConv); first | exact r_conv hs rfl rfl tab rfl rfl rfl | exact r_b2s hs rfl rfl tab rfl rfl rfl rfl rfl rfl (by first | exact Fr.rd' hm.fr (by assumption) | exact Mm.rd_row hm (by repeat (first | exact List.Mem.head _ | apply List.Mem.tail)) (by assumption)) (by assumption)) | ((with_reducible apply kFunc); first | exact r_makeFunc hs rfl rfl rfl) | ((with_reducible apply kExt); first | exact r_extract hs rfl rfl rfl) | ((with_reducible apply kNil); first | exact r_nilCheck hs rfl rfl | exact r_nilCheckF hs rfl rfl rfl) | ((with_reducible apply kFld); first | exact r_field hs rfl rfl tab rfl rfl rfl rfl rfl rfl) | ((with_reducible apply kSlice); first | exact r_sliceArr hs rfl rfl tab rfl rfl rfl | exact r_sliceArrTo hs rfl rfl rfl tab rfl rfl rfl (by omega) (by omega) | exact r_sliceTo hs rfl rfl rfl tab rfl rfl rfl (by omega) (by omega) | exact r_sliceFrom hs rfl rfl rfl tab rfl rfl rfl (by omega) (by omega)))) ?_; clear hs a; intro a hs)
          | (refine qno hs rfl rfl rfl rfl rfl rfl rfl ?_; clear hs a; intro a hs)
          | (refine qnu hs rfl rfl rfl rfl rfl rfl ?_; clear hs a; intro a hs)
          | (refine qwcall hs (by first | exact Wnt.none rfl | exact Wnt.some rfl rfl rfl rfl) rfl rfl rfl rfl rfl (pl 13 rfl) (by intro w hm; exact Ret.mono (c1 _ hm.fr) (fun _ _ ⟨h1, h2⟩ => ⟨h1, hm.pu h2⟩)) ?_; clear hs a; intro a hs)
          | (refine qwcall hs (by first | exact Wnt.none rfl | exact Wnt.some rfl rfl rfl rfl) rfl rfl rfl rfl rfl (pl 13 rfl) (by intro w hm; exact Ret.mono (c2 _ hm.fr) (fun _ _ ⟨h1, h2⟩ => ⟨h1, hm.pu h2⟩)) ?_; clear hs a; intro a hs)
          | (refine qwcall hs (by first | exact Wnt.none rfl | exact Wnt.some rfl rfl rfl rfl) rfl rfl rfl rfl rfl (pl 13 rfl) (by intro w hm; exact Ret.mono (c3 _ hm.fr) (fun _ _ ⟨h1, h2⟩ => ⟨h1, hm.pu h2⟩)) ?_; clear hs a; intro a hs)
          | (refine qwcall hs (by first | exact Wnt.none rfl | exact Wnt.some rfl rfl rfl rfl) rfl rfl rfl rfl rfl (pl 7 rfl) (by intro w hm; exact Ret.mono (awake_c _) (fun _ _ ⟨h1, h2⟩ => ⟨h1, hm.pu h2⟩)) ?_; clear hs a; intro a hs)
          ))
      | ((with_reducible apply qNil); clear hm; intro w hm)
      | ((with_reducible refine cQuiet hm ?_ ?_ ?_ ?_); rfl; kernel_rfl; kernel_rfl)
      | (with_reducible apply lNilThen)
      | (with_reducible apply lNilBlock)
      | (with_reducible apply lNil)
      | (with_reducible apply wp_seq)
      | (with_reducible apply wp_region_lit)
      | (with_reducible apply wp_block)
      | (with_reducible apply cExit)
      | (with_reducible apply cRet)
      | (with_reducible apply cSkip)
      | (with_reducible apply gThen)
      | (with_reducible apply gBlock)
      | (with_reducible apply eThen)
      | (with_reducible apply eBlockHit)
      | (with_reducible refine eBlock rfl ?_)
      | (with_reducible apply rThen)
      | (with_reducible apply rBlock)
      | ((with_reducible apply cCond); (first | refine cTrue hs rfl (by first | rfl | assumption | exact decide_eq_true (by omega) | exact decide_eq_false (by omega) | exact ndT (by omega) | exact ndF (by omega)) ?_ | refine cFalse hs rfl (by first | rfl | assumption | exact decide_eq_true (by omega) | exact decide_eq_false (by omega) | exact ndT (by omega) | exact ndF (by omega)) ?_))
      )
    exact gRet1 hs rfl rfl ⟨rfl, hF.pu hm.fr⟩
  · repeat (first
      | ((with_reducible apply lCons); (first
          | (refine wv hs (by first | exact Wnt.none rfl | exact Wnt.some rfl rfl rfl rfl) rfl rfl (by (first | ((with_reducible apply kMove); first | exact r_move hs rfl rfl) | ((with_reducible apply kAssign); first | exact r_assign hs rfl rfl) | ((with_reducible apply kLoad); first | exact r_load hs rfl rfl tab rfl rfl (by first | exact hm.cl (by repeat (first | exact List.Mem.head _ | apply List.Mem.tail)) (by first | rfl | assumption) | exact Ro.cl (by assumption) hm (by first | exact (fun t => t) | assumption) (by first | rfl | assumption)) | exact r_loadO hs rfl rfl tab rfl rfl rfl hm (by repeat (first | exact List.Mem.head _ | apply List.Mem.tail)) (by rfl) | exact r_loadA hs rfl rfl tab rfl rfl (Ro.ro (by assumption) hm (by first | exact (fun t => t) | assumption)) rfl) | ((with_reducible apply kField); first | exact r_fieldAddr hs rfl rfl tab rfl rfl rfl rfl rfl) | ((with_reducible apply kIx); first | exact r_ix01 hs rfl rfl rfl tab rfl rfl rfl rfl (by omega) | exact r_ix0 hs rfl rfl rfl tab rfl rfl rfl (by omega) | exact r_ix1 hs rfl rfl rfl tab rfl rfl rfl rfl (by omega) | exact r_ix hs rfl rfl rfl tab rfl rfl rfl (by omega) | exact r_ixa1 hs rfl rfl rfl tab rfl rfl rfl rfl (by omega) | exact r_ixa hs rfl rfl rfl tab rfl rfl rfl (by omega) | exact r_ix01l hs rfl rfl rfl rfl tab rfl rfl rfl rfl (by omega) | exact r_ix0l hs rfl rfl rfl rfl tab rfl rfl rfl (by omega) | exact r_ix1l hs rfl rfl rfl rfl tab rfl rfl rfl rfl (by omega) | exact r_ixl hs rfl rfl rfl rfl tab rfl rfl rfl (by omega) | exact r_ixa1l hs rfl rfl rfl rfl tab rfl rfl rfl rfl (by omega) | exact r_ixal hs rfl rfl rfl rfl tab rfl rfl rfl (by omega)) | ((with_reducible apply kBin); first | exact r_T (r_lss hs rfl rfl rfl) (by omega) | exact r_F (r_lss hs rfl rfl rfl) (by omega) | exact r_T (r_eql hs rfl rfl rfl) (by omega) | exact r_F (r_eql hs rfl rfl rfl) (by omega) | exact r_T (r_leq hs rfl rfl rfl) (by omega) | exact r_F (r_leq hs rfl rfl rfl) (by omega) | exact r_T (r_gtr hs rfl rfl rfl) (by omega) | exact r_F (r_gtr hs rfl rfl rfl) (by omega) | exact r_T (r_geq hs rfl rfl rfl) (by omega) | exact r_F (r_geq hs rfl rfl rfl) (by omega) | exact r_nT (r_neq hs rfl rfl rfl) (by omega) | exact r_nF (r_neq hs rfl rfl rfl) (by omega) | exact r_lss hs rfl rfl rfl | exact r_add64 hs rfl rfl rfl (by omega) | exact r_sub64 hs rfl rfl rfl (by omega) | exact r_eql hs rfl rfl rfl | exact r_neq hs rfl rfl rfl | exact r_leq hs rfl rfl rfl | exact r_gtr hs rfl rfl rfl | exact r_geq hs rfl rfl rfl | exact r_eqlB hs rfl rfl rfl tab rfl rfl | exact r_neqB hs rfl rfl rfl tab rfl rfl | exact r_mul64 hs rfl rfl rfl (by omega) | exact r_quo64 hs rfl rfl rfl (by omega) (by omega) | exact r_rem64 hs rfl rfl rfl (by omega) (by omega) | exact r_seql hs rfl rfl rfl | exact r_sneq hs rfl rfl rfl | exact r_eqnil hs rfl rfl rfl tab rfl rfl | exact r_neqnil hs rfl rfl rfl tab rfl rfl | exact r_and hs rfl rfl rfl | exact r_or hs rfl rfl rfl | exact r_xor hs rfl rfl rfl | exact r_add hs rfl rfl rfl | exact r_sub hs rfl rfl rfl | exact r_mul hs rfl rfl rfl) | ((with_reducible apply kUn); first | exact r_not hs rfl rfl | exact r_neg64 hs rfl rfl (by omega)) | ((with_reducible apply kCall); first | exact r_len hs rfl rfl rfl tab rfl rfl | exact r_slen hs rfl rfl rfl tab rfl rfl | exact r_min hs rfl rfl rfl | exact r_max hs rfl rfl rfl) | ((with_reducible apply kPick); first | exact r_pickT hs rfl rfl rfl | exact r_pickF hs rfl rfl rfl | exact r_pick hs rfl rfl rfl rfl) | ((with_reducible apply kBuild); first | exact r_build hs rfl tab rfl rfl rfl rfl rfl rfl | exact r_buildA hs rfl tab rfl rfl rfl rfl rfl rfl) | ((with_reducible apply kConv); first | exact r_conv hs rfl rfl tab rfl rfl rfl | exact r_b2s hs rfl rfl tab rfl rfl rfl rfl rfl rfl (by first | exact Fr.rd' hm.fr (by assumption) | exact Mm.rd_row hm (by repeat (first | exact List.Mem.head _ | apply List.Mem.tail)) (by assumption)) (by assumption)) | ((with_reducible apply kFunc); first | exact r_makeFunc hs rfl rfl rfl) | ((with_reducible apply kExt); first | exact r_extract hs rfl rfl rfl) | ((with_reducible apply kNil); first | exact r_nilCheck hs rfl rfl | exact r_nilCheckF hs rfl rfl rfl) | ((with_reducible apply kFld); first | exact r_field hs rfl rfl tab rfl rfl rfl rfl rfl rfl) | ((with_reducible apply kSlice); first | exact r_sliceArr hs rfl rfl tab rfl rfl rfl | exact r_sliceArrTo hs rfl rfl rfl tab rfl rfl rfl (by omega) (by omega) | exact r_sliceTo hs rfl rfl rfl tab rfl rfl rfl (by omega) (by omega) | exact r_sliceFrom hs rfl rfl rfl tab rfl rfl rfl (by omega) (by omega)))) ?_; clear hs a; intro a hs)
          | (refine dv hs (by first | exact Wnt.none rfl | exact Wnt.some rfl rfl rfl rfl) rfl rfl (by first | exact d_buildSlice0 rfl tab rfl rfl rfl hm | exact d_alloc rfl tab rfl rfl hm | exact d_box hs rfl rfl rfl hm | exact d_buildSlice hs rfl tab rfl rfl rfl rfl rfl rfl rfl rfl rfl hm | exact d_makeSlice hs rfl rfl rfl tab rfl rfl rfl rfl rfl (by omega) rfl hm) ?_; clear hs hm a; rintro _ w ⟨g, rfl, -, hm⟩ a hs)
          | (refine stn hs rfl rfl (by first | exact d_store hs rfl rfl rfl tab rfl rfl rfl rfl hm (by repeat (first | exact Rep.head _ _ _ | apply Rep.tail)) (by rfl) | exact d_store1 hs rfl rfl rfl tab rfl rfl rfl rfl hm (by repeat (first | exact Rep.head _ _ _ | apply Rep.tail)) (by first | omega | assumption | (simp; omega))) ?_; clear hs hm a; rintro - w hm a hs)
          | (refine sno hs rfl rfl rfl rfl rfl rfl rfl ?_; clear hs a; intro a hs)
          | (refine snu hs rfl rfl rfl rfl rfl rfl ?_; clear hs a; intro a hs)
          ))
      | (with_reducible apply lNilThen)
      | (with_reducible apply lNilBlock)
      | (with_reducible apply lNil)
      | (with_reducible apply wp_seq)
      | (with_reducible apply wp_region_lit)
      | (with_reducible apply wp_block)
      | (with_reducible apply cExit)
      | (with_reducible apply cRet)
      | (with_reducible apply cSkip)
      | (with_reducible apply gThen)
      | (with_reducible apply gBlock)
      | (with_reducible apply eThen)
      | (with_reducible apply eBlockHit)
      | (with_reducible refine eBlock rfl ?_)
      | (with_reducible apply rThen)
      | (with_reducible apply rBlock)
      | ((with_reducible apply cCond); (first | refine cTrue hs rfl (by first | rfl | assumption | exact decide_eq_true (by omega) | exact decide_eq_false (by omega) | exact ndT (by omega) | exact ndF (by omega)) ?_ | refine cFalse hs rfl (by first | rfl | assumption | exact decide_eq_true (by omega) | exact decide_eq_false (by omega) | exact ndT (by omega) | exact ndF (by omega)) ?_))
      )
    refine dv hs (Wnt.none rfl) rfl rfl (d_appendS (A := A1) (n := k) (c := c1) (m := m) hs rfl rfl rfl rfl tab rfl rfl rfl rfl rfl hm (List.Mem.head _) hr (by rw [bys_len, hy1]; exact (Nat.mul_one _).symm) (hm.fr.rd' hy2) (isB_one _) (by show (k + m) * 1 ≤ _; omega) (by omega)) ?_
    clear hs
    rintro _ w3 ⟨A3, c3, cs3, rfl, hr, hM⟩ a hs
    replace hm := hM _ (Rep.head _ _ _)
    clear hM
    replace hr : Row A3 (k + m) c3 1 (bys (xs.take k ++ ys)) cs3 := by rw [bys_app]; exact hr
    have hkk : k = n := by omega
    subst hkk
    rw [List.take_of_length_le (by omega)] at hr
    have hB : (BS.mk (A3.map fun g => ⟨g, 0, none⟩) (k + m) c3 (xs ++ ys)).ok w3 := ⟨by simp; omega, hm.rd_row (by repeat (first | exact List.Mem.head _ | apply List.Mem.tail)) hr, fun x hx => by
      rcases List.mem_append.1 hx with h | h
      · exact hx3 x h
      · exact hy3 x h⟩
    have hF := hm.fr
    have c1 := fun w'' (hf : Pu w3 w'') => first_c _ _ w'' ((hx.pu hF).pu hf) (hB.pu hf) hxn (by dsimp only; omega)
    dsimp only at c1
    clear hm
    have hm := Mm.nil (fun _ => False) w3
    cases ys with
    | nil =>
      have : m = 0 := by simpa using hy1.symm
      subst this
      rw [List.append_nil, firstF_self] at c1
      repeat (first
        | ((with_reducible apply lCons); (first
            | (refine wv hs (by first | exact Wnt.none rfl | exact Wnt.some rfl rfl rfl rfl) rfl rfl (by (first | ((with_reducible apply kMove); first | exact r_move hs rfl rfl) | ((with_reducible apply kAssign); first | exact r_assign hs rfl rfl) | ((with_reducible apply kLoad); first | exact r_load hs rfl rfl tab rfl rfl (by first | exact hm.cl (by repeat (first | exact List.Mem.head _ | apply List.Mem.tail)) (by first | rfl | assumption) | exact Ro.cl (by assumption) hm (by first | exact (fun t => t) | assumption) (by first | rfl | assumption)) | exact r_loadO hs rfl rfl tab rfl rfl rfl hm (by repeat (first | exact List.Mem.head _ | apply List.Mem.tail)) (by rfl) | exact r_loadA hs rfl rfl tab rfl rfl (Ro.ro (by assumption) hm (by first | exact (fun t => t) | assumption)) rfl) | ((with_reducible apply kField); first | exact r_fieldAddr hs rfl rfl tab rfl rfl rfl rfl rfl) | ((with_reducible apply kIx); first | exact r_ix01 hs rfl rfl rfl tab rfl rfl rfl rfl (by omega) | exact r_ix0 hs rfl rfl rfl tab rfl rfl rfl (by omega) | exact r_ix1 hs rfl rfl rfl tab rfl rfl rfl rfl (by omega) | exact r_ix hs rfl rfl rfl tab rfl rfl rfl (by omega) | exact r_ixa1 hs rfl rfl rfl tab rfl rfl rfl rfl (by omega) | exact r_ixa hs rfl rfl rfl tab rfl rfl rfl (by omega) | exact r_ix01l hs rfl rfl rfl rfl tab rfl rfl rfl rfl (by omega) | exact r_ix0l hs rfl rfl rfl rfl tab rfl rfl rfl (by omega) | exact r_ix1l hs rfl rfl rfl rfl tab rfl rfl rfl rfl (by omega) | exact r_ixl hs rfl rfl rfl rfl tab rfl rfl rfl (by omega) | exact r_ixa1l hs rfl rfl rfl rfl tab rfl rfl rfl rfl (by omega) | exact r_ixal hs rfl rfl rfl rfl tab rfl rfl rfl (by omega)) | ((with_reducible apply kBin); first | exact r_T (r_lss hs rfl rfl rfl) (by omega) | exact r_F (r_lss hs rfl rfl rfl) (by omega) | exact r_T (r_eql hs rfl rfl rfl) (by omega) | exact r_F (r_eql hs rfl rfl rfl) (by omega) | exact r_T (r_leq hs rfl rfl rfl) (by omega) | exact r_F (r_leq hs rfl rfl rfl) (by omega) | exact r_T (r_gtr hs rfl rfl rfl) (by omega) | exact r_F (r_gtr hs rfl rfl rfl) (by omega) | exact r_T (r_geq hs rfl rfl rfl) (by omega) | exact r_F (r_geq hs rfl rfl rfl) (by omega) | exact r_nT (r_neq hs rfl rfl rfl) (by omega) | exact r_nF (r_neq hs rfl rfl rfl) (by omega) | exact r_lss hs rfl rfl rfl | exact r_add64 hs rfl rfl rfl (by omega) | exact r_sub64 hs rfl rfl rfl (by omega) | exact r_eql hs rfl rfl rfl | exact r_neq hs rfl rfl rfl | exact r_leq hs rfl rfl rfl | exact r_gtr hs rfl rfl rfl | exact r_geq hs rfl rfl rfl | exact r_eqlB hs rfl rfl rfl tab rfl rfl | exact r_neqB hs rfl rfl rfl tab rfl rfl | exact r_mul64 hs rfl rfl rfl (by omega) | exact r_quo64 hs rfl rfl rfl (by omega) (by omega) | exact r_rem64 hs rfl rfl rfl (by omega) (by omega) | exact r_seql hs rfl rfl rfl | exact r_sneq hs rfl rfl rfl | exact r_eqnil hs rfl rfl rfl tab rfl rfl | exact r_neqnil hs rfl rfl rfl tab rfl rfl | exact r_and hs rfl rfl rfl | exact r_or hs rfl rfl rfl | exact r_xor hs rfl rfl rfl | exact r_add hs rfl rfl rfl | exact r_sub hs rfl rfl rfl | exact r_mul hs rfl rfl rfl) | ((with_reducible apply kUn); first | exact r_not hs rfl rfl | exact r_neg64 hs rfl rfl (by omega)) | ((with_reducible apply kCall); first | exact r_len hs rfl rfl rfl tab rfl rfl | exact r_slen hs rfl rfl rfl tab rfl rfl | exact r_min hs rfl rfl rfl | exact r_max hs rfl rfl rfl) | ((with_reducible apply kPick); first | exact r_pickT hs rfl rfl rfl | exact r_pickF hs rfl rfl rfl | exact r_pick hs rfl rfl rfl rfl) | ((with_reducible apply kBuild); first | exact r_build hs rfl tab rfl rfl rfl rfl rfl rfl | exact r_buildA hs rfl tab rfl rfl rfl rfl rfl rfl) | ((with_reducible apply kConv); first | exact r_conv hs rfl rfl tab rfl rfl rfl | exact r_b2s hs rfl rfl tab rfl rfl rfl rfl rfl rfl (by first | exact Fr.rd' hm.fr (by assumption) | exact Mm.rd_row hm (by repeat (first | exact List.Mem.head _ | apply List.Mem.tail)) (by assumption)) (by assumption)) | ((with_reducible apply kFunc); first | exact r_makeFunc hs rfl rfl rfl) | ((with_reducible apply kExt); first | exact r_extract hs rfl rfl rfl) | ((with_reducible apply kNil); first | exact r_nilCheck hs rfl rfl | exact r_nilCheckF hs rfl rfl rfl) | ((with_reducible apply kFld); first | exact r_field hs rfl rfl tab rfl rfl rfl rfl rfl rfl) | ((with_reducible apply kSlice); first | exact r_sliceArr hs rfl rfl tab rfl rfl rfl | exact r_sliceArrTo hs rfl rfl rfl tab rfl rfl rfl (by omega) (by omega) | exact r_sliceTo hs rfl rfl rfl tab rfl rfl rfl (by omega) (by omega) | exact r_sliceFrom hs rfl rfl rfl tab rfl rfl rfl (by omega) (by omega)))) ?_; clear hs a; intro a hs)
            | (refine dv hs (by first | exact Wnt.none rfl | exact Wnt.some rfl rfl rfl rfl) rfl rfl (by first | exact d_buildSlice0 rfl tab rfl rfl rfl hm | exact d_alloc rfl tab rfl rfl hm | exact d_box hs rfl rfl rfl hm | exact d_buildSlice hs rfl tab rfl rfl rfl rfl rfl rfl rfl rfl rfl hm | exact d_makeSlice hs rfl rfl rfl tab rfl rfl rfl rfl rfl (by omega) rfl hm) ?_; clear hs hm a; rintro _ w ⟨g, rfl, -, hm⟩ a hs)
            | (refine stn hs rfl rfl (by first | exact d_store hs rfl rfl rfl tab rfl rfl rfl rfl hm (by repeat (first | exact Rep.head _ _ _ | apply Rep.tail)) (by rfl) | exact d_store1 hs rfl rfl rfl tab rfl rfl rfl rfl hm (by repeat (first | exact Rep.head _ _ _ | apply Rep.tail)) (by first | omega | assumption | (simp; omega))) ?_; clear hs hm a; rintro - w hm a hs)
            | (refine sno hs rfl rfl rfl rfl rfl rfl rfl ?_; clear hs a; intro a hs)
            | (refine snu hs rfl rfl rfl rfl rfl rfl ?_; clear hs a; intro a hs)
            | (refine dv hs (by first | exact Wnt.none rfl | exact Wnt.some rfl rfl rfl rfl) rfl rfl (d_call hs rfl rfl rfl (pl 13 rfl) (c1 _ hm.fr)) ?_; clear hs a; rintro _ w ⟨rfl, hf⟩ a hs; replace hm := hm.pu hf; clear hf)
            | (refine dv hs (by first | exact Wnt.none rfl | exact Wnt.some rfl rfl rfl rfl) rfl rfl (d_call hs rfl rfl rfl (pl 7 rfl) (awake_c _)) ?_; clear hs a; rintro _ w ⟨rfl, hf⟩ a hs; replace hm := hm.pu hf; clear hf)
            ))
        | ((with_reducible apply qCons); (first
            | (refine qw hs (by first | exact Wnt.none rfl | exact Wnt.some rfl rfl rfl rfl) rfl rfl (by intro w hm; (first | ((with_reducible apply kMove); first | exact r_move hs rfl rfl) | ((with_reducible apply kAssign); first | exact r_assign hs rfl rfl) | ((with_reducible apply kLoad); first | exact r_load hs rfl rfl tab rfl rfl (by first | exact hm.cl (by repeat (first | exact List.Mem.head _ | apply List.Mem.tail)) (by first | rfl | assumption) | exact Ro.cl (by assumption) hm (by first | exact (fun t => t) | assumption) (by first | rfl | assumption)) | exact r_loadO hs rfl rfl tab rfl rfl rfl hm (by repeat (first | exact List.Mem.head _ | apply List.Mem.tail)) (by rfl) | exact r_loadA hs rfl rfl tab rfl rfl (Ro.ro (by assumption) hm (by first | exact (fun t => t) | assumption)) rfl) | ((with_reducible apply kField); first | exact r_fieldAddr hs rfl rfl tab rfl rfl rfl rfl rfl) | ((with_reducible apply kIx); first | exact r_ix01 hs rfl rfl rfl tab rfl rfl rfl rfl (by omega) | exact r_ix0 hs rfl rfl rfl tab rfl rfl rfl (by omega) | exact r_ix1 hs rfl rfl rfl tab rfl rfl rfl rfl (by omega) | exact r_ix hs rfl rfl rfl tab rfl rfl rfl (by omega) | exact r_ixa1 hs rfl rfl rfl tab rfl rfl rfl rfl (by omega) | exact r_ixa hs rfl rfl rfl tab rfl rfl rfl (by omega) | exact r_ix01l hs rfl rfl rfl rfl tab rfl rfl rfl rfl (by omega) | exact r_ix0l hs rfl rfl rfl rfl tab rfl rfl rfl (by omega) | exact r_ix1l hs rfl rfl rfl rfl tab rfl rfl rfl rfl (by omega) | exact r_ixl hs rfl rfl rfl rfl tab rfl rfl rfl (by omega) | exact r_ixa1l hs rfl rfl rfl rfl tab rfl rfl rfl rfl (by omega) | exact r_ixal hs rfl rfl rfl rfl tab rfl rfl rfl (by omega)) | ((with_reducible apply kBin); first | exact r_T (r_lss hs rfl rfl rfl) (by omega) | exact r_F (r_lss hs rfl rfl rfl) (by omega) | exact r_T (r_eql hs rfl rfl rfl) (by omega) | exact r_F (r_eql hs rfl rfl rfl) (by omega) | exact r_T (r_leq hs rfl rfl rfl) (by omega) | exact r_F (r_leq hs rfl rfl rfl) (by omega) | exact r_T (r_gtr hs rfl rfl rfl) (by omega) | exact r_F (r_gtr hs rfl rfl rfl) (by omega) | exact r_T (r_geq hs rfl rfl rfl) (by omega) | exact r_F (r_geq hs rfl rfl rfl) (by omega) | exact r_nT (r_neq hs rfl rfl rfl) (by omega) | exact r_nF (r_neq hs rfl rfl rfl) (by omega) | exact r_lss hs rfl rfl rfl | exact r_add64 hs rfl rfl rfl (by omega) | exact r_sub64 hs rfl rfl rfl (by omega) | exact r_eql hs rfl rfl rfl | exact r_neq hs rfl rfl rfl | exact r_leq hs rfl rfl rfl | exact r_gtr hs rfl rfl rfl | exact r_geq hs rfl rfl rfl | exact r_eqlB hs rfl rfl rfl tab rfl rfl | exact r_neqB hs rfl rfl rfl tab rfl rfl | exact r_mul64 hs rfl rfl rfl (by omega) | exact r_quo64 hs rfl rfl rfl (by omega) (by omega) | exact r_rem64 hs rfl rfl rfl (by omega) (by omega) | exact r_seql hs rfl rfl rfl | exact r_sneq hs rfl rfl rfl | exact r_eqnil hs rfl rfl rfl tab rfl rfl | exact r_neqnil hs rfl rfl rfl tab rfl rfl | exact r_and hs rfl rfl rfl | exact r_or hs rfl rfl rfl | exact r_xor hs rfl rfl rfl | exact r_add hs rfl rfl rfl | exact r_sub hs rfl rfl rfl | exact r_mul hs rfl rfl rfl) | ((with_reducible apply kUn); first | exact r_not hs rfl rfl | exact r_neg64 hs rfl rfl (by omega)) | ((with_reducible apply kCall); first | exact r_len hs rfl rfl rfl tab rfl rfl | exact r_slen hs rfl rfl rfl tab rfl rfl | exact r_min hs rfl rfl rfl | exact r_max hs rfl rfl rfl) | ((with_reducible apply kPick); first | exact r_pickT hs rfl rfl rfl | exact r_pickF hs rfl rfl rfl | exact r_pick hs rfl rfl rfl rfl) | ((with_reducible apply kBuild); first | exact r_build hs rfl tab rfl rfl rfl rfl rfl rfl | exact r_buildA hs rfl tab rfl rfl rfl rfl rfl rfl) | ((with_reducible apply kConv); first | exact r_conv hs rfl rfl tab rfl rfl rfl | exact r_b2s hs rfl rfl tab rfl rfl rfl rfl rfl rfl (by first | exact Fr.rd' hm.fr (by assumption) | exact Mm.rd_row hm (by repeat (first | exact List.Mem.head _ | apply List.Mem.tail)) (by assumption)) (by assumption)) | ((with_reducible apply kFunc); first | exact r_makeFunc hs rfl rfl rfl) | ((with_reducible apply kExt); first | exact r_extract hs rfl rfl rfl) | ((with_reducible apply kNil); first | exact r_nilCheck hs rfl rfl | exact r_nilCheckF hs rfl rfl rfl) | ((with_reducible apply kFld); first | exact r_field hs rfl rfl tab rfl rfl rfl rfl rfl rfl) | ((with_reducible apply kSlice); first | exact r_sliceArr hs rfl rfl tab rfl rfl rfl | exact r_sliceArrTo hs rfl rfl rfl tab rfl rfl rfl (by omega) (by omega) | exact r_sliceTo hs rfl rfl rfl tab rfl rfl rfl (by omega) (by omega) | exact r_sliceFrom hs rfl rfl rfl tab rfl rfl rfl (by omega) (by omega)))) ?_; clear hs a; intro a hs)
            | (refine qno hs rfl rfl rfl rfl rfl rfl rfl ?_; clear hs a; intro a hs)
            | (refine qnu hs rfl rfl rfl rfl rfl rfl ?_; clear hs a; intro a hs)
            | (refine qwcall hs (by first | exact Wnt.none rfl | exact Wnt.some rfl rfl rfl rfl) rfl rfl rfl rfl rfl (pl 13 rfl) (by intro w hm; exact Ret.mono (c1 _ hm.fr) (fun _ _ ⟨h1, h2⟩ => ⟨h1, hm.pu h2⟩)) ?_; clear hs a; intro a hs)
            | (refine qwcall hs (by first | exact Wnt.none rfl | exact Wnt.some rfl rfl rfl rfl) rfl rfl rfl rfl rfl (pl 7 rfl) (by intro w hm; exact Ret.mono (awake_c _) (fun _ _ ⟨h1, h2⟩ => ⟨h1, hm.pu h2⟩)) ?_; clear hs a; intro a hs)
            ))
        | ((with_reducible apply qNil); clear hm; intro w hm)
        | ((with_reducible refine cQuiet hm ?_ ?_ ?_ ?_); rfl; kernel_rfl; kernel_rfl)
        | (with_reducible apply lNilThen)
        | (with_reducible apply lNilBlock)
        | (with_reducible apply lNil)
        | (with_reducible apply wp_seq)
        | (with_reducible apply wp_region_lit)
        | (with_reducible apply wp_block)
        | (with_reducible apply cExit)
        | (with_reducible apply cRet)
        | (with_reducible apply cSkip)
        | (with_reducible apply gThen)
        | (with_reducible apply gBlock)
        | (with_reducible apply eThen)
        | (with_reducible apply eBlockHit)
        | (with_reducible refine eBlock rfl ?_)
        | (with_reducible apply rThen)
        | (with_reducible apply rBlock)
        | ((with_reducible apply cCond); (first | refine cTrue hs rfl (by first | rfl | assumption | exact decide_eq_true (by omega) | exact decide_eq_false (by omega) | exact ndT (by omega) | exact ndF (by omega)) ?_ | refine cFalse hs rfl (by first | rfl | assumption | exact decide_eq_true (by omega) | exact decide_eq_false (by omega) | exact ndT (by omega) | exact ndF (by omega)) ?_))
        )
      exact gRet1 hs rfl rfl ⟨rfl, hF.pu hm.fr⟩
    | cons z zs =>
      have : 0 < m := by rw [← hy1]; simp
      rw [firstF_more, Nat.zero_add, hx1] at c1
      repeat (first
        | ((with_reducible apply lCons); (first
            | (refine wv hs (by first | exact Wnt.none rfl | exact Wnt.some rfl rfl rfl rfl) rfl rfl (by (first | ((with_reducible apply kMove); first | exact r_move hs rfl rfl) | ((with_reducible apply kAssign); first | exact r_assign hs rfl rfl) | ((with_reducible apply kLoad); first | exact r_load hs rfl rfl tab rfl rfl (by first | exact hm.cl (by repeat (first | exact List.Mem.head _ | apply List.Mem.tail)) (by first | rfl | assumption) | exact Ro.cl (by assumption) hm (by first | exact (fun t => t) | assumption) (by first | rfl | assumption)) | exact r_loadO hs rfl rfl tab rfl rfl rfl hm (by repeat (first | exact List.Mem.head _ | apply List.Mem.tail)) (by rfl) | exact r_loadA hs rfl rfl tab rfl rfl (Ro.ro (by assumption) hm (by first | exact (fun t => t) | assumption)) rfl) | ((with_reducible apply kField); first | exact r_fieldAddr hs rfl rfl tab rfl rfl rfl rfl rfl) | ((with_reducible apply kIx); first | exact r_ix01 hs rfl rfl rfl tab rfl rfl rfl rfl (by omega) | exact r_ix0 hs rfl rfl rfl tab rfl rfl rfl (by omega) | exact r_ix1 hs rfl rfl rfl tab rfl rfl rfl rfl (by omega) | exact r_ix hs rfl rfl rfl tab rfl rfl rfl (by omega) | exact r_ixa1 hs rfl rfl rfl tab rfl rfl rfl rfl (by omega) | exact r_ixa hs rfl rfl rfl tab rfl rfl rfl (by omega) | exact r_ix01l hs rfl rfl rfl rfl tab rfl rfl rfl rfl (by omega) | exact r_ix0l hs rfl rfl rfl rfl tab rfl rfl rfl (by omega) | exact r_ix1l hs rfl rfl rfl rfl tab rfl rfl rfl rfl (by omega) | exact r_ixl hs rfl rfl rfl rfl tab rfl rfl rfl (by omega) | exact r_ixa1l hs rfl rfl rfl rfl tab rfl rfl rfl rfl (by omega) | exact r_ixal hs rfl rfl rfl rfl tab rfl rfl rfl (by omega)) | ((with_reducible apply kBin); first | exact r_T (r_lss hs rfl rfl rfl) (by omega) | exact r_F (r_lss hs rfl rfl rfl) (by omega) | exact r_T (r_eql hs rfl rfl rfl) (by omega) | exact r_F (r_eql hs rfl rfl rfl) (by omega) | exact r_T (r_leq hs rfl rfl rfl) (by omega) | exact r_F (r_leq hs rfl rfl rfl) (by omega) | exact r_T (r_gtr hs rfl rfl rfl) (by omega) | exact r_F (r_gtr hs rfl rfl rfl) (by omega) | exact r_T (r_geq hs rfl rfl rfl) (by omega) | exact r_F (r_geq hs rfl rfl rfl) (by omega) | exact r_nT (r_neq hs rfl rfl rfl) (by omega) | exact r_nF (r_neq hs rfl rfl rfl) (by omega) | exact r_lss hs rfl rfl rfl | exact r_add64 hs rfl rfl rfl (by omega) | exact r_sub64 hs rfl rfl rfl (by omega) | exact r_eql hs rfl rfl rfl | exact r_neq hs rfl rfl rfl | exact r_leq hs rfl rfl rfl | exact r_gtr hs rfl rfl rfl | exact r_geq hs rfl rfl rfl | exact r_eqlB hs rfl rfl rfl tab rfl rfl | exact r_neqB hs rfl rfl rfl tab rfl rfl | exact r_mul64 hs rfl rfl rfl (by omega) | exact r_quo64 hs rfl rfl rfl (by omega) (by omega) | exact r_rem64 hs rfl rfl rfl (by omega) (by omega) | exact r_seql hs rfl rfl rfl | exact r_sneq hs rfl rfl rfl | exact r_eqnil hs rfl rfl rfl tab rfl rfl | exact r_neqnil hs rfl rfl rfl tab rfl rfl | exact r_and hs rfl rfl rfl | exact r_or hs rfl rfl rfl | exact r_xor hs rfl rfl rfl | exact r_add hs rfl rfl rfl | exact r_sub hs rfl rfl rfl | exact r_mul hs rfl rfl rfl) | ((with_reducible apply kUn); first | exact r_not hs rfl rfl | exact r_neg64 hs rfl rfl (by omega)) | ((with_reducible apply kCall); first | exact r_len hs rfl rfl rfl tab rfl rfl | exact r_slen hs rfl rfl rfl tab rfl rfl | exact r_min hs rfl rfl rfl | exact r_max hs rfl rfl rfl) | ((with_reducible apply kPick); first | exact r_pickT hs rfl rfl rfl | exact r_pickF hs rfl rfl rfl | exact r_pick hs rfl rfl rfl rfl) | ((with_reducible apply kBuild); first | exact r_build hs rfl tab rfl rfl rfl rfl rfl rfl | exact r_buildA hs rfl tab rfl rfl rfl rfl rfl rfl) | ((with_reducible apply kConv); first | exact r_conv hs rfl rfl tab rfl rfl rfl | exact r_b2s hs rfl rfl tab rfl rfl rfl rfl rfl rfl (by first | exact Fr.rd' hm.fr (by assumption) | exact Mm.rd_row hm (by repeat (first | exact List.Mem.head _ | apply List.Mem.tail)) (by assumption)) (by assumption)) | ((with_reducible apply kFunc); first | exact r_makeFunc hs rfl rfl rfl) | ((with_reducible apply kExt); first | exact r_extract hs rfl rfl rfl) | ((with_reducible apply kNil); first | exact r_nilCheck hs rfl rfl | exact r_nilCheckF hs rfl rfl rfl) | ((with_reducible apply kFld); first | exact r_field hs rfl rfl tab rfl rfl rfl rfl rfl rfl) | ((with_reducible apply kSlice); first | exact r_sliceArr hs rfl rfl tab rfl rfl rfl | exact r_sliceArrTo hs rfl rfl rfl tab rfl rfl rfl (by omega) (by omega) | exact r_sliceTo hs rfl rfl rfl tab rfl rfl rfl (by omega) (by omega) | exact r_sliceFrom hs rfl rfl rfl tab rfl rfl rfl (by omega) (by omega)))) ?_; clear hs a; intro a hs)
            | (refine dv hs (by first | exact Wnt.none rfl | exact Wnt.some rfl rfl rfl rfl) rfl rfl (by first | exact d_buildSlice0 rfl tab rfl rfl rfl hm | exact d_alloc rfl tab rfl rfl hm | exact d_box hs rfl rfl rfl hm | exact d_buildSlice hs rfl tab rfl rfl rfl rfl rfl rfl rfl rfl rfl hm | exact d_makeSlice hs rfl rfl rfl tab rfl rfl rfl rfl rfl (by omega) rfl hm) ?_; clear hs hm a; rintro _ w ⟨g, rfl, -, hm⟩ a hs)
            | (refine stn hs rfl rfl (by first | exact d_store hs rfl rfl rfl tab rfl rfl rfl rfl hm (by repeat (first | exact Rep.head _ _ _ | apply Rep.tail)) (by rfl) | exact d_store1 hs rfl rfl rfl tab rfl rfl rfl rfl hm (by repeat (first | exact Rep.head _ _ _ | apply Rep.tail)) (by first | omega | assumption | (simp; omega))) ?_; clear hs hm a; rintro - w hm a hs)
            | (refine sno hs rfl rfl rfl rfl rfl rfl rfl ?_; clear hs a; intro a hs)
            | (refine snu hs rfl rfl rfl rfl rfl rfl ?_; clear hs a; intro a hs)
            | (refine dv hs (by first | exact Wnt.none rfl | exact Wnt.some rfl rfl rfl rfl) rfl rfl (d_call hs rfl rfl rfl (pl 13 rfl) (c1 _ hm.fr)) ?_; clear hs a; rintro _ w ⟨rfl, hf⟩ a hs; replace hm := hm.pu hf; clear hf)
            | (refine dv hs (by first | exact Wnt.none rfl | exact Wnt.some rfl rfl rfl rfl) rfl rfl (d_call hs rfl rfl rfl (pl 7 rfl) (awake_c _)) ?_; clear hs a; rintro _ w ⟨rfl, hf⟩ a hs; replace hm := hm.pu hf; clear hf)
            ))
        | ((with_reducible apply qCons); (first
            | (refine qw hs (by first | exact Wnt.none rfl | exact Wnt.some rfl rfl rfl rfl) rfl rfl (by intro w hm; (first | ((with_reducible apply kMove); first | exact r_move hs rfl rfl) | ((with_reducible apply kAssign); first | exact r_assign hs rfl rfl) | ((with_reducible apply kLoad); first | exact r_load hs rfl rfl tab rfl rfl (by first | exact hm.cl (by repeat (first | exact List.Mem.head _ | apply List.Mem.tail)) (by first | rfl | assumption) | exact Ro.cl (by assumption) hm (by first | exact (fun t => t) | assumption) (by first | rfl | assumption)) | exact r_loadO hs rfl rfl tab rfl rfl rfl hm (by repeat (first | exact List.Mem.head _ | apply List.Mem.tail)) (by rfl) | exact r_loadA hs rfl rfl tab rfl rfl (Ro.ro (by assumption) hm (by first | exact (fun t => t) | assumption)) rfl) | ((with_reducible apply kField); first | exact r_fieldAddr hs rfl rfl tab rfl rfl rfl rfl rfl) | ((with_reducible apply kIx); first | exact r_ix01 hs rfl rfl rfl tab rfl rfl rfl rfl (by omega) | exact r_ix0 hs rfl rfl rfl tab rfl rfl rfl (by omega) | exact r_ix1 hs rfl rfl rfl tab rfl rfl rfl rfl (by omega) | exact r_ix hs rfl rfl rfl tab rfl rfl rfl (by omega) | exact r_ixa1 hs rfl rfl rfl tab rfl rfl rfl rfl (by omega) | exact r_ixa hs rfl rfl rfl tab rfl rfl rfl (by omega) | exact r_ix01l hs rfl rfl rfl rfl tab rfl rfl rfl rfl (by omega) | exact r_ix0l hs rfl rfl rfl rfl tab rfl rfl rfl (by omega) | exact r_ix1l hs rfl rfl rfl rfl tab rfl rfl rfl rfl (by omega) | exact r_ixl hs rfl rfl rfl rfl tab rfl rfl rfl (by omega) | exact r_ixa1l hs rfl rfl rfl rfl tab rfl rfl rfl rfl (by omega) | exact r_ixal hs rfl rfl rfl rfl tab rfl rfl rfl (by omega)) | ((with_reducible apply kBin); first | exact r_T (r_lss hs rfl rfl rfl) (by omega) | exact r_F (r_lss hs rfl rfl rfl) (by omega) | exact r_T (r_eql hs rfl rfl rfl) (by omega) | exact r_F (r_eql hs rfl rfl rfl) (by omega) | exact r_T (r_leq hs rfl rfl rfl) (by omega) | exact r_F (r_leq hs rfl rfl rfl) (by omega) | exact r_T (r_gtr hs rfl rfl rfl) (by omega) | exact r_F (r_gtr hs rfl rfl rfl) (by omega) | exact r_T (r_geq hs rfl rfl rfl) (by omega) | exact r_F (r_geq hs rfl rfl rfl) (by omega) | exact r_nT (r_neq hs rfl rfl rfl) (by omega) | exact r_nF (r_neq hs rfl rfl rfl) (by omega) | exact r_lss hs rfl rfl rfl | exact r_add64 hs rfl rfl rfl (by omega) | exact r_sub64 hs rfl rfl rfl (by omega) | exact r_eql hs rfl rfl rfl | exact r_neq hs rfl rfl rfl | exact r_leq hs rfl rfl rfl | exact r_gtr hs rfl rfl rfl | exact r_geq hs rfl rfl rfl | exact r_eqlB hs rfl rfl rfl tab rfl rfl | exact r_neqB hs rfl rfl rfl tab rfl rfl | exact r_mul64 hs rfl rfl rfl (by omega) | exact r_quo64 hs rfl rfl rfl (by omega) (by omega) | exact r_rem64 hs rfl rfl rfl (by omega) (by omega) | exact r_seql hs rfl rfl rfl | exact r_sneq hs rfl rfl rfl | exact r_eqnil hs rfl rfl rfl tab rfl rfl | exact r_neqnil hs rfl rfl rfl tab rfl rfl | exact r_and hs rfl rfl rfl | exact r_or hs rfl rfl rfl | exact r_xor hs rfl rfl rfl | exact r_add hs rfl rfl rfl | exact r_sub hs rfl rfl rfl | exact r_mul hs rfl rfl rfl) | ((with_reducible apply kUn); first | exact r_not hs rfl rfl | exact r_neg64 hs rfl rfl (by omega)) | ((with_reducible apply kCall); first | exact r_len hs rfl rfl rfl tab rfl rfl | exact r_slen hs rfl rfl rfl tab rfl rfl | exact r_min hs rfl rfl rfl | exact r_max hs rfl rfl rfl) | ((with_reducible apply kPick); first | exact r_pickT hs rfl rfl rfl | exact r_pickF hs rfl rfl rfl | exact r_pick hs rfl rfl rfl rfl) | ((with_reducible apply kBuild); first | exact r_build hs rfl tab rfl rfl rfl rfl rfl rfl | exact r_buildA hs rfl tab rfl rfl rfl rfl rfl rfl) | ((with_reducible apply kConv); first | exact r_conv hs rfl rfl tab rfl rfl rfl | exact r_b2s hs rfl rfl tab rfl rfl rfl rfl rfl rfl (by first | exact Fr.rd' hm.fr (by assumption) | exact Mm.rd_row hm (by repeat (first | exact List.Mem.head _ | apply List.Mem.tail)) (by assumption)) (by assumption)) | ((with_reducible apply kFunc); first | exact r_makeFunc hs rfl rfl rfl) | ((with_reducible apply kExt); first | exact r_extract hs rfl rfl rfl) | ((with_reducible apply kNil); first | exact r_nilCheck hs rfl rfl | exact r_nilCheckF hs rfl rfl rfl) | ((with_reducible apply kFld); first | exact r_field hs rfl rfl tab rfl rfl rfl rfl rfl rfl) | ((with_reducible apply kSlice); first | exact r_sliceArr hs rfl rfl tab rfl rfl rfl | exact r_sliceArrTo hs rfl rfl rfl tab rfl rfl rfl (by omega) (by omega) | exact r_sliceTo hs rfl rfl rfl tab rfl rfl rfl (by omega) (by omega) | exact r_sliceFrom hs rfl rfl rfl tab rfl rfl rfl (by omega) (by omega)))) ?_; clear hs a; intro a hs)
            | (refine qno hs rfl rfl rfl rfl rfl rfl rfl ?_; clear hs a; intro a hs)
            | (refine qnu hs rfl rfl rfl rfl rfl rfl ?_; clear hs a; intro a hs)
            | (refine qwcall hs (by first | exact Wnt.none rfl | exact Wnt.some rfl rfl rfl rfl) rfl rfl rfl rfl rfl (pl 13 rfl) (by intro w hm; exact Ret.mono (c1 _ hm.fr) (fun _ _ ⟨h1, h2⟩ => ⟨h1, hm.pu h2⟩)) ?_; clear hs a; intro a hs)
            | (refine qwcall hs (by first | exact Wnt.none rfl | exact Wnt.some rfl rfl rfl rfl) rfl rfl rfl rfl rfl (pl 7 rfl) (by intro w hm; exact Ret.mono (awake_c _) (fun _ _ ⟨h1, h2⟩ => ⟨h1, hm.pu h2⟩)) ?_; clear hs a; intro a hs)
            ))
        | ((with_reducible apply qNil); clear hm; intro w hm)
        | ((with_reducible refine cQuiet hm ?_ ?_ ?_ ?_); rfl; kernel_rfl; kernel_rfl)
        | (with_reducible apply lNilThen)
        | (with_reducible apply lNilBlock)
        | (with_reducible apply lNil)
        | (with_reducible apply wp_seq)
        | (with_reducible apply wp_region_lit)
        | (with_reducible apply wp_block)
        | (with_reducible apply cExit)
        | (with_reducible apply cRet)
        | (with_reducible apply cSkip)
        | (with_reducible apply gThen)
        | (with_reducible apply gBlock)
        | (with_reducible apply eThen)
        | (with_reducible apply eBlockHit)
        | (with_reducible refine eBlock rfl ?_)
        | (with_reducible apply rThen)
        | (with_reducible apply rBlock)
        | ((with_reducible apply cCond); (first | refine cTrue hs rfl (by first | rfl | assumption | exact decide_eq_true (by omega) | exact decide_eq_false (by omega) | exact ndT (by omega) | exact ndF (by omega)) ?_ | refine cFalse hs rfl (by first | rfl | assumption | exact decide_eq_true (by omega) | exact decide_eq_false (by omega) | exact ndT (by omega) | exact ndF (by omega)) ?_))
        )
      exact gRet1 hs rfl rfl ⟨rfl, hF.pu hm.fr⟩
theorem walk_CompareFirst (x : BS) (at_ b : Int) (y : BS) (w : World) (hx : x.ok w ∧ x.n ≤ 140737488351232 ∧ x.n ≤ x.c) (h1 : (Lit.int .i64 at_).wf = true) (h2 : (Lit.int .u8 b).wf = true) (hy : y.ok w ∧ y.n ≤ 140737488351232 ∧ y.n ≤ y.c) : Calls Try.prog 5 #[x.v, .int .i64 at_, .int .u8 b, y.v] w (fun e w' => e = .returned (.bool true) ∧ Pu w w') :=
  (fst_c x y at_ b w hx.1 hx.2.2 hy.1 (by simp [Lit.wf] at h1; exact h1) (u8_in h2) hx.2.1 hy.2.1).law
end Go.Proofs.Ytkbohmocpogdnaa
