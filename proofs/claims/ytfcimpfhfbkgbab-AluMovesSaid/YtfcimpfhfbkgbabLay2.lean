/- Layer 9 by the engine: small functions, addresses, moves. -/
import Derived.Test.YtfcimpfhfbkgbabLay
namespace Go.Proofs.Ytfcimpfhfbkgbab
open Go.RowKit

def clV (t v : Int) : Value := .agg #[.int .u8 t, .int .u16 v]

theorem nbr_c (v : Int) (w : World) : Ret Try.prog 32 [.int .u16 v] w (fun u w' => u = clV 0 v ∧ Pu w w') := by
  refine enterR Try.func32 rfl rfl rfl fun a hs hm => ?_
  repeat (first | ((with_reducible refine toL hm ?_); (first | refine oneV hs gw_ rfl rfl (by intro w hm; exact kvR_) ?_ | refine oneN hs rfl rfl rfl rfl rfl rfl rfl ?_ | refine oneU hs rfl rfl rfl rfl rfl rfl ?_); clear hs a; intro a hs) | ((with_reducible apply lCons); first | (refine dv hs gw_ rfl rfl da_ ?_; clear hs hm a; rintro _ w ⟨g, rfl, -, hm⟩ a hs) | (refine stn hs rfl rfl ds_ ?_; clear hs hm a; rintro - w hm a hs) ) | (with_reducible first | apply lNilThen | apply lNilBlock | apply lNil | apply wp_seq | apply wp_region_lit | apply wp_block | apply cExit | apply cRet | apply cSkip | apply gThen | apply gBlock | apply eThen | apply eBlockHit | refine eBlock rfl ?_ | apply rThen | apply rBlock) | ((with_reducible apply cCond); first | refine cTrue hs rfl bd_ ?_ | refine cFalse hs rfl bd_ ?_))
  exact gRetN tab hs rfl (.cons (.cells rfl rfl rfl rfl (hm.ro (k := 0) (n := 2) mem_ (cutF_ok rfl))) .nil) ⟨rfl, hm.fr⟩
theorem tru_c (b : Bool) (w : World) : Ret Try.prog 29 [.bool b] w (fun u w' => u = clV 0 (if b then 1 else 0) ∧ Pu w w') := by
  have h1 := fun w => nbr_c 1 w
  have h0 := fun w => nbr_c 0 w
  unfold clV at *
  cases b
  · refine enterR Try.func29 rfl rfl rfl fun a hs hm => ?_
    repeat (first | ((with_reducible refine toL hm ?_); (first | refine oneV hs gw_ rfl rfl (by intro w hm; exact kvR_) ?_ | refine oneN hs rfl rfl rfl rfl rfl rfl rfl ?_ | refine oneU hs rfl rfl rfl rfl rfl rfl ?_); clear hs a; intro a hs) | ((with_reducible apply lCons); first | (refine dv hs gw_ rfl rfl da_ ?_; clear hs hm a; rintro _ w ⟨g, rfl, -, hm⟩ a hs) | (refine stn hs rfl rfl ds_ ?_; clear hs hm a; rintro - w hm a hs) | (refine dv hs gw_ rfl rfl (d_call hs rfl rfl rfl (pl 32 rfl) (h0 _)) ?_; clear hs a; rintro _ w ⟨rfl, hf⟩ a hs; replace hm := hm.pu hf; clear hf)) | (with_reducible first | apply lNilThen | apply lNilBlock | apply lNil | apply wp_seq | apply wp_region_lit | apply wp_block | apply cExit | apply cRet | apply cSkip | apply gThen | apply gBlock | apply eThen | apply eBlockHit | refine eBlock rfl ?_ | apply rThen | apply rBlock) | ((with_reducible apply cCond); first | refine cTrue hs rfl bd_ ?_ | refine cFalse hs rfl bd_ ?_))
    exact gRetN tab hs rfl (.cons (.cells rfl rfl rfl rfl (hm.ro (k := 0) (n := 2) mem_ (cutF_ok rfl))) .nil) ⟨rfl, hm.fr⟩
  · refine enterR Try.func29 rfl rfl rfl fun a hs hm => ?_
    repeat (first | ((with_reducible refine toL hm ?_); (first | refine oneV hs gw_ rfl rfl (by intro w hm; exact kvR_) ?_ | refine oneN hs rfl rfl rfl rfl rfl rfl rfl ?_ | refine oneU hs rfl rfl rfl rfl rfl rfl ?_); clear hs a; intro a hs) | ((with_reducible apply lCons); first | (refine dv hs gw_ rfl rfl da_ ?_; clear hs hm a; rintro _ w ⟨g, rfl, -, hm⟩ a hs) | (refine stn hs rfl rfl ds_ ?_; clear hs hm a; rintro - w hm a hs) | (refine dv hs gw_ rfl rfl (d_call hs rfl rfl rfl (pl 32 rfl) (h1 _)) ?_; clear hs a; rintro _ w ⟨rfl, hf⟩ a hs; replace hm := hm.pu hf; clear hf)) | (with_reducible first | apply lNilThen | apply lNilBlock | apply lNil | apply wp_seq | apply wp_region_lit | apply wp_block | apply cExit | apply cRet | apply cSkip | apply gThen | apply gBlock | apply eThen | apply eBlockHit | refine eBlock rfl ?_ | apply rThen | apply rBlock) | ((with_reducible apply cCond); first | refine cTrue hs rfl bd_ ?_ | refine cFalse hs rfl bd_ ?_))
    exact gRetN tab hs rfl (.cons (.cells rfl rfl rfl rfl (hm.ro (k := 0) (n := 2) mem_ (cutF_ok rfl))) .nil) ⟨rfl, hm.fr⟩
/-- bases and sizes of a layout, as they lie in memory -/
structure LS where
  A : Option Addr
  n : Nat
  c : Nat
  bs : List Int
  key : Int
  B : Option Addr
  d : Nat
  ss : List Int
def LS.l (x : LS) : Value := .agg #[.slice x.A x.n x.c, .int .u16 x.key]
def LS.s (x : LS) : Value := .slice x.B x.n x.d
structure LS.ok (x : LS) (w : World) : Prop where
  bl : x.bs.length = x.n
  sl : x.ss.length = x.n
  br : Rd w w.heap.size x.A (ints x.bs)
  sr : Rd w w.heap.size x.B (ints x.ss)
  b : ∀ y ∈ x.bs, 0 ≤ y ∧ y ≤ 1000000
  s : ∀ y ∈ x.ss, 1 ≤ y ∧ y ≤ 32
  n : x.n ≤ 4
theorem LS.ok.pu {x : LS} {w w' : World} (h : x.ok w) (hf : Pu w w') : x.ok w' := ⟨h.bl, h.sl, hf.rd' h.br, hf.rd' h.sr, h.b, h.s, h.n⟩
def adrF (x : LS) (r o : Int) : Int × Int := if insF x.ss r o = true then (x.bs.getD r.toNat 0 + o, 0) else (0, 6)
set_option maxHeartbeats 1000000 in
theorem adr_c (x : LS) (r o : Int) (w : World) (hx : x.ok w) :
    Ret Try.prog 20 [x.l, x.s, .agg #[.int .i64 r, .int .i64 o]] w (fun v w' => v = .tuple #[.int .i64 (adrF x r o).1, .int .i64 (adrF x r o).2] ∧ Pu w w') := by
  have hin := fun w'' (hf : Pu w w'') => ins_c x.B x.n x.d x.ss r o w'' hx.sl (hf.rd' hx.sr)
  generalize hR : adrF x r o = R
  unfold adrF at hR
  obtain ⟨A, n, c, bs, key, B, d, ss⟩ := x
  obtain ⟨h1, h2, h3, h4, h5, h6, h7⟩ := hx
  unfold LS.l LS.s
  dsimp only at *
  cases hi : insF ss r o
  · rw [hi] at hin hR
    rw [if_neg (by simp)] at hR
    subst hR
    refine enterR Try.func20 rfl rfl rfl fun a hs hm => ?_
    repeat (first | ((with_reducible refine toL hm ?_); (first | refine oneV hs gw_ rfl rfl (by intro w hm; exact kvR_) ?_ | refine oneN hs rfl rfl rfl rfl rfl rfl rfl ?_ | refine oneU hs rfl rfl rfl rfl rfl rfl ?_); clear hs a; intro a hs) | ((with_reducible apply lCons); first | (refine dv hs gw_ rfl rfl da_ ?_; clear hs hm a; rintro _ w ⟨g, rfl, -, hm⟩ a hs) | (refine stn hs rfl rfl ds_ ?_; clear hs hm a; rintro - w hm a hs) | (refine dv hs gw_ rfl rfl (d_call hs rfl rfl rfl (pl 28 rfl) (hin _ hm.fr)) ?_; clear hs a; rintro _ w ⟨rfl, hf⟩ a hs; replace hm := hm.pu hf; clear hf)) | (with_reducible first | apply lNilThen | apply lNilBlock | apply lNil | apply wp_seq | apply wp_region_lit | apply wp_block | apply cExit | apply cRet | apply cSkip | apply gThen | apply gBlock | apply eThen | apply eBlockHit | refine eBlock rfl ?_ | apply rThen | apply rBlock) | ((with_reducible apply cCond); first | refine cTrue hs rfl bd_ ?_ | refine cFalse hs rfl bd_ ?_))
    exact gRetN tab hs rfl (.cons (.tmp rfl) (.cons (.tmp rfl) .nil)) ⟨rfl, hm.fr⟩
  · obtain ⟨i1, i2, i3, i4⟩ := insF_t.1 hi
    rw [hi] at hin hR
    rw [if_pos (show true = true from rfl)] at hR
    obtain ⟨k, rfl⟩ : ∃ k : Nat, r = (k : Int) := ⟨r.toNat, by omega⟩
    rw [Int.toNat_natCast] at i4 hR
    obtain ⟨b1, o1, rfl, hb1, r1⟩ := h3.ro (by rw [ints_len]; omega)
    have e1 := ints_some (xs := bs) (k := k) (by omega)
    have hg1 := getI (l := bs) (k := k) (by omega)
    have hg2 := getI (l := ss) (k := k) (by omega)
    have hbk := h5 bs[k] (List.getElem_mem (by omega))
    have hsk := h6 ss[k] (List.getElem_mem (by omega))
    rw [hg1] at hR
    rw [hg2] at i4
    generalize bs[k]'(_) = bk at *
    generalize ss[k]'(_) = sk at *
    subst hR
    refine enterR Try.func20 rfl rfl rfl fun a hs hm => ?_
    repeat (first | ((with_reducible first | refine toL hm ?_ | refine toQ ?_); (first | refine oneV hs gw_ rfl rfl (by intro w hm; exact kvR_) ?_ | refine oneN hs rfl rfl rfl rfl rfl rfl rfl ?_ | refine oneU hs rfl rfl rfl rfl rfl rfl ?_); clear hs a; intro a hs) | ((with_reducible apply lCons); first | (refine dv hs gw_ rfl rfl da_ ?_; clear hs hm a; rintro _ w ⟨g, rfl, -, hm⟩ a hs) | (refine stn hs rfl rfl ds_ ?_; clear hs hm a; rintro - w hm a hs) | (refine dv hs gw_ rfl rfl (d_call hs rfl rfl rfl (pl 28 rfl) (hin _ hm.fr)) ?_; clear hs a; rintro _ w ⟨rfl, hf⟩ a hs; replace hm := hm.pu hf; clear hf)) | ((with_reducible apply qCons); first | (refine qwcall hs gw_ rfl rfl rfl rfl rfl (pl 28 rfl) (by intro w hm; exact Ret.mono (hin _ hm.fr) (fun _ _ ⟨h1, h2⟩ => ⟨h1, hm.pu h2⟩)) ?_; clear hs a; intro a hs)) | ((with_reducible apply qNil); clear hm; intro w hm) | ((with_reducible refine cQuiet hm ?_ ?_ ?_ ?_); rfl; kernel_rfl; kernel_rfl) | (with_reducible first | apply lNilThen | apply lNilBlock | apply lNil | apply wp_seq | apply wp_region_lit | apply wp_block | apply cExit | apply cRet | apply cSkip | apply gThen | apply gBlock | apply eThen | apply eBlockHit | refine eBlock rfl ?_ | apply rThen | apply rBlock) | ((with_reducible apply cCond); first | refine cTrue hs rfl bd_ ?_ | refine cFalse hs rfl bd_ ?_))
    exact gRetN tab hs rfl (.cons (.tmp rfl) (.cons (.tmp rfl) .nil)) ⟨rfl, hm.fr⟩
theorem resF_at {bs ss : List Int} {a : Int} {r : Nat} {o : Int} : ∀ {k : Nat}, resF bs ss a k = some (r, o) → r < k ∧ o = a - bs.getD r 0 ∧ 0 ≤ o ∧ o < ss.getD r 0
  | 0, h => by cases h
  | k + 1, h => by
    have h' : (match resF bs ss a k with
      | some p => some p
      | none => if bs.getD k 0 ≤ a ∧ a - bs.getD k 0 < ss.getD k 0 then some (k, a - bs.getD k 0) else none) = some (r, o) := h
    cases hk : resF bs ss a k with
    | some p =>
      rw [hk] at h'
      obtain rfl := Option.some.inj h'
      have := resF_at hk
      exact ⟨by omega, this.2⟩
    | none =>
      rw [hk] at h'
      dsimp only at h'
      split at h'
      · rename_i hc
        obtain ⟨rfl, rfl⟩ := Prod.mk.inj (Option.some.inj h')
        exact ⟨by omega, rfl, by omega, hc.2⟩
      · cases h'
/-- a pointer moved: tag, value, trap -/
def movF (x : LS) (t v k : Int) (back : Bool) : (Int × Int) × Int :=
  if t = 1 then match resF x.bs x.ss v x.n with
    | none => ((0, 0), 4)
    | some (r, o) => if insF x.ss (r : Int) (if back then o + -k else o + k) = true then ((1, IntKind.u16.wrap (x.bs.getD r 0 + (if back then o + -k else o + k))), 0) else ((0, 0), 4)
  else ((0, 0), 3)
end Go.Proofs.Ytfcimpfhfbkgbab
