/- Watches by the engine: bounds, new watches, clones, equal lists, whether a replica answers. -/
import Derived.Test.YtlgimjinaijhlaaTab
import Derived.Test.YtlgimjinaijhlaaEng12
import Derived.Test.YtlgimjinaijhlaaEng15
import Derived.Test.YtlgimjinaijhlaaEng16
import Derived.Test.YtlgimjinaijhlaaEng17
import Derived.Test.YtlgimjinaijhlaaWat3
namespace Go.Proofs.Ytlgimjinaijhlaa
open Go.RowKit


/-- a watch -/
structure Wt where
  most : Int
  m : IS
def Wt.v (x : Wt) : Value := .agg #[.int .i64 x.most, x.m.v]
def Wt.ok (x : Wt) (w : World) : Prop := x.m.ok w
theorem Wt.ok.pu {x : Wt} {w w' : World} (h : x.ok w) (hf : Pu w w') : x.ok w' := IS.ok.pu h hf
def Wt.ab (x : Wt) : Int × List Int := (x.most, x.m.xs)
def limB (n : Nat) (k : Int) : Bool := decide (1 ≤ n ∧ n ≤ 5 ∧ 0 ≤ k ∧ k ≤ 20)
def limF (n k : Int) : Int := if 1 ≤ n ∧ n ≤ 5 ∧ 0 ≤ k ∧ k ≤ 20 then 0 else 3
set_option maxHeartbeats 1000000 in
theorem lim_c (n k : Int) (w : World) : Ret Try.prog 19 [.int .i64 n, .int .i64 k] w (fun u w' => u = .int .i64 (limF n k) ∧ Pu w w') := by
  unfold limF
  by_cases h1 : n < 1
  · rw [if_neg (by omega)]
    refine enterR Try.func19 rfl rfl rfl fun a hs hm => ?_
    repeat (first | ((with_reducible refine toL hm ?_); (first | refine oneV hs gw_ rfl rfl (by intro w hm; exact kvR_) ?_ | refine oneN hs rfl rfl rfl rfl rfl rfl rfl ?_ | refine oneU hs rfl rfl rfl rfl rfl rfl ?_); clear hs a; intro a hs) | ((with_reducible apply lCons); first | (refine dv hs gw_ rfl rfl da_ ?_; clear hs hm a; rintro _ w ⟨g, rfl, -, hm⟩ a hs) | (refine stn hs rfl rfl ds_ ?_; clear hs hm a; rintro - w hm a hs) ) | (with_reducible first | apply lNilThen | apply lNilBlock | apply lNil | apply wp_seq | apply wp_region_lit | apply wp_block | apply cExit | apply cRet | apply cSkip | apply gThen | apply gBlock | apply eThen | apply eBlockHit | refine eBlock rfl ?_ | apply rThen | apply rBlock) | ((with_reducible apply cCond); first | refine cTrue hs rfl bd_ ?_ | refine cFalse hs rfl bd_ ?_))
    exact gRet1 hs rfl rfl ⟨rfl, hm.fr⟩
  by_cases h2 : 5 < n
  · rw [if_neg (by omega)]
    refine enterR Try.func19 rfl rfl rfl fun a hs hm => ?_
    repeat (first | ((with_reducible refine toL hm ?_); (first | refine oneV hs gw_ rfl rfl (by intro w hm; exact kvR_) ?_ | refine oneN hs rfl rfl rfl rfl rfl rfl rfl ?_ | refine oneU hs rfl rfl rfl rfl rfl rfl ?_); clear hs a; intro a hs) | ((with_reducible apply lCons); first | (refine dv hs gw_ rfl rfl da_ ?_; clear hs hm a; rintro _ w ⟨g, rfl, -, hm⟩ a hs) | (refine stn hs rfl rfl ds_ ?_; clear hs hm a; rintro - w hm a hs) ) | (with_reducible first | apply lNilThen | apply lNilBlock | apply lNil | apply wp_seq | apply wp_region_lit | apply wp_block | apply cExit | apply cRet | apply cSkip | apply gThen | apply gBlock | apply eThen | apply eBlockHit | refine eBlock rfl ?_ | apply rThen | apply rBlock) | ((with_reducible apply cCond); first | refine cTrue hs rfl bd_ ?_ | refine cFalse hs rfl bd_ ?_))
    exact gRet1 hs rfl rfl ⟨rfl, hm.fr⟩
  by_cases h3 : k < 0
  · rw [if_neg (by omega)]
    refine enterR Try.func19 rfl rfl rfl fun a hs hm => ?_
    repeat (first | ((with_reducible refine toL hm ?_); (first | refine oneV hs gw_ rfl rfl (by intro w hm; exact kvR_) ?_ | refine oneN hs rfl rfl rfl rfl rfl rfl rfl ?_ | refine oneU hs rfl rfl rfl rfl rfl rfl ?_); clear hs a; intro a hs) | ((with_reducible apply lCons); first | (refine dv hs gw_ rfl rfl da_ ?_; clear hs hm a; rintro _ w ⟨g, rfl, -, hm⟩ a hs) | (refine stn hs rfl rfl ds_ ?_; clear hs hm a; rintro - w hm a hs) ) | (with_reducible first | apply lNilThen | apply lNilBlock | apply lNil | apply wp_seq | apply wp_region_lit | apply wp_block | apply cExit | apply cRet | apply cSkip | apply gThen | apply gBlock | apply eThen | apply eBlockHit | refine eBlock rfl ?_ | apply rThen | apply rBlock) | ((with_reducible apply cCond); first | refine cTrue hs rfl bd_ ?_ | refine cFalse hs rfl bd_ ?_))
    exact gRet1 hs rfl rfl ⟨rfl, hm.fr⟩
  by_cases h4 : 20 < k
  · rw [if_neg (by omega)]
    refine enterR Try.func19 rfl rfl rfl fun a hs hm => ?_
    repeat (first | ((with_reducible refine toL hm ?_); (first | refine oneV hs gw_ rfl rfl (by intro w hm; exact kvR_) ?_ | refine oneN hs rfl rfl rfl rfl rfl rfl rfl ?_ | refine oneU hs rfl rfl rfl rfl rfl rfl ?_); clear hs a; intro a hs) | ((with_reducible apply lCons); first | (refine dv hs gw_ rfl rfl da_ ?_; clear hs hm a; rintro _ w ⟨g, rfl, -, hm⟩ a hs) | (refine stn hs rfl rfl ds_ ?_; clear hs hm a; rintro - w hm a hs) ) | (with_reducible first | apply lNilThen | apply lNilBlock | apply lNil | apply wp_seq | apply wp_region_lit | apply wp_block | apply cExit | apply cRet | apply cSkip | apply gThen | apply gBlock | apply eThen | apply eBlockHit | refine eBlock rfl ?_ | apply rThen | apply rBlock) | ((with_reducible apply cCond); first | refine cTrue hs rfl bd_ ?_ | refine cFalse hs rfl bd_ ?_))
    exact gRet1 hs rfl rfl ⟨rfl, hm.fr⟩
  · rw [if_pos (by omega)]
    refine enterR Try.func19 rfl rfl rfl fun a hs hm => ?_
    repeat (first | ((with_reducible refine toL hm ?_); (first | refine oneV hs gw_ rfl rfl (by intro w hm; exact kvR_) ?_ | refine oneN hs rfl rfl rfl rfl rfl rfl rfl ?_ | refine oneU hs rfl rfl rfl rfl rfl rfl ?_); clear hs a; intro a hs) | ((with_reducible apply lCons); first | (refine dv hs gw_ rfl rfl da_ ?_; clear hs hm a; rintro _ w ⟨g, rfl, -, hm⟩ a hs) | (refine stn hs rfl rfl ds_ ?_; clear hs hm a; rintro - w hm a hs) ) | (with_reducible first | apply lNilThen | apply lNilBlock | apply lNil | apply wp_seq | apply wp_region_lit | apply wp_block | apply cExit | apply cRet | apply cSkip | apply gThen | apply gBlock | apply eThen | apply eBlockHit | refine eBlock rfl ?_ | apply rThen | apply rBlock) | ((with_reducible apply cCond); first | refine cTrue hs rfl bd_ ?_ | refine cFalse hs rfl bd_ ?_))
    exact gRet1 hs rfl rfl ⟨rfl, hm.fr⟩
theorem zrep_ints (n : Nat) : zrep n [.int .i64 0] = ints (List.replicate n 0) := by
  induction n with
  | zero => rfl
  | succ n ih => rw [zrep, ih]; rfl
/-- a new watch -/
def newW (n k : Int) : Int × List Int := if 1 ≤ n ∧ n ≤ 5 ∧ 0 ≤ k ∧ k ≤ 20 then (k, List.replicate n.toNat 0) else (0, [])
def NewWR (n k : Int) (w : World) (u : Value) (w' : World) : Prop := ∃ x : Wt, u = .tuple #[x.v, .int .i64 (limF n k)] ∧ x.ok w' ∧ x.ab = newW n k ∧ Pu w w'
theorem nil_is_ok (w : World) : (IS.mk none 0 0 []).ok w := ⟨rfl, fun h => by cases h⟩
set_option maxHeartbeats 2000000 in
theorem wnew_c (n k : Int) (w : World) : Ret Try.prog 8 [.int .i64 n, .int .i64 k] w (fun u w' => NewWR n k w u w') := by
  have hlim := fun w => lim_c n k w
  by_cases h1 : n < 1
  · have hL : limF n k = 3 := if_neg (by omega)
    have hN : newW n k = (0, []) := if_neg (by omega)
    unfold NewWR
    rw [hL, hN]
    rw [hL] at hlim
    refine enterR Try.func8 rfl rfl rfl fun a hs hm => ?_
    repeat (first | ((with_reducible refine toL hm ?_); (first | refine oneV hs gw_ rfl rfl (by intro w hm; exact kvR_) ?_ | refine oneN hs rfl rfl rfl rfl rfl rfl rfl ?_ | refine oneU hs rfl rfl rfl rfl rfl rfl ?_); clear hs a; intro a hs) | ((with_reducible apply lCons); first | (refine dv hs gw_ rfl rfl (by first | exact da_ | exact d_makeSlice hs rfl rfl rfl tab rfl rfl rfl rfl rfl (by omega) rfl hm) ?_; clear hs hm a; rintro _ w ⟨g, rfl, -, hm⟩ a hs) | (refine stn hs rfl rfl ds_ ?_; clear hs hm a; rintro - w hm a hs) | (refine dv hs gw_ rfl rfl (d_call hs rfl rfl rfl (pl 19 rfl) (hlim _)) ?_; clear hs a; rintro _ w ⟨rfl, hf⟩ a hs; replace hm := hm.pu hf; clear hf)) | (with_reducible first | apply lNilThen | apply lNilBlock | apply lNil | apply wp_seq | apply wp_region_lit | apply wp_block | apply cExit | apply cRet | apply cSkip | apply gThen | apply gBlock | apply eThen | apply eBlockHit | refine eBlock rfl ?_ | apply rThen | apply rBlock) | ((with_reducible apply cCond); first | refine cTrue hs rfl bd_ ?_ | refine cFalse hs rfl bd_ ?_))
    exact gRetN tab hs rfl (.cons (.cells rfl rfl rfl rfl (hm.ro mem_ (cutF_ok (k := 0) (n := 2) rfl))) (.cons (.tmp rfl) .nil)) ⟨⟨0, ⟨none, 0, 0, []⟩⟩, rfl, nil_is_ok _, rfl, hm.fr⟩
  by_cases h2 : 5 < n
  · have hL : limF n k = 3 := if_neg (by omega)
    have hN : newW n k = (0, []) := if_neg (by omega)
    unfold NewWR
    rw [hL, hN]
    rw [hL] at hlim
    refine enterR Try.func8 rfl rfl rfl fun a hs hm => ?_
    repeat (first | ((with_reducible refine toL hm ?_); (first | refine oneV hs gw_ rfl rfl (by intro w hm; exact kvR_) ?_ | refine oneN hs rfl rfl rfl rfl rfl rfl rfl ?_ | refine oneU hs rfl rfl rfl rfl rfl rfl ?_); clear hs a; intro a hs) | ((with_reducible apply lCons); first | (refine dv hs gw_ rfl rfl (by first | exact da_ | exact d_makeSlice hs rfl rfl rfl tab rfl rfl rfl rfl rfl (by omega) rfl hm) ?_; clear hs hm a; rintro _ w ⟨g, rfl, -, hm⟩ a hs) | (refine stn hs rfl rfl ds_ ?_; clear hs hm a; rintro - w hm a hs) | (refine dv hs gw_ rfl rfl (d_call hs rfl rfl rfl (pl 19 rfl) (hlim _)) ?_; clear hs a; rintro _ w ⟨rfl, hf⟩ a hs; replace hm := hm.pu hf; clear hf)) | (with_reducible first | apply lNilThen | apply lNilBlock | apply lNil | apply wp_seq | apply wp_region_lit | apply wp_block | apply cExit | apply cRet | apply cSkip | apply gThen | apply gBlock | apply eThen | apply eBlockHit | refine eBlock rfl ?_ | apply rThen | apply rBlock) | ((with_reducible apply cCond); first | refine cTrue hs rfl bd_ ?_ | refine cFalse hs rfl bd_ ?_))
    exact gRetN tab hs rfl (.cons (.cells rfl rfl rfl rfl (hm.ro mem_ (cutF_ok (k := 0) (n := 2) rfl))) (.cons (.tmp rfl) .nil)) ⟨⟨0, ⟨none, 0, 0, []⟩⟩, rfl, nil_is_ok _, rfl, hm.fr⟩
  by_cases h3 : k < 0
  · have hL : limF n k = 3 := if_neg (by omega)
    have hN : newW n k = (0, []) := if_neg (by omega)
    unfold NewWR
    rw [hL, hN]
    rw [hL] at hlim
    refine enterR Try.func8 rfl rfl rfl fun a hs hm => ?_
    repeat (first | ((with_reducible refine toL hm ?_); (first | refine oneV hs gw_ rfl rfl (by intro w hm; exact kvR_) ?_ | refine oneN hs rfl rfl rfl rfl rfl rfl rfl ?_ | refine oneU hs rfl rfl rfl rfl rfl rfl ?_); clear hs a; intro a hs) | ((with_reducible apply lCons); first | (refine dv hs gw_ rfl rfl (by first | exact da_ | exact d_makeSlice hs rfl rfl rfl tab rfl rfl rfl rfl rfl (by omega) rfl hm) ?_; clear hs hm a; rintro _ w ⟨g, rfl, -, hm⟩ a hs) | (refine stn hs rfl rfl ds_ ?_; clear hs hm a; rintro - w hm a hs) | (refine dv hs gw_ rfl rfl (d_call hs rfl rfl rfl (pl 19 rfl) (hlim _)) ?_; clear hs a; rintro _ w ⟨rfl, hf⟩ a hs; replace hm := hm.pu hf; clear hf)) | (with_reducible first | apply lNilThen | apply lNilBlock | apply lNil | apply wp_seq | apply wp_region_lit | apply wp_block | apply cExit | apply cRet | apply cSkip | apply gThen | apply gBlock | apply eThen | apply eBlockHit | refine eBlock rfl ?_ | apply rThen | apply rBlock) | ((with_reducible apply cCond); first | refine cTrue hs rfl bd_ ?_ | refine cFalse hs rfl bd_ ?_))
    exact gRetN tab hs rfl (.cons (.cells rfl rfl rfl rfl (hm.ro mem_ (cutF_ok (k := 0) (n := 2) rfl))) (.cons (.tmp rfl) .nil)) ⟨⟨0, ⟨none, 0, 0, []⟩⟩, rfl, nil_is_ok _, rfl, hm.fr⟩
  by_cases h4 : 20 < k
  · have hL : limF n k = 3 := if_neg (by omega)
    have hN : newW n k = (0, []) := if_neg (by omega)
    unfold NewWR
    rw [hL, hN]
    rw [hL] at hlim
    refine enterR Try.func8 rfl rfl rfl fun a hs hm => ?_
    repeat (first | ((with_reducible refine toL hm ?_); (first | refine oneV hs gw_ rfl rfl (by intro w hm; exact kvR_) ?_ | refine oneN hs rfl rfl rfl rfl rfl rfl rfl ?_ | refine oneU hs rfl rfl rfl rfl rfl rfl ?_); clear hs a; intro a hs) | ((with_reducible apply lCons); first | (refine dv hs gw_ rfl rfl (by first | exact da_ | exact d_makeSlice hs rfl rfl rfl tab rfl rfl rfl rfl rfl (by omega) rfl hm) ?_; clear hs hm a; rintro _ w ⟨g, rfl, -, hm⟩ a hs) | (refine stn hs rfl rfl ds_ ?_; clear hs hm a; rintro - w hm a hs) | (refine dv hs gw_ rfl rfl (d_call hs rfl rfl rfl (pl 19 rfl) (hlim _)) ?_; clear hs a; rintro _ w ⟨rfl, hf⟩ a hs; replace hm := hm.pu hf; clear hf)) | (with_reducible first | apply lNilThen | apply lNilBlock | apply lNil | apply wp_seq | apply wp_region_lit | apply wp_block | apply cExit | apply cRet | apply cSkip | apply gThen | apply gBlock | apply eThen | apply eBlockHit | refine eBlock rfl ?_ | apply rThen | apply rBlock) | ((with_reducible apply cCond); first | refine cTrue hs rfl bd_ ?_ | refine cFalse hs rfl bd_ ?_))
    exact gRetN tab hs rfl (.cons (.cells rfl rfl rfl rfl (hm.ro mem_ (cutF_ok (k := 0) (n := 2) rfl))) (.cons (.tmp rfl) .nil)) ⟨⟨0, ⟨none, 0, 0, []⟩⟩, rfl, nil_is_ok _, rfl, hm.fr⟩
  · have hL : limF n k = 0 := if_pos (by omega)
    have hN : newW n k = (k, List.replicate n.toNat 0) := if_pos (by omega)
    unfold NewWR
    rw [hL, hN]
    rw [hL] at hlim
    clear hL hN
    obtain ⟨m, rfl⟩ : ∃ m : Nat, n = (m : Int) := ⟨n.toNat, by omega⟩
    refine enterR Try.func8 rfl rfl rfl fun a hs hm => ?_
    repeat (first | ((with_reducible refine toL hm ?_); (first | refine oneV hs gw_ rfl rfl (by intro w hm; exact kvR_) ?_ | refine oneN hs rfl rfl rfl rfl rfl rfl rfl ?_ | refine oneU hs rfl rfl rfl rfl rfl rfl ?_); clear hs a; intro a hs) | ((with_reducible apply lCons); first | (refine dv hs gw_ rfl rfl (by first | exact da_ | exact d_makeSlice hs rfl rfl rfl tab rfl rfl rfl rfl rfl (by omega) rfl hm) ?_; clear hs hm a; rintro _ w ⟨g, rfl, -, hm⟩ a hs) | (refine stn hs rfl rfl ds_ ?_; clear hs hm a; rintro - w hm a hs) | (refine dv hs gw_ rfl rfl (d_call hs rfl rfl rfl (pl 19 rfl) (hlim _)) ?_; clear hs a; rintro _ w ⟨rfl, hf⟩ a hs; replace hm := hm.pu hf; clear hf)) | (with_reducible first | apply lNilThen | apply lNilBlock | apply lNil | apply wp_seq | apply wp_region_lit | apply wp_block | apply cExit | apply cRet | apply cSkip | apply gThen | apply gBlock | apply eThen | apply eBlockHit | refine eBlock rfl ?_ | apply rThen | apply rBlock) | ((with_reducible apply cCond); first | refine cTrue hs rfl bd_ ?_ | refine cFalse hs rfl bd_ ?_))
    refine gRetN tab hs rfl (.cons (.cells rfl rfl rfl rfl (hm.ro (k := 0) (n := 2) (List.mem_cons_of_mem _ (List.mem_cons_self ..)) (cutF_ok rfl))) (.cons (.tmp rfl) .nil)) ⟨⟨k, ⟨some ⟨g, 0, none⟩, m, m, List.replicate m 0⟩⟩, rfl, ⟨List.length_replicate .., ?_⟩, by unfold Wt.ab; simp, hm.fr⟩
    dsimp only
    rw [zrep_ints] at hm
    exact hm.rd mem_ (List.prefix_refl _)
set_option maxHeartbeats 2000000 in
theorem wrnew_c (n k : Int) (w : World) : Ret Try.prog 9 [.int .i64 n, .int .i64 k] w (fun u w' => NewWR n k w u w') := by
  have hlim := fun w => lim_c n k w
  by_cases h1 : n < 1
  · have hL : limF n k = 3 := if_neg (by omega)
    have hN : newW n k = (0, []) := if_neg (by omega)
    unfold NewWR
    rw [hL, hN]
    rw [hL] at hlim
    refine enterR Try.func9 rfl rfl rfl fun a hs hm => ?_
    repeat (first | ((with_reducible refine toL hm ?_); (first | refine oneV hs gw_ rfl rfl (by intro w hm; exact kvR_) ?_ | refine oneN hs rfl rfl rfl rfl rfl rfl rfl ?_ | refine oneU hs rfl rfl rfl rfl rfl rfl ?_); clear hs a; intro a hs) | ((with_reducible apply lCons); first | (refine dv hs gw_ rfl rfl (by first | exact da_ | exact d_makeSlice hs rfl rfl rfl tab rfl rfl rfl rfl rfl (by omega) rfl hm) ?_; clear hs hm a; rintro _ w ⟨g, rfl, -, hm⟩ a hs) | (refine stn hs rfl rfl ds_ ?_; clear hs hm a; rintro - w hm a hs) | (refine dv hs gw_ rfl rfl (d_call hs rfl rfl rfl (pl 19 rfl) (hlim _)) ?_; clear hs a; rintro _ w ⟨rfl, hf⟩ a hs; replace hm := hm.pu hf; clear hf)) | (with_reducible first | apply lNilThen | apply lNilBlock | apply lNil | apply wp_seq | apply wp_region_lit | apply wp_block | apply cExit | apply cRet | apply cSkip | apply gThen | apply gBlock | apply eThen | apply eBlockHit | refine eBlock rfl ?_ | apply rThen | apply rBlock) | ((with_reducible apply cCond); first | refine cTrue hs rfl bd_ ?_ | refine cFalse hs rfl bd_ ?_))
    exact gRetN tab hs rfl (.cons (.cells rfl rfl rfl rfl (hm.ro mem_ (cutF_ok (k := 0) (n := 2) rfl))) (.cons (.tmp rfl) .nil)) ⟨⟨0, ⟨none, 0, 0, []⟩⟩, rfl, nil_is_ok _, rfl, hm.fr⟩
  by_cases h2 : 5 < n
  · have hL : limF n k = 3 := if_neg (by omega)
    have hN : newW n k = (0, []) := if_neg (by omega)
    unfold NewWR
    rw [hL, hN]
    rw [hL] at hlim
    refine enterR Try.func9 rfl rfl rfl fun a hs hm => ?_
    repeat (first | ((with_reducible refine toL hm ?_); (first | refine oneV hs gw_ rfl rfl (by intro w hm; exact kvR_) ?_ | refine oneN hs rfl rfl rfl rfl rfl rfl rfl ?_ | refine oneU hs rfl rfl rfl rfl rfl rfl ?_); clear hs a; intro a hs) | ((with_reducible apply lCons); first | (refine dv hs gw_ rfl rfl (by first | exact da_ | exact d_makeSlice hs rfl rfl rfl tab rfl rfl rfl rfl rfl (by omega) rfl hm) ?_; clear hs hm a; rintro _ w ⟨g, rfl, -, hm⟩ a hs) | (refine stn hs rfl rfl ds_ ?_; clear hs hm a; rintro - w hm a hs) | (refine dv hs gw_ rfl rfl (d_call hs rfl rfl rfl (pl 19 rfl) (hlim _)) ?_; clear hs a; rintro _ w ⟨rfl, hf⟩ a hs; replace hm := hm.pu hf; clear hf)) | (with_reducible first | apply lNilThen | apply lNilBlock | apply lNil | apply wp_seq | apply wp_region_lit | apply wp_block | apply cExit | apply cRet | apply cSkip | apply gThen | apply gBlock | apply eThen | apply eBlockHit | refine eBlock rfl ?_ | apply rThen | apply rBlock) | ((with_reducible apply cCond); first | refine cTrue hs rfl bd_ ?_ | refine cFalse hs rfl bd_ ?_))
    exact gRetN tab hs rfl (.cons (.cells rfl rfl rfl rfl (hm.ro mem_ (cutF_ok (k := 0) (n := 2) rfl))) (.cons (.tmp rfl) .nil)) ⟨⟨0, ⟨none, 0, 0, []⟩⟩, rfl, nil_is_ok _, rfl, hm.fr⟩
  by_cases h3 : k < 0
  · have hL : limF n k = 3 := if_neg (by omega)
    have hN : newW n k = (0, []) := if_neg (by omega)
    unfold NewWR
    rw [hL, hN]
    rw [hL] at hlim
    refine enterR Try.func9 rfl rfl rfl fun a hs hm => ?_
    repeat (first | ((with_reducible refine toL hm ?_); (first | refine oneV hs gw_ rfl rfl (by intro w hm; exact kvR_) ?_ | refine oneN hs rfl rfl rfl rfl rfl rfl rfl ?_ | refine oneU hs rfl rfl rfl rfl rfl rfl ?_); clear hs a; intro a hs) | ((with_reducible apply lCons); first | (refine dv hs gw_ rfl rfl (by first | exact da_ | exact d_makeSlice hs rfl rfl rfl tab rfl rfl rfl rfl rfl (by omega) rfl hm) ?_; clear hs hm a; rintro _ w ⟨g, rfl, -, hm⟩ a hs) | (refine stn hs rfl rfl ds_ ?_; clear hs hm a; rintro - w hm a hs) | (refine dv hs gw_ rfl rfl (d_call hs rfl rfl rfl (pl 19 rfl) (hlim _)) ?_; clear hs a; rintro _ w ⟨rfl, hf⟩ a hs; replace hm := hm.pu hf; clear hf)) | (with_reducible first | apply lNilThen | apply lNilBlock | apply lNil | apply wp_seq | apply wp_region_lit | apply wp_block | apply cExit | apply cRet | apply cSkip | apply gThen | apply gBlock | apply eThen | apply eBlockHit | refine eBlock rfl ?_ | apply rThen | apply rBlock) | ((with_reducible apply cCond); first | refine cTrue hs rfl bd_ ?_ | refine cFalse hs rfl bd_ ?_))
    exact gRetN tab hs rfl (.cons (.cells rfl rfl rfl rfl (hm.ro mem_ (cutF_ok (k := 0) (n := 2) rfl))) (.cons (.tmp rfl) .nil)) ⟨⟨0, ⟨none, 0, 0, []⟩⟩, rfl, nil_is_ok _, rfl, hm.fr⟩
  by_cases h4 : 20 < k
  · have hL : limF n k = 3 := if_neg (by omega)
    have hN : newW n k = (0, []) := if_neg (by omega)
    unfold NewWR
    rw [hL, hN]
    rw [hL] at hlim
    refine enterR Try.func9 rfl rfl rfl fun a hs hm => ?_
    repeat (first | ((with_reducible refine toL hm ?_); (first | refine oneV hs gw_ rfl rfl (by intro w hm; exact kvR_) ?_ | refine oneN hs rfl rfl rfl rfl rfl rfl rfl ?_ | refine oneU hs rfl rfl rfl rfl rfl rfl ?_); clear hs a; intro a hs) | ((with_reducible apply lCons); first | (refine dv hs gw_ rfl rfl (by first | exact da_ | exact d_makeSlice hs rfl rfl rfl tab rfl rfl rfl rfl rfl (by omega) rfl hm) ?_; clear hs hm a; rintro _ w ⟨g, rfl, -, hm⟩ a hs) | (refine stn hs rfl rfl ds_ ?_; clear hs hm a; rintro - w hm a hs) | (refine dv hs gw_ rfl rfl (d_call hs rfl rfl rfl (pl 19 rfl) (hlim _)) ?_; clear hs a; rintro _ w ⟨rfl, hf⟩ a hs; replace hm := hm.pu hf; clear hf)) | (with_reducible first | apply lNilThen | apply lNilBlock | apply lNil | apply wp_seq | apply wp_region_lit | apply wp_block | apply cExit | apply cRet | apply cSkip | apply gThen | apply gBlock | apply eThen | apply eBlockHit | refine eBlock rfl ?_ | apply rThen | apply rBlock) | ((with_reducible apply cCond); first | refine cTrue hs rfl bd_ ?_ | refine cFalse hs rfl bd_ ?_))
    exact gRetN tab hs rfl (.cons (.cells rfl rfl rfl rfl (hm.ro mem_ (cutF_ok (k := 0) (n := 2) rfl))) (.cons (.tmp rfl) .nil)) ⟨⟨0, ⟨none, 0, 0, []⟩⟩, rfl, nil_is_ok _, rfl, hm.fr⟩
  · have hL : limF n k = 0 := if_pos (by omega)
    have hN : newW n k = (k, List.replicate n.toNat 0) := if_pos (by omega)
    unfold NewWR
    rw [hL, hN]
    rw [hL] at hlim
    clear hL hN
    obtain ⟨m, rfl⟩ : ∃ m : Nat, n = (m : Int) := ⟨n.toNat, by omega⟩
    refine enterR Try.func9 rfl rfl rfl fun a hs hm => ?_
    repeat (first | ((with_reducible refine toL hm ?_); (first | refine oneV hs gw_ rfl rfl (by intro w hm; exact kvR_) ?_ | refine oneN hs rfl rfl rfl rfl rfl rfl rfl ?_ | refine oneU hs rfl rfl rfl rfl rfl rfl ?_); clear hs a; intro a hs) | ((with_reducible apply lCons); first | (refine dv hs gw_ rfl rfl (by first | exact da_ | exact d_makeSlice hs rfl rfl rfl tab rfl rfl rfl rfl rfl (by omega) rfl hm) ?_; clear hs hm a; rintro _ w ⟨g, rfl, -, hm⟩ a hs) | (refine stn hs rfl rfl ds_ ?_; clear hs hm a; rintro - w hm a hs) | (refine dv hs gw_ rfl rfl (d_call hs rfl rfl rfl (pl 19 rfl) (hlim _)) ?_; clear hs a; rintro _ w ⟨rfl, hf⟩ a hs; replace hm := hm.pu hf; clear hf)) | (with_reducible first | apply lNilThen | apply lNilBlock | apply lNil | apply wp_seq | apply wp_region_lit | apply wp_block | apply cExit | apply cRet | apply cSkip | apply gThen | apply gBlock | apply eThen | apply eBlockHit | refine eBlock rfl ?_ | apply rThen | apply rBlock) | ((with_reducible apply cCond); first | refine cTrue hs rfl bd_ ?_ | refine cFalse hs rfl bd_ ?_))
    refine gRetN tab hs rfl (.cons (.cells rfl rfl rfl rfl (hm.ro (k := 0) (n := 2) (List.mem_cons_of_mem _ (List.mem_cons_self ..)) (cutF_ok rfl))) (.cons (.tmp rfl) .nil)) ⟨⟨k, ⟨some ⟨g, 0, none⟩, m, m, List.replicate m 0⟩⟩, rfl, ⟨List.length_replicate .., ?_⟩, by unfold Wt.ab; simp, hm.fr⟩
    dsimp only
    rw [zrep_ints] at hm
    exact hm.rd mem_ (List.prefix_refl _)
end Go.Proofs.Ytlgimjinaijhlaa
