/- Drop: the look-up of the first one that must go. -/
import Derived.Test.YtfcmejcmijjnpaaLk8
namespace Go.Proofs.Ytfcmejcmijjnpaa
open Go.RowKit


/-- Drop's function: is it this thread -/
theorem dcl_c (v t : Int) (g : Nat) (wB : World) (hg : Ro wB g 0 [.int .i64 t]) : Ret Try.prog 27 [.int .i64 v, .pointer (some ⟨g, 0, none⟩)] wB (fun u w' => u = .bool (decide (v = t)) ∧ Pu wB w') := by
  refine enterR Try.func27 rfl rfl rfl fun a hs hm => ?_
  by_cases h : v = t
  · repeat (first | ((with_reducible refine toL hm ?_); (first | refine oneV hs gw_ rfl rfl (by intro w hm; exact kvR_) ?_ | refine oneN hs rfl rfl rfl rfl rfl rfl rfl ?_ | refine oneU hs rfl rfl rfl rfl rfl rfl ?_); clear hs a; intro a hs) | ((with_reducible apply lCons); first | (refine dv hs gw_ rfl rfl da_ ?_; clear hs hm a; rintro _ w ⟨g, rfl, -, hm⟩ a hs) | (refine stn hs rfl rfl ds_ ?_; clear hs hm a; rintro - w hm a hs) ) | (with_reducible first | apply lNilThen | apply lNilBlock | apply lNil | apply wp_seq | apply wp_region_lit | apply wp_block | apply cExit | apply cRet | apply cSkip | apply gThen | apply gBlock | apply eThen | apply eBlockHit | refine eBlock rfl ?_ | apply rThen | apply rBlock) | ((with_reducible apply cCond); first | refine cTrue hs rfl bd_ ?_ | refine cFalse hs rfl bd_ ?_))
    exact gRet1 hs rfl rfl ⟨by rw [decide_eq_true h], hm.fr⟩
  · repeat (first | ((with_reducible refine toL hm ?_); (first | refine oneV hs gw_ rfl rfl (by intro w hm; exact kvR_) ?_ | refine oneN hs rfl rfl rfl rfl rfl rfl rfl ?_ | refine oneU hs rfl rfl rfl rfl rfl rfl ?_); clear hs a; intro a hs) | ((with_reducible apply lCons); first | (refine dv hs gw_ rfl rfl da_ ?_; clear hs hm a; rintro _ w ⟨g, rfl, -, hm⟩ a hs) | (refine stn hs rfl rfl ds_ ?_; clear hs hm a; rintro - w hm a hs) ) | (with_reducible first | apply lNilThen | apply lNilBlock | apply lNil | apply wp_seq | apply wp_region_lit | apply wp_block | apply cExit | apply cRet | apply cSkip | apply gThen | apply gBlock | apply eThen | apply eBlockHit | refine eBlock rfl ?_ | apply rThen | apply rBlock) | ((with_reducible apply cCond); first | refine cTrue hs rfl bd_ ?_ | refine cFalse hs rfl bd_ ?_))
    exact gRet1 hs rfl rfl ⟨by rw [decide_eq_false h], hm.fr⟩
/-- the first one that must go, or -1 -/
def IxD (xs : List Int) (t : Int) (u : Value) : Prop := (u = .int .i64 (-1) ∧ ∀ j (hj : j < xs.length), xs[j] ≠ t) ∨ ∃ k : Nat, u = .int .i64 (k : Int) ∧ (∃ hk : k < xs.length, xs[k] = t) ∧ ∀ j (hj : j < xs.length), j < k → xs[j] ≠ t
set_option maxHeartbeats 1000000 in
theorem ixd_c (q : IS) (t : Int) (g : Nat) (wB : World) (hq : q.ok wB) (hn : q.n ≤ 1000) (hg : Ro wB g 0 [.int .i64 t]) : Ret Try.prog 34 [.slice q.A q.n q.c, .func (.func 27) #[] #[.pointer (some ⟨g, 0, none⟩)]] wB (fun u w' => IxD q.xs t u ∧ Pu wB w') := by
  have hx := hq.1
  refine enterR Try.func34 rfl rfl rfl fun a hs hm => ?_
  repeat (first | ((with_reducible refine toL hm ?_); (first | refine oneV hs gw_ rfl rfl (by intro w hm; exact kvR_) ?_ | refine oneN hs rfl rfl rfl rfl rfl rfl rfl ?_ | refine oneU hs rfl rfl rfl rfl rfl rfl ?_); clear hs a; intro a hs) | ((with_reducible apply lCons); first | (refine dv hs gw_ rfl rfl da_ ?_; clear hs hm a; rintro _ w ⟨g, rfl, -, hm⟩ a hs) | (refine stn hs rfl rfl ds_ ?_; clear hs hm a; rintro - w hm a hs) ) | (with_reducible first | apply lNilThen | apply lNilBlock | apply lNil | apply wp_seq | apply wp_region_lit | apply wp_block | apply cExit | apply cRet | apply cSkip | apply gThen | apply gBlock | apply eThen | apply eBlockHit | refine eBlock rfl ?_ | apply rThen | apply rBlock) | ((with_reducible apply cCond); first | refine cTrue hs rfl bd_ ?_ | refine cFalse hs rfl bd_ ?_))
  refine cLoop (X := Nat) (fun k a w' => Sl Try.f34.ntmps [(0, .slice q.A q.n q.c), (1, .func (.func 27) #[] #[.pointer (some ⟨g, 0, none⟩)]), (7, .int .i64 (q.n : Int)), (8, .int .i64 (k : Int))] a ∧ Mm (fun _ => False) wB [] w' ∧ k ≤ q.n ∧ ∀ j (hj : j < q.xs.length), j < k → q.xs[j] ≠ t) (fun k => q.n - k) 0 ⟨hs.sub (Has.all ⟨rfl, rfl, rfl, rfl, trivial⟩), hm, Nat.zero_le _, fun j _ hj => by omega⟩ ?_
  clear hs hm a
  rintro k a w' ⟨hs, hm, hk, hno⟩
  by_cases hlt : k < q.n
  · obtain ⟨b1, o1, hA, hb1, r1⟩ := hq.2.ro (by rw [ints_len]; omega)
    have e1 := ints_some (xs := q.xs) (k := k) (by omega)
    obtain ⟨v, hv⟩ : ∃ v, q.xs[k] = v := ⟨_, rfl⟩
    rw [hv] at e1
    rw [hA] at hs
    have hc := fun w (hf : Pu wB w) => dcl_c v t g w (fun j v hj => hf.cl (hg j v hj) (fun t => t))
    by_cases h : v = t
    · rw [decide_eq_true h] at hc
      repeat (first | ((with_reducible refine toL hm ?_); (first | refine oneV hs gw_ rfl rfl (by intro w hm; exact kvR_) ?_ | refine oneN hs rfl rfl rfl rfl rfl rfl rfl ?_ | refine oneU hs rfl rfl rfl rfl rfl rfl ?_); clear hs a; intro a hs) | ((with_reducible apply lCons); first | (refine dv hs gw_ rfl rfl da_ ?_; clear hs hm a; rintro _ w ⟨g, rfl, -, hm⟩ a hs) | (refine stn hs rfl rfl ds_ ?_; clear hs hm a; rintro - w hm a hs) | (refine dv hs gw_ rfl rfl (d_callC hs rfl rfl rfl (pl 27 rfl) (hc _ hm.fr)) ?_; clear hs a; rintro _ w ⟨rfl, hf⟩ a hs; replace hm := hm.pu hf; clear hf)) | (with_reducible first | apply lNilThen | apply lNilBlock | apply lNil | apply wp_seq | apply wp_region_lit | apply wp_block | apply cExit | apply cRet | apply cSkip | apply gThen | apply gBlock | apply eThen | apply eBlockHit | refine eBlock rfl ?_ | apply rThen | apply rBlock) | ((with_reducible apply cCond); first | refine cTrue hs rfl bd_ ?_ | refine cFalse hs rfl bd_ ?_))
      exact gRet1 hs rfl rfl ⟨.inr ⟨k, rfl, ⟨by omega, by rw [hv]; exact h⟩, hno⟩, hm.fr⟩
    · rw [decide_eq_false h] at hc
      repeat (first | ((with_reducible refine toL hm ?_); (first | refine oneV hs gw_ rfl rfl (by intro w hm; exact kvR_) ?_ | refine oneN hs rfl rfl rfl rfl rfl rfl rfl ?_ | refine oneU hs rfl rfl rfl rfl rfl rfl ?_); clear hs a; intro a hs) | ((with_reducible apply lCons); first | (refine dv hs gw_ rfl rfl da_ ?_; clear hs hm a; rintro _ w ⟨g, rfl, -, hm⟩ a hs) | (refine stn hs rfl rfl ds_ ?_; clear hs hm a; rintro - w hm a hs) | (refine dv hs gw_ rfl rfl (d_callC hs rfl rfl rfl (pl 27 rfl) (hc _ hm.fr)) ?_; clear hs a; rintro _ w ⟨rfl, hf⟩ a hs; replace hm := hm.pu hf; clear hf)) | (with_reducible first | apply lNilThen | apply lNilBlock | apply lNil | apply wp_seq | apply wp_region_lit | apply wp_block | apply cExit | apply cRet | apply cSkip | apply gThen | apply gBlock | apply eThen | apply eBlockHit | refine eBlock rfl ?_ | apply rThen | apply rBlock) | ((with_reducible apply cCond); first | refine cTrue hs rfl bd_ ?_ | refine cFalse hs rfl bd_ ?_))
      rw [← hA] at hs
      refine ⟨k + 1, by omega, hs.sub (Has.all ⟨rfl, rfl, rfl, rfl, trivial⟩), hm, by omega, fun j hj hjk => ?_⟩
      by_cases e : j = k
      · subst e; rw [hv]; exact h
      · exact hno j hj (by omega)
  · repeat (first | ((with_reducible refine toL hm ?_); (first | refine oneV hs gw_ rfl rfl (by intro w hm; exact kvR_) ?_ | refine oneN hs rfl rfl rfl rfl rfl rfl rfl ?_ | refine oneU hs rfl rfl rfl rfl rfl rfl ?_); clear hs a; intro a hs) | ((with_reducible apply lCons); first | (refine dv hs gw_ rfl rfl da_ ?_; clear hs hm a; rintro _ w ⟨g, rfl, -, hm⟩ a hs) | (refine stn hs rfl rfl ds_ ?_; clear hs hm a; rintro - w hm a hs) ) | (with_reducible first | apply lNilThen | apply lNilBlock | apply lNil | apply wp_seq | apply wp_region_lit | apply wp_block | apply cExit | apply cRet | apply cSkip | apply gThen | apply gBlock | apply eThen | apply eBlockHit | refine eBlock rfl ?_ | apply rThen | apply rBlock) | ((with_reducible apply cCond); first | refine cTrue hs rfl bd_ ?_ | refine cFalse hs rfl bd_ ?_))
    exact gRet1 hs rfl rfl ⟨.inl ⟨rfl, fun j hj => hno j hj (by omega)⟩, hm.fr⟩
end Go.Proofs.Ytfcmejcmijjnpaa
