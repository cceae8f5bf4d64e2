/- Check of both. -/
import Derived.Test.YtlgimjinaijhlaaWra
namespace Go.Proofs.Ytlgimjinaijhlaa
open Go.RowKit


/-- the first error of a watch -/
def badB (k : Int) (x : Int) : Bool := decide (x < 0) || decide (k < x)
def wchkF (k : Int) (xs : List Int) : Int := if 1 ≤ xs.length ∧ xs.length ≤ 5 ∧ 0 ≤ k ∧ k ≤ 20 then (if xs.any (badB k) then 1 else 0) else 3
theorem wmin_c (b : IS) (w : World) (hb : b.ok w) (h1 : 1 ≤ b.n) (h5 : b.n ≤ 5) : Ret Try.prog 21 [b.v] w (fun u w' => u = .int .i64 (minTo b.xs (b.n - 1)) ∧ Pu w w') :=
  ⟨Calls.mono (min_c b.A b.n b.c b.xs w hb.1 h1 h5 hb.2) fun _ _ ⟨h, e⟩ => ⟨_, h, rfl, e ▸ Fr.refl _ _⟩⟩
theorem wmax_c (b : IS) (w : World) (hb : b.ok w) (h1 : 1 ≤ b.n) (h5 : b.n ≤ 5) : Ret Try.prog 22 [b.v] w (fun u w' => u = .int .i64 (maxTo b.xs (b.n - 1)) ∧ Pu w w') :=
  ⟨Calls.mono (max_c b.A b.n b.c b.xs w hb.1 h1 h5 hb.2) fun _ _ ⟨h, e⟩ => ⟨_, h, rfl, e ▸ Fr.refl _ _⟩⟩
theorem minTo_lt (xs : List Int) (k : Nat) (b : Int) : minTo xs k < b ↔ ∃ j, j ≤ k ∧ xs.getD j 0 < b := by
  induction k with
  | zero => exact ⟨fun h => ⟨0, Nat.le_refl _, h⟩, fun ⟨j, hj, h⟩ => (by
      obtain rfl : j = 0 := by omega
      exact h)⟩
  | succ k ih =>
    unfold minTo
    split
    · rename_i hc
      refine ⟨fun h => ⟨k + 1, Nat.le_refl _, h⟩, fun ⟨j, hj, h⟩ => ?_⟩
      by_cases e : j = k + 1
      · subst e; exact h
      · have := ih.2 ⟨j, by omega, h⟩; omega
    · rename_i hc
      refine ⟨fun h => ?_, fun ⟨j, hj, h⟩ => ?_⟩
      · obtain ⟨j, hj, h⟩ := ih.1 h; exact ⟨j, by omega, h⟩
      · by_cases e : j = k + 1
        · subst e; omega
        · exact ih.2 ⟨j, by omega, h⟩
theorem lt_maxTo (xs : List Int) (k : Nat) (b : Int) : b < maxTo xs k ↔ ∃ j, j ≤ k ∧ b < xs.getD j 0 := by
  induction k with
  | zero => exact ⟨fun h => ⟨0, Nat.le_refl _, h⟩, fun ⟨j, hj, h⟩ => (by
      obtain rfl : j = 0 := by omega
      exact h)⟩
  | succ k ih =>
    unfold maxTo
    split
    · rename_i hc
      refine ⟨fun h => ⟨k + 1, Nat.le_refl _, h⟩, fun ⟨j, hj, h⟩ => ?_⟩
      by_cases e : j = k + 1
      · subst e; exact h
      · have := ih.2 ⟨j, by omega, h⟩; omega
    · rename_i hc
      refine ⟨fun h => ?_, fun ⟨j, hj, h⟩ => ?_⟩
      · obtain ⟨j, hj, h⟩ := ih.1 h; exact ⟨j, by omega, h⟩
      · by_cases e : j = k + 1
        · subst e; omega
        · exact ih.2 ⟨j, by omega, h⟩
theorem any_bad (k : Int) (xs : List Int) (h : 1 ≤ xs.length) : xs.any (badB k) = true ↔ (minTo xs (xs.length - 1) < 0 ∨ k < maxTo xs (xs.length - 1)) := by
  rw [minTo_lt, lt_maxTo, List.any_eq_true]
  constructor
  · rintro ⟨x, hx, hb⟩
    obtain ⟨j, hj, rfl⟩ := List.getElem_of_mem hx
    have e : xs.getD j 0 = xs[j] := by simp [List.getD, hj]
    unfold badB at hb
    simp only [Bool.or_eq_true, decide_eq_true_eq] at hb
    rcases hb with hb | hb
    · exact .inl ⟨j, by omega, by omega⟩
    · exact .inr ⟨j, by omega, by omega⟩
  · rintro (⟨j, hj, hb⟩ | ⟨j, hj, hb⟩)
    · have hj' : j < xs.length := by omega
      have e : xs.getD j 0 = xs[j] := by simp [List.getD, hj']
      exact ⟨xs[j], List.getElem_mem _, by unfold badB; simp only [Bool.or_eq_true, decide_eq_true_eq]; left; omega⟩
    · have hj' : j < xs.length := by omega
      have e : xs.getD j 0 = xs[j] := by simp [List.getD, hj']
      exact ⟨xs[j], List.getElem_mem _, by unfold badB; simp only [Bool.or_eq_true, decide_eq_true_eq]; right; omega⟩
theorem wchk_lim {k : Int} {xs : List Int} (h : ¬ (1 ≤ xs.length ∧ xs.length ≤ 5 ∧ 0 ≤ k ∧ k ≤ 20)) : wchkF k xs = 3 := if_neg h
theorem wchk_bad {k : Int} {xs : List Int} (h : 1 ≤ xs.length ∧ xs.length ≤ 5 ∧ 0 ≤ k ∧ k ≤ 20) (hb : xs.any (badB k) = true) : wchkF k xs = 1 := by unfold wchkF; rw [if_pos h, if_pos hb]
theorem wchk_ok {k : Int} {xs : List Int} (h : 1 ≤ xs.length ∧ xs.length ≤ 5 ∧ 0 ≤ k ∧ k ≤ 20) (hb : ¬ xs.any (badB k) = true) : wchkF k xs = 0 := by unfold wchkF; rw [if_pos h, if_neg hb]
set_option maxHeartbeats 4000000 in
theorem wchk_c (x : Wt) (w : World) (hx : x.ok w) : Ret Try.prog 14 [x.v] w (fun u w' => u = .int .i64 (wchkF x.most x.m.xs) ∧ Pu w w') := by
  have hlim := fun w => lim_c (x.m.n : Int) x.most w
  have hl : x.m.xs.length = x.m.n := hx.1
  unfold Wt.v
  by_cases h : 1 ≤ x.m.xs.length ∧ x.m.xs.length ≤ 5 ∧ 0 ≤ x.most ∧ x.most ≤ 20
  · rw [show limF (x.m.n : Int) x.most = 0 from if_pos (by omega)] at hlim
    have hmin := fun w'' (hf : Pu w w'') => wmin_c x.m w'' (IS.ok.pu hx hf) (by omega) (by omega)
    have hmax := fun w'' (hf : Pu w w'') => wmax_c x.m w'' (IS.ok.pu hx hf) (by omega) (by omega)
    have hab := any_bad x.most x.m.xs (by omega)
    rw [hl] at hab
    unfold IS.v at *
    generalize minTo x.m.xs (x.m.n - 1) = mn at *
    generalize maxTo x.m.xs (x.m.n - 1) = mxx at *
    by_cases h1 : mn < 0
    · rw [wchk_bad h (hab.2 (.inl h1))]
      clear hab
      refine enterR Try.func14 rfl rfl rfl fun a hs hm => ?_
      repeat (first | ((with_reducible first | refine toL hm ?_ | refine toQ ?_); (first | refine oneV hs gw_ rfl rfl (by intro w hm; exact kvR_) ?_ | refine oneN hs rfl rfl rfl rfl rfl rfl rfl ?_ | refine oneU hs rfl rfl rfl rfl rfl rfl ?_); clear hs a; intro a hs) | ((with_reducible apply lCons); first | (refine dv hs gw_ rfl rfl da_ ?_; clear hs hm a; rintro _ w ⟨g, rfl, -, hm⟩ a hs) | (refine stn hs rfl rfl ds_ ?_; clear hs hm a; rintro - w hm a hs) | (refine dv hs gw_ rfl rfl (d_call hs rfl rfl rfl (pl 19 rfl) (hlim _)) ?_; clear hs a; rintro _ w ⟨rfl, hf⟩ a hs; replace hm := hm.pu hf; clear hf) | (refine dv hs gw_ rfl rfl (d_call hs rfl rfl rfl (pl 21 rfl) (hmin _ hm.fr)) ?_; clear hs a; rintro _ w ⟨rfl, hf⟩ a hs; replace hm := hm.pu hf; clear hf) | (refine dv hs gw_ rfl rfl (d_call hs rfl rfl rfl (pl 22 rfl) (hmax _ hm.fr)) ?_; clear hs a; rintro _ w ⟨rfl, hf⟩ a hs; replace hm := hm.pu hf; clear hf)) | ((with_reducible apply qCons); first | (refine qwcall hs gw_ rfl rfl rfl rfl rfl (pl 19 rfl) (by intro w hm; exact Ret.mono (hlim _) (fun _ _ ⟨h1, h2⟩ => ⟨h1, hm.pu h2⟩)) ?_; clear hs a; intro a hs) | (refine qwcall hs gw_ rfl rfl rfl rfl rfl (pl 21 rfl) (by intro w hm; exact Ret.mono (hmin _ hm.fr) (fun _ _ ⟨h1, h2⟩ => ⟨h1, hm.pu h2⟩)) ?_; clear hs a; intro a hs) | (refine qwcall hs gw_ rfl rfl rfl rfl rfl (pl 22 rfl) (by intro w hm; exact Ret.mono (hmax _ hm.fr) (fun _ _ ⟨h1, h2⟩ => ⟨h1, hm.pu h2⟩)) ?_; clear hs a; intro a hs)) | ((with_reducible apply qNil); clear hm; intro w hm) | ((with_reducible refine cQuiet hm ?_ ?_ ?_ ?_); rfl; kernel_rfl; kernel_rfl) | (with_reducible first | apply lNilThen | apply lNilBlock | apply lNil | apply wp_seq | apply wp_region_lit | apply wp_block | apply cExit | apply cRet | apply cSkip | apply gThen | apply gBlock | apply eThen | apply eBlockHit | refine eBlock rfl ?_ | apply rThen | apply rBlock) | ((with_reducible apply cCond); first | refine cTrue hs rfl bd_ ?_ | refine cFalse hs rfl bd_ ?_))
      exact gRet1 hs rfl rfl ⟨rfl, hm.fr⟩
    by_cases h2 : x.most < mxx
    · rw [wchk_bad h (hab.2 (.inr h2))]
      clear hab
      refine enterR Try.func14 rfl rfl rfl fun a hs hm => ?_
      repeat (first | ((with_reducible first | refine toL hm ?_ | refine toQ ?_); (first | refine oneV hs gw_ rfl rfl (by intro w hm; exact kvR_) ?_ | refine oneN hs rfl rfl rfl rfl rfl rfl rfl ?_ | refine oneU hs rfl rfl rfl rfl rfl rfl ?_); clear hs a; intro a hs) | ((with_reducible apply lCons); first | (refine dv hs gw_ rfl rfl da_ ?_; clear hs hm a; rintro _ w ⟨g, rfl, -, hm⟩ a hs) | (refine stn hs rfl rfl ds_ ?_; clear hs hm a; rintro - w hm a hs) | (refine dv hs gw_ rfl rfl (d_call hs rfl rfl rfl (pl 19 rfl) (hlim _)) ?_; clear hs a; rintro _ w ⟨rfl, hf⟩ a hs; replace hm := hm.pu hf; clear hf) | (refine dv hs gw_ rfl rfl (d_call hs rfl rfl rfl (pl 21 rfl) (hmin _ hm.fr)) ?_; clear hs a; rintro _ w ⟨rfl, hf⟩ a hs; replace hm := hm.pu hf; clear hf) | (refine dv hs gw_ rfl rfl (d_call hs rfl rfl rfl (pl 22 rfl) (hmax _ hm.fr)) ?_; clear hs a; rintro _ w ⟨rfl, hf⟩ a hs; replace hm := hm.pu hf; clear hf)) | ((with_reducible apply qCons); first | (refine qwcall hs gw_ rfl rfl rfl rfl rfl (pl 19 rfl) (by intro w hm; exact Ret.mono (hlim _) (fun _ _ ⟨h1, h2⟩ => ⟨h1, hm.pu h2⟩)) ?_; clear hs a; intro a hs) | (refine qwcall hs gw_ rfl rfl rfl rfl rfl (pl 21 rfl) (by intro w hm; exact Ret.mono (hmin _ hm.fr) (fun _ _ ⟨h1, h2⟩ => ⟨h1, hm.pu h2⟩)) ?_; clear hs a; intro a hs) | (refine qwcall hs gw_ rfl rfl rfl rfl rfl (pl 22 rfl) (by intro w hm; exact Ret.mono (hmax _ hm.fr) (fun _ _ ⟨h1, h2⟩ => ⟨h1, hm.pu h2⟩)) ?_; clear hs a; intro a hs)) | ((with_reducible apply qNil); clear hm; intro w hm) | ((with_reducible refine cQuiet hm ?_ ?_ ?_ ?_); rfl; kernel_rfl; kernel_rfl) | (with_reducible first | apply lNilThen | apply lNilBlock | apply lNil | apply wp_seq | apply wp_region_lit | apply wp_block | apply cExit | apply cRet | apply cSkip | apply gThen | apply gBlock | apply eThen | apply eBlockHit | refine eBlock rfl ?_ | apply rThen | apply rBlock) | ((with_reducible apply cCond); first | refine cTrue hs rfl bd_ ?_ | refine cFalse hs rfl bd_ ?_))
      exact gRet1 hs rfl rfl ⟨rfl, hm.fr⟩
    · rw [wchk_ok h (fun e => by rcases hab.1 e with e | e <;> omega)]
      clear hab
      refine enterR Try.func14 rfl rfl rfl fun a hs hm => ?_
      repeat (first | ((with_reducible first | refine toL hm ?_ | refine toQ ?_); (first | refine oneV hs gw_ rfl rfl (by intro w hm; exact kvR_) ?_ | refine oneN hs rfl rfl rfl rfl rfl rfl rfl ?_ | refine oneU hs rfl rfl rfl rfl rfl rfl ?_); clear hs a; intro a hs) | ((with_reducible apply lCons); first | (refine dv hs gw_ rfl rfl da_ ?_; clear hs hm a; rintro _ w ⟨g, rfl, -, hm⟩ a hs) | (refine stn hs rfl rfl ds_ ?_; clear hs hm a; rintro - w hm a hs) | (refine dv hs gw_ rfl rfl (d_call hs rfl rfl rfl (pl 19 rfl) (hlim _)) ?_; clear hs a; rintro _ w ⟨rfl, hf⟩ a hs; replace hm := hm.pu hf; clear hf) | (refine dv hs gw_ rfl rfl (d_call hs rfl rfl rfl (pl 21 rfl) (hmin _ hm.fr)) ?_; clear hs a; rintro _ w ⟨rfl, hf⟩ a hs; replace hm := hm.pu hf; clear hf) | (refine dv hs gw_ rfl rfl (d_call hs rfl rfl rfl (pl 22 rfl) (hmax _ hm.fr)) ?_; clear hs a; rintro _ w ⟨rfl, hf⟩ a hs; replace hm := hm.pu hf; clear hf)) | ((with_reducible apply qCons); first | (refine qwcall hs gw_ rfl rfl rfl rfl rfl (pl 19 rfl) (by intro w hm; exact Ret.mono (hlim _) (fun _ _ ⟨h1, h2⟩ => ⟨h1, hm.pu h2⟩)) ?_; clear hs a; intro a hs) | (refine qwcall hs gw_ rfl rfl rfl rfl rfl (pl 21 rfl) (by intro w hm; exact Ret.mono (hmin _ hm.fr) (fun _ _ ⟨h1, h2⟩ => ⟨h1, hm.pu h2⟩)) ?_; clear hs a; intro a hs) | (refine qwcall hs gw_ rfl rfl rfl rfl rfl (pl 22 rfl) (by intro w hm; exact Ret.mono (hmax _ hm.fr) (fun _ _ ⟨h1, h2⟩ => ⟨h1, hm.pu h2⟩)) ?_; clear hs a; intro a hs)) | ((with_reducible apply qNil); clear hm; intro w hm) | ((with_reducible refine cQuiet hm ?_ ?_ ?_ ?_); rfl; kernel_rfl; kernel_rfl) | (with_reducible first | apply lNilThen | apply lNilBlock | apply lNil | apply wp_seq | apply wp_region_lit | apply wp_block | apply cExit | apply cRet | apply cSkip | apply gThen | apply gBlock | apply eThen | apply eBlockHit | refine eBlock rfl ?_ | apply rThen | apply rBlock) | ((with_reducible apply cCond); first | refine cTrue hs rfl bd_ ?_ | refine cFalse hs rfl bd_ ?_))
      exact gRet1 hs rfl rfl ⟨rfl, hm.fr⟩
  · rw [wchk_lim h]
    rw [show limF (x.m.n : Int) x.most = 3 from if_neg (by omega)] at hlim
    unfold IS.v at *
    refine enterR Try.func14 rfl rfl rfl fun a hs hm => ?_
    repeat (first | ((with_reducible refine toL hm ?_); (first | refine oneV hs gw_ rfl rfl (by intro w hm; exact kvR_) ?_ | refine oneN hs rfl rfl rfl rfl rfl rfl rfl ?_ | refine oneU hs rfl rfl rfl rfl rfl rfl ?_); clear hs a; intro a hs) | ((with_reducible apply lCons); first | (refine dv hs gw_ rfl rfl da_ ?_; clear hs hm a; rintro _ w ⟨g, rfl, -, hm⟩ a hs) | (refine stn hs rfl rfl ds_ ?_; clear hs hm a; rintro - w hm a hs) | (refine dv hs gw_ rfl rfl (d_call hs rfl rfl rfl (pl 19 rfl) (hlim _)) ?_; clear hs a; rintro _ w ⟨rfl, hf⟩ a hs; replace hm := hm.pu hf; clear hf)) | (with_reducible first | apply lNilThen | apply lNilBlock | apply lNil | apply wp_seq | apply wp_region_lit | apply wp_block | apply cExit | apply cRet | apply cSkip | apply gThen | apply gBlock | apply eThen | apply eBlockHit | refine eBlock rfl ?_ | apply rThen | apply rBlock) | ((with_reducible apply cCond); first | refine cTrue hs rfl bd_ ?_ | refine cFalse hs rfl bd_ ?_))
    exact gRet1 hs rfl rfl ⟨rfl, hm.fr⟩
set_option maxHeartbeats 4000000 in
theorem wrchk_c (x : Wt) (wB : World) (hx : x.ok wB) : Ret Try.prog 15 [x.v] wB (fun u w' => u = .int .i64 (wchkF x.most x.m.xs) ∧ Pu wB w') := by
  obtain ⟨k, ⟨A, n, c, xs⟩⟩ := x
  have hl : xs.length = n := hx.1
  unfold Wt.v IS.v
  dsimp only
  by_cases h1 : (n:Int) < 1
  · rw [wchk_lim (by omega)]
    refine enterR Try.func15 rfl rfl rfl fun a hs hm => ?_
    repeat (first | ((with_reducible refine toL hm ?_); (first | refine oneV hs gw_ rfl rfl (by intro w hm; exact kvR_) ?_ | refine oneN hs rfl rfl rfl rfl rfl rfl rfl ?_ | refine oneU hs rfl rfl rfl rfl rfl rfl ?_); clear hs a; intro a hs) | ((with_reducible apply lCons); first | (refine dv hs gw_ rfl rfl da_ ?_; clear hs hm a; rintro _ w ⟨g, rfl, -, hm⟩ a hs) | (refine stn hs rfl rfl ds_ ?_; clear hs hm a; rintro - w hm a hs) ) | (with_reducible first | apply lNilThen | apply lNilBlock | apply lNil | apply wp_seq | apply wp_region_lit | apply wp_block | apply cExit | apply cRet | apply cSkip | apply gThen | apply gBlock | apply eThen | apply eBlockHit | refine eBlock rfl ?_ | apply rThen | apply rBlock) | ((with_reducible apply cCond); first | refine cTrue hs rfl bd_ ?_ | refine cFalse hs rfl bd_ ?_))
    exact gRet1 hs rfl rfl ⟨rfl, hm.fr⟩
  by_cases h2 : 5 < (n:Int)
  · rw [wchk_lim (by omega)]
    refine enterR Try.func15 rfl rfl rfl fun a hs hm => ?_
    repeat (first | ((with_reducible refine toL hm ?_); (first | refine oneV hs gw_ rfl rfl (by intro w hm; exact kvR_) ?_ | refine oneN hs rfl rfl rfl rfl rfl rfl rfl ?_ | refine oneU hs rfl rfl rfl rfl rfl rfl ?_); clear hs a; intro a hs) | ((with_reducible apply lCons); first | (refine dv hs gw_ rfl rfl da_ ?_; clear hs hm a; rintro _ w ⟨g, rfl, -, hm⟩ a hs) | (refine stn hs rfl rfl ds_ ?_; clear hs hm a; rintro - w hm a hs) ) | (with_reducible first | apply lNilThen | apply lNilBlock | apply lNil | apply wp_seq | apply wp_region_lit | apply wp_block | apply cExit | apply cRet | apply cSkip | apply gThen | apply gBlock | apply eThen | apply eBlockHit | refine eBlock rfl ?_ | apply rThen | apply rBlock) | ((with_reducible apply cCond); first | refine cTrue hs rfl bd_ ?_ | refine cFalse hs rfl bd_ ?_))
    exact gRet1 hs rfl rfl ⟨rfl, hm.fr⟩
  by_cases h3 : k < 0
  · rw [wchk_lim (by omega)]
    refine enterR Try.func15 rfl rfl rfl fun a hs hm => ?_
    repeat (first | ((with_reducible refine toL hm ?_); (first | refine oneV hs gw_ rfl rfl (by intro w hm; exact kvR_) ?_ | refine oneN hs rfl rfl rfl rfl rfl rfl rfl ?_ | refine oneU hs rfl rfl rfl rfl rfl rfl ?_); clear hs a; intro a hs) | ((with_reducible apply lCons); first | (refine dv hs gw_ rfl rfl da_ ?_; clear hs hm a; rintro _ w ⟨g, rfl, -, hm⟩ a hs) | (refine stn hs rfl rfl ds_ ?_; clear hs hm a; rintro - w hm a hs) ) | (with_reducible first | apply lNilThen | apply lNilBlock | apply lNil | apply wp_seq | apply wp_region_lit | apply wp_block | apply cExit | apply cRet | apply cSkip | apply gThen | apply gBlock | apply eThen | apply eBlockHit | refine eBlock rfl ?_ | apply rThen | apply rBlock) | ((with_reducible apply cCond); first | refine cTrue hs rfl bd_ ?_ | refine cFalse hs rfl bd_ ?_))
    exact gRet1 hs rfl rfl ⟨rfl, hm.fr⟩
  by_cases h4 : 20 < k
  · rw [wchk_lim (by omega)]
    refine enterR Try.func15 rfl rfl rfl fun a hs hm => ?_
    repeat (first | ((with_reducible refine toL hm ?_); (first | refine oneV hs gw_ rfl rfl (by intro w hm; exact kvR_) ?_ | refine oneN hs rfl rfl rfl rfl rfl rfl rfl ?_ | refine oneU hs rfl rfl rfl rfl rfl rfl ?_); clear hs a; intro a hs) | ((with_reducible apply lCons); first | (refine dv hs gw_ rfl rfl da_ ?_; clear hs hm a; rintro _ w ⟨g, rfl, -, hm⟩ a hs) | (refine stn hs rfl rfl ds_ ?_; clear hs hm a; rintro - w hm a hs) ) | (with_reducible first | apply lNilThen | apply lNilBlock | apply lNil | apply wp_seq | apply wp_region_lit | apply wp_block | apply cExit | apply cRet | apply cSkip | apply gThen | apply gBlock | apply eThen | apply eBlockHit | refine eBlock rfl ?_ | apply rThen | apply rBlock) | ((with_reducible apply cCond); first | refine cTrue hs rfl bd_ ?_ | refine cFalse hs rfl bd_ ?_))
    exact gRet1 hs rfl rfl ⟨rfl, hm.fr⟩
  have h : 1 ≤ xs.length ∧ xs.length ≤ 5 ∧ 0 ≤ k ∧ k ≤ 20 := by omega
  refine enterR Try.func15 rfl rfl rfl fun a hs hm => ?_
  repeat (first | ((with_reducible refine toL hm ?_); (first | refine oneV hs gw_ rfl rfl (by intro w hm; exact kvR_) ?_ | refine oneN hs rfl rfl rfl rfl rfl rfl rfl ?_ | refine oneU hs rfl rfl rfl rfl rfl rfl ?_); clear hs a; intro a hs) | ((with_reducible apply lCons); first | (refine dv hs gw_ rfl rfl da_ ?_; clear hs hm a; rintro _ w ⟨g, rfl, -, hm⟩ a hs) | (refine stn hs rfl rfl ds_ ?_; clear hs hm a; rintro - w hm a hs) ) | (with_reducible first | apply lNilThen | apply lNilBlock | apply lNil | apply wp_seq | apply wp_region_lit | apply wp_block | apply cExit | apply cRet | apply cSkip | apply gThen | apply gBlock | apply eThen | apply eBlockHit | refine eBlock rfl ?_ | apply rThen | apply rBlock) | ((with_reducible apply cCond); first | refine cTrue hs rfl bd_ ?_ | refine cFalse hs rfl bd_ ?_))
  obtain ⟨g1, en_⟩ := hs.pt 1 (by exact rfl); subst en_
  refine cLoop (X := Nat) (fun j a w' => Sl Try.f15.ntmps [(1, .pointer (some ⟨g1, 0, none⟩)), (2, .int .i64 0), (3, .int .i64 (j : Int))] a ∧ Mm (fun _ => False) wB [⟨some g1, 24, [.int .i64 k, .slice A n c]⟩] w' ∧ j ≤ n ∧ ∀ i (hi : i < xs.length), i < j → badB k xs[i] = false) (fun j => n - j) 0 ⟨hs.sub (Has.all ⟨rfl, rfl, rfl, trivial⟩), hm, Nat.zero_le _, fun j _ hj => by omega⟩ ?_
  clear hs hm a
  rintro j a w' ⟨hs, hm, hj, hno⟩
  by_cases hlt : j < n
  · obtain ⟨b1, o1, rfl, hb1, r1⟩ := hx.2.ro (by rw [ints_len]; dsimp only; omega)
    dsimp only at r1
    have e1 := ints_some (xs := xs) (k := j) (by omega)
    obtain ⟨v, hv⟩ : ∃ v, xs[j] = v := ⟨_, rfl⟩
    rw [hv] at e1
    have hbad : badB k v = true → xs.any (badB k) = true := fun e => List.any_eq_true.2 ⟨xs[j], List.getElem_mem _, by rw [hv]; exact e⟩
    by_cases hv0 : v < 0
    · rw [wchk_bad h (hbad (by unfold badB; simp [hv0]))]
      repeat (first | ((with_reducible first | refine toL hm ?_ | refine toQ ?_); (first | refine oneV hs gw_ rfl rfl (by intro w hm; exact kvR_) ?_ | refine oneN hs rfl rfl rfl rfl rfl rfl rfl ?_ | refine oneU hs rfl rfl rfl rfl rfl rfl ?_); clear hs a; intro a hs) | ((with_reducible apply lCons); first | (refine dv hs gw_ rfl rfl da_ ?_; clear hs hm a; rintro _ w ⟨g, rfl, -, hm⟩ a hs) | (refine stn hs rfl rfl ds_ ?_; clear hs hm a; rintro - w hm a hs) ) | ((with_reducible apply qNil); clear hm; intro w hm) | ((with_reducible refine cQuiet hm ?_ ?_ ?_ ?_); rfl; kernel_rfl; kernel_rfl) | (with_reducible first | apply lNilThen | apply lNilBlock | apply lNil | apply wp_seq | apply wp_region_lit | apply wp_block | apply cExit | apply cRet | apply cSkip | apply gThen | apply gBlock | apply eThen | apply eBlockHit | refine eBlock rfl ?_ | apply rThen | apply rBlock) | ((with_reducible apply cCond); first | refine cTrue hs rfl bd_ ?_ | refine cFalse hs rfl bd_ ?_))
      exact gRet1 hs rfl rfl ⟨rfl, hm.fr⟩
    by_cases hv1 : k < v
    · rw [wchk_bad h (hbad (by unfold badB; simp [hv1]))]
      repeat (first | ((with_reducible first | refine toL hm ?_ | refine toQ ?_); (first | refine oneV hs gw_ rfl rfl (by intro w hm; exact kvR_) ?_ | refine oneN hs rfl rfl rfl rfl rfl rfl rfl ?_ | refine oneU hs rfl rfl rfl rfl rfl rfl ?_); clear hs a; intro a hs) | ((with_reducible apply lCons); first | (refine dv hs gw_ rfl rfl da_ ?_; clear hs hm a; rintro _ w ⟨g, rfl, -, hm⟩ a hs) | (refine stn hs rfl rfl ds_ ?_; clear hs hm a; rintro - w hm a hs) ) | ((with_reducible apply qNil); clear hm; intro w hm) | ((with_reducible refine cQuiet hm ?_ ?_ ?_ ?_); rfl; kernel_rfl; kernel_rfl) | (with_reducible first | apply lNilThen | apply lNilBlock | apply lNil | apply wp_seq | apply wp_region_lit | apply wp_block | apply cExit | apply cRet | apply cSkip | apply gThen | apply gBlock | apply eThen | apply eBlockHit | refine eBlock rfl ?_ | apply rThen | apply rBlock) | ((with_reducible apply cCond); first | refine cTrue hs rfl bd_ ?_ | refine cFalse hs rfl bd_ ?_))
      exact gRet1 hs rfl rfl ⟨rfl, hm.fr⟩
    · repeat (first | ((with_reducible first | refine toL hm ?_ | refine toQ ?_); (first | refine oneV hs gw_ rfl rfl (by intro w hm; exact kvR_) ?_ | refine oneN hs rfl rfl rfl rfl rfl rfl rfl ?_ | refine oneU hs rfl rfl rfl rfl rfl rfl ?_); clear hs a; intro a hs) | ((with_reducible apply lCons); first | (refine dv hs gw_ rfl rfl da_ ?_; clear hs hm a; rintro _ w ⟨g, rfl, -, hm⟩ a hs) | (refine stn hs rfl rfl ds_ ?_; clear hs hm a; rintro - w hm a hs) ) | ((with_reducible apply qNil); clear hm; intro w hm) | ((with_reducible refine cQuiet hm ?_ ?_ ?_ ?_); rfl; kernel_rfl; kernel_rfl) | (with_reducible first | apply lNilThen | apply lNilBlock | apply lNil | apply wp_seq | apply wp_region_lit | apply wp_block | apply cExit | apply cRet | apply cSkip | apply gThen | apply gBlock | apply eThen | apply eBlockHit | refine eBlock rfl ?_ | apply rThen | apply rBlock) | ((with_reducible apply cCond); first | refine cTrue hs rfl bd_ ?_ | refine cFalse hs rfl bd_ ?_))
      refine ⟨j + 1, by omega, hs.sub (Has.all ⟨rfl, rfl, rfl, trivial⟩), hm, by omega, fun i hi hij => ?_⟩
      by_cases e : i = j
      · subst e; rw [hv]; unfold badB; simp; omega
      · exact hno i hi (by omega)
  · rw [wchk_ok h (by
      rw [List.any_eq_true]
      rintro ⟨x, hxm, hb⟩
      obtain ⟨i, hi, rfl⟩ := List.getElem_of_mem hxm
      rw [hno i hi (by omega)] at hb
      cases hb)]
    repeat (first | ((with_reducible refine toL hm ?_); (first | refine oneV hs gw_ rfl rfl (by intro w hm; exact kvR_) ?_ | refine oneN hs rfl rfl rfl rfl rfl rfl rfl ?_ | refine oneU hs rfl rfl rfl rfl rfl rfl ?_); clear hs a; intro a hs) | ((with_reducible apply lCons); first | (refine dv hs gw_ rfl rfl da_ ?_; clear hs hm a; rintro _ w ⟨g, rfl, -, hm⟩ a hs) | (refine stn hs rfl rfl ds_ ?_; clear hs hm a; rintro - w hm a hs) ) | (with_reducible first | apply lNilThen | apply lNilBlock | apply lNil | apply wp_seq | apply wp_region_lit | apply wp_block | apply cExit | apply cRet | apply cSkip | apply gThen | apply gBlock | apply eThen | apply eBlockHit | refine eBlock rfl ?_ | apply rThen | apply rBlock) | ((with_reducible apply cCond); first | refine cTrue hs rfl bd_ ?_ | refine cFalse hs rfl bd_ ?_))
    exact gRet1 hs rfl rfl ⟨rfl, hm.fr⟩
end Go.Proofs.Ytlgimjinaijhlaa
