/- Equal locks. -/
import Derived.Test.YtfcmejcmijjnpaaLk15
namespace Go.Proofs.Ytfcmejcmijjnpaa
open Go.RowKit

set_option maxHeartbeats 2000000 in
theorem sme_c (x y : KS) (wB : World) (hx : x.ok wB) (hy : y.ok wB) (hxl : x.qs.length = 4) (hyl : y.qs.length = 4) (hsx : x.sm) : Ret Try.prog 17 [x.v, y.v] wB (fun u w' => u = .bool (decide (x.ab.os = y.ab.os ∧ x.ab.qs = y.ab.qs)) ∧ Pu wB w') := by
  have hs1 := fun w'' (hf : Pu wB w'') => sam_c x.o y.o w'' (hx.o.pu hf) (hy.o.pu hf) (by have := hsx.o; omega)
  obtain ⟨b2, o2, hA, hb2, r2⟩ := hx.q.ro (by rw [List.length_map]; omega)
  obtain ⟨b3, o3, hB, hb3, r3⟩ := hy.q.ro (by rw [List.length_map]; omega)
  obtain ⟨xo, xqA, xqc, xqs⟩ := x
  obtain ⟨yo, yqA, yqc, yqs⟩ := y
  dsimp only at hA hB r2 r3 hxl hyl hs1
  subst hA
  subst hB
  unfold KS.v IS.v KS.ab at *
  dsimp only at hs1 ⊢
  rw [hxl, hyl]
  by_cases ho : xo.xs = yo.xs
  · rw [decide_eq_true ho] at hs1
    refine enterR Try.func17 rfl rfl rfl fun a hs hm => ?_
    repeat (first | ((with_reducible refine toL hm ?_); (first | refine oneV hs gw_ rfl rfl (by intro w hm; exact kv_) ?_ | refine oneN hs rfl rfl rfl rfl rfl rfl rfl ?_ | refine oneU hs rfl rfl rfl rfl rfl rfl ?_); clear hs a; intro a hs) | ((with_reducible apply lCons); first | (refine dv hs gw_ rfl rfl da_ ?_; clear hs hm a; rintro _ w ⟨g, rfl, -, hm⟩ a hs) | (refine stn hs rfl rfl ds_ ?_; clear hs hm a; rintro - w hm a hs) | (refine dv hs gw_ rfl rfl (d_call hs rfl rfl rfl (pl 13 rfl) (hs1 _ hm.fr)) ?_; clear hs a; rintro _ w ⟨rfl, hf⟩ a hs; replace hm := hm.pu hf; clear hf)) | (with_reducible first | apply lNilThen | apply lNilBlock | apply lNil | apply wp_seq | apply wp_region_lit | apply wp_block | apply cExit | apply cRet | apply cSkip | apply gThen | apply gBlock | apply eThen | apply eBlockHit | refine eBlock rfl ?_ | apply rThen | apply rBlock) | ((with_reducible apply cCond); first | refine cTrue hs rfl bd_ ?_ | refine cFalse hs rfl bd_ ?_))
    obtain ⟨g2, en_⟩ := hs.pt 2 (by exact rfl); subst en_
    obtain ⟨g3, en_⟩ := hs.pt 3 (by exact rfl); subst en_
    refine cLoop (X := Nat) (fun k a w' => Sl Try.f17.ntmps [(2, .pointer (some ⟨g2, 0, none⟩)), (3, .pointer (some ⟨g3, 0, none⟩)), (23, .int .i64 4), (24, .int .i64 (k : Int))] a ∧ Mm (fun _ => False) wB [⟨some g3, 27, [.slice yo.A yo.n yo.c, .slice (some ⟨b3, o3, none⟩) 4 yqc]⟩, ⟨some g2, 27, [.slice xo.A xo.n xo.c, .slice (some ⟨b2, o2, none⟩) 4 xqc]⟩] w' ∧ k ≤ 4 ∧ ∀ j (h1 : j < xqs.length) (h2 : j < yqs.length), j < k → xqs[j].xs = yqs[j].xs) (fun k => 4 - k) 0 ⟨hs.sub (Has.all ⟨rfl, rfl, rfl, rfl, trivial⟩), hm, Nat.zero_le _, fun j _ _ hj => by omega⟩ ?_
    clear hs hm a
    rintro k a w' ⟨hs, hm, hk, hno⟩
    by_cases hlt : k < 4
    · obtain ⟨p, hp⟩ : ∃ p, p = xqs[k] := ⟨_, rfl⟩
      obtain ⟨q, hq⟩ : ∃ q, q = yqs[k] := ⟨_, rfl⟩
      have hpm : p ∈ xqs := by rw [hp]; exact List.getElem_mem _
      have hqm : q ∈ yqs := by rw [hq]; exact List.getElem_mem _
      have hc1 : (xqs.map IS.v)[k]? = some (.slice p.A p.n p.c) := by rw [List.getElem?_map, List.getElem?_eq_getElem (by omega), hp]; rfl
      have hc2 : (yqs.map IS.v)[k]? = some (.slice q.A q.n q.c) := by rw [List.getElem?_map, List.getElem?_eq_getElem (by omega), hq]; rfl
      have hs2 := fun w'' (hf : Pu wB w'') => sam_c p q w'' ((hx.qs p hpm).pu hf) ((hy.qs q hqm).pu hf) (by have := hsx.qs p hpm; omega)
      by_cases h : p.xs = q.xs
      · rw [decide_eq_true h] at hs2
        repeat (first | ((with_reducible first | refine toL hm ?_ | refine toQ ?_); (first | refine oneV hs gw_ rfl rfl (by intro w hm; exact kv_) ?_ | refine oneN hs rfl rfl rfl rfl rfl rfl rfl ?_ | refine oneU hs rfl rfl rfl rfl rfl rfl ?_); clear hs a; intro a hs) | ((with_reducible apply lCons); first | (refine dv hs gw_ rfl rfl da_ ?_; clear hs hm a; rintro _ w ⟨g, rfl, -, hm⟩ a hs) | (refine stn hs rfl rfl ds_ ?_; clear hs hm a; rintro - w hm a hs) | (refine dv hs gw_ rfl rfl (d_call hs rfl rfl rfl (pl 13 rfl) (hs2 _ hm.fr)) ?_; clear hs a; rintro _ w ⟨rfl, hf⟩ a hs; replace hm := hm.pu hf; clear hf)) | ((with_reducible apply qCons); first | (refine qwcall hs gw_ rfl rfl rfl rfl rfl (pl 13 rfl) (by intro w hm; exact Ret.mono (hs2 _ hm.fr) (fun _ _ ⟨h1, h2⟩ => ⟨h1, hm.pu h2⟩)) ?_; clear hs a; intro a hs)) | ((with_reducible apply qNil); clear hm; intro w hm) | ((with_reducible refine cQuiet hm ?_ ?_ ?_ ?_); rfl; kernel_rfl; kernel_rfl) | (with_reducible first | apply lNilThen | apply lNilBlock | apply lNil | apply wp_seq | apply wp_region_lit | apply wp_block | apply cExit | apply cRet | apply cSkip | apply gThen | apply gBlock | apply eThen | apply eBlockHit | refine eBlock rfl ?_ | apply rThen | apply rBlock) | ((with_reducible apply cCond); first | refine cTrue hs rfl bd_ ?_ | refine cFalse hs rfl bd_ ?_))
        refine ⟨k + 1, by omega, hs.sub (Has.all ⟨rfl, rfl, rfl, rfl, trivial⟩), hm, by omega, fun j h1 h2 hjk => ?_⟩
        by_cases e : j = k
        · subst e; rw [← hp, ← hq]; exact h
        · exact hno j h1 h2 (by omega)
      · rw [decide_eq_false h] at hs2
        rw [decide_eq_false (fun e => h (by
          have h3 := congrArg (fun l => l[k]?) e.2
          simp only [List.getElem?_map, List.getElem?_eq_getElem (show k < xqs.length by omega), List.getElem?_eq_getElem (show k < yqs.length by omega), ← hp, ← hq, Option.map_some, Option.some.injEq] at h3
          exact h3))]
        repeat (first | ((with_reducible first | refine toL hm ?_ | refine toQ ?_); (first | refine oneV hs gw_ rfl rfl (by intro w hm; exact kv_) ?_ | refine oneN hs rfl rfl rfl rfl rfl rfl rfl ?_ | refine oneU hs rfl rfl rfl rfl rfl rfl ?_); clear hs a; intro a hs) | ((with_reducible apply lCons); first | (refine dv hs gw_ rfl rfl da_ ?_; clear hs hm a; rintro _ w ⟨g, rfl, -, hm⟩ a hs) | (refine stn hs rfl rfl ds_ ?_; clear hs hm a; rintro - w hm a hs) | (refine dv hs gw_ rfl rfl (d_call hs rfl rfl rfl (pl 13 rfl) (hs2 _ hm.fr)) ?_; clear hs a; rintro _ w ⟨rfl, hf⟩ a hs; replace hm := hm.pu hf; clear hf)) | ((with_reducible apply qCons); first | (refine qwcall hs gw_ rfl rfl rfl rfl rfl (pl 13 rfl) (by intro w hm; exact Ret.mono (hs2 _ hm.fr) (fun _ _ ⟨h1, h2⟩ => ⟨h1, hm.pu h2⟩)) ?_; clear hs a; intro a hs)) | ((with_reducible apply qNil); clear hm; intro w hm) | ((with_reducible refine cQuiet hm ?_ ?_ ?_ ?_); rfl; kernel_rfl; kernel_rfl) | (with_reducible first | apply lNilThen | apply lNilBlock | apply lNil | apply wp_seq | apply wp_region_lit | apply wp_block | apply cExit | apply cRet | apply cSkip | apply gThen | apply gBlock | apply eThen | apply eBlockHit | refine eBlock rfl ?_ | apply rThen | apply rBlock) | ((with_reducible apply cCond); first | refine cTrue hs rfl bd_ ?_ | refine cFalse hs rfl bd_ ?_))
        exact gRet1 hs rfl rfl ⟨rfl, hm.fr⟩
    · have hqq : xqs.map IS.xs = yqs.map IS.xs := List.ext_getElem (by rw [List.length_map, List.length_map]; omega) fun j h1 h2 => by
        rw [List.getElem_map, List.getElem_map]
        exact hno j (by rwa [List.length_map] at h1) (by rwa [List.length_map] at h2) (by rw [List.length_map] at h1; omega)
      rw [decide_eq_true ⟨ho, hqq⟩]
      repeat (first | ((with_reducible first | refine toL hm ?_ | refine toQ ?_); (first | refine oneV hs gw_ rfl rfl (by intro w hm; exact kv_) ?_ | refine oneN hs rfl rfl rfl rfl rfl rfl rfl ?_ | refine oneU hs rfl rfl rfl rfl rfl rfl ?_); clear hs a; intro a hs) | ((with_reducible apply lCons); first | (refine dv hs gw_ rfl rfl da_ ?_; clear hs hm a; rintro _ w ⟨g, rfl, -, hm⟩ a hs) | (refine stn hs rfl rfl ds_ ?_; clear hs hm a; rintro - w hm a hs) ) | ((with_reducible apply qNil); clear hm; intro w hm) | ((with_reducible refine cQuiet hm ?_ ?_ ?_ ?_); rfl; kernel_rfl; kernel_rfl) | (with_reducible first | apply lNilThen | apply lNilBlock | apply lNil | apply wp_seq | apply wp_region_lit | apply wp_block | apply cExit | apply cRet | apply cSkip | apply gThen | apply gBlock | apply eThen | apply eBlockHit | refine eBlock rfl ?_ | apply rThen | apply rBlock) | ((with_reducible apply cCond); first | refine cTrue hs rfl bd_ ?_ | refine cFalse hs rfl bd_ ?_))
      exact gRet1 hs rfl rfl ⟨rfl, hm.fr⟩
  · rw [decide_eq_false ho] at hs1
    rw [decide_eq_false (fun e => ho e.1)]
    refine enterR Try.func17 rfl rfl rfl fun a hs hm => ?_
    repeat (first | ((with_reducible refine toL hm ?_); (first | refine oneV hs gw_ rfl rfl (by intro w hm; exact kv_) ?_ | refine oneN hs rfl rfl rfl rfl rfl rfl rfl ?_ | refine oneU hs rfl rfl rfl rfl rfl rfl ?_); clear hs a; intro a hs) | ((with_reducible apply lCons); first | (refine dv hs gw_ rfl rfl da_ ?_; clear hs hm a; rintro _ w ⟨g, rfl, -, hm⟩ a hs) | (refine stn hs rfl rfl ds_ ?_; clear hs hm a; rintro - w hm a hs) | (refine dv hs gw_ rfl rfl (d_call hs rfl rfl rfl (pl 13 rfl) (hs1 _ hm.fr)) ?_; clear hs a; rintro _ w ⟨rfl, hf⟩ a hs; replace hm := hm.pu hf; clear hf)) | (with_reducible first | apply lNilThen | apply lNilBlock | apply lNil | apply wp_seq | apply wp_region_lit | apply wp_block | apply cExit | apply cRet | apply cSkip | apply gThen | apply gBlock | apply eThen | apply eBlockHit | refine eBlock rfl ?_ | apply rThen | apply rBlock) | ((with_reducible apply cCond); first | refine cTrue hs rfl bd_ ?_ | refine cFalse hs rfl bd_ ?_))
    exact gRet1 hs rfl rfl ⟨rfl, hm.fr⟩
end Go.Proofs.Ytfcmejcmijjnpaa
