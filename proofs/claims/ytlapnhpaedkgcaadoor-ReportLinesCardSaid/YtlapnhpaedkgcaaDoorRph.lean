/- ReportLines: the walk. -/
import Derived.Test.YtlapnhpaedkgcaaDoorRpg
namespace Go.Proofs.YtlapnhpaedkgcaaDoor
open Go.RowKit

theorem cnt0 (n : Int) : (numL n).count 10 = 0 := List.count_eq_zero.2 fun h => numL_ne n 10 h rfl
theorem lineL_cnt (x : Ft) : (lineL x).count 10 = 1 := by
  unfold lineL
  simp only [List.count_append, cnt0]
  decide
theorem textL_cnt (l : List Ft) : (textL l).count 10 = l.length := by
  induction l with
  | nil => rfl
  | cons x t ih =>
    show (lineL x ++ textL t).count 10 = _
    rw [List.count_append, lineL_cnt, ih, List.length_cons]; omega
theorem textL_app (a b : List Ft) : textL (a ++ b) = textL a ++ textL b := by unfold textL; rw [List.flatMap_append]
theorem ft_one (l : List Ft) : (l.flatMap ftV).all (·.oneCell') = true := by
  rw [List.all_eq_true]
  intro v hv
  obtain ⟨x, _, hx⟩ := List.mem_flatMap.1 hv
  unfold ftV at hx
  simp only [List.mem_cons, List.not_mem_nil, or_false] at hx
  rcases hx with rfl | rfl | rfl | rfl | rfl | rfl <;> rfl
theorem cnt_step (S : List UInt8) (i : Nat) (c : UInt8) (h : S[i]? = some c) : (S.take (i + 1)).count 10 = (S.take i).count 10 + (if c = 10 then 1 else 0) := by
  obtain ⟨hi, rfl⟩ := List.getElem?_eq_some_iff.1 h
  rw [List.take_succ_eq_append_getElem hi, List.count_append, List.count_singleton]
  simp


set_option maxHeartbeats 16000000 in
theorem rlines_c (x y : FS) (wB : World) (hx : x.ok wB) (hy : y.ok wB) (hxn : x.n ≤ 140737488351232) (hyn : y.n ≤ 140737488351232) (ht : TabW wB) :
    Ret Tryd.prog 4 [x.v, y.v] wB (fun u w' => u = .bool true ∧ Pu wB w') := by
  have haw := fun w'' (hf : Pu wB w'') => rawk_c w'' (ht.pu hf)
  by_cases hbig : 60 < (x.n : Int) + y.n
  · unfold FS.v
    refine enterR Tryd.func4 rfl rfl rfl fun a hs hm => ?_
    repeat (first | ((with_reducible refine toL hm ?_); (first | refine oneV hs gw_ rfl rfl (by intro w hm; (first | exact kvR_ | exact r_sadd hs rfl rfl rfl (by omega))) ?_ | refine oneN hs rfl rfl rfl rfl rfl rfl rfl ?_ | refine oneU hs rfl rfl rfl rfl rfl rfl ?_); clear hs a; intro a hs) | ((with_reducible apply lCons); first | (refine dv hs gw_ rfl rfl da_ ?_; clear hs hm a; rintro _ w ⟨g, rfl, -, hm⟩ a hs) | (refine stn hs rfl rfl ds_ ?_; clear hs hm a; rintro - w hm a hs) | (refine dv hs gw_ rfl rfl (d_call hs rfl rfl rfl (pl 7 rfl) (haw _ hm.fr)) ?_; clear hs a; rintro _ w ⟨rfl, hf⟩ a hs; replace hm := hm.pu hf; clear hf)) | (with_reducible first | apply lNilThen | apply lNilBlock | apply lNil | apply wp_seq | apply wp_region_lit | apply wp_block | apply cExit | apply cRet | apply cSkip | apply gThen | apply gBlock | apply eThen | apply eBlockHit | refine eBlock rfl ?_ | apply rThen | apply rBlock) | ((with_reducible apply cCond); first | refine cTrue hs rfl bd_ ?_ | refine cFalse hs rfl bd_ ?_))
    exact gRet1 hs rfl rfl ⟨rfl, hm.fr⟩
  · have t1 := fun w'' (hf : Pu wB w'') => text_c x w'' (hx.pu hf) (by omega) (ht.pu hf)
    have t2 := fun w'' (hf : Pu wB w'') => text_c y w'' (hy.pu hf) (by omega) (ht.pu hf)
    have t3 := fun w'' (hf : Pu wB w'') (z : FS) (hz : z.ok w'') (hn : z.n ≤ 1000) => text_c z w'' hz hn (ht.pu hf)
    have hs1 := textL_len x.l
    have hs2 := textL_len y.l
    have hc1 := textL_cnt x.l
    have hap := textL_app x.l y.l
    obtain ⟨A, n, c, la⟩ := x
    obtain ⟨B, m, d, lb⟩ := y
    have hl1 : la.length = n := hx.len
    have hl2 : lb.length = m := hy.len
    dsimp only at *
    obtain ⟨S, hS⟩ : ∃ S, textL la = S := ⟨_, rfl⟩
    obtain ⟨U, hU⟩ : ∃ U, textL lb = U := ⟨_, rfl⟩
    rw [hS] at hs1 hc1 hap t1
    rw [hU] at hs2 hap t2
    have hz1 := txv_sz S
    unfold FS.v at *
    dsimp only at *
    refine enterR Tryd.func4 rfl rfl rfl fun a hs hm => ?_
    repeat (first | ((with_reducible refine toL hm ?_); (first | refine oneV hs gw_ rfl rfl (by intro w hm; (first | exact kvR_ | exact r_sadd hs rfl rfl rfl (by omega))) ?_ | refine oneN hs rfl rfl rfl rfl rfl rfl rfl ?_ | refine oneU hs rfl rfl rfl rfl rfl rfl ?_); clear hs a; intro a hs) | ((with_reducible apply lCons); first | (refine dv hs gw_ rfl rfl da_ ?_; clear hs hm a; rintro _ w ⟨g, rfl, -, hm⟩ a hs) | (refine stn hs rfl rfl ds_ ?_; clear hs hm a; rintro - w hm a hs) ) | (with_reducible first | apply lNilThen | apply lNilBlock | apply lNil | apply wp_seq | apply wp_region_lit | apply wp_block | apply cExit | apply cRet | apply cSkip | apply gThen | apply gBlock | apply eThen | apply eBlockHit | refine eBlock rfl ?_ | apply rThen | apply rBlock) | ((with_reducible apply cCond); first | refine cTrue hs rfl bd_ ?_ | refine cFalse hs rfl bd_ ?_))
    refine st hs rfl rfl rfl (d_call hs rfl rfl rfl (pl 8 rfl) ((t1 _ hm.fr))) ?_; clear hs a; rintro _ w1 ⟨rfl, hf⟩ a hs
    replace hm := hm.pu hf
    clear hf
    repeat (first | ((with_reducible refine toL hm ?_); (first | refine oneV hs gw_ rfl rfl (by intro w hm; (first | exact kvR_ | exact r_sadd hs rfl rfl rfl (by omega))) ?_ | refine oneN hs rfl rfl rfl rfl rfl rfl rfl ?_ | refine oneU hs rfl rfl rfl rfl rfl rfl ?_); clear hs a; intro a hs) | ((with_reducible apply lCons); first | (refine dv hs gw_ rfl rfl da_ ?_; clear hs hm a; rintro _ w ⟨g, rfl, -, hm⟩ a hs) | (refine stn hs rfl rfl ds_ ?_; clear hs hm a; rintro - w hm a hs) ) | (with_reducible first | apply lNilThen | apply lNilBlock | apply lNil | apply wp_seq | apply wp_region_lit | apply wp_block | apply cExit | apply cRet | apply cSkip | apply gThen | apply gBlock | apply eThen | apply eBlockHit | refine eBlock rfl ?_ | apply rThen | apply rBlock) | ((with_reducible apply cCond); first | refine cTrue hs rfl bd_ ?_ | refine cFalse hs rfl bd_ ?_))
    refine st hs rfl rfl rfl (d_call hs rfl rfl rfl (pl 8 rfl) ((t2 _ hm.fr))) ?_; clear hs a; rintro _ w1 ⟨rfl, hf⟩ a hs
    replace hm := hm.pu hf
    clear hf
    repeat (first | ((with_reducible refine toL hm ?_); (first | refine oneV hs gw_ rfl rfl (by intro w hm; (first | exact kvR_ | exact r_sadd hs rfl rfl rfl (by omega))) ?_ | refine oneN hs rfl rfl rfl rfl rfl rfl rfl ?_ | refine oneU hs rfl rfl rfl rfl rfl rfl ?_); clear hs a; intro a hs) | ((with_reducible apply lCons); first | (refine dv hs gw_ rfl rfl da_ ?_; clear hs hm a; rintro _ w ⟨g, rfl, -, hm⟩ a hs) | (refine stn hs rfl rfl ds_ ?_; clear hs hm a; rintro - w hm a hs) ) | (with_reducible first | apply lNilThen | apply lNilBlock | apply lNil | apply wp_seq | apply wp_region_lit | apply wp_block | apply cExit | apply cRet | apply cSkip | apply gThen | apply gBlock | apply eThen | apply eBlockHit | refine eBlock rfl ?_ | apply rThen | apply rBlock) | ((with_reducible apply cCond); first | refine cTrue hs rfl bd_ ?_ | refine cFalse hs rfl bd_ ?_))
    refine cLoop (X := Nat) (fun i a w' => Sl Tryd.f4.ntmps [(0, .slice A n c), (1, .slice B m d), (5, txv S), (6, txv U), (7, .int .i64 ((S.take i).count 10 : Nat)), (8, .int .i64 (i : Int))] a ∧ Mm (fun _ => False) wB [] w' ∧ i ≤ S.length) (fun i => S.length - i) 0 ⟨hs.sub (Has.all ⟨rfl, rfl, rfl, rfl, rfl, rfl, trivial⟩), hm, Nat.zero_le _⟩ ?_
    clear hs hm a
    rintro i a w' ⟨hs, hm, hi⟩
    have hcl : (S.take i).count 10 ≤ i := Nat.le_trans (List.count_le_length ..) (by rw [List.length_take]; omega)
    by_cases hlt : i < S.length
    · obtain ⟨ch, hch⟩ : ∃ ch, S[i]? = some ch := ⟨_, List.getElem?_eq_getElem hlt⟩
      have hst := cnt_step S i ch hch
      unfold txv at hs
      repeat (first | ((with_reducible refine toL hm ?_); (first | refine oneV hs gw_ rfl rfl (by intro w hm; (first | exact kvR_ | exact r_sadd hs rfl rfl rfl (by omega))) ?_ | refine oneN hs rfl rfl rfl rfl rfl rfl rfl ?_ | refine oneU hs rfl rfl rfl rfl rfl rfl ?_); clear hs a; intro a hs) | ((with_reducible apply lCons); first | (refine dv hs gw_ rfl rfl da_ ?_; clear hs hm a; rintro _ w ⟨g, rfl, -, hm⟩ a hs) | (refine stn hs rfl rfl ds_ ?_; clear hs hm a; rintro - w hm a hs) ) | (with_reducible first | apply lNilThen | apply lNilBlock | apply lNil | apply wp_seq | apply wp_region_lit | apply wp_block | apply cExit | apply cRet | apply cSkip | apply gThen | apply gBlock | apply eThen | apply eBlockHit | refine eBlock rfl ?_ | apply rThen | apply rBlock) | ((with_reducible apply cCond); first | refine cTrue hs rfl bd_ ?_ | refine cFalse hs rfl bd_ ?_))
      refine toL hm (oneV hs (Wnt.none rfl) rfl rfl (by intro w hm; exact r_sidx (l := S) (k := i) (c := ch) hs rfl rfl rfl tab rfl rfl hch) ?_)
      clear hs a
      intro a hs
      have hch1 : ch = 10 ↔ ch.toNat = 10 := ⟨fun h => by rw [h]; rfl, fun h => UInt8.toNat_inj.1 (by rw [h]; rfl)⟩
      by_cases h10 : ch = 10
      · have h10' := hch1.1 h10
        rw [if_pos h10] at hst
        repeat (first | ((with_reducible refine toL hm ?_); (first | refine oneV hs gw_ rfl rfl (by intro w hm; (first | exact kvR_ | exact r_sadd hs rfl rfl rfl (by omega))) ?_ | refine oneN hs rfl rfl rfl rfl rfl rfl rfl ?_ | refine oneU hs rfl rfl rfl rfl rfl rfl ?_); clear hs a; intro a hs) | ((with_reducible apply lCons); first | (refine dv hs gw_ rfl rfl da_ ?_; clear hs hm a; rintro _ w ⟨g, rfl, -, hm⟩ a hs) | (refine stn hs rfl rfl ds_ ?_; clear hs hm a; rintro - w hm a hs) ) | (with_reducible first | apply lNilThen | apply lNilBlock | apply lNil | apply wp_seq | apply wp_region_lit | apply wp_block | apply cExit | apply cRet | apply cSkip | apply gThen | apply gBlock | apply eThen | apply eBlockHit | refine eBlock rfl ?_ | apply rThen | apply rBlock) | ((with_reducible apply cCond); first | refine cTrue hs rfl bd_ ?_ | refine cFalse hs rfl bd_ ?_))
        exact ⟨i + 1, by omega, hs.sub (Has.all ⟨rfl, rfl, rfl, rfl, by rw [hst]; rfl, rfl, trivial⟩), hm, by omega⟩
      · have h10' : ¬ ch.toNat = 10 := fun h => h10 (hch1.2 h)
        rw [if_neg h10, Nat.add_zero] at hst
        repeat (first | ((with_reducible refine toL hm ?_); (first | refine oneV hs gw_ rfl rfl (by intro w hm; (first | exact kvR_ | exact r_sadd hs rfl rfl rfl (by omega))) ?_ | refine oneN hs rfl rfl rfl rfl rfl rfl rfl ?_ | refine oneU hs rfl rfl rfl rfl rfl rfl ?_); clear hs a; intro a hs) | ((with_reducible apply lCons); first | (refine dv hs gw_ rfl rfl da_ ?_; clear hs hm a; rintro _ w ⟨g, rfl, -, hm⟩ a hs) | (refine stn hs rfl rfl ds_ ?_; clear hs hm a; rintro - w hm a hs) ) | (with_reducible first | apply lNilThen | apply lNilBlock | apply lNil | apply wp_seq | apply wp_region_lit | apply wp_block | apply cExit | apply cRet | apply cSkip | apply gThen | apply gBlock | apply eThen | apply eBlockHit | refine eBlock rfl ?_ | apply rThen | apply rBlock) | ((with_reducible apply cCond); first | refine cTrue hs rfl bd_ ?_ | refine cFalse hs rfl bd_ ?_))
        exact ⟨i + 1, by omega, hs.sub (Has.all ⟨rfl, rfl, rfl, rfl, by rw [hst]; rfl, rfl, trivial⟩), hm, by omega⟩
    · obtain rfl : i = S.length := by omega
      rw [List.take_of_length_le (Nat.le_refl _), hc1, hl1] at hs
      unfold txv at hs
      repeat (first | ((with_reducible refine toL hm ?_); (first | refine oneV hs gw_ rfl rfl (by intro w hm; (first | exact kvR_ | exact r_sadd hs rfl rfl rfl (by omega))) ?_ | refine oneN hs rfl rfl rfl rfl rfl rfl rfl ?_ | refine oneU hs rfl rfl rfl rfl rfl rfl ?_); clear hs a; intro a hs) | ((with_reducible apply lCons); first | (refine dv hs gw_ rfl rfl da_ ?_; clear hs hm a; rintro _ w ⟨g, rfl, -, hm⟩ a hs) | (refine stn hs rfl rfl ds_ ?_; clear hs hm a; rintro - w hm a hs) ) | (with_reducible first | apply lNilThen | apply lNilBlock | apply lNil | apply wp_seq | apply wp_region_lit | apply wp_block | apply cExit | apply cRet | apply cSkip | apply gThen | apply gBlock | apply eThen | apply eBlockHit | refine eBlock rfl ?_ | apply rThen | apply rBlock) | ((with_reducible apply cCond); first | refine cTrue hs rfl bd_ ?_ | refine cFalse hs rfl bd_ ?_))
      obtain ⟨g37, en_⟩ := hs.ps 37 (by exact rfl); subst en_
      refine dv hs (Wnt.some rfl rfl rfl rfl) rfl rfl (d_appendS (A := some g37) (n := 0) (c := 0) (xs := []) (news := la.flatMap ftV) hs rfl rfl rfl rfl tab rfl rfl rfl rfl rfl hm mem_ (Row.room0 g37 6) (by rw [flat_lenF, hl1]) (hm.fr.rd' hx.rd) (ft_one la) (by show (0 + n) * 48 ≤ _; omega) (by omega)) ?_
      clear hs
      rintro _ w2 ⟨A1, c1, cs1, rfl, hr1, hM⟩ a hs
      replace hm := hM _ rep_
      clear hM
      rw [Nat.zero_add] at hr1 hs
      rw [List.nil_append] at hr1
      repeat (first | ((with_reducible refine toL hm ?_); (first | refine oneV hs gw_ rfl rfl (by intro w hm; (first | exact kvR_ | exact r_sadd hs rfl rfl rfl (by omega))) ?_ | refine oneN hs rfl rfl rfl rfl rfl rfl rfl ?_ | refine oneU hs rfl rfl rfl rfl rfl rfl ?_); clear hs a; intro a hs) | ((with_reducible apply lCons); first | (refine dv hs gw_ rfl rfl da_ ?_; clear hs hm a; rintro _ w ⟨g, rfl, -, hm⟩ a hs) | (refine stn hs rfl rfl ds_ ?_; clear hs hm a; rintro - w hm a hs) ) | (with_reducible first | apply lNilThen | apply lNilBlock | apply lNil | apply wp_seq | apply wp_region_lit | apply wp_block | apply cExit | apply cRet | apply cSkip | apply gThen | apply gBlock | apply eThen | apply eBlockHit | refine eBlock rfl ?_ | apply rThen | apply rBlock) | ((with_reducible apply cCond); first | refine cTrue hs rfl bd_ ?_ | refine cFalse hs rfl bd_ ?_))
      refine dv hs (Wnt.some rfl rfl rfl rfl) rfl rfl (d_appendS (A := A1) (n := n) (c := c1) (xs := la.flatMap ftV) (news := lb.flatMap ftV) hs rfl rfl rfl rfl tab rfl rfl rfl rfl rfl hm mem_ hr1 (by rw [flat_lenF, hl2]) (hm.fr.rd' hy.rd) (ft_one lb) (by show (n + m) * 48 ≤ _; omega) (by omega)) ?_
      clear hs
      rintro _ w2 ⟨A2, c2, cs2, rfl, hr2, hM⟩ a hs
      replace hm := hM _ rep_
      clear hM
      have hr3 : Row A2 (n + m) c2 6 ((la ++ lb).flatMap ftV) cs2 := by rw [List.flatMap_append]; exact hr2
      have hz : (FS.mk (A2.map fun g => ⟨g, 0, none⟩) (n + m) c2 (la ++ lb)).ok w2 := ⟨by dsimp only; rw [List.length_append]; omega, hm.rd_row mem_ hr3⟩
      have t4 := t3 _ hm.fr _ hz (by dsimp only; omega)
      dsimp only at t4
      rw [hap] at t4
      repeat (first | ((with_reducible refine toL hm ?_); (first | refine oneV hs gw_ rfl rfl (by intro w hm; (first | exact kvR_ | exact r_sadd hs rfl rfl rfl (by omega))) ?_ | refine oneN hs rfl rfl rfl rfl rfl rfl rfl ?_ | refine oneU hs rfl rfl rfl rfl rfl rfl ?_); clear hs a; intro a hs) | ((with_reducible apply lCons); first | (refine dv hs gw_ rfl rfl da_ ?_; clear hs hm a; rintro _ w ⟨g, rfl, -, hm⟩ a hs) | (refine stn hs rfl rfl ds_ ?_; clear hs hm a; rintro - w hm a hs) | (refine dv hs gw_ rfl rfl (d_call hs rfl rfl rfl (pl 8 rfl) (t4)) ?_; clear hs a; rintro _ w ⟨rfl, hf⟩ a hs; replace hm := hm.pu hf; clear hf)) | (with_reducible first | apply lNilThen | apply lNilBlock | apply lNil | apply wp_seq | apply wp_region_lit | apply wp_block | apply cExit | apply cRet | apply cSkip | apply gThen | apply gBlock | apply eThen | apply eBlockHit | refine eBlock rfl ?_ | apply rThen | apply rBlock) | ((with_reducible apply cCond); first | refine cTrue hs rfl bd_ ?_ | refine cFalse hs rfl bd_ ?_))
      simp only [beq_self_eq_true] at hs
      repeat (first | ((with_reducible refine toL hm ?_); (first | refine oneV hs gw_ rfl rfl (by intro w hm; (first | exact kvR_ | exact r_sadd hs rfl rfl rfl (by omega))) ?_ | refine oneN hs rfl rfl rfl rfl rfl rfl rfl ?_ | refine oneU hs rfl rfl rfl rfl rfl rfl ?_); clear hs a; intro a hs) | ((with_reducible apply lCons); first | (refine dv hs gw_ rfl rfl da_ ?_; clear hs hm a; rintro _ w ⟨g, rfl, -, hm⟩ a hs) | (refine stn hs rfl rfl ds_ ?_; clear hs hm a; rintro - w hm a hs) | (refine dv hs gw_ rfl rfl (d_call hs rfl rfl rfl (pl 7 rfl) (haw _ hm.fr)) ?_; clear hs a; rintro _ w ⟨rfl, hf⟩ a hs; replace hm := hm.pu hf; clear hf)) | (with_reducible first | apply lNilThen | apply lNilBlock | apply lNil | apply wp_seq | apply wp_region_lit | apply wp_block | apply cExit | apply cRet | apply cSkip | apply gThen | apply gBlock | apply eThen | apply eBlockHit | refine eBlock rfl ?_ | apply rThen | apply rBlock) | ((with_reducible apply cCond); first | refine cTrue hs rfl bd_ ?_ | refine cFalse hs rfl bd_ ?_))
      exact gRet1 hs rfl rfl ⟨rfl, hm.fr⟩
end Go.Proofs.YtlapnhpaedkgcaaDoor
