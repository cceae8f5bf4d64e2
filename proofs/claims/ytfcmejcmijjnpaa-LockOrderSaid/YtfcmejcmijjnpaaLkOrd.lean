/- LockOrder: the walk. -/
import Derived.Test.YtfcmejcmijjnpaaLkOrdL
import Derived.Test.YtfcmejcmijjnpaaLkApart
import Derived.Test.YtfcmejcmijjnpaaOpen
namespace Go.Proofs.Ytfcmejcmijjnpaa
open Go.RowKit


structure OrX where
  i : Nat
  at_ : Nat
  x : KS
  ow : Int
  q : List Int
  A : Option Nat
  off : Nat
  c : Nat
  cs : List Value
theorem no_tail {x : KS} {h : Hp} {M : List Hp} (hn : x.no (h :: M)) : x.no M := fun g hg ⟨z, hz, e⟩ => hn g hg ⟨z, List.mem_cons_of_mem _ hz, e⟩

set_option maxHeartbeats 16000000 in
theorem order_c (A : Option Addr) (n c : Nat) (xs : List Int) (w0 : World) (hI : IsInts .i64 w0 A n c xs) :
    Ret Try.prog 3 [.slice A n c] w0 (fun v w' => v = .bool true ∧ Pu w0 w') := by
  obtain ⟨hl, hnc, hc63, hrx, hwx⟩ := hI
  have hn63 : n ≤ 9223372036854775807 := by omega
  refine enterR Try.func3 rfl rfl rfl fun a hs hm => ?_
  repeat (first | ((with_reducible refine toL hm ?_); (first | refine oneV hs gw_ rfl rfl (by intro w hm; (first | exact kvR_ | exact r_sliceArr hs rfl rfl tab rfl rfl rfl | exact r_sliceArrTo hs rfl rfl rfl tab rfl rfl rfl (by omega) (by omega) | exact r_sliceTo hs rfl rfl rfl tab rfl rfl rfl (by omega) (by omega) | exact r_sliceFrom hs rfl rfl rfl tab rfl rfl rfl (by omega) (by omega))) ?_ | refine oneN hs rfl rfl rfl rfl rfl rfl rfl ?_ | refine oneU hs rfl rfl rfl rfl rfl rfl ?_); clear hs a; intro a hs) | ((with_reducible apply lCons); first | (refine dv hs gw_ rfl rfl da_ ?_; clear hs hm a; rintro _ w ⟨g, rfl, -, hm⟩ a hs) | (refine stn hs rfl rfl ds_ ?_; clear hs hm a; rintro - w hm a hs) ) | (with_reducible first | apply lNilThen | apply lNilBlock | apply lNil | apply wp_seq | apply wp_region_lit | apply wp_block | apply cExit | apply cRet | apply cSkip | apply gThen | apply gBlock | apply eThen | apply eBlockHit | refine eBlock rfl ?_ | apply rThen | apply rBlock) | ((with_reducible apply cCond); first | refine cTrue hs rfl bd_ ?_ | refine cFalse hs rfl bd_ ?_))
  refine st hs rfl rfl rfl (d_call hs rfl rfl rfl (pl 7 rfl) ((mk_c A n c _))) ?_; clear hs a; rintro _ w1 ⟨gd, rfl, hN, hf⟩ a hs
  replace hm := hm.gain hf hN
  clear hN hf
  repeat (first | ((with_reducible refine toL hm ?_); (first | refine oneV hs gw_ rfl rfl (by intro w hm; (first | exact kvR_ | exact r_sliceArr hs rfl rfl tab rfl rfl rfl | exact r_sliceArrTo hs rfl rfl rfl tab rfl rfl rfl (by omega) (by omega) | exact r_sliceTo hs rfl rfl rfl tab rfl rfl rfl (by omega) (by omega) | exact r_sliceFrom hs rfl rfl rfl tab rfl rfl rfl (by omega) (by omega))) ?_ | refine oneN hs rfl rfl rfl rfl rfl rfl rfl ?_ | refine oneU hs rfl rfl rfl rfl rfl rfl ?_); clear hs a; intro a hs) | ((with_reducible apply lCons); first | (refine dv hs gw_ rfl rfl da_ ?_; clear hs hm a; rintro _ w ⟨g, rfl, -, hm⟩ a hs) | (refine stn hs rfl rfl ds_ ?_; clear hs hm a; rintro - w hm a hs) ) | (with_reducible first | apply lNilThen | apply lNilBlock | apply lNil | apply wp_seq | apply wp_region_lit | apply wp_block | apply cExit | apply cRet | apply cSkip | apply gThen | apply gBlock | apply eThen | apply eBlockHit | refine eBlock rfl ?_ | apply rThen | apply rBlock) | ((with_reducible apply cCond); first | refine cTrue hs rfl bd_ ?_ | refine cFalse hs rfl bd_ ?_))
  refine st hs rfl rfl rfl (d_call hs rfl rfl rfl (pl 8 rfl) ((nw_c _))) ?_; clear hs a; rintro _ w2 ⟨x, rfl, hx, hxn, hxa, hf⟩ a hs
  have hno := hxn.no hm
  replace hm := hm.pu hf
  clear hf hxn
  have hmB := hm
  obtain ⟨M3, hpk⟩ := packK hmB hno
  clear hmB hno hm
  obtain ⟨hmB, hm, hno⟩ := hpk
  unfold KS.v IS.v at hs
  repeat (first | ((with_reducible refine toL hm ?_); (first | refine oneV hs gw_ rfl rfl (by intro w hm; (first | exact kvR_ | exact r_sliceArr hs rfl rfl tab rfl rfl rfl | exact r_sliceArrTo hs rfl rfl rfl tab rfl rfl rfl (by omega) (by omega) | exact r_sliceTo hs rfl rfl rfl tab rfl rfl rfl (by omega) (by omega) | exact r_sliceFrom hs rfl rfl rfl tab rfl rfl rfl (by omega) (by omega))) ?_ | refine oneN hs rfl rfl rfl rfl rfl rfl rfl ?_ | refine oneU hs rfl rfl rfl rfl rfl rfl ?_); clear hs a; intro a hs) | ((with_reducible apply lCons); first | (refine dv hs gw_ rfl rfl da_ ?_; clear hs hm a; rintro _ w ⟨g, rfl, -, hm⟩ a hs) | (refine stn hs rfl rfl ds_ ?_; clear hs hm a; rintro - w hm a hs) ) | (with_reducible first | apply lNilThen | apply lNilBlock | apply lNil | apply wp_seq | apply wp_region_lit | apply wp_block | apply cExit | apply cRet | apply cSkip | apply gThen | apply gBlock | apply eThen | apply eBlockHit | refine eBlock rfl ?_ | apply rThen | apply rBlock) | ((with_reducible apply cCond); first | refine cTrue hs rfl bd_ ?_ | refine cFalse hs rfl bd_ ?_))
  obtain ⟨g4, en_⟩ := hs.pt 4 (by exact rfl); subst en_
  have hno2 := hno.grow hx hm
  replace hx := hx.own hno hm
  have hmC := hmB.trans hm
  clear hmB hm hno
  replace hmC := (hmC.zero 3).sel (M' := [⟨some g4, 27, [.slice x.o.A x.o.n x.o.c, .slice x.qA x.qs.length x.qc]⟩, dk gd A n c 0, ⟨none, 3, []⟩]) [1, 2, 0] (by decide) rfl
  have hnoC : x.no [⟨some g4, 27, [.slice x.o.A x.o.n x.o.c, .slice x.qA x.qs.length x.qc]⟩, dk gd A n c 0, ⟨none, 3, []⟩] := fun g hg ⟨z, hz, e⟩ => hno2 g hg (by
    rcases List.mem_cons.1 hz with rfl | hz
    · exact ⟨_, List.Mem.head _, e⟩
    · rcases List.mem_cons.1 hz with rfl | hz
      · exact ⟨_, List.Mem.tail _ (List.Mem.head _), e⟩
      · rcases List.mem_singleton.1 hz with rfl; cases e)
  have hoi : OI x.ab (-1) [] := by rw [hxa]; exact newA_oi
  refine cLoop (X := OrX) (fun X a w' => Sl Try.f3.ntmps [(2, .bool false), (3, .pointer (some ⟨gd, 0, none⟩)), (4, .pointer (some ⟨g4, 0, none⟩)), (5, slo X.A X.off X.q.length X.c), (6, .int .i64 X.ow), (19, .int .i64 (X.i : Int))] a ∧ Mm (fun _ => False) w0 [⟨some g4, 27, [.slice X.x.o.A X.x.o.n X.x.o.c, .slice X.x.qA X.x.qs.length X.x.qc]⟩, dk gd A n c X.at_, ⟨X.A, 3, X.cs⟩] w' ∧ X.x.ok w' ∧ X.x.no [⟨some g4, 27, [.slice X.x.o.A X.x.o.n X.x.o.c, .slice X.x.qA X.x.qs.length X.x.qc]⟩, dk gd A n c X.at_, ⟨X.A, 3, X.cs⟩] ∧ RowO X.A X.off X.q.length X.c (ints X.q) X.cs ∧ OI X.x.ab X.ow X.q ∧ X.i ≤ 24 ∧ X.q.length ≤ X.i) (fun X => 24 - X.i) ⟨0, 0, x, -1, [], none, 0, 0, []⟩ ⟨hs.sub (Has.all ⟨rfl, rfl, rfl, rfl, rfl, rfl, trivial⟩), hmC, hx, hnoC, RowO.empty, hoi, Nat.zero_le _, Nat.zero_le _⟩ ?_
  clear hs hmC a hx hnoC hno2 hoi hxa
  rintro ⟨i, at_, x, ow, q, qA, off, qc, cs⟩ a w' ⟨hs, hm, hx, hno, hrow, hoi, hi, hqi⟩
  dsimp only at *
  by_cases hlt : i < 24
  · have hmB := hm
    obtain ⟨M3, hpk⟩ := packK hmB hno
    clear hmB hno hm
    obtain ⟨hmB, hm, hno⟩ := hpk
    repeat (first | ((with_reducible refine toL hm ?_); (first | refine oneV hs gw_ rfl rfl (by intro w hm; (first | exact kvR_ | exact r_sliceArr hs rfl rfl tab rfl rfl rfl | exact r_sliceArrTo hs rfl rfl rfl tab rfl rfl rfl (by omega) (by omega) | exact r_sliceTo hs rfl rfl rfl tab rfl rfl rfl (by omega) (by omega) | exact r_sliceFrom hs rfl rfl rfl tab rfl rfl rfl (by omega) (by omega))) ?_ | refine oneN hs rfl rfl rfl rfl rfl rfl rfl ?_ | refine oneU hs rfl rfl rfl rfl rfl rfl ?_); clear hs a; intro a hs) | ((with_reducible apply lCons); first | (refine dv hs gw_ rfl rfl da_ ?_; clear hs hm a; rintro _ w ⟨g, rfl, -, hm⟩ a hs) | (refine stn hs rfl rfl ds_ ?_; clear hs hm a; rintro - w hm a hs) ) | (with_reducible first | apply lNilThen | apply lNilBlock | apply lNil | apply wp_seq | apply wp_region_lit | apply wp_block | apply cExit | apply cRet | apply cSkip | apply gThen | apply gBlock | apply eThen | apply eBlockHit | refine eBlock rfl ?_ | apply rThen | apply rBlock) | ((with_reducible apply cCond); first | refine cTrue hs rfl bd_ ?_ | refine cFalse hs rfl bd_ ?_))
    refine st hs rfl rfl rfl (d_call hs rfl rfl rfl (pl 9 rfl) ((nxt_c gd A n c _ xs 4 _ (Dk.at (hmB.trans hm) mem_ hl hrx hn63) (by omega) (by omega)))) ?_; clear hs a; rintro _ w1 ⟨tn, rfl, ht4, a1, k1, hf⟩ a hs
    replace hm := hm.dkt rep_ k1 hf
    clear hf
    obtain ⟨t, htt⟩ : ∃ t : Int, (tn : Int) = t := ⟨_, rfl⟩
    have htb : 0 ≤ t ∧ t < 4 := by omega
    rw [htt] at hs
    repeat (first | ((with_reducible refine toL hm ?_); (first | refine oneV hs gw_ rfl rfl (by intro w hm; (first | exact kvR_ | exact r_sliceArr hs rfl rfl tab rfl rfl rfl | exact r_sliceArrTo hs rfl rfl rfl tab rfl rfl rfl (by omega) (by omega) | exact r_sliceTo hs rfl rfl rfl tab rfl rfl rfl (by omega) (by omega) | exact r_sliceFrom hs rfl rfl rfl tab rfl rfl rfl (by omega) (by omega))) ?_ | refine oneN hs rfl rfl rfl rfl rfl rfl rfl ?_ | refine oneU hs rfl rfl rfl rfl rfl rfl ?_); clear hs a; intro a hs) | ((with_reducible apply lCons); first | (refine dv hs gw_ rfl rfl da_ ?_; clear hs hm a; rintro _ w ⟨g, rfl, -, hm⟩ a hs) | (refine stn hs rfl rfl ds_ ?_; clear hs hm a; rintro - w hm a hs) ) | (with_reducible first | apply lNilThen | apply lNilBlock | apply lNil | apply wp_seq | apply wp_region_lit | apply wp_block | apply cExit | apply cRet | apply cSkip | apply gThen | apply gBlock | apply eThen | apply eBlockHit | refine eBlock rfl ?_ | apply rThen | apply rBlock) | ((with_reducible apply cCond); first | refine cTrue hs rfl bd_ ?_ | refine cFalse hs rfl bd_ ?_))
    refine st hs rfl rfl rfl (d_call hs rfl rfl rfl (pl 9 rfl) ((nxt_c gd A n c _ xs 2 _ (Dk.at (hmB.trans hm) mem_ hl hrx hn63) (by omega) (by omega)))) ?_; clear hs a; rintro _ w1 ⟨rn, rfl, hr2, a2, k2, hf⟩ a hs
    replace hm := hm.dkt rep_ k2 hf
    clear hf
    by_cases h0 : (rn : Int) = 0
    · repeat (first | ((with_reducible refine toL hm ?_); (first | refine oneV hs gw_ rfl rfl (by intro w hm; (first | exact kvR_ | exact r_sliceArr hs rfl rfl tab rfl rfl rfl | exact r_sliceArrTo hs rfl rfl rfl tab rfl rfl rfl (by omega) (by omega) | exact r_sliceTo hs rfl rfl rfl tab rfl rfl rfl (by omega) (by omega) | exact r_sliceFrom hs rfl rfl rfl tab rfl rfl rfl (by omega) (by omega))) ?_ | refine oneN hs rfl rfl rfl rfl rfl rfl rfl ?_ | refine oneU hs rfl rfl rfl rfl rfl rfl ?_); clear hs a; intro a hs) | ((with_reducible apply lCons); first | (refine dv hs gw_ rfl rfl da_ ?_; clear hs hm a; rintro _ w ⟨g, rfl, -, hm⟩ a hs) | (refine stn hs rfl rfl ds_ ?_; clear hs hm a; rintro - w hm a hs) ) | (with_reducible first | apply lNilThen | apply lNilBlock | apply lNil | apply wp_seq | apply wp_region_lit | apply wp_block | apply cExit | apply cRet | apply cSkip | apply gThen | apply gBlock | apply eThen | apply eBlockHit | refine eBlock rfl ?_ | apply rThen | apply rBlock) | ((with_reducible apply cCond); first | refine cTrue hs rfl bd_ ?_ | refine cFalse hs rfl bd_ ?_))
      refine st hs rfl rfl rfl (d_call hs rfl rfl rfl (pl 10 rfl) ((tak_c x 2 t _ (hx.own hno hm) hoi.va.sh (by omega)))) ?_; clear hs a; rintro _ w3 ⟨y, rfl, hy, hyn, hya, hf⟩ a hs
      clear hno
      have hno := hyn.no hm
      replace hm := hm.pu hf
      clear hf hyn hx
      obtain ⟨M3, hpk⟩ := packK (hmB.trans hm) hno
      clear hmB hno hm
      obtain ⟨hmB, hm, hno⟩ := hpk
      unfold KS.v IS.v at hs
      repeat (first | ((with_reducible refine toL hm ?_); (first | refine oneV hs gw_ rfl rfl (by intro w hm; (first | exact kvR_ | exact r_sliceArr hs rfl rfl tab rfl rfl rfl | exact r_sliceArrTo hs rfl rfl rfl tab rfl rfl rfl (by omega) (by omega) | exact r_sliceTo hs rfl rfl rfl tab rfl rfl rfl (by omega) (by omega) | exact r_sliceFrom hs rfl rfl rfl tab rfl rfl rfl (by omega) (by omega))) ?_ | refine oneN hs rfl rfl rfl rfl rfl rfl rfl ?_ | refine oneU hs rfl rfl rfl rfl rfl rfl ?_); clear hs a; intro a hs) | ((with_reducible apply lCons); first | (refine dv hs gw_ rfl rfl da_ ?_; clear hs hm a; rintro _ w ⟨g, rfl, -, hm⟩ a hs) | (refine stn hs rfl rfl ds_ ?_; clear hs hm a; rintro - w hm a hs) ) | (with_reducible first | apply lNilThen | apply lNilBlock | apply lNil | apply wp_seq | apply wp_region_lit | apply wp_block | apply cExit | apply cRet | apply cSkip | apply gThen | apply gBlock | apply eThen | apply eBlockHit | refine eBlock rfl ?_ | apply rThen | apply rBlock) | ((with_reducible apply cCond); first | refine cTrue hs rfl bd_ ?_ | refine cFalse hs rfl bd_ ?_))
      obtain ⟨g8, en_⟩ := hs.pt 8 (by exact rfl); subst en_
      refine cLoop (X := Nat) (fun j a w' => Sl Try.f3.ntmps [(2, .bool false), (3, .pointer (some ⟨gd, 0, none⟩)), (4, .pointer (some ⟨g4, 0, none⟩)), (5, slo qA off q.length qc), (6, .int .i64 ow), (19, .int .i64 (i : Int)), (7, .int .i64 t), (8, .pointer (some ⟨g8, 0, none⟩)), (9, .int .i64 (takF x.ab 2 t).2), (10, .bool (decide (t = ow) || (q.take j).any (t == ·))), (35, slo qA off q.length qc), (36, .int .i64 (q.length : Int)), (37, .int .i64 (j : Int))] a ∧ Mm (own M3) w3 [⟨some g8, 27, [.slice y.o.A y.o.n y.o.c, .slice y.qA y.qs.length y.qc]⟩, ⟨some g4, 27, [.slice x.o.A x.o.n x.o.c, .slice x.qA x.qs.length x.qc]⟩, dk gd A n c a2, ⟨qA, 3, cs⟩] w' ∧ j ≤ q.length) (fun j => q.length - j) 0 ⟨hs.sub (Has.all ⟨rfl, rfl, rfl, rfl, rfl, rfl, rfl, rfl, rfl, (by show some (Value.bool (decide (t = ow))) = _; simp), rfl, rfl, rfl, trivial⟩), hm, Nat.zero_le _⟩ ?_
      clear hs hm a
      rintro j a w5 ⟨hs, hm, hj⟩
      by_cases hjl : j < q.length
      · obtain ⟨z, hz⟩ : ∃ z, q[j] = z := ⟨_, rfl⟩
        have hcell := hrow.cell j (.int .i64 z) (by rw [ints_some (k := j) hjl, hz])
        have htk : (q.take (j + 1)).any (t == ·) = ((q.take j).any (t == ·) || (t == z)) := by rw [List.take_succ_eq_append_getElem hjl, List.any_append, hz]; simp
        obtain ⟨gA, rfl⟩ : ∃ g, qA = some g := by
          cases qA with
          | none => have := (hrow.nil rfl).1; omega
          | some g => exact ⟨g, rfl⟩
        obtain ⟨b, hb⟩ : ∃ b, (decide (t = ow) || (q.take j).any (t == ·)) = b := ⟨_, rfl⟩
        rw [hb] at hs
        unfold slo at hs
        cases b
        · by_cases hzt : z = t
          · repeat (first | ((with_reducible refine toL hm ?_); (first | refine oneV hs gw_ rfl rfl (by intro w hm; (first | exact kvR_ | exact r_sliceArr hs rfl rfl tab rfl rfl rfl | exact r_sliceArrTo hs rfl rfl rfl tab rfl rfl rfl (by omega) (by omega) | exact r_sliceTo hs rfl rfl rfl tab rfl rfl rfl (by omega) (by omega) | exact r_sliceFrom hs rfl rfl rfl tab rfl rfl rfl (by omega) (by omega))) ?_ | refine oneN hs rfl rfl rfl rfl rfl rfl rfl ?_ | refine oneU hs rfl rfl rfl rfl rfl rfl ?_); clear hs a; intro a hs) | ((with_reducible apply lCons); first | (refine dv hs gw_ rfl rfl da_ ?_; clear hs hm a; rintro _ w ⟨g, rfl, -, hm⟩ a hs) | (refine stn hs rfl rfl ds_ ?_; clear hs hm a; rintro - w hm a hs) ) | (with_reducible first | apply lNilThen | apply lNilBlock | apply lNil | apply wp_seq | apply wp_region_lit | apply wp_block | apply cExit | apply cRet | apply cSkip | apply gThen | apply gBlock | apply eThen | apply eBlockHit | refine eBlock rfl ?_ | apply rThen | apply rBlock) | ((with_reducible apply cCond); first | refine cTrue hs rfl bd_ ?_ | refine cFalse hs rfl bd_ ?_))
            refine ⟨j + 1, by omega, hs.sub (Has.all ⟨rfl, rfl, rfl, rfl, rfl, rfl, rfl, rfl, rfl, ?_, rfl, rfl, rfl, trivial⟩), hm, by omega⟩
            dsimp only
            rw [htk, ← Bool.or_assoc, hb, show (t == z) = true by simp [hzt]]
            rfl
          · repeat (first | ((with_reducible refine toL hm ?_); (first | refine oneV hs gw_ rfl rfl (by intro w hm; (first | exact kvR_ | exact r_sliceArr hs rfl rfl tab rfl rfl rfl | exact r_sliceArrTo hs rfl rfl rfl tab rfl rfl rfl (by omega) (by omega) | exact r_sliceTo hs rfl rfl rfl tab rfl rfl rfl (by omega) (by omega) | exact r_sliceFrom hs rfl rfl rfl tab rfl rfl rfl (by omega) (by omega))) ?_ | refine oneN hs rfl rfl rfl rfl rfl rfl rfl ?_ | refine oneU hs rfl rfl rfl rfl rfl rfl ?_); clear hs a; intro a hs) | ((with_reducible apply lCons); first | (refine dv hs gw_ rfl rfl da_ ?_; clear hs hm a; rintro _ w ⟨g, rfl, -, hm⟩ a hs) | (refine stn hs rfl rfl ds_ ?_; clear hs hm a; rintro - w hm a hs) ) | (with_reducible first | apply lNilThen | apply lNilBlock | apply lNil | apply wp_seq | apply wp_region_lit | apply wp_block | apply cExit | apply cRet | apply cSkip | apply gThen | apply gBlock | apply eThen | apply eBlockHit | refine eBlock rfl ?_ | apply rThen | apply rBlock) | ((with_reducible apply cCond); first | refine cTrue hs rfl bd_ ?_ | refine cFalse hs rfl bd_ ?_))
            refine ⟨j + 1, by omega, hs.sub (Has.all ⟨rfl, rfl, rfl, rfl, rfl, rfl, rfl, rfl, rfl, ?_, rfl, rfl, rfl, trivial⟩), hm, by omega⟩
            dsimp only
            rw [htk, ← Bool.or_assoc, hb, show (t == z) = false by simpa using fun e => hzt e.symm]
            rfl
        · repeat (first | ((with_reducible refine toL hm ?_); (first | refine oneV hs gw_ rfl rfl (by intro w hm; (first | exact kvR_ | exact r_sliceArr hs rfl rfl tab rfl rfl rfl | exact r_sliceArrTo hs rfl rfl rfl tab rfl rfl rfl (by omega) (by omega) | exact r_sliceTo hs rfl rfl rfl tab rfl rfl rfl (by omega) (by omega) | exact r_sliceFrom hs rfl rfl rfl tab rfl rfl rfl (by omega) (by omega))) ?_ | refine oneN hs rfl rfl rfl rfl rfl rfl rfl ?_ | refine oneU hs rfl rfl rfl rfl rfl rfl ?_); clear hs a; intro a hs) | ((with_reducible apply lCons); first | (refine dv hs gw_ rfl rfl da_ ?_; clear hs hm a; rintro _ w ⟨g, rfl, -, hm⟩ a hs) | (refine stn hs rfl rfl ds_ ?_; clear hs hm a; rintro - w hm a hs) ) | (with_reducible first | apply lNilThen | apply lNilBlock | apply lNil | apply wp_seq | apply wp_region_lit | apply wp_block | apply cExit | apply cRet | apply cSkip | apply gThen | apply gBlock | apply eThen | apply eBlockHit | refine eBlock rfl ?_ | apply rThen | apply rBlock) | ((with_reducible apply cCond); first | refine cTrue hs rfl bd_ ?_ | refine cFalse hs rfl bd_ ?_))
          refine ⟨j + 1, by omega, hs.sub (Has.all ⟨rfl, rfl, rfl, rfl, rfl, rfl, rfl, rfl, rfl, ?_, rfl, rfl, rfl, trivial⟩), hm, by omega⟩
          dsimp only
          rw [htk, ← Bool.or_assoc, hb]
          rfl
      · obtain rfl : j = q.length := by omega
        rw [List.take_length] at hs
        obtain ⟨b, hb⟩ : ∃ b, (decide (t = ow) || q.any (t == ·)) = b := ⟨_, rfl⟩
        rw [hb] at hs
        cases b
        · by_cases ho : ow = -1
          · obtain ⟨e1, hoi2⟩ := oi_free hoi htb hb ho
            rw [e1] at hs
            rw [← hya] at hoi2
            have hrow2 := hrow
            repeat (first | ((with_reducible refine toL hm ?_); (first | refine oneV hs gw_ rfl rfl (by intro w hm; (first | exact kvR_ | exact r_sliceArr hs rfl rfl tab rfl rfl rfl | exact r_sliceArrTo hs rfl rfl rfl tab rfl rfl rfl (by omega) (by omega) | exact r_sliceTo hs rfl rfl rfl tab rfl rfl rfl (by omega) (by omega) | exact r_sliceFrom hs rfl rfl rfl tab rfl rfl rfl (by omega) (by omega))) ?_ | refine oneN hs rfl rfl rfl rfl rfl rfl rfl ?_ | refine oneU hs rfl rfl rfl rfl rfl rfl ?_); clear hs a; intro a hs) | ((with_reducible apply lCons); first | (refine dv hs gw_ rfl rfl da_ ?_; clear hs hm a; rintro _ w ⟨g, rfl, -, hm⟩ a hs) | (refine stn hs rfl rfl ds_ ?_; clear hs hm a; rintro - w hm a hs) ) | (with_reducible first | apply lNilThen | apply lNilBlock | apply lNil | apply wp_seq | apply wp_region_lit | apply wp_block | apply cExit | apply cRet | apply cSkip | apply gThen | apply gBlock | apply eThen | apply eBlockHit | refine eBlock rfl ?_ | apply rThen | apply rBlock) | ((with_reducible apply cCond); first | refine cTrue hs rfl bd_ ?_ | refine cFalse hs rfl bd_ ?_))
            obtain ⟨yb, yo, yoc, yos, yb2, yo2, yqc, yqs, rfl, hy4, hyq4, yr1, yr2⟩ := KS.open_ hy hoi2.va
            have hyno := hno
            have hnb1 := hno yb (.inl ⟨(by intro e; dsimp only at e; rw [e] at hy4; cases hy4), yo, rfl⟩)
            have hnb2 := hno yb2 (.inr (.inl ⟨(by intro e; dsimp only at e; rw [e] at hyq4; cases hyq4), yo2, rfl⟩))
            have hsy := KS.sm_of hy hoi2.va.sh
            have cV := fun w M (hm : Mm (own M3) w3 M w) => val_c _ w (hy.own hno hm) hoi2.va
            have hpm : yqs[2] ∈ yqs := List.getElem_mem _
            have hpn := hsy.qs _ hpm
            have hpq : yqs[2].xs = q := by
              have := hoi2.q
              unfold KS.ab at this
              dsimp only at this
              rwa [qs_at (by omega)] at this
            have cS := fun w M (hm : Mm (own M3) w3 M w) hM => sam_c yqs[2] _ w ((hy.own hno hm).qs _ hpm) (RowO.is_ok (A := qA) (q := q) (cs := cs) hm hM hrow2) (by omega)
            rw [decide_eq_true hpq] at cS
            have ey1 := ints_some (xs := yos) (k := 2) (by omega)
            have hyo := hoi2.o
            unfold KS.ab at hyo
            dsimp only at hyo
            rw [getI (by omega)] at hyo
            rw [hyo] at ey1
            have ey2 := qv_at (qs := yqs) (i := 2) (by omega)
            unfold KS.v IS.v at cV
            dsimp only at hs cV hm cS
            repeat (first | ((with_reducible refine toL hm ?_); (first | refine oneV hs gw_ rfl rfl (by intro w hm; (first | exact kvR_ | exact r_sliceArr hs rfl rfl tab rfl rfl rfl | exact r_sliceArrTo hs rfl rfl rfl tab rfl rfl rfl (by omega) (by omega) | exact r_sliceTo hs rfl rfl rfl tab rfl rfl rfl (by omega) (by omega) | exact r_sliceFrom hs rfl rfl rfl tab rfl rfl rfl (by omega) (by omega))) ?_ | refine oneN hs rfl rfl rfl rfl rfl rfl rfl ?_ | refine oneU hs rfl rfl rfl rfl rfl rfl ?_); clear hs a; intro a hs) | ((with_reducible apply lCons); first | (refine dv hs gw_ rfl rfl da_ ?_; clear hs hm a; rintro _ w ⟨g, rfl, -, hm⟩ a hs) | (refine stn hs rfl rfl ds_ ?_; clear hs hm a; rintro - w hm a hs) ) | (with_reducible first | apply lNilThen | apply lNilBlock | apply lNil | apply wp_seq | apply wp_region_lit | apply wp_block | apply cExit | apply cRet | apply cSkip | apply gThen | apply gBlock | apply eThen | apply eBlockHit | refine eBlock rfl ?_ | apply rThen | apply rBlock) | ((with_reducible apply cCond); first | refine cTrue hs rfl bd_ ?_ | refine cFalse hs rfl bd_ ?_))
            refine st hs rfl rfl rfl (d_call hs rfl rfl rfl (pl 12 rfl) ((cV _ _ hm))) ?_; clear hs a; rintro _ w9 ⟨rfl, hf⟩ a hs
            replace hm := hm.pu hf
            clear hf
            repeat (first | ((with_reducible refine toL hm ?_); (first | refine oneV hs gw_ rfl rfl (by intro w hm; (first | exact kvR_ | exact r_sliceArr hs rfl rfl tab rfl rfl rfl | exact r_sliceArrTo hs rfl rfl rfl tab rfl rfl rfl (by omega) (by omega) | exact r_sliceTo hs rfl rfl rfl tab rfl rfl rfl (by omega) (by omega) | exact r_sliceFrom hs rfl rfl rfl tab rfl rfl rfl (by omega) (by omega))) ?_ | refine oneN hs rfl rfl rfl rfl rfl rfl rfl ?_ | refine oneU hs rfl rfl rfl rfl rfl rfl ?_); clear hs a; intro a hs) | ((with_reducible apply lCons); first | (refine dv hs gw_ rfl rfl da_ ?_; clear hs hm a; rintro _ w ⟨g, rfl, -, hm⟩ a hs) | (refine stn hs rfl rfl ds_ ?_; clear hs hm a; rintro - w hm a hs) | (refine dv hs gw_ rfl rfl (d_call hs rfl rfl rfl (pl 13 rfl) (cS _ _ hm mem_)) ?_; clear hs a; rintro _ w ⟨rfl, hf⟩ a hs; replace hm := hm.pu hf; clear hf)) | (with_reducible first | apply lNilThen | apply lNilBlock | apply lNil | apply wp_seq | apply wp_region_lit | apply wp_block | apply cExit | apply cRet | apply cSkip | apply gThen | apply gBlock | apply eThen | apply eBlockHit | refine eBlock rfl ?_ | apply rThen | apply rBlock) | ((with_reducible apply cCond); first | refine cTrue hs rfl bd_ ?_ | refine cFalse hs rfl bd_ ?_))
            exact ⟨⟨i + 1, a2, _, t, q, qA, off, qc, cs⟩, by dsimp only; omega, hs.sub (Has.all ⟨rfl, rfl, rfl, rfl, rfl, rfl, trivial⟩), (hmB.trans hm).sub (List.sublist_cons_self _ _), hy.own hno hm, no_tail (hno.grow hy hm), hrow2, hoi2, by dsimp only; omega, by dsimp only; (try simp only [List.length_append, List.length_singleton]); omega⟩
          · obtain ⟨e1, hoi2⟩ := oi_wait hoi htb hb ho
            rw [e1] at hs
            rw [← hya] at hoi2
            repeat (first | ((with_reducible refine toL hm ?_); (first | refine oneV hs gw_ rfl rfl (by intro w hm; (first | exact kvR_ | exact r_sliceArr hs rfl rfl tab rfl rfl rfl | exact r_sliceArrTo hs rfl rfl rfl tab rfl rfl rfl (by omega) (by omega) | exact r_sliceTo hs rfl rfl rfl tab rfl rfl rfl (by omega) (by omega) | exact r_sliceFrom hs rfl rfl rfl tab rfl rfl rfl (by omega) (by omega))) ?_ | refine oneN hs rfl rfl rfl rfl rfl rfl rfl ?_ | refine oneU hs rfl rfl rfl rfl rfl rfl ?_); clear hs a; intro a hs) | ((with_reducible apply lCons); first | (refine dv hs gw_ rfl rfl da_ ?_; clear hs hm a; rintro _ w ⟨g, rfl, -, hm⟩ a hs) | (refine stn hs rfl rfl ds_ ?_; clear hs hm a; rintro - w hm a hs) ) | (with_reducible first | apply lNilThen | apply lNilBlock | apply lNil | apply wp_seq | apply wp_region_lit | apply wp_block | apply cExit | apply cRet | apply cSkip | apply gThen | apply gBlock | apply eThen | apply eBlockHit | refine eBlock rfl ?_ | apply rThen | apply rBlock) | ((with_reducible apply cCond); first | refine cTrue hs rfl bd_ ?_ | refine cFalse hs rfl bd_ ?_))
            refine dv hs (Wnt.none rfl) rfl rfl (d_appendO (A := qA) (off := off) (n := q.length) (c := qc) (v := .int .i64 t) hs rfl rfl rfl rfl tab rfl rfl rfl rfl rfl hm mem_ hrow (hm.ro (n := 1) mem_ (cutF_ok rfl)) rfl (by show (q.length + 1) * 8 ≤ _; omega) (by omega)) ?_
            clear hs
            rintro _ w6 ⟨A', off', c', cs', rfl, hr2, hM⟩ a hs
            replace hm := (hM _ rep_).sub (List.sublist_cons_self _ _)
            clear hM
            have hrow2 : RowO A' off' (q ++ [t]).length c' (ints (q ++ [t])) cs' := by
              rw [show ints (q ++ [t]) = ints q ++ [.int .i64 t] by simp [ints], List.length_append, List.length_singleton]; exact hr2
            rw [show slo A' off' (q.length + 1) c' = slo A' off' (q ++ [t]).length c' by rw [List.length_append, List.length_singleton]] at hs
            obtain ⟨yb, yo, yoc, yos, yb2, yo2, yqc, yqs, rfl, hy4, hyq4, yr1, yr2⟩ := KS.open_ hy hoi2.va
            have hyno := hno
            have hnb1 := hno yb (.inl ⟨(by intro e; dsimp only at e; rw [e] at hy4; cases hy4), yo, rfl⟩)
            have hnb2 := hno yb2 (.inr (.inl ⟨(by intro e; dsimp only at e; rw [e] at hyq4; cases hyq4), yo2, rfl⟩))
            have hsy := KS.sm_of hy hoi2.va.sh
            have cV := fun w M (hm : Mm (own M3) w3 M w) => val_c _ w (hy.own hno hm) hoi2.va
            have hpm : yqs[2] ∈ yqs := List.getElem_mem _
            have hpn := hsy.qs _ hpm
            have hpq : yqs[2].xs = (q ++ [t]) := by
              have := hoi2.q
              unfold KS.ab at this
              dsimp only at this
              rwa [qs_at (by omega)] at this
            have cS := fun w M (hm : Mm (own M3) w3 M w) hM => sam_c yqs[2] _ w ((hy.own hno hm).qs _ hpm) (RowO.is_ok (A := A') (q := (q ++ [t])) (cs := cs') hm hM hrow2) (by omega)
            rw [decide_eq_true hpq] at cS
            have ey1 := ints_some (xs := yos) (k := 2) (by omega)
            have hyo := hoi2.o
            unfold KS.ab at hyo
            dsimp only at hyo
            rw [getI (by omega)] at hyo
            rw [hyo] at ey1
            have ey2 := qv_at (qs := yqs) (i := 2) (by omega)
            unfold KS.v IS.v at cV
            dsimp only at hs cV hm cS
            repeat (first | ((with_reducible refine toL hm ?_); (first | refine oneV hs gw_ rfl rfl (by intro w hm; (first | exact kvR_ | exact r_sliceArr hs rfl rfl tab rfl rfl rfl | exact r_sliceArrTo hs rfl rfl rfl tab rfl rfl rfl (by omega) (by omega) | exact r_sliceTo hs rfl rfl rfl tab rfl rfl rfl (by omega) (by omega) | exact r_sliceFrom hs rfl rfl rfl tab rfl rfl rfl (by omega) (by omega))) ?_ | refine oneN hs rfl rfl rfl rfl rfl rfl rfl ?_ | refine oneU hs rfl rfl rfl rfl rfl rfl ?_); clear hs a; intro a hs) | ((with_reducible apply lCons); first | (refine dv hs gw_ rfl rfl da_ ?_; clear hs hm a; rintro _ w ⟨g, rfl, -, hm⟩ a hs) | (refine stn hs rfl rfl ds_ ?_; clear hs hm a; rintro - w hm a hs) ) | (with_reducible first | apply lNilThen | apply lNilBlock | apply lNil | apply wp_seq | apply wp_region_lit | apply wp_block | apply cExit | apply cRet | apply cSkip | apply gThen | apply gBlock | apply eThen | apply eBlockHit | refine eBlock rfl ?_ | apply rThen | apply rBlock) | ((with_reducible apply cCond); first | refine cTrue hs rfl bd_ ?_ | refine cFalse hs rfl bd_ ?_))
            refine st hs rfl rfl rfl (d_call hs rfl rfl rfl (pl 12 rfl) ((cV _ _ hm))) ?_; clear hs a; rintro _ w9 ⟨rfl, hf⟩ a hs
            replace hm := hm.pu hf
            clear hf
            repeat (first | ((with_reducible refine toL hm ?_); (first | refine oneV hs gw_ rfl rfl (by intro w hm; (first | exact kvR_ | exact r_sliceArr hs rfl rfl tab rfl rfl rfl | exact r_sliceArrTo hs rfl rfl rfl tab rfl rfl rfl (by omega) (by omega) | exact r_sliceTo hs rfl rfl rfl tab rfl rfl rfl (by omega) (by omega) | exact r_sliceFrom hs rfl rfl rfl tab rfl rfl rfl (by omega) (by omega))) ?_ | refine oneN hs rfl rfl rfl rfl rfl rfl rfl ?_ | refine oneU hs rfl rfl rfl rfl rfl rfl ?_); clear hs a; intro a hs) | ((with_reducible apply lCons); first | (refine dv hs gw_ rfl rfl da_ ?_; clear hs hm a; rintro _ w ⟨g, rfl, -, hm⟩ a hs) | (refine stn hs rfl rfl ds_ ?_; clear hs hm a; rintro - w hm a hs) | (refine dv hs gw_ rfl rfl (d_call hs rfl rfl rfl (pl 13 rfl) (cS _ _ hm mem_)) ?_; clear hs a; rintro _ w ⟨rfl, hf⟩ a hs; replace hm := hm.pu hf; clear hf)) | (with_reducible first | apply lNilThen | apply lNilBlock | apply lNil | apply wp_seq | apply wp_region_lit | apply wp_block | apply cExit | apply cRet | apply cSkip | apply gThen | apply gBlock | apply eThen | apply eBlockHit | refine eBlock rfl ?_ | apply rThen | apply rBlock) | ((with_reducible apply cCond); first | refine cTrue hs rfl bd_ ?_ | refine cFalse hs rfl bd_ ?_))
            exact ⟨⟨i + 1, a2, _, ow, (q ++ [t]), A', off', c', cs'⟩, by dsimp only; omega, hs.sub (Has.all ⟨rfl, rfl, rfl, rfl, rfl, rfl, trivial⟩), (hmB.trans hm).sub (List.sublist_cons_self _ _), hy.own hno hm, no_tail (hno.grow hy hm), hrow2, hoi2, by dsimp only; omega, by dsimp only; (try simp only [List.length_append, List.length_singleton]); omega⟩
        · have e1 := oi_in hoi hb
          rw [e1] at hs hya
          have hoi2 : OI y.ab ow q := by rw [hya]; exact hoi
          have hrow2 := hrow
          repeat (first | ((with_reducible refine toL hm ?_); (first | refine oneV hs gw_ rfl rfl (by intro w hm; (first | exact kvR_ | exact r_sliceArr hs rfl rfl tab rfl rfl rfl | exact r_sliceArrTo hs rfl rfl rfl tab rfl rfl rfl (by omega) (by omega) | exact r_sliceTo hs rfl rfl rfl tab rfl rfl rfl (by omega) (by omega) | exact r_sliceFrom hs rfl rfl rfl tab rfl rfl rfl (by omega) (by omega))) ?_ | refine oneN hs rfl rfl rfl rfl rfl rfl rfl ?_ | refine oneU hs rfl rfl rfl rfl rfl rfl ?_); clear hs a; intro a hs) | ((with_reducible apply lCons); first | (refine dv hs gw_ rfl rfl da_ ?_; clear hs hm a; rintro _ w ⟨g, rfl, -, hm⟩ a hs) | (refine stn hs rfl rfl ds_ ?_; clear hs hm a; rintro - w hm a hs) ) | (with_reducible first | apply lNilThen | apply lNilBlock | apply lNil | apply wp_seq | apply wp_region_lit | apply wp_block | apply cExit | apply cRet | apply cSkip | apply gThen | apply gBlock | apply eThen | apply eBlockHit | refine eBlock rfl ?_ | apply rThen | apply rBlock) | ((with_reducible apply cCond); first | refine cTrue hs rfl bd_ ?_ | refine cFalse hs rfl bd_ ?_))
          obtain ⟨yb, yo, yoc, yos, yb2, yo2, yqc, yqs, rfl, hy4, hyq4, yr1, yr2⟩ := KS.open_ hy hoi2.va
          have hyno := hno
          have hnb1 := hno yb (.inl ⟨(by intro e; dsimp only at e; rw [e] at hy4; cases hy4), yo, rfl⟩)
          have hnb2 := hno yb2 (.inr (.inl ⟨(by intro e; dsimp only at e; rw [e] at hyq4; cases hyq4), yo2, rfl⟩))
          have hsy := KS.sm_of hy hoi2.va.sh
          have cV := fun w M (hm : Mm (own M3) w3 M w) => val_c _ w (hy.own hno hm) hoi2.va
          have hpm : yqs[2] ∈ yqs := List.getElem_mem _
          have hpn := hsy.qs _ hpm
          have hpq : yqs[2].xs = q := by
            have := hoi2.q
            unfold KS.ab at this
            dsimp only at this
            rwa [qs_at (by omega)] at this
          have cS := fun w M (hm : Mm (own M3) w3 M w) hM => sam_c yqs[2] _ w ((hy.own hno hm).qs _ hpm) (RowO.is_ok (A := qA) (q := q) (cs := cs) hm hM hrow2) (by omega)
          rw [decide_eq_true hpq] at cS
          have ey1 := ints_some (xs := yos) (k := 2) (by omega)
          have hyo := hoi2.o
          unfold KS.ab at hyo
          dsimp only at hyo
          rw [getI (by omega)] at hyo
          rw [hyo] at ey1
          have ey2 := qv_at (qs := yqs) (i := 2) (by omega)
          unfold KS.v IS.v at cV
          dsimp only at hs cV hm cS
          repeat (first | ((with_reducible refine toL hm ?_); (first | refine oneV hs gw_ rfl rfl (by intro w hm; (first | exact kvR_ | exact r_sliceArr hs rfl rfl tab rfl rfl rfl | exact r_sliceArrTo hs rfl rfl rfl tab rfl rfl rfl (by omega) (by omega) | exact r_sliceTo hs rfl rfl rfl tab rfl rfl rfl (by omega) (by omega) | exact r_sliceFrom hs rfl rfl rfl tab rfl rfl rfl (by omega) (by omega))) ?_ | refine oneN hs rfl rfl rfl rfl rfl rfl rfl ?_ | refine oneU hs rfl rfl rfl rfl rfl rfl ?_); clear hs a; intro a hs) | ((with_reducible apply lCons); first | (refine dv hs gw_ rfl rfl da_ ?_; clear hs hm a; rintro _ w ⟨g, rfl, -, hm⟩ a hs) | (refine stn hs rfl rfl ds_ ?_; clear hs hm a; rintro - w hm a hs) ) | (with_reducible first | apply lNilThen | apply lNilBlock | apply lNil | apply wp_seq | apply wp_region_lit | apply wp_block | apply cExit | apply cRet | apply cSkip | apply gThen | apply gBlock | apply eThen | apply eBlockHit | refine eBlock rfl ?_ | apply rThen | apply rBlock) | ((with_reducible apply cCond); first | refine cTrue hs rfl bd_ ?_ | refine cFalse hs rfl bd_ ?_))
          refine st hs rfl rfl rfl (d_call hs rfl rfl rfl (pl 12 rfl) ((cV _ _ hm))) ?_; clear hs a; rintro _ w9 ⟨rfl, hf⟩ a hs
          replace hm := hm.pu hf
          clear hf
          repeat (first | ((with_reducible refine toL hm ?_); (first | refine oneV hs gw_ rfl rfl (by intro w hm; (first | exact kvR_ | exact r_sliceArr hs rfl rfl tab rfl rfl rfl | exact r_sliceArrTo hs rfl rfl rfl tab rfl rfl rfl (by omega) (by omega) | exact r_sliceTo hs rfl rfl rfl tab rfl rfl rfl (by omega) (by omega) | exact r_sliceFrom hs rfl rfl rfl tab rfl rfl rfl (by omega) (by omega))) ?_ | refine oneN hs rfl rfl rfl rfl rfl rfl rfl ?_ | refine oneU hs rfl rfl rfl rfl rfl rfl ?_); clear hs a; intro a hs) | ((with_reducible apply lCons); first | (refine dv hs gw_ rfl rfl da_ ?_; clear hs hm a; rintro _ w ⟨g, rfl, -, hm⟩ a hs) | (refine stn hs rfl rfl ds_ ?_; clear hs hm a; rintro - w hm a hs) | (refine dv hs gw_ rfl rfl (d_call hs rfl rfl rfl (pl 13 rfl) (cS _ _ hm mem_)) ?_; clear hs a; rintro _ w ⟨rfl, hf⟩ a hs; replace hm := hm.pu hf; clear hf)) | (with_reducible first | apply lNilThen | apply lNilBlock | apply lNil | apply wp_seq | apply wp_region_lit | apply wp_block | apply cExit | apply cRet | apply cSkip | apply gThen | apply gBlock | apply eThen | apply eBlockHit | refine eBlock rfl ?_ | apply rThen | apply rBlock) | ((with_reducible apply cCond); first | refine cTrue hs rfl bd_ ?_ | refine cFalse hs rfl bd_ ?_))
          exact ⟨⟨i + 1, a2, _, ow, q, qA, off, qc, cs⟩, by dsimp only; omega, hs.sub (Has.all ⟨rfl, rfl, rfl, rfl, rfl, rfl, trivial⟩), (hmB.trans hm).sub (List.sublist_cons_self _ _), hy.own hno hm, no_tail (hno.grow hy hm), hrow2, hoi2, by dsimp only; omega, by dsimp only; (try simp only [List.length_append, List.length_singleton]); omega⟩
    · repeat (first | ((with_reducible refine toL hm ?_); (first | refine oneV hs gw_ rfl rfl (by intro w hm; (first | exact kvR_ | exact r_sliceArr hs rfl rfl tab rfl rfl rfl | exact r_sliceArrTo hs rfl rfl rfl tab rfl rfl rfl (by omega) (by omega) | exact r_sliceTo hs rfl rfl rfl tab rfl rfl rfl (by omega) (by omega) | exact r_sliceFrom hs rfl rfl rfl tab rfl rfl rfl (by omega) (by omega))) ?_ | refine oneN hs rfl rfl rfl rfl rfl rfl rfl ?_ | refine oneU hs rfl rfl rfl rfl rfl rfl ?_); clear hs a; intro a hs) | ((with_reducible apply lCons); first | (refine dv hs gw_ rfl rfl da_ ?_; clear hs hm a; rintro _ w ⟨g, rfl, -, hm⟩ a hs) | (refine stn hs rfl rfl ds_ ?_; clear hs hm a; rintro - w hm a hs) ) | (with_reducible first | apply lNilThen | apply lNilBlock | apply lNil | apply wp_seq | apply wp_region_lit | apply wp_block | apply cExit | apply cRet | apply cSkip | apply gThen | apply gBlock | apply eThen | apply eBlockHit | refine eBlock rfl ?_ | apply rThen | apply rBlock) | ((with_reducible apply cCond); first | refine cTrue hs rfl bd_ ?_ | refine cFalse hs rfl bd_ ?_))
      refine st hs rfl rfl rfl (d_call hs rfl rfl rfl (pl 11 rfl) ((giv_c x 2 t _ (hx.own hno hm) hoi.va.sh (by omega)))) ?_; clear hs a; rintro _ w3 ⟨y, rfl, hy, hyn, hya, hf⟩ a hs
      clear hno
      have hno := hyn.no hm
      replace hm := hm.pu hf
      clear hf hyn hx
      obtain ⟨M3, hpk⟩ := packK (hmB.trans hm) hno
      clear hmB hno hm
      obtain ⟨hmB, hm, hno⟩ := hpk
      unfold KS.v IS.v at hs
      by_cases hto : t = ow
      · by_cases hql : q.length = 0
        · have hq : q = [] := List.eq_nil_of_length_eq_zero hql
          obtain ⟨e1, hoi2⟩ := oi_nil hoi hto hq
          rw [e1] at hs
          rw [← hya, ← hq] at hoi2
          have hrow2 := hrow
          repeat (first | ((with_reducible refine toL hm ?_); (first | refine oneV hs gw_ rfl rfl (by intro w hm; (first | exact kvR_ | exact r_sliceArr hs rfl rfl tab rfl rfl rfl | exact r_sliceArrTo hs rfl rfl rfl tab rfl rfl rfl (by omega) (by omega) | exact r_sliceTo hs rfl rfl rfl tab rfl rfl rfl (by omega) (by omega) | exact r_sliceFrom hs rfl rfl rfl tab rfl rfl rfl (by omega) (by omega))) ?_ | refine oneN hs rfl rfl rfl rfl rfl rfl rfl ?_ | refine oneU hs rfl rfl rfl rfl rfl rfl ?_); clear hs a; intro a hs) | ((with_reducible apply lCons); first | (refine dv hs gw_ rfl rfl da_ ?_; clear hs hm a; rintro _ w ⟨g, rfl, -, hm⟩ a hs) | (refine stn hs rfl rfl ds_ ?_; clear hs hm a; rintro - w hm a hs) ) | (with_reducible first | apply lNilThen | apply lNilBlock | apply lNil | apply wp_seq | apply wp_region_lit | apply wp_block | apply cExit | apply cRet | apply cSkip | apply gThen | apply gBlock | apply eThen | apply eBlockHit | refine eBlock rfl ?_ | apply rThen | apply rBlock) | ((with_reducible apply cCond); first | refine cTrue hs rfl bd_ ?_ | refine cFalse hs rfl bd_ ?_))
          obtain ⟨yb, yo, yoc, yos, yb2, yo2, yqc, yqs, rfl, hy4, hyq4, yr1, yr2⟩ := KS.open_ hy hoi2.va
          have hyno := hno
          have hnb1 := hno yb (.inl ⟨(by intro e; dsimp only at e; rw [e] at hy4; cases hy4), yo, rfl⟩)
          have hnb2 := hno yb2 (.inr (.inl ⟨(by intro e; dsimp only at e; rw [e] at hyq4; cases hyq4), yo2, rfl⟩))
          have hsy := KS.sm_of hy hoi2.va.sh
          have cV := fun w M (hm : Mm (own M3) w3 M w) => val_c _ w (hy.own hno hm) hoi2.va
          have hpm : yqs[2] ∈ yqs := List.getElem_mem _
          have hpn := hsy.qs _ hpm
          have hpq : yqs[2].xs = q := by
            have := hoi2.q
            unfold KS.ab at this
            dsimp only at this
            rwa [qs_at (by omega)] at this
          have cS := fun w M (hm : Mm (own M3) w3 M w) hM => sam_c yqs[2] _ w ((hy.own hno hm).qs _ hpm) (RowO.is_ok (A := qA) (q := q) (cs := cs) hm hM hrow2) (by omega)
          rw [decide_eq_true hpq] at cS
          have ey1 := ints_some (xs := yos) (k := 2) (by omega)
          have hyo := hoi2.o
          unfold KS.ab at hyo
          dsimp only at hyo
          rw [getI (by omega)] at hyo
          rw [hyo] at ey1
          have ey2 := qv_at (qs := yqs) (i := 2) (by omega)
          unfold KS.v IS.v at cV
          dsimp only at hs cV hm cS
          repeat (first | ((with_reducible refine toL hm ?_); (first | refine oneV hs gw_ rfl rfl (by intro w hm; (first | exact kvR_ | exact r_sliceArr hs rfl rfl tab rfl rfl rfl | exact r_sliceArrTo hs rfl rfl rfl tab rfl rfl rfl (by omega) (by omega) | exact r_sliceTo hs rfl rfl rfl tab rfl rfl rfl (by omega) (by omega) | exact r_sliceFrom hs rfl rfl rfl tab rfl rfl rfl (by omega) (by omega))) ?_ | refine oneN hs rfl rfl rfl rfl rfl rfl rfl ?_ | refine oneU hs rfl rfl rfl rfl rfl rfl ?_); clear hs a; intro a hs) | ((with_reducible apply lCons); first | (refine dv hs gw_ rfl rfl da_ ?_; clear hs hm a; rintro _ w ⟨g, rfl, -, hm⟩ a hs) | (refine stn hs rfl rfl ds_ ?_; clear hs hm a; rintro - w hm a hs) ) | (with_reducible first | apply lNilThen | apply lNilBlock | apply lNil | apply wp_seq | apply wp_region_lit | apply wp_block | apply cExit | apply cRet | apply cSkip | apply gThen | apply gBlock | apply eThen | apply eBlockHit | refine eBlock rfl ?_ | apply rThen | apply rBlock) | ((with_reducible apply cCond); first | refine cTrue hs rfl bd_ ?_ | refine cFalse hs rfl bd_ ?_))
          refine st hs rfl rfl rfl (d_call hs rfl rfl rfl (pl 12 rfl) ((cV _ _ hm))) ?_; clear hs a; rintro _ w9 ⟨rfl, hf⟩ a hs
          replace hm := hm.pu hf
          clear hf
          repeat (first | ((with_reducible refine toL hm ?_); (first | refine oneV hs gw_ rfl rfl (by intro w hm; (first | exact kvR_ | exact r_sliceArr hs rfl rfl tab rfl rfl rfl | exact r_sliceArrTo hs rfl rfl rfl tab rfl rfl rfl (by omega) (by omega) | exact r_sliceTo hs rfl rfl rfl tab rfl rfl rfl (by omega) (by omega) | exact r_sliceFrom hs rfl rfl rfl tab rfl rfl rfl (by omega) (by omega))) ?_ | refine oneN hs rfl rfl rfl rfl rfl rfl rfl ?_ | refine oneU hs rfl rfl rfl rfl rfl rfl ?_); clear hs a; intro a hs) | ((with_reducible apply lCons); first | (refine dv hs gw_ rfl rfl da_ ?_; clear hs hm a; rintro _ w ⟨g, rfl, -, hm⟩ a hs) | (refine stn hs rfl rfl ds_ ?_; clear hs hm a; rintro - w hm a hs) | (refine dv hs gw_ rfl rfl (d_call hs rfl rfl rfl (pl 13 rfl) (cS _ _ hm mem_)) ?_; clear hs a; rintro _ w ⟨rfl, hf⟩ a hs; replace hm := hm.pu hf; clear hf)) | (with_reducible first | apply lNilThen | apply lNilBlock | apply lNil | apply wp_seq | apply wp_region_lit | apply wp_block | apply cExit | apply cRet | apply cSkip | apply gThen | apply gBlock | apply eThen | apply eBlockHit | refine eBlock rfl ?_ | apply rThen | apply rBlock) | ((with_reducible apply cCond); first | refine cTrue hs rfl bd_ ?_ | refine cFalse hs rfl bd_ ?_))
          exact ⟨⟨i + 1, a2, _, (-1), q, qA, off, qc, cs⟩, by dsimp only; omega, hs.sub (Has.all ⟨rfl, rfl, rfl, rfl, rfl, rfl, trivial⟩), (hmB.trans hm).sub (List.sublist_cons_self _ _), hy.own hno hm, no_tail (hno.grow hy hm), hrow2, hoi2, by dsimp only; omega, by dsimp only; (try simp only [List.length_append, List.length_singleton]); omega⟩
        · obtain ⟨u, l, hq⟩ : ∃ u l, q = u :: l := by
            cases q with
            | nil => exact absurd rfl hql
            | cons u l => exact ⟨u, l, rfl⟩
          subst hq
          have hll : (u :: l).length = l.length + 1 := rfl
          obtain ⟨e1, hoi2⟩ := oi_cons hoi hto rfl
          rw [e1] at hs
          rw [← hya] at hoi2
          have hcell := hrow.cell 0 (.int .i64 u) rfl
          obtain ⟨gA, rfl⟩ : ∃ g, qA = some g := by
            cases qA with
            | none => have := (hrow.nil rfl).1; omega
            | some g => exact ⟨g, rfl⟩
          have hrow2 : RowO (some gA) (if qc = 1 then off else off + 1) l.length (qc - 1) (ints l) cs := hrow.tail
          unfold slo at hs
          repeat (first | ((with_reducible refine toL hm ?_); (first | refine oneV hs gw_ rfl rfl (by intro w hm; (first | exact kvR_ | exact r_sliceArr hs rfl rfl tab rfl rfl rfl | exact r_sliceArrTo hs rfl rfl rfl tab rfl rfl rfl (by omega) (by omega) | exact r_sliceTo hs rfl rfl rfl tab rfl rfl rfl (by omega) (by omega) | exact r_sliceFrom hs rfl rfl rfl tab rfl rfl rfl (by omega) (by omega))) ?_ | refine oneN hs rfl rfl rfl rfl rfl rfl rfl ?_ | refine oneU hs rfl rfl rfl rfl rfl rfl ?_); clear hs a; intro a hs) | ((with_reducible apply lCons); first | (refine dv hs gw_ rfl rfl da_ ?_; clear hs hm a; rintro _ w ⟨g, rfl, -, hm⟩ a hs) | (refine stn hs rfl rfl ds_ ?_; clear hs hm a; rintro - w hm a hs) ) | (with_reducible first | apply lNilThen | apply lNilBlock | apply lNil | apply wp_seq | apply wp_region_lit | apply wp_block | apply cExit | apply cRet | apply cSkip | apply gThen | apply gBlock | apply eThen | apply eBlockHit | refine eBlock rfl ?_ | apply rThen | apply rBlock) | ((with_reducible apply cCond); first | refine cTrue hs rfl bd_ ?_ | refine cFalse hs rfl bd_ ?_))
          repeat (first | ((with_reducible first | refine toL hm ?_ | refine toQ ?_); (first | refine oneV hs gw_ rfl rfl (by intro w hm; (first | exact kvR_ | exact r_sliceArr hs rfl rfl tab rfl rfl rfl | exact r_sliceArrTo hs rfl rfl rfl tab rfl rfl rfl (by omega) (by omega) | exact r_sliceTo hs rfl rfl rfl tab rfl rfl rfl (by omega) (by omega) | exact r_sliceFrom hs rfl rfl rfl tab rfl rfl rfl (by omega) (by omega))) ?_ | refine oneN hs rfl rfl rfl rfl rfl rfl rfl ?_ | refine oneU hs rfl rfl rfl rfl rfl rfl ?_); clear hs a; intro a hs) | ((with_reducible apply lCons); first | (refine dv hs gw_ rfl rfl da_ ?_; clear hs hm a; rintro _ w ⟨g, rfl, -, hm⟩ a hs) | (refine stn hs rfl rfl ds_ ?_; clear hs hm a; rintro - w hm a hs) ) | ((with_reducible apply qNil); clear hm; intro w hm) | ((with_reducible refine cQuiet hm ?_ ?_ ?_ ?_); rfl; kernel_rfl; kernel_rfl) | (with_reducible first | apply lNilThen | apply lNilBlock | apply lNil | apply wp_seq | apply wp_region_lit | apply wp_block | apply cExit | apply cRet | apply cSkip | apply gThen | apply gBlock | apply eThen | apply eBlockHit | refine eBlock rfl ?_ | apply rThen | apply rBlock) | ((with_reducible apply cCond); first | refine cTrue hs rfl bd_ ?_ | refine cFalse hs rfl bd_ ?_))
          replace hs := hs.sub (L' := [(111, .agg #[.slice y.o.A y.o.n y.o.c, .slice y.qA y.qs.length y.qc]), (2, .bool false), (3, .pointer (some ⟨gd, 0, none⟩)), (4, .pointer (some ⟨g4, 0, none⟩)), (5, slo (some gA) (if qc = 1 then off else off + 1) l.length (qc - 1)), (6, .int .i64 u), (19, .int .i64 (i : Int))]) (Has.all ⟨rfl, rfl, rfl, rfl, (by
            show some (Value.slice (if qc = 1 then some (⟨gA, off, none⟩ : Addr) else some ⟨gA, off + 1, none⟩) ((u :: l).length - 1) (qc - 1)) = _
            unfold slo
            split <;> rfl), rfl, rfl, trivial⟩)
          obtain ⟨yb, yo, yoc, yos, yb2, yo2, yqc, yqs, rfl, hy4, hyq4, yr1, yr2⟩ := KS.open_ hy hoi2.va
          have hyno := hno
          have hnb1 := hno yb (.inl ⟨(by intro e; dsimp only at e; rw [e] at hy4; cases hy4), yo, rfl⟩)
          have hnb2 := hno yb2 (.inr (.inl ⟨(by intro e; dsimp only at e; rw [e] at hyq4; cases hyq4), yo2, rfl⟩))
          have hsy := KS.sm_of hy hoi2.va.sh
          have cV := fun w M (hm : Mm (own M3) w3 M w) => val_c _ w (hy.own hno hm) hoi2.va
          have hpm : yqs[2] ∈ yqs := List.getElem_mem _
          have hpn := hsy.qs _ hpm
          have hpq : yqs[2].xs = l := by
            have := hoi2.q
            unfold KS.ab at this
            dsimp only at this
            rwa [qs_at (by omega)] at this
          have cS := fun w M (hm : Mm (own M3) w3 M w) hM => sam_c yqs[2] _ w ((hy.own hno hm).qs _ hpm) (RowO.is_ok (A := (some gA)) (q := l) (cs := cs) hm hM hrow2) (by omega)
          rw [decide_eq_true hpq] at cS
          have ey1 := ints_some (xs := yos) (k := 2) (by omega)
          have hyo := hoi2.o
          unfold KS.ab at hyo
          dsimp only at hyo
          rw [getI (by omega)] at hyo
          rw [hyo] at ey1
          have ey2 := qv_at (qs := yqs) (i := 2) (by omega)
          unfold KS.v IS.v at cV
          dsimp only at hs cV hm cS
          repeat (first | ((with_reducible refine toL hm ?_); (first | refine oneV hs gw_ rfl rfl (by intro w hm; (first | exact kvR_ | exact r_sliceArr hs rfl rfl tab rfl rfl rfl | exact r_sliceArrTo hs rfl rfl rfl tab rfl rfl rfl (by omega) (by omega) | exact r_sliceTo hs rfl rfl rfl tab rfl rfl rfl (by omega) (by omega) | exact r_sliceFrom hs rfl rfl rfl tab rfl rfl rfl (by omega) (by omega))) ?_ | refine oneN hs rfl rfl rfl rfl rfl rfl rfl ?_ | refine oneU hs rfl rfl rfl rfl rfl rfl ?_); clear hs a; intro a hs) | ((with_reducible apply lCons); first | (refine dv hs gw_ rfl rfl da_ ?_; clear hs hm a; rintro _ w ⟨g, rfl, -, hm⟩ a hs) | (refine stn hs rfl rfl ds_ ?_; clear hs hm a; rintro - w hm a hs) ) | (with_reducible first | apply lNilThen | apply lNilBlock | apply lNil | apply wp_seq | apply wp_region_lit | apply wp_block | apply cExit | apply cRet | apply cSkip | apply gThen | apply gBlock | apply eThen | apply eBlockHit | refine eBlock rfl ?_ | apply rThen | apply rBlock) | ((with_reducible apply cCond); first | refine cTrue hs rfl bd_ ?_ | refine cFalse hs rfl bd_ ?_))
          refine st hs rfl rfl rfl (d_call hs rfl rfl rfl (pl 12 rfl) ((cV _ _ hm))) ?_; clear hs a; rintro _ w9 ⟨rfl, hf⟩ a hs
          replace hm := hm.pu hf
          clear hf
          repeat (first | ((with_reducible refine toL hm ?_); (first | refine oneV hs gw_ rfl rfl (by intro w hm; (first | exact kvR_ | exact r_sliceArr hs rfl rfl tab rfl rfl rfl | exact r_sliceArrTo hs rfl rfl rfl tab rfl rfl rfl (by omega) (by omega) | exact r_sliceTo hs rfl rfl rfl tab rfl rfl rfl (by omega) (by omega) | exact r_sliceFrom hs rfl rfl rfl tab rfl rfl rfl (by omega) (by omega))) ?_ | refine oneN hs rfl rfl rfl rfl rfl rfl rfl ?_ | refine oneU hs rfl rfl rfl rfl rfl rfl ?_); clear hs a; intro a hs) | ((with_reducible apply lCons); first | (refine dv hs gw_ rfl rfl da_ ?_; clear hs hm a; rintro _ w ⟨g, rfl, -, hm⟩ a hs) | (refine stn hs rfl rfl ds_ ?_; clear hs hm a; rintro - w hm a hs) | (refine dv hs gw_ rfl rfl (d_call hs rfl rfl rfl (pl 13 rfl) (cS _ _ hm mem_)) ?_; clear hs a; rintro _ w ⟨rfl, hf⟩ a hs; replace hm := hm.pu hf; clear hf)) | (with_reducible first | apply lNilThen | apply lNilBlock | apply lNil | apply wp_seq | apply wp_region_lit | apply wp_block | apply cExit | apply cRet | apply cSkip | apply gThen | apply gBlock | apply eThen | apply eBlockHit | refine eBlock rfl ?_ | apply rThen | apply rBlock) | ((with_reducible apply cCond); first | refine cTrue hs rfl bd_ ?_ | refine cFalse hs rfl bd_ ?_))
          exact ⟨⟨i + 1, a2, _, u, l, (some gA), (if qc = 1 then off else off + 1), (qc - 1), cs⟩, by dsimp only; omega, hs.sub (Has.all ⟨rfl, rfl, rfl, rfl, rfl, rfl, trivial⟩), (hmB.trans hm).sub (List.sublist_cons_self _ _), hy.own hno hm, no_tail (hno.grow hy hm), hrow2, hoi2, by dsimp only; omega, by dsimp only; (try simp only [List.length_append, List.length_singleton]); omega⟩
      · have e1 := oi_no hoi hto
        rw [e1] at hs hya
        have hoi2 : OI y.ab ow q := by rw [hya]; exact hoi
        have hrow2 := hrow
        repeat (first | ((with_reducible refine toL hm ?_); (first | refine oneV hs gw_ rfl rfl (by intro w hm; (first | exact kvR_ | exact r_sliceArr hs rfl rfl tab rfl rfl rfl | exact r_sliceArrTo hs rfl rfl rfl tab rfl rfl rfl (by omega) (by omega) | exact r_sliceTo hs rfl rfl rfl tab rfl rfl rfl (by omega) (by omega) | exact r_sliceFrom hs rfl rfl rfl tab rfl rfl rfl (by omega) (by omega))) ?_ | refine oneN hs rfl rfl rfl rfl rfl rfl rfl ?_ | refine oneU hs rfl rfl rfl rfl rfl rfl ?_); clear hs a; intro a hs) | ((with_reducible apply lCons); first | (refine dv hs gw_ rfl rfl da_ ?_; clear hs hm a; rintro _ w ⟨g, rfl, -, hm⟩ a hs) | (refine stn hs rfl rfl ds_ ?_; clear hs hm a; rintro - w hm a hs) ) | (with_reducible first | apply lNilThen | apply lNilBlock | apply lNil | apply wp_seq | apply wp_region_lit | apply wp_block | apply cExit | apply cRet | apply cSkip | apply gThen | apply gBlock | apply eThen | apply eBlockHit | refine eBlock rfl ?_ | apply rThen | apply rBlock) | ((with_reducible apply cCond); first | refine cTrue hs rfl bd_ ?_ | refine cFalse hs rfl bd_ ?_))
        obtain ⟨yb, yo, yoc, yos, yb2, yo2, yqc, yqs, rfl, hy4, hyq4, yr1, yr2⟩ := KS.open_ hy hoi2.va
        have hyno := hno
        have hnb1 := hno yb (.inl ⟨(by intro e; dsimp only at e; rw [e] at hy4; cases hy4), yo, rfl⟩)
        have hnb2 := hno yb2 (.inr (.inl ⟨(by intro e; dsimp only at e; rw [e] at hyq4; cases hyq4), yo2, rfl⟩))
        have hsy := KS.sm_of hy hoi2.va.sh
        have cV := fun w M (hm : Mm (own M3) w3 M w) => val_c _ w (hy.own hno hm) hoi2.va
        have hpm : yqs[2] ∈ yqs := List.getElem_mem _
        have hpn := hsy.qs _ hpm
        have hpq : yqs[2].xs = q := by
          have := hoi2.q
          unfold KS.ab at this
          dsimp only at this
          rwa [qs_at (by omega)] at this
        have cS := fun w M (hm : Mm (own M3) w3 M w) hM => sam_c yqs[2] _ w ((hy.own hno hm).qs _ hpm) (RowO.is_ok (A := qA) (q := q) (cs := cs) hm hM hrow2) (by omega)
        rw [decide_eq_true hpq] at cS
        have ey1 := ints_some (xs := yos) (k := 2) (by omega)
        have hyo := hoi2.o
        unfold KS.ab at hyo
        dsimp only at hyo
        rw [getI (by omega)] at hyo
        rw [hyo] at ey1
        have ey2 := qv_at (qs := yqs) (i := 2) (by omega)
        unfold KS.v IS.v at cV
        dsimp only at hs cV hm cS
        repeat (first | ((with_reducible refine toL hm ?_); (first | refine oneV hs gw_ rfl rfl (by intro w hm; (first | exact kvR_ | exact r_sliceArr hs rfl rfl tab rfl rfl rfl | exact r_sliceArrTo hs rfl rfl rfl tab rfl rfl rfl (by omega) (by omega) | exact r_sliceTo hs rfl rfl rfl tab rfl rfl rfl (by omega) (by omega) | exact r_sliceFrom hs rfl rfl rfl tab rfl rfl rfl (by omega) (by omega))) ?_ | refine oneN hs rfl rfl rfl rfl rfl rfl rfl ?_ | refine oneU hs rfl rfl rfl rfl rfl rfl ?_); clear hs a; intro a hs) | ((with_reducible apply lCons); first | (refine dv hs gw_ rfl rfl da_ ?_; clear hs hm a; rintro _ w ⟨g, rfl, -, hm⟩ a hs) | (refine stn hs rfl rfl ds_ ?_; clear hs hm a; rintro - w hm a hs) ) | (with_reducible first | apply lNilThen | apply lNilBlock | apply lNil | apply wp_seq | apply wp_region_lit | apply wp_block | apply cExit | apply cRet | apply cSkip | apply gThen | apply gBlock | apply eThen | apply eBlockHit | refine eBlock rfl ?_ | apply rThen | apply rBlock) | ((with_reducible apply cCond); first | refine cTrue hs rfl bd_ ?_ | refine cFalse hs rfl bd_ ?_))
        refine st hs rfl rfl rfl (d_call hs rfl rfl rfl (pl 12 rfl) ((cV _ _ hm))) ?_; clear hs a; rintro _ w9 ⟨rfl, hf⟩ a hs
        replace hm := hm.pu hf
        clear hf
        repeat (first | ((with_reducible refine toL hm ?_); (first | refine oneV hs gw_ rfl rfl (by intro w hm; (first | exact kvR_ | exact r_sliceArr hs rfl rfl tab rfl rfl rfl | exact r_sliceArrTo hs rfl rfl rfl tab rfl rfl rfl (by omega) (by omega) | exact r_sliceTo hs rfl rfl rfl tab rfl rfl rfl (by omega) (by omega) | exact r_sliceFrom hs rfl rfl rfl tab rfl rfl rfl (by omega) (by omega))) ?_ | refine oneN hs rfl rfl rfl rfl rfl rfl rfl ?_ | refine oneU hs rfl rfl rfl rfl rfl rfl ?_); clear hs a; intro a hs) | ((with_reducible apply lCons); first | (refine dv hs gw_ rfl rfl da_ ?_; clear hs hm a; rintro _ w ⟨g, rfl, -, hm⟩ a hs) | (refine stn hs rfl rfl ds_ ?_; clear hs hm a; rintro - w hm a hs) | (refine dv hs gw_ rfl rfl (d_call hs rfl rfl rfl (pl 13 rfl) (cS _ _ hm mem_)) ?_; clear hs a; rintro _ w ⟨rfl, hf⟩ a hs; replace hm := hm.pu hf; clear hf)) | (with_reducible first | apply lNilThen | apply lNilBlock | apply lNil | apply wp_seq | apply wp_region_lit | apply wp_block | apply cExit | apply cRet | apply cSkip | apply gThen | apply gBlock | apply eThen | apply eBlockHit | refine eBlock rfl ?_ | apply rThen | apply rBlock) | ((with_reducible apply cCond); first | refine cTrue hs rfl bd_ ?_ | refine cFalse hs rfl bd_ ?_))
        exact ⟨⟨i + 1, a2, _, ow, q, qA, off, qc, cs⟩, by dsimp only; omega, hs.sub (Has.all ⟨rfl, rfl, rfl, rfl, rfl, rfl, trivial⟩), (hmB.trans hm).sub (List.sublist_cons_self _ _), hy.own hno hm, no_tail (hno.grow hy hm), hrow2, hoi2, by dsimp only; omega, by dsimp only; (try simp only [List.length_append, List.length_singleton]); omega⟩
  · repeat (first | ((with_reducible refine toL hm ?_); (first | refine oneV hs gw_ rfl rfl (by intro w hm; (first | exact kvR_ | exact r_sliceArr hs rfl rfl tab rfl rfl rfl | exact r_sliceArrTo hs rfl rfl rfl tab rfl rfl rfl (by omega) (by omega) | exact r_sliceTo hs rfl rfl rfl tab rfl rfl rfl (by omega) (by omega) | exact r_sliceFrom hs rfl rfl rfl tab rfl rfl rfl (by omega) (by omega))) ?_ | refine oneN hs rfl rfl rfl rfl rfl rfl rfl ?_ | refine oneU hs rfl rfl rfl rfl rfl rfl ?_); clear hs a; intro a hs) | ((with_reducible apply lCons); first | (refine dv hs gw_ rfl rfl da_ ?_; clear hs hm a; rintro _ w ⟨g, rfl, -, hm⟩ a hs) | (refine stn hs rfl rfl ds_ ?_; clear hs hm a; rintro - w hm a hs) | (refine dv hs gw_ rfl rfl (d_call hs rfl rfl rfl (pl 14 rfl) (awk_c _)) ?_; clear hs a; rintro _ w ⟨rfl, hf⟩ a hs; replace hm := hm.pu hf; clear hf)) | (with_reducible first | apply lNilThen | apply lNilBlock | apply lNil | apply wp_seq | apply wp_region_lit | apply wp_block | apply cExit | apply cRet | apply cSkip | apply gThen | apply gBlock | apply eThen | apply eBlockHit | refine eBlock rfl ?_ | apply rThen | apply rBlock) | ((with_reducible apply cCond); first | refine cTrue hs rfl bd_ ?_ | refine cFalse hs rfl bd_ ?_))
    exact gRet1 hs rfl rfl ⟨rfl, hm.fr⟩
theorem walk_LockOrder (A : Option Addr) (n c : Nat) (xs : List Int) (w : World) (h : IsInts .i64 w A n c xs) : Calls Try.prog 3 #[.slice A n c] w (fun e w' => e = .returned (.bool true) ∧ Pu w w') :=
  (order_c A n c xs w h).law
end Go.Proofs.Ytfcmejcmijjnpaa
