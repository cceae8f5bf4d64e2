/- The deck: locks. -/
import Derived.Test.YtfcmejcmijjnpaaLk14
import Derived.Test.YtfcmejcmijjnpaaEng18
namespace Go.Proofs.Ytfcmejcmijjnpaa
open Go.RowKit

theorem own_rep {M M' : List Hp} {x y : Hp} (r : Rep M x y M') (h : y.g = x.g) {k : Nat} (ho : own M' k) : own M k := by
  obtain ⟨z, hz, e⟩ := ho
  rcases r.mem' z hz with rfl | hz
  · exact ⟨x, r.mem, by rw [← h]; exact e⟩
  · exact ⟨z, hz, e⟩
theorem KS.no.rep {x : KS} {M M' : List Hp} {a b : Hp} (hn : x.no M) (r : Rep M a b M') (h : b.g = a.g) : x.no M' := fun g hg ho => hn g hg (own_rep r h ho)
/-- the deck as one of a walk's own blocks -/
theorem Dk.at {w0 w : World} {M : List Hp} {g : Nat} {A : Option Addr} {n c at_ : Nat} {xs : List Int} (hm : Mm (fun _ => False) w0 M w) (hM : dk g A n c at_ ∈ M) (hl : xs.length = n) (hr : Rd w0 w0.heap.size A (ints xs)) (hn : n ≤ 9223372036854775807) : Dk g A n c at_ xs w := by
  refine ⟨hm.me _ hM, hl, hm.fr.rd' hr, fun hne b o e => ?_, hn⟩
  obtain ⟨b', o', e', hb, _⟩ := hr (by rw [ints_len]; exact List.length_pos_iff.2 hne)
  rw [e] at e'
  cases e'
  rcases hm.ow _ hM g rfl with h | h
  · omega
  · exact h.elim
structure LoX where
  m : Nat
  at_ : Nat
  y : KS
set_option maxHeartbeats 4000000 in
theorem lks_c (gd : Nat) (A : Option Addr) (n c at_ : Nat) (xs : List Int) (wB : World) (h : Dk gd A n c at_ xs wB) :
    Ret Try.prog 15 [.pointer (some ⟨gd, 0, none⟩)] wB (fun u w' => ∃ y : KS, u = y.v ∧ y.ok w' ∧ y.new wB.heap.size ∧ VA y.ab ∧ DkR gd A n c xs wB w') := by
  refine enterR Try.func15 rfl rfl rfl fun a hs hm => ?_
  clear hm
  have hm := h.in_
  repeat (first | ((with_reducible refine toL hm ?_); (first | refine oneV hs gw_ rfl rfl (by intro w hm; exact kv_) ?_ | refine oneN hs rfl rfl rfl rfl rfl rfl rfl ?_ | refine oneU hs rfl rfl rfl rfl rfl rfl ?_); clear hs a; intro a hs) | ((with_reducible apply lCons); first | (refine dv hs gw_ rfl rfl da_ ?_; clear hs hm a; rintro _ w ⟨g, rfl, -, hm⟩ a hs) | (refine stn hs rfl rfl ds_ ?_; clear hs hm a; rintro - w hm a hs) ) | (with_reducible first | apply lNilThen | apply lNilBlock | apply lNil | apply wp_seq | apply wp_region_lit | apply wp_block | apply cExit | apply cRet | apply cSkip | apply gThen | apply gBlock | apply eThen | apply eBlockHit | refine eBlock rfl ?_ | apply rThen | apply rBlock) | ((with_reducible apply cCond); first | refine cTrue hs rfl bd_ ?_ | refine cFalse hs rfl bd_ ?_))
  obtain ⟨g2, en_⟩ := hs.pt 2 (by exact rfl); subst en_
  have hsz := hm.fr.size
  refine st hs rfl rfl rfl (d_call hs rfl rfl rfl (pl 22 rfl) ((rnw_c _))) ?_; clear hs a; rintro _ w1 ⟨y, rfl, hy, hyn, hya, hf⟩ a hs
  have hno := hyn.no hm
  replace hm := hm.pu hf
  clear hf
  have hva : VA y.ab := by rw [hya]; exact newA_va
  replace hyn : y.new wB.heap.size := fun g hg => Nat.le_trans hsz (hyn g hg)
  clear hsz hya
  have hmB := hm
  clear hm
  have hm := hmB.rebase
  rename World => w3
  unfold KS.v IS.v at hs
  repeat (first | ((with_reducible refine toL hm ?_); (first | refine oneV hs gw_ rfl rfl (by intro w hm; exact kv_) ?_ | refine oneN hs rfl rfl rfl rfl rfl rfl rfl ?_ | refine oneU hs rfl rfl rfl rfl rfl rfl ?_); clear hs a; intro a hs) | ((with_reducible apply lCons); first | (refine dv hs gw_ rfl rfl da_ ?_; clear hs hm a; rintro _ w ⟨g, rfl, -, hm⟩ a hs) | (refine stn hs rfl rfl ds_ ?_; clear hs hm a; rintro - w hm a hs) ) | (with_reducible first | apply lNilThen | apply lNilBlock | apply lNil | apply wp_seq | apply wp_region_lit | apply wp_block | apply cExit | apply cRet | apply cSkip | apply gThen | apply gBlock | apply eThen | apply eBlockHit | refine eBlock rfl ?_ | apply rThen | apply rBlock) | ((with_reducible apply cCond); first | refine cTrue hs rfl bd_ ?_ | refine cFalse hs rfl bd_ ?_))
  obtain ⟨g3, en_⟩ := hs.pt 3 (by exact rfl); subst en_
  have hno2 := hno.grow hy hm
  replace hy := hy.own hno hm
  have hmC := hmB.trans hm
  clear hmB hno hm
  have hmB := hmC
  have hm := hmB.rebase
  clear hmC
  refine st hs rfl rfl rfl (d_call hs rfl rfl rfl (pl 9 rfl) ((nxt_c gd A n c _ xs 9 _ (h.now (hmB.trans hm) mem_) (by omega) (by omega)))) ?_; clear hs a; rintro _ w1 ⟨r1, rfl, b1, a1, k1, hf⟩ a hs
  replace hm := hm.dkt rep_ k1 hf
  clear hf
  have hno3 := hno2.grow hy hm
  replace hy := hy.own hno2 hm
  have hmC := hmB.trans hm
  clear hmB hm hno2
  have hm := hmC
  clear hmC
  repeat (first | ((with_reducible refine toL hm ?_); (first | refine oneV hs gw_ rfl rfl (by intro w hm; exact kv_) ?_ | refine oneN hs rfl rfl rfl rfl rfl rfl rfl ?_ | refine oneU hs rfl rfl rfl rfl rfl rfl ?_); clear hs a; intro a hs) | ((with_reducible apply lCons); first | (refine dv hs gw_ rfl rfl da_ ?_; clear hs hm a; rintro _ w ⟨g, rfl, -, hm⟩ a hs) | (refine stn hs rfl rfl ds_ ?_; clear hs hm a; rintro - w hm a hs) ) | (with_reducible first | apply lNilThen | apply lNilBlock | apply lNil | apply wp_seq | apply wp_region_lit | apply wp_block | apply cExit | apply cRet | apply cSkip | apply gThen | apply gBlock | apply eThen | apply eBlockHit | refine eBlock rfl ?_ | apply rThen | apply rBlock) | ((with_reducible apply cCond); first | refine cTrue hs rfl bd_ ?_ | refine cFalse hs rfl bd_ ?_))
  refine cLoop (X := LoX) (fun X a w' => X.m ≤ 8 ∧ Sl Try.f15.ntmps [(0, .pointer (some ⟨gd, 0, none⟩)), (2, .pointer (some ⟨g2, 0, none⟩)), (3, .pointer (some ⟨g3, 0, none⟩)), (4, .int .i64 (X.m : Int))] a ∧ X.y.ok w' ∧ X.y.no [⟨some g3, 27, [X.y.o.v, .slice X.y.qA X.y.qs.length X.y.qc]⟩, ⟨some g2, 27, [.slice none 0 0, .slice none 0 0]⟩, dk gd A n c X.at_] ∧ X.y.new wB.heap.size ∧ VA X.y.ab ∧ Mm (own [dk gd A n c at_]) wB [⟨some g3, 27, [X.y.o.v, .slice X.y.qA X.y.qs.length X.y.qc]⟩, ⟨some g2, 27, [.slice none 0 0, .slice none 0 0]⟩, dk gd A n c X.at_] w') (fun X => X.m) ⟨r1, a1, y⟩ ⟨by dsimp only; omega, hs.sub (Has.all ⟨rfl, rfl, rfl, rfl, trivial⟩), hy, hno3, hyn, hva, hm⟩ ?_
  clear hs hm a hy hno3 hyn hva
  rintro ⟨m, at1, y⟩ a w4 ⟨hm8, hs, hy, hno, hyn, hva, hm⟩
  dsimp only at *
  by_cases hm0 : 0 < m
  · have hmB := hm
    clear hm
    have hm := hmB.rebase
    repeat (first | ((with_reducible refine toL hm ?_); (first | refine oneV hs gw_ rfl rfl (by intro w hm; exact kv_) ?_ | refine oneN hs rfl rfl rfl rfl rfl rfl rfl ?_ | refine oneU hs rfl rfl rfl rfl rfl rfl ?_); clear hs a; intro a hs) | ((with_reducible apply lCons); first | (refine dv hs gw_ rfl rfl da_ ?_; clear hs hm a; rintro _ w ⟨g, rfl, -, hm⟩ a hs) | (refine stn hs rfl rfl ds_ ?_; clear hs hm a; rintro - w hm a hs) ) | (with_reducible first | apply lNilThen | apply lNilBlock | apply lNil | apply wp_seq | apply wp_region_lit | apply wp_block | apply cExit | apply cRet | apply cSkip | apply gThen | apply gBlock | apply eThen | apply eBlockHit | refine eBlock rfl ?_ | apply rThen | apply rBlock) | ((with_reducible apply cCond); first | refine cTrue hs rfl bd_ ?_ | refine cFalse hs rfl bd_ ?_))
    refine st hs rfl rfl rfl (d_call hs rfl rfl rfl (pl 9 rfl) ((nxt_c gd A n c _ xs 4 _ (h.now (hmB.trans hm) mem_) (by omega) (by omega)))) ?_; clear hs a; rintro _ w1 ⟨r2, rfl, b2, a2, k2, hf⟩ a hs
    replace hm := hm.dkt rep_ k2 hf
    clear hf
    by_cases h0 : (r2 : Int) = 0
    · repeat (first | ((with_reducible refine toL hm ?_); (first | refine oneV hs gw_ rfl rfl (by intro w hm; exact kv_) ?_ | refine oneN hs rfl rfl rfl rfl rfl rfl rfl ?_ | refine oneU hs rfl rfl rfl rfl rfl rfl ?_); clear hs a; intro a hs) | ((with_reducible apply lCons); first | (refine dv hs gw_ rfl rfl da_ ?_; clear hs hm a; rintro _ w ⟨g, rfl, -, hm⟩ a hs) | (refine stn hs rfl rfl ds_ ?_; clear hs hm a; rintro - w hm a hs) ) | (with_reducible first | apply lNilThen | apply lNilBlock | apply lNil | apply wp_seq | apply wp_region_lit | apply wp_block | apply cExit | apply cRet | apply cSkip | apply gThen | apply gBlock | apply eThen | apply eBlockHit | refine eBlock rfl ?_ | apply rThen | apply rBlock) | ((with_reducible apply cCond); first | refine cTrue hs rfl bd_ ?_ | refine cFalse hs rfl bd_ ?_))
      refine cMid (fun a w' => ∃ (z : KS) (a' : Nat), Sl Try.f15.ntmps [(0, .pointer (some ⟨gd, 0, none⟩)), (2, .pointer (some ⟨g2, 0, none⟩)), (3, .pointer (some ⟨g3, 0, none⟩)), (4, .int .i64 (m : Int))] a ∧ z.ok w' ∧ z.no [⟨some g3, 27, [z.o.v, .slice z.qA z.qs.length z.qc]⟩, ⟨some g2, 27, [.slice none 0 0, .slice none 0 0]⟩, dk gd A n c a'] ∧ z.new wB.heap.size ∧ VA z.ab ∧ Mm (own [dk gd A n c at_]) wB [⟨some g3, 27, [z.o.v, .slice z.qA z.qs.length z.qc]⟩, ⟨some g2, 27, [.slice none 0 0, .slice none 0 0]⟩, dk gd A n c a'] w') ?_ ?_
      · skip
        refine cDraw (n := 11) [] hm rfl rfl ?_
        clear hm
        intro w2 hm
        refine hTake 1 hs rfl (by kernel_rfl) (Wnt.none rfl) rfl rfl (by intro w hm; replace hm : Mm _ _ _ w := hm; exact r_val hs tab rfl) (hm.sub (List.nil_sublist _)) ?_; clear hs a; intro a hs
        refine hTake 3 hs rfl (by kernel_rfl) (Wnt.none rfl) rfl rfl (by intro w hm; replace hm : Mm _ _ _ w := hm; exact r_val hs tab rfl) (hm.sub (List.nil_sublist _)) ?_; clear hs a; intro a hs
        refine hEach [0, 2] (by kernel_rfl) (eDo hs rfl (Wnt.none rfl) rfl rfl (RunV.does kv_) ?_ (eDo hs rfl (Wnt.none rfl) rfl rfl (by exact d_call hs rfl rfl rfl (pl 9 rfl) ((nxt_c gd A n c _ xs 4 _ (h.now (hmB.trans hm) mem_) (by omega) (by omega)))) ?_ eNil))
        · skip
          clear hs a
          rintro _ _ ⟨rfl, rfl⟩ a hs
          refine ⟨hm.sub sub_, ?_⟩
          refine hEach [2] (by kernel_rfl) (eDo hs rfl (Wnt.none rfl) rfl rfl (by exact d_call hs rfl rfl rfl (pl 9 rfl) ((nxt_c gd A n c _ xs 4 _ (h.now (hmB.trans hm) mem_) (by omega) (by omega)))) ?_ eNil)
          clear hs
          rintro _ w1 ⟨p, rfl, hp, a5, k5, hf⟩ a hs
          replace hm := hm.dkt rep_ k5 hf
          clear hf
          refine ⟨hm.sub sub_, ?_⟩
          refine hEach [4] (by kernel_rfl) (eDo hs rfl (Wnt.none rfl) rfl rfl (by exact d_call hs rfl rfl rfl (pl 9 rfl) ((nxt_c gd A n c _ xs 4 _ (h.now (hmB.trans hm) mem_) (by omega) (by omega)))) ?_ eNil)
          clear hs
          rintro _ w1 ⟨q, rfl, hq, a6, k6, hf⟩ a hs
          replace hm := hm.dkt rep_ k6 hf
          clear hf
          refine ⟨hm.sub sub_, ?_⟩
          refine hEach [5] (by kernel_rfl) (eDo hs rfl (Wnt.none rfl) rfl rfl (by exact d_call hs rfl rfl rfl (pl 23 rfl) ((rgiv_c y p (q : Int) _ (hy.own hno hm) hva.sh (by omega)))) ?_ eNil)
          clear hs
          rintro _ w1 ⟨z, rfl, hz, hzn, hzab, hf⟩ a hs
          have hzno := hzn.no hm
          have hzs := (hmB.trans hm).fr.size
          replace hm := hm.pu hf
          clear hf
          unfold KS.v at hs
          refine ⟨hm.sub sub_, ?_⟩
          refine hRebase hm ?_
          have hmC := hmB.trans hm
          clear hmB
          have hmD := hm.rebase
          clear hm
          have hm := hmD
          clear hmD
          refine hTake 6 hs rfl (by kernel_rfl) (Wnt.none rfl) rfl rfl (by intro w hm; replace hm : Mm _ _ _ w := hm; exact r_val hs tab rfl) (hm.sub (List.nil_sublist _)) ?_; clear hs a; intro a hs
          refine hTake 7 hs rfl (by kernel_rfl) (Wnt.none rfl) rfl rfl (by intro w hm; replace hm : Mm _ _ _ w := hm; exact r_val hs tab rfl) (hm.sub (List.nil_sublist _)) ?_; clear hs a; intro a hs
          refine hTake 8 hs rfl (by kernel_rfl) (Wnt.none rfl) rfl rfl (by intro w hm; replace hm : Mm _ _ _ w := hm; exact r_val hs tab rfl) (hm.sub (List.nil_sublist _)) ?_; clear hs a; intro a hs
          refine hTake 9 hs rfl (by kernel_rfl) (Wnt.none rfl) rfl rfl (by intro w hm; replace hm : Mm _ _ _ w := hm; exact r_val hs tab rfl) (hm.sub (List.nil_sublist _)) ?_; clear hs a; intro a hs
          refine hEach [10] (by kernel_rfl) (eDoN hs rfl (Wnt.none rfl) rfl ds_ ?_ eNil)
          clear hs hm
          rintro - w30 hm a hs
          refine ⟨hm.sub sub_, ?_⟩
          refine hDone (by kernel_rfl) ?_
          have hzv : VA z.ab := by rw [hzab]; exact giv_va hva (by omega)
          exact And.intro rfl ⟨z, _, hs.sub (Has.all ⟨rfl, rfl, rfl, rfl, trivial⟩), hz.own hzno hm, hzno.grow hz hm, fun g hg => Nat.le_trans hzs (hzn g hg), hzv, hmC.trans hm⟩
        · skip
          clear hs
          rintro _ w1 ⟨p, rfl, hp, a5, k5, hf⟩ a hs
          replace hm := hm.dkt rep_ k5 hf
          clear hf
          refine ⟨hm.sub sub_, ?_⟩
          refine hEach [0, 4] (by kernel_rfl) (eDo hs rfl (Wnt.none rfl) rfl rfl (RunV.does kv_) ?_ (eDo hs rfl (Wnt.none rfl) rfl rfl (by exact d_call hs rfl rfl rfl (pl 9 rfl) ((nxt_c gd A n c _ xs 4 _ (h.now (hmB.trans hm) mem_) (by omega) (by omega)))) ?_ eNil))
          · skip
            clear hs a
            rintro _ _ ⟨rfl, rfl⟩ a hs
            refine ⟨hm.sub sub_, ?_⟩
            refine hEach [4] (by kernel_rfl) (eDo hs rfl (Wnt.none rfl) rfl rfl (by exact d_call hs rfl rfl rfl (pl 9 rfl) ((nxt_c gd A n c _ xs 4 _ (h.now (hmB.trans hm) mem_) (by omega) (by omega)))) ?_ eNil)
            clear hs
            rintro _ w1 ⟨q, rfl, hq, a6, k6, hf⟩ a hs
            replace hm := hm.dkt rep_ k6 hf
            clear hf
            refine ⟨hm.sub sub_, ?_⟩
            refine hEach [5] (by kernel_rfl) (eDo hs rfl (Wnt.none rfl) rfl rfl (by exact d_call hs rfl rfl rfl (pl 23 rfl) ((rgiv_c y p (q : Int) _ (hy.own hno hm) hva.sh (by omega)))) ?_ eNil)
            clear hs
            rintro _ w1 ⟨z, rfl, hz, hzn, hzab, hf⟩ a hs
            have hzno := hzn.no hm
            have hzs := (hmB.trans hm).fr.size
            replace hm := hm.pu hf
            clear hf
            unfold KS.v at hs
            refine ⟨hm.sub sub_, ?_⟩
            refine hRebase hm ?_
            have hmC := hmB.trans hm
            clear hmB
            have hmD := hm.rebase
            clear hm
            have hm := hmD
            clear hmD
            refine hTake 6 hs rfl (by kernel_rfl) (Wnt.none rfl) rfl rfl (by intro w hm; replace hm : Mm _ _ _ w := hm; exact r_val hs tab rfl) (hm.sub (List.nil_sublist _)) ?_; clear hs a; intro a hs
            refine hTake 7 hs rfl (by kernel_rfl) (Wnt.none rfl) rfl rfl (by intro w hm; replace hm : Mm _ _ _ w := hm; exact r_val hs tab rfl) (hm.sub (List.nil_sublist _)) ?_; clear hs a; intro a hs
            refine hTake 8 hs rfl (by kernel_rfl) (Wnt.none rfl) rfl rfl (by intro w hm; replace hm : Mm _ _ _ w := hm; exact r_val hs tab rfl) (hm.sub (List.nil_sublist _)) ?_; clear hs a; intro a hs
            refine hTake 9 hs rfl (by kernel_rfl) (Wnt.none rfl) rfl rfl (by intro w hm; replace hm : Mm _ _ _ w := hm; exact r_val hs tab rfl) (hm.sub (List.nil_sublist _)) ?_; clear hs a; intro a hs
            refine hEach [10] (by kernel_rfl) (eDoN hs rfl (Wnt.none rfl) rfl ds_ ?_ eNil)
            clear hs hm
            rintro - w30 hm a hs
            refine ⟨hm.sub sub_, ?_⟩
            refine hDone (by kernel_rfl) ?_
            have hzv : VA z.ab := by rw [hzab]; exact giv_va hva (by omega)
            exact And.intro rfl ⟨z, _, hs.sub (Has.all ⟨rfl, rfl, rfl, rfl, trivial⟩), hz.own hzno hm, hzno.grow hz hm, fun g hg => Nat.le_trans hzs (hzn g hg), hzv, hmC.trans hm⟩
          · skip
            clear hs
            rintro _ w1 ⟨q, rfl, hq, a6, k6, hf⟩ a hs
            replace hm := hm.dkt rep_ k6 hf
            clear hf
            refine ⟨hm.sub sub_, ?_⟩
            refine hEach [0] (by kernel_rfl) (eDo hs rfl (Wnt.none rfl) rfl rfl (RunV.does kv_) ?_ eNil)
            clear hs a
            rintro _ _ ⟨rfl, rfl⟩ a hs
            refine ⟨hm.sub sub_, ?_⟩
            refine hEach [5] (by kernel_rfl) (eDo hs rfl (Wnt.none rfl) rfl rfl (by exact d_call hs rfl rfl rfl (pl 23 rfl) ((rgiv_c y p (q : Int) _ (hy.own hno hm) hva.sh (by omega)))) ?_ eNil)
            clear hs
            rintro _ w1 ⟨z, rfl, hz, hzn, hzab, hf⟩ a hs
            have hzno := hzn.no hm
            have hzs := (hmB.trans hm).fr.size
            replace hm := hm.pu hf
            clear hf
            unfold KS.v at hs
            refine ⟨hm.sub sub_, ?_⟩
            refine hRebase hm ?_
            have hmC := hmB.trans hm
            clear hmB
            have hmD := hm.rebase
            clear hm
            have hm := hmD
            clear hmD
            refine hTake 6 hs rfl (by kernel_rfl) (Wnt.none rfl) rfl rfl (by intro w hm; replace hm : Mm _ _ _ w := hm; exact r_val hs tab rfl) (hm.sub (List.nil_sublist _)) ?_; clear hs a; intro a hs
            refine hTake 7 hs rfl (by kernel_rfl) (Wnt.none rfl) rfl rfl (by intro w hm; replace hm : Mm _ _ _ w := hm; exact r_val hs tab rfl) (hm.sub (List.nil_sublist _)) ?_; clear hs a; intro a hs
            refine hTake 8 hs rfl (by kernel_rfl) (Wnt.none rfl) rfl rfl (by intro w hm; replace hm : Mm _ _ _ w := hm; exact r_val hs tab rfl) (hm.sub (List.nil_sublist _)) ?_; clear hs a; intro a hs
            refine hTake 9 hs rfl (by kernel_rfl) (Wnt.none rfl) rfl rfl (by intro w hm; replace hm : Mm _ _ _ w := hm; exact r_val hs tab rfl) (hm.sub (List.nil_sublist _)) ?_; clear hs a; intro a hs
            refine hEach [10] (by kernel_rfl) (eDoN hs rfl (Wnt.none rfl) rfl ds_ ?_ eNil)
            clear hs hm
            rintro - w30 hm a hs
            refine ⟨hm.sub sub_, ?_⟩
            refine hDone (by kernel_rfl) ?_
            have hzv : VA z.ab := by rw [hzab]; exact giv_va hva (by omega)
            exact And.intro rfl ⟨z, _, hs.sub (Has.all ⟨rfl, rfl, rfl, rfl, trivial⟩), hz.own hzno hm, hzno.grow hz hm, fun g hg => Nat.le_trans hzs (hzn g hg), hzv, hmC.trans hm⟩
      clear hs hm hmB hy hno hyn hva a
      rintro a w' ⟨z, a', hs, hz, hno, hzn, hva, hm⟩
      repeat (first | ((with_reducible refine toL hm ?_); (first | refine oneV hs gw_ rfl rfl (by intro w hm; exact kv_) ?_ | refine oneN hs rfl rfl rfl rfl rfl rfl rfl ?_ | refine oneU hs rfl rfl rfl rfl rfl rfl ?_); clear hs a; intro a hs) | ((with_reducible apply lCons); first | (refine dv hs gw_ rfl rfl da_ ?_; clear hs hm a; rintro _ w ⟨g, rfl, -, hm⟩ a hs) | (refine stn hs rfl rfl ds_ ?_; clear hs hm a; rintro - w hm a hs) ) | (with_reducible first | apply lNilThen | apply lNilBlock | apply lNil | apply wp_seq | apply wp_region_lit | apply wp_block | apply cExit | apply cRet | apply cSkip | apply gThen | apply gBlock | apply eThen | apply eBlockHit | refine eBlock rfl ?_ | apply rThen | apply rBlock) | ((with_reducible apply cCond); first | refine cTrue hs rfl bd_ ?_ | refine cFalse hs rfl bd_ ?_))
      exact ⟨⟨m - 1, a', z⟩, by dsimp only; omega, by dsimp only; omega, by have e : (m : Int) - 1 = ((m - 1 : Nat) : Int) := by omega
                                                                            rw [e] at hs; exact hs.sub (Has.all ⟨rfl, rfl, rfl, rfl, trivial⟩), hz.pu (Fr.refl _ _), hno, hzn, hva, hm⟩
    · repeat (first | ((with_reducible refine toL hm ?_); (first | refine oneV hs gw_ rfl rfl (by intro w hm; exact kv_) ?_ | refine oneN hs rfl rfl rfl rfl rfl rfl rfl ?_ | refine oneU hs rfl rfl rfl rfl rfl rfl ?_); clear hs a; intro a hs) | ((with_reducible apply lCons); first | (refine dv hs gw_ rfl rfl da_ ?_; clear hs hm a; rintro _ w ⟨g, rfl, -, hm⟩ a hs) | (refine stn hs rfl rfl ds_ ?_; clear hs hm a; rintro - w hm a hs) ) | (with_reducible first | apply lNilThen | apply lNilBlock | apply lNil | apply wp_seq | apply wp_region_lit | apply wp_block | apply cExit | apply cRet | apply cSkip | apply gThen | apply gBlock | apply eThen | apply eBlockHit | refine eBlock rfl ?_ | apply rThen | apply rBlock) | ((with_reducible apply cCond); first | refine cTrue hs rfl bd_ ?_ | refine cFalse hs rfl bd_ ?_))
      refine cMid (fun a w' => ∃ (z : KS) (a' : Nat), Sl Try.f15.ntmps [(0, .pointer (some ⟨gd, 0, none⟩)), (2, .pointer (some ⟨g2, 0, none⟩)), (3, .pointer (some ⟨g3, 0, none⟩)), (4, .int .i64 (m : Int))] a ∧ z.ok w' ∧ z.no [⟨some g3, 27, [z.o.v, .slice z.qA z.qs.length z.qc]⟩, ⟨some g2, 27, [.slice none 0 0, .slice none 0 0]⟩, dk gd A n c a'] ∧ z.new wB.heap.size ∧ VA z.ab ∧ Mm (own [dk gd A n c at_]) wB [⟨some g3, 27, [z.o.v, .slice z.qA z.qs.length z.qc]⟩, ⟨some g2, 27, [.slice none 0 0, .slice none 0 0]⟩, dk gd A n c a'] w') ?_ ?_
      · skip
        refine cDraw (n := 10) [] hm rfl rfl ?_
        clear hm
        intro w2 hm
        refine hTake 1 hs rfl (by kernel_rfl) (Wnt.none rfl) rfl rfl (by intro w hm; replace hm : Mm _ _ _ w := hm; exact r_val hs tab rfl) (hm.sub (List.nil_sublist _)) ?_; clear hs a; intro a hs
        refine hTake 3 hs rfl (by kernel_rfl) (Wnt.none rfl) rfl rfl (by intro w hm; replace hm : Mm _ _ _ w := hm; exact r_val hs tab rfl) (hm.sub (List.nil_sublist _)) ?_; clear hs a; intro a hs
        refine hEach [0, 2] (by kernel_rfl) (eDo hs rfl (Wnt.none rfl) rfl rfl (RunV.does kv_) ?_ (eDo hs rfl (Wnt.none rfl) rfl rfl (by exact d_call hs rfl rfl rfl (pl 9 rfl) ((nxt_c gd A n c _ xs 4 _ (h.now (hmB.trans hm) mem_) (by omega) (by omega)))) ?_ eNil))
        · skip
          clear hs a
          rintro _ _ ⟨rfl, rfl⟩ a hs
          refine ⟨hm.sub sub_, ?_⟩
          refine hEach [2] (by kernel_rfl) (eDo hs rfl (Wnt.none rfl) rfl rfl (by exact d_call hs rfl rfl rfl (pl 9 rfl) ((nxt_c gd A n c _ xs 4 _ (h.now (hmB.trans hm) mem_) (by omega) (by omega)))) ?_ eNil)
          clear hs
          rintro _ w1 ⟨p, rfl, hp, a5, k5, hf⟩ a hs
          replace hm := hm.dkt rep_ k5 hf
          clear hf
          refine ⟨hm.sub sub_, ?_⟩
          refine hEach [4] (by kernel_rfl) (eDo hs rfl (Wnt.none rfl) rfl rfl (by exact d_call hs rfl rfl rfl (pl 9 rfl) ((nxt_c gd A n c _ xs 4 _ (h.now (hmB.trans hm) mem_) (by omega) (by omega)))) ?_ eNil)
          clear hs
          rintro _ w1 ⟨q, rfl, hq, a6, k6, hf⟩ a hs
          replace hm := hm.dkt rep_ k6 hf
          clear hf
          refine ⟨hm.sub sub_, ?_⟩
          refine hEach [5] (by kernel_rfl) (eDo hs rfl (Wnt.none rfl) rfl rfl (by exact d_call hs rfl rfl rfl (pl 24 rfl) ((rtak_c y p (q : Int) _ (hy.own hno hm) hva.sh (by omega)))) ?_ eNil)
          clear hs
          rintro _ w1 ⟨z, rfl, hz, hzn, hzab, hf⟩ a hs
          have hzno := hzn.no hm
          have hzs := (hmB.trans hm).fr.size
          replace hm := hm.pu hf
          clear hf
          unfold KS.v at hs
          refine ⟨hm.sub sub_, ?_⟩
          refine hRebase hm ?_
          have hmC := hmB.trans hm
          clear hmB
          have hmD := hm.rebase
          clear hm
          have hm := hmD
          clear hmD
          refine hTake 6 hs rfl (by kernel_rfl) (Wnt.none rfl) rfl rfl (by intro w hm; replace hm : Mm _ _ _ w := hm; exact r_val hs tab rfl) (hm.sub (List.nil_sublist _)) ?_; clear hs a; intro a hs
          refine hTake 7 hs rfl (by kernel_rfl) (Wnt.none rfl) rfl rfl (by intro w hm; replace hm : Mm _ _ _ w := hm; exact r_val hs tab rfl) (hm.sub (List.nil_sublist _)) ?_; clear hs a; intro a hs
          refine hTake 8 hs rfl (by kernel_rfl) (Wnt.none rfl) rfl rfl (by intro w hm; replace hm : Mm _ _ _ w := hm; exact r_val hs tab rfl) (hm.sub (List.nil_sublist _)) ?_; clear hs a; intro a hs
          refine hEach [9] (by kernel_rfl) (eDoN hs rfl (Wnt.none rfl) rfl ds_ ?_ eNil)
          clear hs hm
          rintro - w29 hm a hs
          refine ⟨hm.sub sub_, ?_⟩
          refine hDone (by kernel_rfl) ?_
          have hzv : VA z.ab := by rw [hzab]; exact tak_va hva (by omega) (by omega)
          exact And.intro rfl ⟨z, _, hs.sub (Has.all ⟨rfl, rfl, rfl, rfl, trivial⟩), hz.own hzno hm, hzno.grow hz hm, fun g hg => Nat.le_trans hzs (hzn g hg), hzv, hmC.trans hm⟩
        · skip
          clear hs
          rintro _ w1 ⟨p, rfl, hp, a5, k5, hf⟩ a hs
          replace hm := hm.dkt rep_ k5 hf
          clear hf
          refine ⟨hm.sub sub_, ?_⟩
          refine hEach [0, 4] (by kernel_rfl) (eDo hs rfl (Wnt.none rfl) rfl rfl (RunV.does kv_) ?_ (eDo hs rfl (Wnt.none rfl) rfl rfl (by exact d_call hs rfl rfl rfl (pl 9 rfl) ((nxt_c gd A n c _ xs 4 _ (h.now (hmB.trans hm) mem_) (by omega) (by omega)))) ?_ eNil))
          · skip
            clear hs a
            rintro _ _ ⟨rfl, rfl⟩ a hs
            refine ⟨hm.sub sub_, ?_⟩
            refine hEach [4] (by kernel_rfl) (eDo hs rfl (Wnt.none rfl) rfl rfl (by exact d_call hs rfl rfl rfl (pl 9 rfl) ((nxt_c gd A n c _ xs 4 _ (h.now (hmB.trans hm) mem_) (by omega) (by omega)))) ?_ eNil)
            clear hs
            rintro _ w1 ⟨q, rfl, hq, a6, k6, hf⟩ a hs
            replace hm := hm.dkt rep_ k6 hf
            clear hf
            refine ⟨hm.sub sub_, ?_⟩
            refine hEach [5] (by kernel_rfl) (eDo hs rfl (Wnt.none rfl) rfl rfl (by exact d_call hs rfl rfl rfl (pl 24 rfl) ((rtak_c y p (q : Int) _ (hy.own hno hm) hva.sh (by omega)))) ?_ eNil)
            clear hs
            rintro _ w1 ⟨z, rfl, hz, hzn, hzab, hf⟩ a hs
            have hzno := hzn.no hm
            have hzs := (hmB.trans hm).fr.size
            replace hm := hm.pu hf
            clear hf
            unfold KS.v at hs
            refine ⟨hm.sub sub_, ?_⟩
            refine hRebase hm ?_
            have hmC := hmB.trans hm
            clear hmB
            have hmD := hm.rebase
            clear hm
            have hm := hmD
            clear hmD
            refine hTake 6 hs rfl (by kernel_rfl) (Wnt.none rfl) rfl rfl (by intro w hm; replace hm : Mm _ _ _ w := hm; exact r_val hs tab rfl) (hm.sub (List.nil_sublist _)) ?_; clear hs a; intro a hs
            refine hTake 7 hs rfl (by kernel_rfl) (Wnt.none rfl) rfl rfl (by intro w hm; replace hm : Mm _ _ _ w := hm; exact r_val hs tab rfl) (hm.sub (List.nil_sublist _)) ?_; clear hs a; intro a hs
            refine hTake 8 hs rfl (by kernel_rfl) (Wnt.none rfl) rfl rfl (by intro w hm; replace hm : Mm _ _ _ w := hm; exact r_val hs tab rfl) (hm.sub (List.nil_sublist _)) ?_; clear hs a; intro a hs
            refine hEach [9] (by kernel_rfl) (eDoN hs rfl (Wnt.none rfl) rfl ds_ ?_ eNil)
            clear hs hm
            rintro - w29 hm a hs
            refine ⟨hm.sub sub_, ?_⟩
            refine hDone (by kernel_rfl) ?_
            have hzv : VA z.ab := by rw [hzab]; exact tak_va hva (by omega) (by omega)
            exact And.intro rfl ⟨z, _, hs.sub (Has.all ⟨rfl, rfl, rfl, rfl, trivial⟩), hz.own hzno hm, hzno.grow hz hm, fun g hg => Nat.le_trans hzs (hzn g hg), hzv, hmC.trans hm⟩
          · skip
            clear hs
            rintro _ w1 ⟨q, rfl, hq, a6, k6, hf⟩ a hs
            replace hm := hm.dkt rep_ k6 hf
            clear hf
            refine ⟨hm.sub sub_, ?_⟩
            refine hEach [0] (by kernel_rfl) (eDo hs rfl (Wnt.none rfl) rfl rfl (RunV.does kv_) ?_ eNil)
            clear hs a
            rintro _ _ ⟨rfl, rfl⟩ a hs
            refine ⟨hm.sub sub_, ?_⟩
            refine hEach [5] (by kernel_rfl) (eDo hs rfl (Wnt.none rfl) rfl rfl (by exact d_call hs rfl rfl rfl (pl 24 rfl) ((rtak_c y p (q : Int) _ (hy.own hno hm) hva.sh (by omega)))) ?_ eNil)
            clear hs
            rintro _ w1 ⟨z, rfl, hz, hzn, hzab, hf⟩ a hs
            have hzno := hzn.no hm
            have hzs := (hmB.trans hm).fr.size
            replace hm := hm.pu hf
            clear hf
            unfold KS.v at hs
            refine ⟨hm.sub sub_, ?_⟩
            refine hRebase hm ?_
            have hmC := hmB.trans hm
            clear hmB
            have hmD := hm.rebase
            clear hm
            have hm := hmD
            clear hmD
            refine hTake 6 hs rfl (by kernel_rfl) (Wnt.none rfl) rfl rfl (by intro w hm; replace hm : Mm _ _ _ w := hm; exact r_val hs tab rfl) (hm.sub (List.nil_sublist _)) ?_; clear hs a; intro a hs
            refine hTake 7 hs rfl (by kernel_rfl) (Wnt.none rfl) rfl rfl (by intro w hm; replace hm : Mm _ _ _ w := hm; exact r_val hs tab rfl) (hm.sub (List.nil_sublist _)) ?_; clear hs a; intro a hs
            refine hTake 8 hs rfl (by kernel_rfl) (Wnt.none rfl) rfl rfl (by intro w hm; replace hm : Mm _ _ _ w := hm; exact r_val hs tab rfl) (hm.sub (List.nil_sublist _)) ?_; clear hs a; intro a hs
            refine hEach [9] (by kernel_rfl) (eDoN hs rfl (Wnt.none rfl) rfl ds_ ?_ eNil)
            clear hs hm
            rintro - w29 hm a hs
            refine ⟨hm.sub sub_, ?_⟩
            refine hDone (by kernel_rfl) ?_
            have hzv : VA z.ab := by rw [hzab]; exact tak_va hva (by omega) (by omega)
            exact And.intro rfl ⟨z, _, hs.sub (Has.all ⟨rfl, rfl, rfl, rfl, trivial⟩), hz.own hzno hm, hzno.grow hz hm, fun g hg => Nat.le_trans hzs (hzn g hg), hzv, hmC.trans hm⟩
      clear hs hm hmB hy hno hyn hva a
      rintro a w' ⟨z, a', hs, hz, hno, hzn, hva, hm⟩
      repeat (first | ((with_reducible refine toL hm ?_); (first | refine oneV hs gw_ rfl rfl (by intro w hm; exact kv_) ?_ | refine oneN hs rfl rfl rfl rfl rfl rfl rfl ?_ | refine oneU hs rfl rfl rfl rfl rfl rfl ?_); clear hs a; intro a hs) | ((with_reducible apply lCons); first | (refine dv hs gw_ rfl rfl da_ ?_; clear hs hm a; rintro _ w ⟨g, rfl, -, hm⟩ a hs) | (refine stn hs rfl rfl ds_ ?_; clear hs hm a; rintro - w hm a hs) ) | (with_reducible first | apply lNilThen | apply lNilBlock | apply lNil | apply wp_seq | apply wp_region_lit | apply wp_block | apply cExit | apply cRet | apply cSkip | apply gThen | apply gBlock | apply eThen | apply eBlockHit | refine eBlock rfl ?_ | apply rThen | apply rBlock) | ((with_reducible apply cCond); first | refine cTrue hs rfl bd_ ?_ | refine cFalse hs rfl bd_ ?_))
      exact ⟨⟨m - 1, a', z⟩, by dsimp only; omega, by dsimp only; omega, by have e : (m : Int) - 1 = ((m - 1 : Nat) : Int) := by omega
                                                                            rw [e] at hs; exact hs.sub (Has.all ⟨rfl, rfl, rfl, rfl, trivial⟩), hz.pu (Fr.refl _ _), hno, hzn, hva, hm⟩
  · have hmB := hm
    clear hm
    have hm := hmB.rebase
    repeat (first | ((with_reducible refine toL hm ?_); (first | refine oneV hs gw_ rfl rfl (by intro w hm; exact kv_) ?_ | refine oneN hs rfl rfl rfl rfl rfl rfl rfl ?_ | refine oneU hs rfl rfl rfl rfl rfl rfl ?_); clear hs a; intro a hs) | ((with_reducible apply lCons); first | (refine dv hs gw_ rfl rfl da_ ?_; clear hs hm a; rintro _ w ⟨g, rfl, -, hm⟩ a hs) | (refine stn hs rfl rfl ds_ ?_; clear hs hm a; rintro - w hm a hs) ) | (with_reducible first | apply lNilThen | apply lNilBlock | apply lNil | apply wp_seq | apply wp_region_lit | apply wp_block | apply cExit | apply cRet | apply cSkip | apply gThen | apply gBlock | apply eThen | apply eBlockHit | refine eBlock rfl ?_ | apply rThen | apply rBlock) | ((with_reducible apply cCond); first | refine cTrue hs rfl bd_ ?_ | refine cFalse hs rfl bd_ ?_))
    exact gRetN tab hs rfl (.cons (.cells rfl rfl rfl rfl (hm.ro (k := 0) (n := 2) (g := g2) mem_ (cutF_ok rfl))) .nil) ⟨y, rfl, hy.own hno hm, hyn, hva, _, h.now (hmB.trans hm) mem_, Dk.out (hmB.trans hm)⟩
end Go.Proofs.Ytfcmejcmijjnpaa
