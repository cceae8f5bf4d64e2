/- Copies of locks by the reference. -/
import Derived.Test.YtfcmejcmijjnpaaLk2
namespace Go.Proofs.Ytfcmejcmijjnpaa
open Go.RowKit

structure CqX where
  rs : List RW
  qA : Option Nat
  qc : Nat
  qcs : List Value
theorem rows_snoc (rs : List RW) (r : RW) : rs.map RW.v ++ [r.v] = (rs ++ [r]).map RW.v := by simp
set_option maxHeartbeats 2000000 in
theorem cpy_c (x : KS) (wB : World) (hx : x.ok wB) (hsm : x.sm) : Ret Try.prog 33 [x.v] wB (fun u w' => ∃ y : KO, u = y.v ∧ y.ok ∧ y.ab = x.ab ∧ y.rs.length = x.qs.length ∧ New wB w' y.hps ∧ Pu wB w') := by
  have hon := hx.o.1
  have hq1 := hsm.q
  have ho1 := hsm.o
  unfold KS.v IS.v at *
  refine enterR Try.func33 rfl rfl rfl fun a hs hm => ?_
  repeat (first | ((with_reducible refine toL hm ?_); (first | refine oneV hs gw_ rfl rfl (by intro w hm; (first | exact kv_ | exact r_b2s hs rfl rfl tab rfl rfl rfl rfl rfl rfl (by first | exact Fr.rd' hm.fr (by assumption) | exact Mm.rd_row hm mem_ (by assumption)) (by assumption))) ?_ | refine oneN hs rfl rfl rfl rfl rfl rfl rfl ?_ | refine oneU hs rfl rfl rfl rfl rfl rfl ?_); clear hs a; intro a hs) | ((with_reducible apply lCons); first | (refine dv hs gw_ rfl rfl da_ ?_; clear hs hm a; rintro _ w ⟨g, rfl, -, hm⟩ a hs) | (refine stn hs rfl rfl ds_ ?_; clear hs hm a; rintro - w hm a hs) ) | (with_reducible first | apply lNilThen | apply lNilBlock | apply lNil | apply wp_seq | apply wp_region_lit | apply wp_block | apply cExit | apply cRet | apply cSkip | apply gThen | apply gBlock | apply eThen | apply eBlockHit | refine eBlock rfl ?_ | apply rThen | apply rBlock) | ((with_reducible apply cCond); first | refine cTrue hs rfl bd_ ?_ | refine cFalse hs rfl bd_ ?_))
  obtain ⟨g1, en_⟩ := hs.pt 1 (by exact rfl); subst en_
  obtain ⟨g2, en_⟩ := hs.pt 2 (by exact rfl); subst en_
  refine dv hs (Wnt.none rfl) rfl rfl (d_appendS (A := none) (n := 0) (c := 0) (xs := []) (news := ints x.o.xs) hs rfl rfl rfl rfl tab rfl rfl rfl rfl rfl (hm.zero 3) mem_ (Row.empty 1) (by rw [ints_len, hon]; exact (Nat.mul_one _).symm) (hm.fr.rd' hx.o.2) (ints_one _) (by show (0 + x.o.n) * 8 ≤ _; omega) (by omega)) ?_
  clear hs
  rintro _ w2 ⟨oA, oc, ocs, rfl, hor, hM⟩ a hs
  replace hm := hM _ rep_
  clear hM
  rw [Nat.zero_add, List.nil_append] at hor
  rw [Nat.zero_add] at hs
  repeat (first | ((with_reducible refine toL hm ?_); (first | refine oneV hs gw_ rfl rfl (by intro w hm; (first | exact kv_ | exact r_b2s hs rfl rfl tab rfl rfl rfl rfl rfl rfl (by first | exact Fr.rd' hm.fr (by assumption) | exact Mm.rd_row hm mem_ (by assumption)) (by assumption))) ?_ | refine oneN hs rfl rfl rfl rfl rfl rfl rfl ?_ | refine oneU hs rfl rfl rfl rfl rfl rfl ?_); clear hs a; intro a hs) | ((with_reducible apply lCons); first | (refine dv hs gw_ rfl rfl da_ ?_; clear hs hm a; rintro _ w ⟨g, rfl, -, hm⟩ a hs) | (refine stn hs rfl rfl ds_ ?_; clear hs hm a; rintro - w hm a hs) ) | (with_reducible first | apply lNilThen | apply lNilBlock | apply lNil | apply wp_seq | apply wp_region_lit | apply wp_block | apply cExit | apply cRet | apply cSkip | apply gThen | apply gBlock | apply eThen | apply eBlockHit | refine eBlock rfl ?_ | apply rThen | apply rBlock) | ((with_reducible apply cCond); first | refine cTrue hs rfl bd_ ?_ | refine cFalse hs rfl bd_ ?_))
  obtain ⟨g3, en_⟩ := hs.pt 3 (by exact rfl); subst en_
  replace hm := (hm.zero 22).sel (M' := [⟨some g3, 27, [slv oA x.o.n oc, .slice none 0 0]⟩, ⟨none, 22, []⟩, ⟨oA, 3, ocs⟩, ⟨some g2, 27, [.slice none 0 0, .slice none 0 0]⟩, ⟨some g1, 27, [.slice x.o.A x.o.n x.o.c, .slice x.qA x.qs.length x.qc]⟩]) [1, 0, 2, 3, 4] (by decide) rfl
  refine cLoop (X := CqX) (fun X a w' => X.rs.length ≤ x.qs.length ∧ Sl Try.f33.ntmps [(2, .pointer (some ⟨g2, 0, none⟩)), (3, .pointer (some ⟨g3, 0, none⟩)), (11, .slice x.qA x.qs.length x.qc), (12, .int .i64 (x.qs.length : Int)), (13, .int .i64 (X.rs.length : Int))] a ∧ Mm (fun _ => False) wB ([⟨some g3, 27, [slv oA x.o.n oc, slv X.qA X.rs.length X.qc]⟩, ⟨X.qA, 22, X.qcs⟩, ⟨oA, 3, ocs⟩, ⟨some g2, 27, [.slice none 0 0, .slice none 0 0]⟩] ++ X.rs.map RW.hp) w' ∧ Row X.qA X.rs.length X.qc 1 (X.rs.map RW.v) X.qcs ∧ X.rs.map RW.xs = (x.qs.take X.rs.length).map IS.xs ∧ ∀ r ∈ X.rs, r.ok) (fun X => x.qs.length - X.rs.length) ⟨[], none, 0, []⟩ ⟨Nat.zero_le _, hs.sub (Has.all ⟨rfl, rfl, rfl, rfl, rfl, trivial⟩), hm.sub sub_, Row.empty 1, rfl, fun r hr => by cases hr⟩ ?_
  clear hs hm a
  rintro ⟨rs, qA, qc, qcs⟩ a w' ⟨hlen, hs, hm, hqr, hab, hok⟩
  dsimp only at *
  by_cases hlt : rs.length < x.qs.length
  · obtain ⟨b1, o1, hA, hb1, r1⟩ := hx.q.ro (by rw [List.length_map]; omega)
    obtain ⟨q, hq⟩ : ∃ q, q = x.qs[rs.length] := ⟨_, rfl⟩
    have hqm : q ∈ x.qs := by rw [hq]; exact List.getElem_mem hlt
    have hcell : (x.qs.map IS.v)[rs.length]? = some (.slice q.A q.n q.c) := by rw [List.getElem?_map, List.getElem?_eq_getElem hlt, hq]; rfl
    have hqo := hx.qs q hqm
    have hqn := hsm.qs q hqm
    have hqx := hqo.1
    rw [hA] at hs
    repeat (first | ((with_reducible refine toL hm ?_); (first | refine oneV hs gw_ rfl rfl (by intro w hm; (first | exact kv_ | exact r_b2s hs rfl rfl tab rfl rfl rfl rfl rfl rfl (by first | exact Fr.rd' hm.fr (by assumption) | exact Mm.rd_row hm mem_ (by assumption)) (by assumption))) ?_ | refine oneN hs rfl rfl rfl rfl rfl rfl rfl ?_ | refine oneU hs rfl rfl rfl rfl rfl rfl ?_); clear hs a; intro a hs) | ((with_reducible apply lCons); first | (refine dv hs gw_ rfl rfl da_ ?_; clear hs hm a; rintro _ w ⟨g, rfl, -, hm⟩ a hs) | (refine stn hs rfl rfl ds_ ?_; clear hs hm a; rintro - w hm a hs) ) | (with_reducible first | apply lNilThen | apply lNilBlock | apply lNil | apply wp_seq | apply wp_region_lit | apply wp_block | apply cExit | apply cRet | apply cSkip | apply gThen | apply gBlock | apply eThen | apply eBlockHit | refine eBlock rfl ?_ | apply rThen | apply rBlock) | ((with_reducible apply cCond); first | refine cTrue hs rfl bd_ ?_ | refine cFalse hs rfl bd_ ?_))
    refine cMid (fun a w => ∃ (r : RW) (qA' : Option Nat) (qc' : Nat) (qcs' : List Value), r.ok ∧ r.xs = q.xs ∧ Row qA' (rs.length + 1) qc' 1 ((rs ++ [r]).map RW.v) qcs' ∧ Sl Try.f33.ntmps [(2, .pointer (some ⟨g2, 0, none⟩)), (3, .pointer (some ⟨g3, 0, none⟩)), (11, .slice x.qA x.qs.length x.qc), (12, .int .i64 (x.qs.length : Int)), (13, .int .i64 (rs.length : Int))] a ∧ Mm (fun _ => False) wB (r.hp :: ([⟨some g3, 27, [slv oA x.o.n oc, slv qA' (rs.length + 1) qc']⟩, ⟨qA', 22, qcs'⟩, ⟨oA, 3, ocs⟩, ⟨some g2, 27, [.slice none 0 0, .slice none 0 0]⟩] ++ rs.map RW.hp)) w) ?_ ?_
    · skip
      refine cDraw (n := 8) [] hm rfl rfl ?_
      clear hm
      intro w2 hm
      refine hTake 0 hs rfl (by kernel_rfl) (Wnt.none rfl) rfl rfl (by intro w hm; replace hm : Mm _ _ _ w := hm; exact r_val hs tab rfl) (hm.sub (List.nil_sublist _)) ?_; clear hs a; intro a hs
      refine hTake 2 hs rfl (by kernel_rfl) (Wnt.none rfl) rfl rfl (by intro w hm; replace hm : Mm _ _ _ w := hm; exact r_val hs tab rfl) (hm.sub (List.nil_sublist _)) ?_; clear hs a; intro a hs
      refine hEach [1, 3] (by kernel_rfl) (eDo hs rfl (Wnt.none rfl) rfl rfl (RunV.does kv_) ?_ (eDo hs rfl (Wnt.none rfl) rfl rfl (d_appendS (A := none) (n := 0) (c := 0) (xs := []) (news := ints q.xs) hs rfl rfl rfl rfl tab rfl rfl rfl rfl rfl (hm.zero 3) mem_ (Row.empty 1) (by rw [ints_len, hqx]; exact (Nat.mul_one _).symm) (hm.fr.rd' hqo.2) (ints_one _) (by show (0 + q.n) * 8 ≤ _; omega) (by omega)) ?_ eNil))
      · skip
        clear hs a
        rintro _ _ ⟨rfl, rfl⟩ a hs
        refine ⟨hm.sub sub_, ?_⟩
        refine hEach [3] (by kernel_rfl) (eDo hs rfl (Wnt.none rfl) rfl rfl (d_appendS (A := none) (n := 0) (c := 0) (xs := []) (news := ints q.xs) hs rfl rfl rfl rfl tab rfl rfl rfl rfl rfl (hm.zero 3) mem_ (Row.empty 1) (by rw [ints_len, hqx]; exact (Nat.mul_one _).symm) (hm.fr.rd' hqo.2) (ints_one _) (by show (0 + q.n) * 8 ≤ _; omega) (by omega)) ?_ eNil)
        clear hs
        rintro _ w1 ⟨rA, rc, rcs, rfl, hrr, hM⟩ a hs
        replace hm := hM _ rep_
        clear hM
        rw [Nat.zero_add, List.nil_append] at hrr
        rw [Nat.zero_add] at hs
        refine ⟨hm.sub sub_, ?_⟩
        refine hEach [4] (by kernel_rfl) (eDo hs rfl (Wnt.none rfl) rfl rfl (by exact d_buildSlice hs rfl tab rfl rfl rfl rfl rfl rfl rfl rfl rfl hm) ?_ eNil)
        clear hs hm a
        rintro _ w24 ⟨g21, rfl, -, hm⟩ a hs
        refine ⟨hm.sub sub_, ?_⟩
        refine hEach [5] (by kernel_rfl) (eDo hs rfl (Wnt.none rfl) rfl rfl (d_append (A := qA) (n := rs.length) (c := qc) (news := [slv rA q.n rc]) hs rfl rfl rfl rfl rfl tab rfl rfl rfl rfl rfl hm mem_ hqr rfl (hm.ro (n := 1) mem_ (cutF_ok rfl)) rfl (by show (rs.length + 1) * 24 ≤ _; omega) (by omega)) ?_ eNil)
        clear hs
        rintro _ w1 ⟨qA', qc', qcs', rfl, hqr', hM⟩ a hs
        replace hm := hM _ rep_
        clear hM
        refine ⟨hm.sub sub_, ?_⟩
        refine hTake 6 hs rfl (by kernel_rfl) (Wnt.none rfl) rfl rfl (by intro w hm; replace hm : Mm _ _ _ w := hm; exact r_val hs tab rfl) (hm.sub (List.nil_sublist _)) ?_; clear hs a; intro a hs
        refine hEach [7] (by kernel_rfl) (eDoN hs rfl (Wnt.none rfl) rfl ds_ ?_ eNil)
        clear hs hm
        rintro - w27 hm a hs
        refine ⟨hm.sub sub_, ?_⟩
        refine hDone (by kernel_rfl) ?_
        have hvv : slv rA q.n rc = RW.v ⟨rA, rc, rcs, q.xs⟩ := by unfold RW.v; rw [hqx]
        rw [hvv, rows_snoc] at hqr'
        rw [← hA] at hs
        exact And.intro rfl ⟨⟨rA, rc, rcs, q.xs⟩, qA', qc', qcs', by unfold RW.ok; rw [hqx]; exact hrr, rfl, hqr', hs.sub (Has.all ⟨rfl, rfl, rfl, rfl, rfl, trivial⟩), hm.sub (List.Sublist.cons _ (List.Sublist.refl _))⟩
      · skip
        clear hs
        rintro _ w1 ⟨rA, rc, rcs, rfl, hrr, hM⟩ a hs
        replace hm := hM _ rep_
        clear hM
        rw [Nat.zero_add, List.nil_append] at hrr
        rw [Nat.zero_add] at hs
        refine ⟨hm.sub sub_, ?_⟩
        refine hEach [1, 4] (by kernel_rfl) (eDo hs rfl (Wnt.none rfl) rfl rfl (RunV.does kv_) ?_ (eDo hs rfl (Wnt.none rfl) rfl rfl (by exact d_buildSlice hs rfl tab rfl rfl rfl rfl rfl rfl rfl rfl rfl hm) ?_ eNil))
        · skip
          clear hs a
          rintro _ _ ⟨rfl, rfl⟩ a hs
          refine ⟨hm.sub sub_, ?_⟩
          refine hEach [4] (by kernel_rfl) (eDo hs rfl (Wnt.none rfl) rfl rfl (by exact d_buildSlice hs rfl tab rfl rfl rfl rfl rfl rfl rfl rfl rfl hm) ?_ eNil)
          clear hs hm a
          rintro _ w24 ⟨g21, rfl, -, hm⟩ a hs
          refine ⟨hm.sub sub_, ?_⟩
          refine hEach [5] (by kernel_rfl) (eDo hs rfl (Wnt.none rfl) rfl rfl (d_append (A := qA) (n := rs.length) (c := qc) (news := [slv rA q.n rc]) hs rfl rfl rfl rfl rfl tab rfl rfl rfl rfl rfl hm mem_ hqr rfl (hm.ro (n := 1) mem_ (cutF_ok rfl)) rfl (by show (rs.length + 1) * 24 ≤ _; omega) (by omega)) ?_ eNil)
          clear hs
          rintro _ w1 ⟨qA', qc', qcs', rfl, hqr', hM⟩ a hs
          replace hm := hM _ rep_
          clear hM
          refine ⟨hm.sub sub_, ?_⟩
          refine hTake 6 hs rfl (by kernel_rfl) (Wnt.none rfl) rfl rfl (by intro w hm; replace hm : Mm _ _ _ w := hm; exact r_val hs tab rfl) (hm.sub (List.nil_sublist _)) ?_; clear hs a; intro a hs
          refine hEach [7] (by kernel_rfl) (eDoN hs rfl (Wnt.none rfl) rfl ds_ ?_ eNil)
          clear hs hm
          rintro - w27 hm a hs
          refine ⟨hm.sub sub_, ?_⟩
          refine hDone (by kernel_rfl) ?_
          have hvv : slv rA q.n rc = RW.v ⟨rA, rc, rcs, q.xs⟩ := by unfold RW.v; rw [hqx]
          rw [hvv, rows_snoc] at hqr'
          rw [← hA] at hs
          exact And.intro rfl ⟨⟨rA, rc, rcs, q.xs⟩, qA', qc', qcs', by unfold RW.ok; rw [hqx]; exact hrr, rfl, hqr', hs.sub (Has.all ⟨rfl, rfl, rfl, rfl, rfl, trivial⟩), hm.sub (List.Sublist.cons _ (List.Sublist.refl _))⟩
        · skip
          clear hs hm a
          rintro _ w24 ⟨g21, rfl, -, hm⟩ a hs
          refine ⟨hm.sub sub_, ?_⟩
          refine hEach [1] (by kernel_rfl) (eDo hs rfl (Wnt.none rfl) rfl rfl (RunV.does kv_) ?_ eNil)
          clear hs a
          rintro _ _ ⟨rfl, rfl⟩ a hs
          refine ⟨hm.sub sub_, ?_⟩
          refine hEach [5] (by kernel_rfl) (eDo hs rfl (Wnt.none rfl) rfl rfl (d_append (A := qA) (n := rs.length) (c := qc) (news := [slv rA q.n rc]) hs rfl rfl rfl rfl rfl tab rfl rfl rfl rfl rfl hm mem_ hqr rfl (hm.ro (n := 1) mem_ (cutF_ok rfl)) rfl (by show (rs.length + 1) * 24 ≤ _; omega) (by omega)) ?_ eNil)
          clear hs
          rintro _ w1 ⟨qA', qc', qcs', rfl, hqr', hM⟩ a hs
          replace hm := hM _ rep_
          clear hM
          refine ⟨hm.sub sub_, ?_⟩
          refine hTake 6 hs rfl (by kernel_rfl) (Wnt.none rfl) rfl rfl (by intro w hm; replace hm : Mm _ _ _ w := hm; exact r_val hs tab rfl) (hm.sub (List.nil_sublist _)) ?_; clear hs a; intro a hs
          refine hEach [7] (by kernel_rfl) (eDoN hs rfl (Wnt.none rfl) rfl ds_ ?_ eNil)
          clear hs hm
          rintro - w27 hm a hs
          refine ⟨hm.sub sub_, ?_⟩
          refine hDone (by kernel_rfl) ?_
          have hvv : slv rA q.n rc = RW.v ⟨rA, rc, rcs, q.xs⟩ := by unfold RW.v; rw [hqx]
          rw [hvv, rows_snoc] at hqr'
          rw [← hA] at hs
          exact And.intro rfl ⟨⟨rA, rc, rcs, q.xs⟩, qA', qc', qcs', by unfold RW.ok; rw [hqx]; exact hrr, rfl, hqr', hs.sub (Has.all ⟨rfl, rfl, rfl, rfl, rfl, trivial⟩), hm.sub (List.Sublist.cons _ (List.Sublist.refl _))⟩
    clear hs hm a hqr
    rintro a w ⟨r, qA', qc', qcs', hro, hrx, hqr', hs, hm⟩
    repeat (first | ((with_reducible refine toL hm ?_); (first | refine oneV hs gw_ rfl rfl (by intro w hm; (first | exact kv_ | exact r_b2s hs rfl rfl tab rfl rfl rfl rfl rfl rfl (by first | exact Fr.rd' hm.fr (by assumption) | exact Mm.rd_row hm mem_ (by assumption)) (by assumption))) ?_ | refine oneN hs rfl rfl rfl rfl rfl rfl rfl ?_ | refine oneU hs rfl rfl rfl rfl rfl rfl ?_); clear hs a; intro a hs) | ((with_reducible apply lCons); first | (refine dv hs gw_ rfl rfl da_ ?_; clear hs hm a; rintro _ w ⟨g, rfl, -, hm⟩ a hs) | (refine stn hs rfl rfl ds_ ?_; clear hs hm a; rintro - w hm a hs) ) | (with_reducible first | apply lNilThen | apply lNilBlock | apply lNil | apply wp_seq | apply wp_region_lit | apply wp_block | apply cExit | apply cRet | apply cSkip | apply gThen | apply gBlock | apply eThen | apply eBlockHit | refine eBlock rfl ?_ | apply rThen | apply rBlock) | ((with_reducible apply cCond); first | refine cTrue hs rfl bd_ ?_ | refine cFalse hs rfl bd_ ?_))
    refine ⟨⟨rs ++ [r], qA', qc', qcs'⟩, by dsimp only; rw [List.length_append, List.length_singleton]; omega, by dsimp only; rw [List.length_append, List.length_singleton]; omega, ?_, ?_, ?_, take_snoc_xs hab hlt (by rw [hrx, hq]), ?_⟩
    · dsimp only
      rw [List.length_append, List.length_singleton]
      exact hs.sub (Has.all ⟨rfl, rfl, rfl, rfl, rfl, trivial⟩)
    · dsimp only
      rw [List.length_append, List.length_singleton]
      exact cp_perm hm
    · dsimp only
      rw [List.length_append, List.length_singleton]
      exact hqr'
    · intro z hz
      rcases List.mem_append.1 hz with hz | hz
      · exact hok z hz
      · rcases List.mem_singleton.1 hz with rfl; exact hro
  · have hln : rs.length = x.qs.length := by omega
    repeat (first | ((with_reducible refine toL hm ?_); (first | refine oneV hs gw_ rfl rfl (by intro w hm; (first | exact kv_ | exact r_b2s hs rfl rfl tab rfl rfl rfl rfl rfl rfl (by first | exact Fr.rd' hm.fr (by assumption) | exact Mm.rd_row hm mem_ (by assumption)) (by assumption))) ?_ | refine oneN hs rfl rfl rfl rfl rfl rfl rfl ?_ | refine oneU hs rfl rfl rfl rfl rfl rfl ?_); clear hs a; intro a hs) | ((with_reducible apply lCons); first | (refine dv hs gw_ rfl rfl da_ ?_; clear hs hm a; rintro _ w ⟨g, rfl, -, hm⟩ a hs) | (refine stn hs rfl rfl ds_ ?_; clear hs hm a; rintro - w hm a hs) ) | (with_reducible first | apply lNilThen | apply lNilBlock | apply lNil | apply wp_seq | apply wp_region_lit | apply wp_block | apply cExit | apply cRet | apply cSkip | apply gThen | apply gBlock | apply eThen | apply eBlockHit | refine eBlock rfl ?_ | apply rThen | apply rBlock) | ((with_reducible apply cCond); first | refine cTrue hs rfl bd_ ?_ | refine cFalse hs rfl bd_ ?_))
    rw [hln, List.take_length] at hab
    refine gRetN tab hs rfl (.cons (.cells rfl rfl rfl rfl (hm.ro (k := 0) (n := 2) (g := g2) mem_ (cutF_ok rfl))) .nil) ⟨⟨⟨oA, oc, ocs, x.o.xs⟩, qA, qc, qcs, rs⟩, ?_, ⟨by unfold RW.ok; rw [hon]; exact hor, hqr, hok⟩, by unfold KO.ab KS.ab; rw [hab], hln, hm.new ?_, hm.fr⟩
    · unfold KO.v RW.v
      dsimp only
      rw [hon]
      rfl
    · unfold KO.hps
      dsimp only
      exact List.Sublist.cons _ (List.Sublist.cons_cons _ (List.Sublist.cons_cons _ (List.Sublist.cons _ (List.Sublist.refl _))))
end Go.Proofs.Ytfcmejcmijjnpaa
