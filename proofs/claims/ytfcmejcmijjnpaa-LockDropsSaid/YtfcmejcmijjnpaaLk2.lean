/- Copies of locks, by the program and by the reference. -/
import Derived.Test.YtfcmejcmijjnpaaLk
namespace Go.Proofs.Ytfcmejcmijjnpaa
open Go.RowKit

theorem vals_one (qs : List IS) : (qs.map IS.v).all (·.oneCell') = true := by
  rw [List.all_eq_true]
  intro v hv
  obtain ⟨q, _, rfl⟩ := List.mem_map.1 hv
  rfl
theorem ints_one (xs : List Int) : (ints xs).all (·.oneCell') = true := by
  rw [List.all_eq_true]
  intro v hv
  obtain ⟨q, _, rfl⟩ := List.mem_map.1 hv
  rfl
/-- rows that are done, behind them what stood there -/
def rowsTo (rs : List RW) (qs : List IS) : List Value := rs.map RW.v ++ (qs.drop rs.length).map IS.v
theorem rowsTo_len {rs : List RW} {qs : List IS} (h : rs.length ≤ qs.length) : (rowsTo rs qs).length = qs.length := by
  simp [rowsTo]; omega
theorem rowsTo_at {rs : List RW} {qs : List IS} (h : rs.length < qs.length) : (rowsTo rs qs)[rs.length]? = some (qs[rs.length]).v := by
  unfold rowsTo
  rw [List.getElem?_append_right (by simp), List.length_map, Nat.sub_self, List.getElem?_map, List.getElem?_drop]
  simp [h]
theorem rowsTo_set {rs : List RW} {qs : List IS} (h : rs.length < qs.length) (r : RW) : (rowsTo rs qs).set rs.length r.v = rowsTo (rs ++ [r]) qs := by
  unfold rowsTo
  rw [List.set_append_right _ _ (by simp), List.length_map, Nat.sub_self, List.drop_eq_getElem_cons h, List.map_cons, List.set_cons_zero, List.map_append, List.length_append, List.append_assoc]
  rfl
theorem rowsTo_end {rs : List RW} {qs : List IS} (h : rs.length = qs.length) : rowsTo rs qs = rs.map RW.v := by
  simp [rowsTo, h]
theorem take_snoc_xs {rs : List RW} {qs : List IS} {r : RW} (h : rs.map RW.xs = (qs.take rs.length).map IS.xs) (hl : rs.length < qs.length) (hr : r.xs = (qs[rs.length]).xs) : (rs ++ [r]).map RW.xs = (qs.take (rs ++ [r]).length).map IS.xs := by
  rw [List.map_append, h, List.length_append, List.length_singleton, List.take_succ_eq_append_getElem hl, List.map_append]
  simp [hr]
structure CpX where
  rs : List RW
  qcs : List Value
theorem cp_perm {S : Nat → Prop} {w0 w : World} {L : List Hp} {rs : List RW} {r : RW} (hm : Mm S w0 (r.hp :: (L ++ rs.map RW.hp)) w) : Mm S w0 (L ++ (rs ++ [r]).map RW.hp) w := by
  refine hm.perm ?_
  rw [List.map_append, ← List.append_assoc]
  exact List.perm_append_comm (l₁ := L ++ rs.map RW.hp) (l₂ := [r.hp])
set_option maxHeartbeats 2000000 in
theorem cpd_c (x : KS) (wB : World) (hx : x.ok wB) (hsm : x.sm) : Ret Try.prog 19 [x.v] wB (fun u w' => ∃ y : KO, u = y.v ∧ y.ok ∧ y.ab = x.ab ∧ y.rs.length = x.qs.length ∧ New wB w' y.hps ∧ Pu wB w') := by
  have hc1 := fun w (h : x.ok w) => cln_c x.o.A x.o.n x.o.c (ints x.o.xs) w (by rw [ints_len]; exact h.o.1) h.o.2 (ints_one _) (by have := hsm.o; omega)
  have hc2 := fun w (h : x.ok w) => clq_c x.qA x.qs.length x.qc (x.qs.map IS.v) w (by rw [List.length_map]) h.q (vals_one _) (by have := hsm.q; omega)
  unfold KS.v IS.v at *
  refine enterR Try.func19 rfl rfl rfl fun a hs hm => ?_
  repeat (first | ((with_reducible refine toL hm ?_); (first | refine oneV hs gw_ rfl rfl (by intro w hm; exact kv_) ?_ | refine oneN hs rfl rfl rfl rfl rfl rfl rfl ?_ | refine oneU hs rfl rfl rfl rfl rfl rfl ?_); clear hs a; intro a hs) | ((with_reducible apply lCons); first | (refine dv hs gw_ rfl rfl da_ ?_; clear hs hm a; rintro _ w ⟨g, rfl, -, hm⟩ a hs) | (refine stn hs rfl rfl ds_ ?_; clear hs hm a; rintro - w hm a hs) ) | (with_reducible first | apply lNilThen | apply lNilBlock | apply lNil | apply wp_seq | apply wp_region_lit | apply wp_block | apply cExit | apply cRet | apply cSkip | apply gThen | apply gBlock | apply eThen | apply eBlockHit | refine eBlock rfl ?_ | apply rThen | apply rBlock) | ((with_reducible apply cCond); first | refine cTrue hs rfl bd_ ?_ | refine cFalse hs rfl bd_ ?_))
  obtain ⟨g1, en_⟩ := hs.pt 1 (by exact rfl); subst en_
  obtain ⟨g2, en_⟩ := hs.pt 2 (by exact rfl); subst en_
  refine cMid (fun a w => ∃ (g3 : Nat) (oA : Option Nat) (oc : Nat) (ocs : List Value) (qA : Option Nat) (qc : Nat) (qcs : List Value), Row oA x.o.n oc 1 (ints x.o.xs) ocs ∧ Row qA x.qs.length qc 1 (x.qs.map IS.v) qcs ∧ Sl Try.f19.ntmps [(2, .pointer (some ⟨g2, 0, none⟩)), (3, .pointer (some ⟨g3, 0, none⟩))] a ∧ Mm (fun _ => False) wB [⟨some g3, 27, [slv oA x.o.n oc, slv qA x.qs.length qc]⟩, ⟨qA, 22, qcs⟩, ⟨oA, 3, ocs⟩, ⟨some g2, 27, [.slice none 0 0, .slice none 0 0]⟩] w) ?_ ?_
  · skip
    refine cDraw (n := 9) [⟨some g1, 27, [.slice x.o.A x.o.n x.o.c, .slice x.qA x.qs.length x.qc]⟩] hm rfl rfl ?_
    clear hm
    intro w2 hm
    refine hTake 0 hs rfl (by kernel_rfl) (Wnt.none rfl) rfl rfl (by intro w hm; replace hm : Mm _ _ _ w := hm; exact r_val hs tab rfl) (hm.sub sub_) ?_; clear hs a; intro a hs
    refine hTake 1 hs rfl (by kernel_rfl) (Wnt.none rfl) rfl rfl (by intro w hm; replace hm : Mm _ _ _ w := hm; exact kl_) (hm.sub sub_) ?_; clear hs a; intro a hs
    refine hTake 3 hs rfl (by kernel_rfl) (Wnt.none rfl) rfl rfl (by intro w hm; replace hm : Mm _ _ _ w := hm; exact r_val hs tab rfl) (hm.sub sub_) ?_; clear hs a; intro a hs
    refine hTake 4 hs rfl (by kernel_rfl) (Wnt.none rfl) rfl rfl (by intro w hm; replace hm : Mm _ _ _ w := hm; exact kl_) (hm.sub sub_) ?_; clear hs a; intro a hs
    refine hEach [2, 7] (by kernel_rfl) (eDo hs rfl (Wnt.none rfl) rfl rfl (by exact d_call hs rfl rfl rfl (pl 28 rfl) ((hc1 _ (hx.pu hm.fr)))) ?_ (eDo hs rfl (Wnt.none rfl) rfl rfl (by exact d_alloc rfl tab rfl rfl hm) ?_ eNil))
    · skip
      clear hs
      rintro _ w1 ⟨oA, oc, ocs, rfl, hor, hN, hf⟩ a hs
      replace hm := hm.gain hf hN
      clear hN hf
      refine ⟨hm.sub sub_, ?_⟩
      refine hEach [5, 7] (by kernel_rfl) (eDo hs rfl (Wnt.none rfl) rfl rfl (by exact d_call hs rfl rfl rfl (pl 29 rfl) ((hc2 _ (hx.pu hm.fr)))) ?_ (eDo hs rfl (Wnt.none rfl) rfl rfl (by exact d_alloc rfl tab rfl rfl hm) ?_ eNil))
      · skip
        clear hs
        rintro _ w1 ⟨qA, qc, qcs, rfl, hqr, hN, hf⟩ a hs
        replace hm := hm.gain hf hN
        clear hN hf
        refine ⟨hm.sub sub_, ?_⟩
        refine hTake 6 hs rfl (by kernel_rfl) (Wnt.none rfl) rfl rfl (by intro w hm; replace hm : Mm _ _ _ w := hm; exact r_val hs tab rfl) (hm.sub sub_) ?_; clear hs a; intro a hs
        refine hEach [7] (by kernel_rfl) (eDo hs rfl (Wnt.none rfl) rfl rfl (by exact d_alloc rfl tab rfl rfl hm) ?_ eNil)
        clear hs hm a
        rintro _ w27 ⟨g3, rfl, -, hm⟩ a hs
        refine ⟨hm.sub sub_, ?_⟩
        refine hEach [8] (by kernel_rfl) (eDoN hs rfl (Wnt.none rfl) rfl ds_ ?_ eNil)
        clear hs hm
        rintro - w28 hm a hs
        refine ⟨hm.sub sub_, ?_⟩
        refine hDone (by kernel_rfl) ?_
        refine And.intro rfl ⟨g3, oA, oc, ocs, qA, qc, qcs, hor, hqr, hs.sub (Has.all ⟨rfl, rfl, trivial⟩), ?_⟩
        first | exact hm.sel [0, 1, 2, 3] (by decide) rfl | exact hm.sel [1, 0, 2, 3] (by decide) rfl | exact hm.sel [2, 0, 1, 3] (by decide) rfl
      · skip
        clear hs hm a
        rintro _ w27 ⟨g3, rfl, -, hm⟩ a hs
        refine ⟨hm.sub sub_, ?_⟩
        refine hEach [5] (by kernel_rfl) (eDo hs rfl (Wnt.none rfl) rfl rfl (by exact d_call hs rfl rfl rfl (pl 29 rfl) ((hc2 _ (hx.pu hm.fr)))) ?_ eNil)
        clear hs
        rintro _ w1 ⟨qA, qc, qcs, rfl, hqr, hN, hf⟩ a hs
        replace hm := hm.gain hf hN
        clear hN hf
        refine ⟨hm.sub sub_, ?_⟩
        refine hTake 6 hs rfl (by kernel_rfl) (Wnt.none rfl) rfl rfl (by intro w hm; replace hm : Mm _ _ _ w := hm; exact r_val hs tab rfl) (hm.sub sub_) ?_; clear hs a; intro a hs
        refine hEach [8] (by kernel_rfl) (eDoN hs rfl (Wnt.none rfl) rfl ds_ ?_ eNil)
        clear hs hm
        rintro - w28 hm a hs
        refine ⟨hm.sub sub_, ?_⟩
        refine hDone (by kernel_rfl) ?_
        refine And.intro rfl ⟨g3, oA, oc, ocs, qA, qc, qcs, hor, hqr, hs.sub (Has.all ⟨rfl, rfl, trivial⟩), ?_⟩
        first | exact hm.sel [0, 1, 2, 3] (by decide) rfl | exact hm.sel [1, 0, 2, 3] (by decide) rfl | exact hm.sel [2, 0, 1, 3] (by decide) rfl
    · skip
      clear hs hm a
      rintro _ w27 ⟨g3, rfl, -, hm⟩ a hs
      refine ⟨hm.sub sub_, ?_⟩
      refine hEach [2] (by kernel_rfl) (eDo hs rfl (Wnt.none rfl) rfl rfl (by exact d_call hs rfl rfl rfl (pl 28 rfl) ((hc1 _ (hx.pu hm.fr)))) ?_ eNil)
      clear hs
      rintro _ w1 ⟨oA, oc, ocs, rfl, hor, hN, hf⟩ a hs
      replace hm := hm.gain hf hN
      clear hN hf
      refine ⟨hm.sub sub_, ?_⟩
      refine hEach [5] (by kernel_rfl) (eDo hs rfl (Wnt.none rfl) rfl rfl (by exact d_call hs rfl rfl rfl (pl 29 rfl) ((hc2 _ (hx.pu hm.fr)))) ?_ eNil)
      clear hs
      rintro _ w1 ⟨qA, qc, qcs, rfl, hqr, hN, hf⟩ a hs
      replace hm := hm.gain hf hN
      clear hN hf
      refine ⟨hm.sub sub_, ?_⟩
      refine hTake 6 hs rfl (by kernel_rfl) (Wnt.none rfl) rfl rfl (by intro w hm; replace hm : Mm _ _ _ w := hm; exact r_val hs tab rfl) (hm.sub sub_) ?_; clear hs a; intro a hs
      refine hEach [8] (by kernel_rfl) (eDoN hs rfl (Wnt.none rfl) rfl ds_ ?_ eNil)
      clear hs hm
      rintro - w28 hm a hs
      refine ⟨hm.sub sub_, ?_⟩
      refine hDone (by kernel_rfl) ?_
      refine And.intro rfl ⟨g3, oA, oc, ocs, qA, qc, qcs, hor, hqr, hs.sub (Has.all ⟨rfl, rfl, trivial⟩), ?_⟩
      first | exact hm.sel [0, 1, 2, 3] (by decide) rfl | exact hm.sel [1, 0, 2, 3] (by decide) rfl | exact hm.sel [2, 0, 1, 3] (by decide) rfl
  clear hs hm a hc1 hc2
  rintro a w ⟨g3, oA, oc, ocs, qA, qc, qcs, hor, hqr, hs, hm⟩
  repeat (first | ((with_reducible refine toL hm ?_); (first | refine oneV hs gw_ rfl rfl (by intro w hm; exact kv_) ?_ | refine oneN hs rfl rfl rfl rfl rfl rfl rfl ?_ | refine oneU hs rfl rfl rfl rfl rfl rfl ?_); clear hs a; intro a hs) | ((with_reducible apply lCons); first | (refine dv hs gw_ rfl rfl da_ ?_; clear hs hm a; rintro _ w ⟨g, rfl, -, hm⟩ a hs) | (refine stn hs rfl rfl ds_ ?_; clear hs hm a; rintro - w hm a hs) ) | (with_reducible first | apply lNilThen | apply lNilBlock | apply lNil | apply wp_seq | apply wp_region_lit | apply wp_block | apply cExit | apply cRet | apply cSkip | apply gThen | apply gBlock | apply eThen | apply eBlockHit | refine eBlock rfl ?_ | apply rThen | apply rBlock) | ((with_reducible apply cCond); first | refine cTrue hs rfl bd_ ?_ | refine cFalse hs rfl bd_ ?_))
  obtain ⟨L, hL⟩ : ∃ L : List Hp, L = [⟨oA, 3, ocs⟩, ⟨some g2, 27, [.slice none 0 0, .slice none 0 0]⟩] := ⟨_, rfl⟩
  refine cLoop (X := CpX) (fun X a w' => X.rs.length ≤ x.qs.length ∧ Sl Try.f19.ntmps [(2, .pointer (some ⟨g2, 0, none⟩)), (3, .pointer (some ⟨g3, 0, none⟩)), (14, slv qA x.qs.length qc), (15, .int .i64 (x.qs.length : Int)), (16, .int .i64 (X.rs.length : Int))] a ∧ Mm (fun _ => False) wB ([⟨some g3, 27, [slv oA x.o.n oc, slv qA x.qs.length qc]⟩, ⟨qA, 22, X.qcs⟩, ⟨oA, 3, ocs⟩, ⟨some g2, 27, [.slice none 0 0, .slice none 0 0]⟩] ++ X.rs.map RW.hp) w' ∧ Row qA x.qs.length qc 1 (rowsTo X.rs x.qs) X.qcs ∧ X.rs.map RW.xs = (x.qs.take X.rs.length).map IS.xs ∧ ∀ r ∈ X.rs, r.ok) (fun X => x.qs.length - X.rs.length) ⟨[], qcs⟩ ⟨Nat.zero_le _, hs.sub (Has.all ⟨rfl, rfl, rfl, rfl, rfl, trivial⟩), hm, hqr, rfl, fun r hr => by cases hr⟩ ?_
  clear hs hm a hqr hL
  rintro ⟨rs, qcs⟩ a w' ⟨hlen, hs, hm, hqr, hab, hok⟩
  dsimp only at *
  by_cases hlt : rs.length < x.qs.length
  · obtain ⟨gq, rfl⟩ := hqr.some_ (by omega)
    obtain ⟨q, hq⟩ : ∃ q, q = x.qs[rs.length] := ⟨_, rfl⟩
    have hqm : q ∈ x.qs := by rw [hq]; exact List.getElem_mem hlt
    have hcell : qcs[rs.length]? = some (.slice q.A q.n q.c) := hqr.get (by rw [rowsTo_at hlt, hq]; rfl)
    have hqi : rs.length < qcs.length := by rw [hqr.len]; have := hqr.le; omega
    have hqo := hx.qs q hqm
    have hqn := hsm.qs q hqm
    have hq1 := hsm.q
    have hc1 := fun w (h : q.ok w) => cln_c q.A q.n q.c (ints q.xs) w (by rw [ints_len]; exact h.1) h.2 (ints_one _) (by omega)
    repeat (first | ((with_reducible refine toL hm ?_); (first | refine oneV hs gw_ rfl rfl (by intro w hm; exact kv_) ?_ | refine oneN hs rfl rfl rfl rfl rfl rfl rfl ?_ | refine oneU hs rfl rfl rfl rfl rfl rfl ?_); clear hs a; intro a hs) | ((with_reducible apply lCons); first | (refine dv hs gw_ rfl rfl da_ ?_; clear hs hm a; rintro _ w ⟨g, rfl, -, hm⟩ a hs) | (refine stn hs rfl rfl ds_ ?_; clear hs hm a; rintro - w hm a hs) ) | (with_reducible first | apply lNilThen | apply lNilBlock | apply lNil | apply wp_seq | apply wp_region_lit | apply wp_block | apply cExit | apply cRet | apply cSkip | apply gThen | apply gBlock | apply eThen | apply eBlockHit | refine eBlock rfl ?_ | apply rThen | apply rBlock) | ((with_reducible apply cCond); first | refine cTrue hs rfl bd_ ?_ | refine cFalse hs rfl bd_ ?_))
    refine cMid (fun a w => ∃ r : RW, r.ok ∧ r.xs = q.xs ∧ Sl Try.f19.ntmps [(2, .pointer (some ⟨g2, 0, none⟩)), (3, .pointer (some ⟨g3, 0, none⟩)), (14, slv (some gq) x.qs.length qc), (15, .int .i64 (x.qs.length : Int)), (16, .int .i64 (rs.length : Int))] a ∧ Mm (fun _ => False) wB (r.hp :: ([⟨some g3, 27, [slv oA x.o.n oc, slv (some gq) x.qs.length qc]⟩, ⟨some gq, 22, qcs.set rs.length r.v⟩, ⟨oA, 3, ocs⟩, ⟨some g2, 27, [.slice none 0 0, .slice none 0 0]⟩] ++ rs.map RW.hp)) w) ?_ ?_
    · skip
      refine cDraw (n := 7) [⟨some g3, 27, [slv oA x.o.n oc, slv (some gq) x.qs.length qc]⟩] hm rfl rfl ?_
      clear hm
      intro w2 hm
      refine hTake 0 hs rfl (by kernel_rfl) (Wnt.none rfl) rfl rfl (by intro w hm; replace hm : Mm _ _ _ w := hm; exact r_val hs tab rfl) (hm.sub sub_) ?_; clear hs a; intro a hs
      refine hTake 1 hs rfl (by kernel_rfl) (Wnt.none rfl) rfl rfl (by intro w hm; replace hm : Mm _ _ _ w := hm; exact kl_) (hm.sub sub_) ?_; clear hs a; intro a hs
      refine hTake 2 hs rfl (by kernel_rfl) (Wnt.none rfl) rfl rfl (by intro w hm; replace hm : Mm _ _ _ w := hm; exact r_val hs tab rfl) (hm.sub sub_) ?_; clear hs a; intro a hs
      refine hTake 3 hs rfl (by kernel_rfl) (Wnt.none rfl) rfl rfl (by intro w hm; replace hm : Mm _ _ _ w := hm; exact r_val hs tab rfl) (hm.sub sub_) ?_; clear hs a; intro a hs
      refine hEach [4] (by kernel_rfl) (eDo hs rfl (Wnt.none rfl) rfl rfl (by exact d_call hs rfl rfl rfl (pl 28 rfl) ((hc1 _ (hqo.pu hm.fr)))) ?_ eNil)
      clear hs
      rintro _ w1 ⟨rA, rc, rcs, rfl, hrr, hN, hf⟩ a hs
      replace hm := hm.gain hf hN
      clear hN hf
      refine ⟨hm.sub sub_, ?_⟩
      refine hTake 5 hs rfl (by kernel_rfl) (Wnt.none rfl) rfl rfl (by intro w hm; replace hm : Mm _ _ _ w := hm; (first | exact r_iz hs tab rfl rfl (by omega) | exact r_iy hs tab rfl rfl (by omega))) (hm.sub sub_) ?_; clear hs a; intro a hs
      refine hEach [6] (by kernel_rfl) (eDoN hs rfl (Wnt.none rfl) rfl ds_ ?_ eNil)
      clear hs hm
      rintro - w26 hm a hs
      refine ⟨hm.sub sub_, ?_⟩
      refine hDone (by kernel_rfl) ?_
      exact And.intro rfl ⟨⟨rA, rc, rcs, q.xs⟩, by unfold RW.ok; rw [hqo.1]; exact hrr, rfl, hs.sub (Has.all ⟨rfl, rfl, rfl, rfl, rfl, trivial⟩), by unfold RW.hp RW.v; rw [hqo.1]; exact hm⟩
    clear hs hm a
    rintro a w ⟨r, hro, hrx, hs, hm⟩
    repeat (first | ((with_reducible refine toL hm ?_); (first | refine oneV hs gw_ rfl rfl (by intro w hm; exact kv_) ?_ | refine oneN hs rfl rfl rfl rfl rfl rfl rfl ?_ | refine oneU hs rfl rfl rfl rfl rfl rfl ?_); clear hs a; intro a hs) | ((with_reducible apply lCons); first | (refine dv hs gw_ rfl rfl da_ ?_; clear hs hm a; rintro _ w ⟨g, rfl, -, hm⟩ a hs) | (refine stn hs rfl rfl ds_ ?_; clear hs hm a; rintro - w hm a hs) ) | (with_reducible first | apply lNilThen | apply lNilBlock | apply lNil | apply wp_seq | apply wp_region_lit | apply wp_block | apply cExit | apply cRet | apply cSkip | apply gThen | apply gBlock | apply eThen | apply eBlockHit | refine eBlock rfl ?_ | apply rThen | apply rBlock) | ((with_reducible apply cCond); first | refine cTrue hs rfl bd_ ?_ | refine cFalse hs rfl bd_ ?_))
    refine ⟨⟨rs ++ [r], qcs.set rs.length r.v⟩, by dsimp only; rw [List.length_append, List.length_singleton]; omega, by dsimp only; rw [List.length_append, List.length_singleton]; omega, ?_, cp_perm hm, ?_, take_snoc_xs hab hlt (by rw [hrx, hq]), ?_⟩
    · dsimp only
      rw [List.length_append, List.length_singleton]
      exact hs.sub (Has.all ⟨rfl, rfl, rfl, rfl, rfl, trivial⟩)
    · dsimp only
      rw [← rowsTo_set hlt]
      exact hqr.set _ _
    · intro z hz
      rcases List.mem_append.1 hz with hz | hz
      · exact hok z hz
      · rcases List.mem_singleton.1 hz with rfl; exact hro
  · have hln : rs.length = x.qs.length := by omega
    repeat (first | ((with_reducible refine toL hm ?_); (first | refine oneV hs gw_ rfl rfl (by intro w hm; exact kv_) ?_ | refine oneN hs rfl rfl rfl rfl rfl rfl rfl ?_ | refine oneU hs rfl rfl rfl rfl rfl rfl ?_); clear hs a; intro a hs) | ((with_reducible apply lCons); first | (refine dv hs gw_ rfl rfl da_ ?_; clear hs hm a; rintro _ w ⟨g, rfl, -, hm⟩ a hs) | (refine stn hs rfl rfl ds_ ?_; clear hs hm a; rintro - w hm a hs) ) | (with_reducible first | apply lNilThen | apply lNilBlock | apply lNil | apply wp_seq | apply wp_region_lit | apply wp_block | apply cExit | apply cRet | apply cSkip | apply gThen | apply gBlock | apply eThen | apply eBlockHit | refine eBlock rfl ?_ | apply rThen | apply rBlock) | ((with_reducible apply cCond); first | refine cTrue hs rfl bd_ ?_ | refine cFalse hs rfl bd_ ?_))
    rw [hln, List.take_length] at hab
    rw [rowsTo_end hln] at hqr
    have hon := hx.o.1
    refine gRetN tab hs rfl (.cons (.cells rfl rfl rfl rfl (hm.ro (k := 0) (n := 2) (g := g2) mem_ (cutF_ok rfl))) .nil) ⟨⟨⟨oA, oc, ocs, x.o.xs⟩, qA, qc, qcs, rs⟩, ?_, ⟨by unfold RW.ok; rw [hon]; exact hor, by show Row qA rs.length qc 1 _ _; rw [hln]; exact hqr, hok⟩, by unfold KO.ab KS.ab; rw [hab], hln, hm.new ?_, hm.fr⟩
    · unfold KO.v RW.v
      dsimp only
      rw [hon, hln]
      rfl
    · unfold KO.hps
      dsimp only
      exact List.Sublist.cons _ (List.Sublist.cons_cons _ (List.Sublist.cons_cons _ (List.Sublist.cons _ (List.Sublist.refl _))))
end Go.Proofs.Ytfcmejcmijjnpaa
