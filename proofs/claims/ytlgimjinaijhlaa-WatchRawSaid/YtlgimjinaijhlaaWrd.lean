/- Equal watches; clones; what a step is; the program's Step. -/
import Derived.Test.YtlgimjinaijhlaaWrc
import Derived.Scope
namespace Go.Proofs.Ytlgimjinaijhlaa
open Go.RowKit


theorem ints_one (xs : List Int) : (ints xs).all (·.oneCell') = true := by
  rw [List.all_eq_true]
  intro v hv
  obtain ⟨q, _, rfl⟩ := List.mem_map.1 hv
  rfl
theorem cLabel {P : Program} {l : Nat} {Q : Exit → Act → World → Prop} {a : Act} {w : World} (h : Goes Q .normal a w) : (Code.label l).wp P Q a w := wp_label h
theorem rNoGoto {Q : Exit → Act → World → Prop} {a : Act} {w : World} (h : Goes Q .ret a w) : Goes (Exit.noGoto Q) .ret a w := h
theorem weq_c (x y : Wt) (w : World) (hx : x.ok w) (hy : y.ok w) (h1 : x.m.n ≤ 1000) (h2 : y.m.n ≤ 1000) : Ret Try.prog 12 [x.v, y.v] w (fun u w' => u = .bool (decide (x.ab = y.ab)) ∧ Pu w w') := by
  have hsm := fun w'' (hf : Pu w w'') => wsam_c x.m y.m w'' (IS.ok.pu hx hf) (IS.ok.pu hy hf) h1 h2
  obtain ⟨k, ⟨A, n, c, xs⟩⟩ := x
  obtain ⟨k2, ⟨A2, n2, c2, xs2⟩⟩ := y
  unfold Wt.v IS.v Wt.ab at *
  dsimp only at *
  by_cases hk : k = k2
  · have e : decide (((k, xs) : Int × List Int) = (k2, xs2)) = decide (xs = xs2) := by subst hk; simp
    rw [e]
    generalize decide (xs = xs2) = b at *
    refine enterR Try.func12 rfl rfl rfl fun a hs hm => ?_
    repeat (first | ((with_reducible refine toL hm ?_); (first | refine oneV hs gw_ rfl rfl (by intro w hm; exact kvR_) ?_ | refine oneN hs rfl rfl rfl rfl rfl rfl rfl ?_ | refine oneU hs rfl rfl rfl rfl rfl rfl ?_); clear hs a; intro a hs) | ((with_reducible apply lCons); first | (refine dv hs gw_ rfl rfl da_ ?_; clear hs hm a; rintro _ w ⟨g, rfl, -, hm⟩ a hs) | (refine stn hs rfl rfl ds_ ?_; clear hs hm a; rintro - w hm a hs) | (refine dv hs gw_ rfl rfl (d_call hs rfl rfl rfl (pl 13 rfl) (hsm _ hm.fr)) ?_; clear hs a; rintro _ w ⟨rfl, hf⟩ a hs; replace hm := hm.pu hf; clear hf)) | (with_reducible first | apply lNilThen | apply lNilBlock | apply lNil | apply wp_seq | apply wp_region_lit | apply wp_block | apply cExit | apply cRet | apply cSkip | apply gThen | apply gBlock | apply eThen | apply eBlockHit | refine eBlock rfl ?_ | apply rThen | apply rBlock) | ((with_reducible apply cCond); first | refine cTrue hs rfl bd_ ?_ | refine cFalse hs rfl bd_ ?_))
    exact gRet1 hs rfl rfl ⟨rfl, hm.fr⟩
  · have e : decide (((k, xs) : Int × List Int) = (k2, xs2)) = false := by simp [hk]
    rw [e]
    refine enterR Try.func12 rfl rfl rfl fun a hs hm => ?_
    repeat (first | ((with_reducible refine toL hm ?_); (first | refine oneV hs gw_ rfl rfl (by intro w hm; exact kvR_) ?_ | refine oneN hs rfl rfl rfl rfl rfl rfl rfl ?_ | refine oneU hs rfl rfl rfl rfl rfl rfl ?_); clear hs a; intro a hs) | ((with_reducible apply lCons); first | (refine dv hs gw_ rfl rfl da_ ?_; clear hs hm a; rintro _ w ⟨g, rfl, -, hm⟩ a hs) | (refine stn hs rfl rfl ds_ ?_; clear hs hm a; rintro - w hm a hs) ) | (with_reducible first | apply lNilThen | apply lNilBlock | apply lNil | apply wp_seq | apply wp_region_lit | apply wp_block | apply cExit | apply cRet | apply cSkip | apply gThen | apply gBlock | apply eThen | apply eBlockHit | refine eBlock rfl ?_ | apply rThen | apply rBlock) | ((with_reducible apply cCond); first | refine cTrue hs rfl bd_ ?_ | refine cFalse hs rfl bd_ ?_))
    exact gRet1 hs rfl rfl ⟨rfl, hm.fr⟩
theorem wcln_c (A : Option Addr) (n c : Nat) (vs : List Value) (w : World) (hl : vs.length = n) (hr : Rd w w.heap.size A vs) (h1 : vs.all (·.oneCell') = true) (hn : n ≤ 1000000) :
    Ret Try.prog 20 [.slice A n c] w (fun u w' => ∃ (A' : Option Nat) (c' : Nat) (cs' : List Value), u = slv A' n c' ∧ Row A' n c' 1 vs cs' ∧ New w w' [⟨A', 3, cs'⟩] ∧ Pu w w') := by
  cases hA : A with
  | none =>
    subst hA
    have hv := hr.none_nil
    subst hv
    obtain rfl : n = 0 := hl.symm
    refine enterR Try.func20 rfl rfl rfl fun a hs hm => ?_
    repeat (first | ((with_reducible refine toL hm ?_); (first | refine oneV hs gw_ rfl rfl (by intro w hm; exact kvR_) ?_ | refine oneN hs rfl rfl rfl rfl rfl rfl rfl ?_ | refine oneU hs rfl rfl rfl rfl rfl rfl ?_); clear hs a; intro a hs) | ((with_reducible apply lCons); first | (refine dv hs gw_ rfl rfl da_ ?_; clear hs hm a; rintro _ w ⟨g, rfl, -, hm⟩ a hs) | (refine stn hs rfl rfl ds_ ?_; clear hs hm a; rintro - w hm a hs) ) | (with_reducible first | apply lNilThen | apply lNilBlock | apply lNil | apply wp_seq | apply wp_region_lit | apply wp_block | apply cExit | apply cRet | apply cSkip | apply gThen | apply gBlock | apply eThen | apply eBlockHit | refine eBlock rfl ?_ | apply rThen | apply rBlock) | ((with_reducible apply cCond); first | refine cTrue hs rfl bd_ ?_ | refine cFalse hs rfl bd_ ?_))
    exact gRet1 hs rfl rfl ⟨none, 0, [], rfl, Row.empty 1, New.none_ _ _ _, hm.fr⟩
  | some p =>
    subst hA
    refine enterR Try.func20 rfl rfl rfl fun a hs hm => ?_
    repeat (first | ((with_reducible refine toL hm ?_); (first | refine oneV hs gw_ rfl rfl (by intro w hm; exact kvR_) ?_ | refine oneN hs rfl rfl rfl rfl rfl rfl rfl ?_ | refine oneU hs rfl rfl rfl rfl rfl rfl ?_); clear hs a; intro a hs) | ((with_reducible apply lCons); first | (refine dv hs gw_ rfl rfl da_ ?_; clear hs hm a; rintro _ w ⟨g, rfl, -, hm⟩ a hs) | (refine stn hs rfl rfl ds_ ?_; clear hs hm a; rintro - w hm a hs) ) | (with_reducible first | apply lNilThen | apply lNilBlock | apply lNil | apply wp_seq | apply wp_region_lit | apply wp_block | apply cExit | apply cRet | apply cSkip | apply gThen | apply gBlock | apply eThen | apply eBlockHit | refine eBlock rfl ?_ | apply rThen | apply rBlock) | ((with_reducible apply cCond); first | refine cTrue hs rfl bd_ ?_ | refine cFalse hs rfl bd_ ?_))
    obtain ⟨g5, en_⟩ := hs.ps 5 (by exact rfl); subst en_
    refine dv hs (Wnt.none rfl) rfl rfl (d_appendS (A := some g5) (n := 0) (c := 0) (xs := []) (news := vs) hs rfl rfl rfl rfl tab rfl rfl rfl rfl rfl hm mem_ (Row.room0 g5 1) (by rw [hl]; exact (Nat.mul_one n).symm) (hm.fr.rd' hr) h1 (by show (0 + n) * 8 ≤ _; omega) (by omega)) ?_
    clear hs
    rintro _ w2 ⟨A', c', cs', rfl, hr2, hM⟩ a hs
    replace hm := hM _ rep_
    clear hM
    rw [Nat.zero_add, List.nil_append] at hr2
    rw [Nat.zero_add] at hs
    repeat (first | ((with_reducible refine toL hm ?_); (first | refine oneV hs gw_ rfl rfl (by intro w hm; exact kvR_) ?_ | refine oneN hs rfl rfl rfl rfl rfl rfl rfl ?_ | refine oneU hs rfl rfl rfl rfl rfl rfl ?_); clear hs a; intro a hs) | ((with_reducible apply lCons); first | (refine dv hs gw_ rfl rfl da_ ?_; clear hs hm a; rintro _ w ⟨g, rfl, -, hm⟩ a hs) | (refine stn hs rfl rfl ds_ ?_; clear hs hm a; rintro - w hm a hs) ) | (with_reducible first | apply lNilThen | apply lNilBlock | apply lNil | apply wp_seq | apply wp_region_lit | apply wp_block | apply cExit | apply cRet | apply cSkip | apply gThen | apply gBlock | apply eThen | apply eBlockHit | refine eBlock rfl ?_ | apply rThen | apply rBlock) | ((with_reducible apply cCond); first | refine cTrue hs rfl bd_ ?_ | refine cFalse hs rfl bd_ ?_))
    exact gRet1 hs rfl rfl ⟨A', c', cs', rfl, hr2, hm.new (List.Sublist.refl _), hm.fr⟩
/-- this replica did not answer -/
def missB (ins hrs : List Bool) (i : Nat) : Bool := ins.getD i false && !hrs.getD i false
def cellW (k : Int) (xs : List Int) (ins hrs : List Bool) (i : Nat) : Int := if missB ins hrs i && decide (xs.getD i 0 ≠ k) then xs.getD i 0 + 1 else 0
def lostB (k : Int) (xs : List Int) (ins hrs : List Bool) (i : Nat) : Bool := missB ins hrs i && decide (xs.getD i 0 = k)
def outW (k : Int) (xs : List Int) (ins hrs : List Bool) : List Int := (List.range xs.length).map (cellW k xs ins hrs)
def lostW (k : Int) (xs : List Int) (ins hrs : List Bool) (n : Nat) : List Int := ((List.range n).filter (lostB k xs ins hrs)).map (fun i : Nat => (i : Int))
/-- watch, who is given up, error -/
def stpW (k : Int) (xs : List Int) (ins hrs : List Bool) : List Int × List Int × Int :=
  if wchkF k xs ≠ 0 then (xs, [], wchkF k xs) else if ins.length ≠ xs.length ∨ hrs.length ≠ xs.length then (xs, [], 1) else (outW k xs ins hrs, lostW k xs ins hrs xs.length, 0)
theorem lostW_step (k : Int) (xs : List Int) (ins hrs : List Bool) (n : Nat) : lostW k xs ins hrs (n + 1) = lostW k xs ins hrs n ++ (if lostB k xs ins hrs n then [(n : Int)] else []) := by
  unfold lostW
  rw [List.range_succ, List.filter_append, List.map_append]
  congr 1
  cases h : lostB k xs ins hrs n <;> simp [h]
theorem lostW_le (k : Int) (xs : List Int) (ins hrs : List Bool) (n : Nat) : (lostW k xs ins hrs n).length ≤ n := by
  unfold lostW
  rw [List.length_map]
  have := List.length_filter_le (lostB k xs ins hrs) (List.range n)
  simpa using this
theorem outW_len (k : Int) (xs : List Int) (ins hrs : List Bool) : (outW k xs ins hrs).length = xs.length := by unfold outW; simp
theorem outW_get (k : Int) (xs : List Int) (ins hrs : List Bool) {i : Nat} (h : i < xs.length) : (outW k xs ins hrs)[i]'(by rw [outW_len]; exact h) = cellW k xs ins hrs i := by unfold outW; simp
structure StX where
  i : Nat
  os : List Int
  cs : List Value
  lA : Option Nat
  lc : Nat
  lcs : List Value
def StpWR (k : Int) (r : List Int × List Int × Int) (w : World) (u : Value) (w' : World) : Prop := ∃ (x : Wt) (l : IS), u = .tuple #[x.v, l.v, .int .i64 r.2.2] ∧ x.ok w' ∧ l.ok w' ∧ x.ab = (k, r.1) ∧ l.xs = r.2.1 ∧ Pu w w'
set_option maxHeartbeats 8000000 in
theorem wstp_c (x : Wt) (p q : TS) (wB : World) (hx : x.ok wB) (hp : p.ok wB) (hq : q.ok wB) (hn : x.m.n ≤ 1000) : Ret Try.prog 10 [x.v, p.v, q.v] wB (fun u w' => StpWR x.most (stpW x.most x.m.xs p.xs q.xs) wB u w') := by
  have hchk := fun w'' (hf : Pu wB w'') => wchk_c x w'' (Wt.ok.pu hx hf)
  have hcl := fun w'' (hf : Pu wB w'') => wcln_c x.m.A x.m.n x.m.c (ints x.m.xs) w'' (by rw [ints_len]; exact hx.1) (hf.rd' hx.2) (ints_one _) (by omega)
  obtain ⟨k, ⟨A, n, c, xs⟩⟩ := x
  obtain ⟨pA, pn, pc, ps⟩ := p
  obtain ⟨qA, qn, qc, qs⟩ := q
  have hl : xs.length = n := hx.1
  have hpl : ps.length = pn := hp.1
  have hql : qs.length = qn := hq.1
  unfold Wt.v IS.v TS.v at *
  dsimp only at *
  refine enterR Try.func10 rfl rfl rfl fun a hs hm => ?_
  repeat (first | ((with_reducible refine toL hm ?_); (first | refine oneV hs gw_ rfl rfl (by intro w hm; exact kvR_) ?_ | refine oneN hs rfl rfl rfl rfl rfl rfl rfl ?_ | refine oneU hs rfl rfl rfl rfl rfl rfl ?_); clear hs a; intro a hs) | ((with_reducible apply lCons); first | (refine dv hs gw_ rfl rfl da_ ?_; clear hs hm a; rintro _ w ⟨g, rfl, -, hm⟩ a hs) | (refine stn hs rfl rfl ds_ ?_; clear hs hm a; rintro - w hm a hs) ) | (with_reducible first | apply lNilThen | apply lNilBlock | apply lNil | apply wp_seq | apply wp_region_lit | apply wp_block | apply cExit | apply cRet | apply cSkip | apply gThen | apply gBlock | apply eThen | apply eBlockHit | refine eBlock rfl ?_ | apply rThen | apply rBlock) | ((with_reducible apply cCond); first | refine cTrue hs rfl bd_ ?_ | refine cFalse hs rfl bd_ ?_))
  apply wp_scope_straight
  repeat (first | ((with_reducible refine toL hm ?_); (first | refine oneV hs gw_ rfl rfl (by intro w hm; exact kvR_) ?_ | refine oneN hs rfl rfl rfl rfl rfl rfl rfl ?_ | refine oneU hs rfl rfl rfl rfl rfl rfl ?_); clear hs a; intro a hs) | ((with_reducible apply lCons); first | (refine dv hs gw_ rfl rfl da_ ?_; clear hs hm a; rintro _ w ⟨g, rfl, -, hm⟩ a hs) | (refine stn hs rfl rfl ds_ ?_; clear hs hm a; rintro - w hm a hs) ) | (with_reducible first | apply lNilThen | apply lNilBlock | apply lNil | apply wp_seq | apply wp_region_lit | apply wp_block | apply cExit | apply cRet | apply cSkip | apply gThen | apply gBlock | apply eThen | apply eBlockHit | refine eBlock rfl ?_ | apply rThen | apply rBlock) | ((with_reducible apply cCond); first | refine cTrue hs rfl bd_ ?_ | refine cFalse hs rfl bd_ ?_))
  obtain ⟨g3, en_⟩ := hs.pt 3 (by exact rfl); subst en_
  obtain ⟨g6, en_⟩ := hs.pt 6 (by exact rfl); subst en_
  refine cMid (fun a w => ∃ (g9 : Nat) (A' : Option Nat) (c' : Nat) (cs' : List Value), Row A' n c' 1 (ints xs) cs' ∧ Sl Try.f10.ntmps [(1, .slice pA pn pc), (2, .slice qA qn qc), (3, .pointer (some ⟨g3, 0, none⟩)), (6, .pointer (some ⟨g6, 0, none⟩)), (7, .slice none 0 0), (8, .int .i64 0), (9, .pointer (some ⟨g9, 0, none⟩))] a ∧ Mm (fun _ => False) wB [⟨some g9, 24, [.int .i64 k, slv A' n c']⟩, ⟨A', 3, cs'⟩, ⟨some g6, 24, [.int .i64 0, .slice none 0 0]⟩, ⟨some g3, 24, [.int .i64 k, .slice A n c]⟩] w) ?_ ?_
  · skip
    refine cDraw (n := 8) [⟨some g3, 24, [.int .i64 k, .slice A n c]⟩] hm rfl rfl ?_
    clear hm
    intro w2 hm
    refine hTake 0 hs rfl (by kernel_rfl) (Wnt.none rfl) rfl rfl (by intro w hm; replace hm : Mm _ _ _ w := hm; exact r_val hs tab rfl) (hm.sub sub_) ?_; clear hs a; intro a hs
    refine hTake 1 hs rfl (by kernel_rfl) (Wnt.none rfl) rfl rfl (by intro w hm; replace hm : Mm _ _ _ w := hm; exact klR_) (hm.sub sub_) ?_; clear hs a; intro a hs
    refine hTake 2 hs rfl (by kernel_rfl) (Wnt.none rfl) rfl rfl (by intro w hm; replace hm : Mm _ _ _ w := hm; exact r_val hs tab rfl) (hm.sub sub_) ?_; clear hs a; intro a hs
    refine hTake 3 hs rfl (by kernel_rfl) (Wnt.none rfl) rfl rfl (by intro w hm; replace hm : Mm _ _ _ w := hm; exact klR_) (hm.sub sub_) ?_; clear hs a; intro a hs
    refine hEach [4, 6] (by kernel_rfl) (eDo hs rfl (Wnt.none rfl) rfl rfl (by exact d_call hs rfl rfl rfl (pl 20 rfl) ((hcl _ hm.fr))) ?_ (eDo hs rfl (Wnt.none rfl) rfl rfl (by exact d_alloc rfl tab rfl rfl hm) ?_ eNil))
    · skip
      clear hs
      rintro _ w1 ⟨A', c', cs', rfl, hrow, hN, hf⟩ a hs
      replace hm := hm.gain hf hN
      clear hN hf
      refine ⟨hm.sub sub_, ?_⟩
      refine hTake 5 hs rfl (by kernel_rfl) (Wnt.none rfl) rfl rfl (by intro w hm; replace hm : Mm _ _ _ w := hm; exact r_val hs tab rfl) (hm.sub sub_) ?_; clear hs a; intro a hs
      refine hEach [6] (by kernel_rfl) (eDo hs rfl (Wnt.none rfl) rfl rfl (by exact d_alloc rfl tab rfl rfl hm) ?_ eNil)
      clear hs hm a
      rintro _ w26 ⟨g9, rfl, -, hm⟩ a hs
      refine ⟨hm.sub sub_, ?_⟩
      refine hEach [7] (by kernel_rfl) (eDoN hs rfl (Wnt.none rfl) rfl ds_ ?_ eNil)
      clear hs hm
      rintro - w27 hm a hs
      refine ⟨hm.sub sub_, ?_⟩
      refine hDone (by kernel_rfl) ?_
      refine And.intro rfl ⟨g9, A', c', cs', hrow, hs.sub (Has.all ⟨rfl, rfl, rfl, rfl, rfl, rfl, rfl, trivial⟩), ?_⟩
      first | exact hm.sel [0, 1, 2, 3] (by decide) rfl | exact hm.sel [1, 0, 2, 3] (by decide) rfl
    · skip
      clear hs hm a
      rintro _ w26 ⟨g9, rfl, -, hm⟩ a hs
      refine ⟨hm.sub sub_, ?_⟩
      refine hEach [4] (by kernel_rfl) (eDo hs rfl (Wnt.none rfl) rfl rfl (by exact d_call hs rfl rfl rfl (pl 20 rfl) ((hcl _ hm.fr))) ?_ eNil)
      clear hs
      rintro _ w1 ⟨A', c', cs', rfl, hrow, hN, hf⟩ a hs
      replace hm := hm.gain hf hN
      clear hN hf
      refine ⟨hm.sub sub_, ?_⟩
      refine hTake 5 hs rfl (by kernel_rfl) (Wnt.none rfl) rfl rfl (by intro w hm; replace hm : Mm _ _ _ w := hm; exact r_val hs tab rfl) (hm.sub sub_) ?_; clear hs a; intro a hs
      refine hEach [7] (by kernel_rfl) (eDoN hs rfl (Wnt.none rfl) rfl ds_ ?_ eNil)
      clear hs hm
      rintro - w27 hm a hs
      refine ⟨hm.sub sub_, ?_⟩
      refine hDone (by kernel_rfl) ?_
      refine And.intro rfl ⟨g9, A', c', cs', hrow, hs.sub (Has.all ⟨rfl, rfl, rfl, rfl, rfl, rfl, rfl, trivial⟩), ?_⟩
      first | exact hm.sel [0, 1, 2, 3] (by decide) rfl | exact hm.sel [1, 0, 2, 3] (by decide) rfl
  clear hs hm a
  rintro a w ⟨g9, A', c', cs', hrow, hs, hm⟩
  have hrl := hrow.len
  have hrle := hrow.le
  have hrd := hm.rd_row mem_ hrow
  generalize hck : wchkF k xs = e at *
  by_cases he : e = 0
  · subst he
    have hlim : 1 ≤ xs.length ∧ xs.length ≤ 5 ∧ 0 ≤ k ∧ k ≤ 20 := by
      by_cases h : 1 ≤ xs.length ∧ xs.length ≤ 5 ∧ 0 ≤ k ∧ k ≤ 20
      · exact h
      · rw [wchk_lim h] at hck; omega
    have hel : ∀ x ∈ xs, 0 ≤ x ∧ x ≤ k := fun x hxm => by
      by_cases h : xs.any (badB k) = true
      · rw [wchk_bad hlim h] at hck; omega
      · have h' := List.any_eq_false.1 (by simpa using h) x hxm
        unfold badB at h'
        simp at h'
        exact h'
    by_cases h1 : pn = n
    · by_cases h2 : qn = n
      · have hst : stpW k xs ps qs = (outW k xs ps qs, lostW k xs ps qs n, 0) := by unfold stpW; rw [hck, if_neg (by omega), if_neg (by omega), hl]
        rw [hst]
        clear hst hcl
        repeat (first | ((with_reducible refine toL hm ?_); (first | refine oneV hs gw_ rfl rfl (by intro w hm; exact kvR_) ?_ | refine oneN hs rfl rfl rfl rfl rfl rfl rfl ?_ | refine oneU hs rfl rfl rfl rfl rfl rfl ?_); clear hs a; intro a hs) | ((with_reducible apply lCons); first | (refine dv hs gw_ rfl rfl da_ ?_; clear hs hm a; rintro _ w ⟨g, rfl, -, hm⟩ a hs) | (refine stn hs rfl rfl ds_ ?_; clear hs hm a; rintro - w hm a hs) | (refine dv hs gw_ rfl rfl (d_call hs rfl rfl rfl (pl 14 rfl) (hchk _ hm.fr)) ?_; clear hs a; rintro _ w ⟨rfl, hf⟩ a hs; replace hm := hm.pu hf; clear hf)) | (with_reducible first | apply lNilThen | apply lNilBlock | apply lNil | apply wp_seq | apply wp_region_lit | apply wp_block | apply cExit | apply cRet | apply cSkip | apply gThen | apply gBlock | apply eThen | apply eBlockHit | refine eBlock rfl ?_ | apply rThen | apply rBlock) | ((with_reducible apply cCond); first | refine cTrue hs rfl bd_ ?_ | refine cFalse hs rfl bd_ ?_))
        apply cLabel
        repeat (first | ((with_reducible refine toL hm ?_); (first | refine oneV hs gw_ rfl rfl (by intro w hm; exact kvR_) ?_ | refine oneN hs rfl rfl rfl rfl rfl rfl rfl ?_ | refine oneU hs rfl rfl rfl rfl rfl rfl ?_); clear hs a; intro a hs) | ((with_reducible apply lCons); first | (refine dv hs gw_ rfl rfl da_ ?_; clear hs hm a; rintro _ w ⟨g, rfl, -, hm⟩ a hs) | (refine stn hs rfl rfl ds_ ?_; clear hs hm a; rintro - w hm a hs) ) | (with_reducible first | apply lNilThen | apply lNilBlock | apply lNil | apply wp_seq | apply wp_region_lit | apply wp_block | apply cExit | apply cRet | apply cSkip | apply gThen | apply gBlock | apply eThen | apply eBlockHit | refine eBlock rfl ?_ | apply rThen | apply rBlock) | ((with_reducible apply cCond); first | refine cTrue hs rfl bd_ ?_ | refine cFalse hs rfl bd_ ?_))
        replace hm := hm.zero 3
        refine cLoop (X := StX) (fun X a w' => Sl Try.f10.ntmps [(1, .slice pA pn pc), (2, .slice qA qn qc), (3, .pointer (some ⟨g3, 0, none⟩)), (6, .pointer (some ⟨g6, 0, none⟩)), (9, .pointer (some ⟨g9, 0, none⟩)), (11, slv X.lA (lostW k xs ps qs X.i).length X.lc), (42, .int .i64 (n : Int)), (43, .int .i64 (X.i : Int))] a ∧ Mm (fun _ => False) wB [⟨X.lA, 3, X.lcs⟩, ⟨some g9, 24, [.int .i64 k, slv A' n c']⟩, ⟨A', 3, X.cs⟩, ⟨some g6, 24, [.int .i64 0, .slice none 0 0]⟩, ⟨some g3, 24, [.int .i64 k, .slice A n c]⟩] w' ∧ X.i ≤ n ∧ X.os.length = n ∧ Row A' n c' 1 (ints X.os) X.cs ∧ Row X.lA (lostW k xs ps qs X.i).length X.lc 1 (ints (lostW k xs ps qs X.i)) X.lcs ∧ (∀ j, j < X.i → X.os[j]? = some (cellW k xs ps qs j)) ∧ ∀ j, X.i ≤ j → X.os[j]? = xs[j]?) (fun X => n - X.i) ⟨0, xs, cs', none, 0, []⟩ ⟨hs.sub (Has.all ⟨rfl, rfl, rfl, rfl, rfl, rfl, rfl, rfl, trivial⟩), hm, Nat.zero_le _, hl, hrow, Row.empty 1, fun j hj => absurd hj (Nat.not_lt_zero _), fun j _ => rfl⟩ ?_
        clear hs hm a hrow hrd hrl
        rintro ⟨i, os, cs, lA, lc, lcs⟩ a w' ⟨hs, hm, hi, hol, hrow, hlr, hlo, hhi⟩
        dsimp only at *
        have hll := lostW_le k xs ps qs i
        by_cases hlt : i < n
        · obtain ⟨ga, rfl⟩ := hrow.some_ (by omega)
          obtain ⟨b1, o1, hA1, hb1, r1⟩ := hp.2.ro (by unfold bools; rw [List.length_map]; dsimp only; omega)
          obtain ⟨b2, o2, hA2, hb2, r2⟩ := hq.2.ro (by unfold bools; rw [List.length_map]; dsimp only; omega)
          dsimp only at hA1 hA2 r1 r2
          subst hA1
          subst hA2
          have e1 := bools_some (xs := ps) (k := i) (by omega)
          have e2 := bools_some (xs := qs) (k := i) (by omega)
          have hmi : missB ps qs i = (ps[i] && !qs[i]) := by unfold missB; rw [List.getD_eq_getElem?_getD, List.getD_eq_getElem?_getD, List.getElem?_eq_getElem (by omega), List.getElem?_eq_getElem (by omega)]; rfl
          obtain ⟨x, hxi⟩ : ∃ x, x = xs[i] := ⟨_, rfl⟩
          have hxg : xs.getD i 0 = x := by rw [List.getD_eq_getElem?_getD, List.getElem?_eq_getElem (by omega), hxi]; rfl
          have hx01 := hel x (by rw [hxi]; exact List.getElem_mem _)
          have hcell : cs[i]? = some (.int .i64 x) := hrow.get (by unfold ints; rw [List.getElem?_map, hhi i (Nat.le_refl _), List.getElem?_eq_getElem (by omega), ← hxi]; rfl)
          have hcl : cs.length = c' * 1 := hrow.len
          have hil : i < cs.length := by omega
          have hcell2 : ∀ v, (cs.set i v)[i]? = some v := fun v => by rw [List.getElem?_set_self hil]
          have hnx : ∀ v, cellW k xs ps qs i = v → (∀ j, j < i + 1 → (os.set i v)[j]? = some (cellW k xs ps qs j)) ∧ ∀ j, i + 1 ≤ j → (os.set i v)[j]? = xs[j]? := fun v hv => ⟨fun j hj => by
            by_cases e : j = i
            · subst e; rw [List.getElem?_set_self (by omega), hv]
            · rw [List.getElem?_set_ne (by omega)]; exact hlo j (by omega), fun j hj => by rw [List.getElem?_set_ne (by omega)]; exact hhi j (by omega)⟩
          have hrs : ∀ v, Row (some ga) n c' 1 (ints (os.set i v)) (cs.set i (.int .i64 v)) := fun v => by rw [show ints (os.set i v) = (ints os).set i (.int .i64 v) by simp [ints, List.map_set]]; exact hrow.set i _
          have hstp := lostW_step k xs ps qs i
          unfold lostB at hstp
          rw [hmi, hxg] at hstp
          have hcw : cellW k xs ps qs i = if (ps[i] && !qs[i]) && decide (x ≠ k) then x + 1 else 0 := by unfold cellW; rw [hmi, hxg]
          generalize ps[i]'(_) = pb at *
          generalize qs[i]'(_) = qb at *
          have hcell3 := hcell2 (.int .i64 (x + 1))
          cases pb
          · have hst' : lostW k xs ps qs (i + 1) = lostW k xs ps qs i := by rw [hstp]; simp
            obtain ⟨q1, q2⟩ := hnx 0 (by rw [hcw]; rfl)
            repeat (first | ((with_reducible refine toL hm ?_); (first | refine oneV hs gw_ rfl rfl (by intro w hm; exact kvR_) ?_ | refine oneN hs rfl rfl rfl rfl rfl rfl rfl ?_ | refine oneU hs rfl rfl rfl rfl rfl rfl ?_); clear hs a; intro a hs) | ((with_reducible apply lCons); first | (refine dv hs gw_ rfl rfl da_ ?_; clear hs hm a; rintro _ w ⟨g, rfl, -, hm⟩ a hs) | (refine stn hs rfl rfl ds_ ?_; clear hs hm a; rintro - w hm a hs) ) | (with_reducible first | apply lNilThen | apply lNilBlock | apply lNil | apply wp_seq | apply wp_region_lit | apply wp_block | apply cExit | apply cRet | apply cSkip | apply gThen | apply gBlock | apply eThen | apply eBlockHit | refine eBlock rfl ?_ | apply rThen | apply rBlock) | ((with_reducible apply cCond); first | refine cTrue hs rfl bd_ ?_ | refine cFalse hs rfl bd_ ?_))
            exact ⟨⟨i + 1, os.set i 0, cs.set i (.int .i64 0), lA, lc, lcs⟩, by dsimp only; omega, hs.sub (Has.all ⟨rfl, rfl, rfl, rfl, rfl, by rw [hst']; rfl, rfl, rfl, trivial⟩), hm, by dsimp only; omega, by dsimp only; rw [List.length_set]; exact hol, hrs 0, by dsimp only; rw [hst']; exact hlr, q1, q2⟩
          · cases qb
            · by_cases hxk : x = k
              · have hst' : lostW k xs ps qs (i + 1) = lostW k xs ps qs i ++ [(i : Int)] := by rw [hstp]; simp [hxk]
                obtain ⟨q1, q2⟩ := hnx 0 (by rw [hcw]; simp [hxk])
                repeat (first | ((with_reducible first | refine toL hm ?_ | refine toQ ?_); (first | refine oneV hs gw_ rfl rfl (by intro w hm; exact kvR_) ?_ | refine oneN hs rfl rfl rfl rfl rfl rfl rfl ?_ | refine oneU hs rfl rfl rfl rfl rfl rfl ?_); clear hs a; intro a hs) | ((with_reducible apply lCons); first | (refine dv hs gw_ rfl rfl da_ ?_; clear hs hm a; rintro _ w ⟨g, rfl, -, hm⟩ a hs) | (refine stn hs rfl rfl ds_ ?_; clear hs hm a; rintro - w hm a hs) ) | ((with_reducible apply qNil); clear hm; intro w hm) | ((with_reducible refine cQuiet hm ?_ ?_ ?_ ?_); rfl; kernel_rfl; kernel_rfl) | (with_reducible first | apply lNilThen | apply lNilBlock | apply lNil | apply wp_seq | apply wp_region_lit | apply wp_block | apply cExit | apply cRet | apply cSkip | apply gThen | apply gBlock | apply eThen | apply eBlockHit | refine eBlock rfl ?_ | apply rThen | apply rBlock) | ((with_reducible apply cCond); first | refine cTrue hs rfl bd_ ?_ | refine cFalse hs rfl bd_ ?_))
                refine dv hs (Wnt.none rfl) rfl rfl (d_append (A := lA) (n := (lostW k xs ps qs i).length) (c := lc) (news := [.int .i64 (i : Int)]) hs rfl rfl rfl rfl rfl tab rfl rfl rfl rfl rfl hm mem_ hlr rfl (hm.ro (n := 1) mem_ (cutF_ok rfl)) rfl (by show ((lostW k xs ps qs i).length + 1) * 8 ≤ _; omega) (by omega)) ?_
                clear hs
                rintro _ w6 ⟨lA2, lc2, lcs2, rfl, hlr2, hM⟩ a hs
                replace hm := (hM _ rep_).sub (List.sublist_cons_self _ _)
                clear hM
                have hlen : (lostW k xs ps qs i).length + 1 = (lostW k xs ps qs (i + 1)).length := by rw [hst', List.length_append]; rfl
                have hin : ints (lostW k xs ps qs i) ++ [.int .i64 (i : Int)] = ints (lostW k xs ps qs (i + 1)) := by rw [hst']; simp [ints]
                rw [hlen, hin] at hlr2
                rw [hlen] at hs
                have hil2 : i < (cs.set i (.int .i64 (x + 1))).length := by rw [List.length_set]; exact hil
                repeat (first | ((with_reducible refine toL hm ?_); (first | refine oneV hs gw_ rfl rfl (by intro w hm; exact kvR_) ?_ | refine oneN hs rfl rfl rfl rfl rfl rfl rfl ?_ | refine oneU hs rfl rfl rfl rfl rfl rfl ?_); clear hs a; intro a hs) | ((with_reducible apply lCons); first | (refine dv hs gw_ rfl rfl da_ ?_; clear hs hm a; rintro _ w ⟨g, rfl, -, hm⟩ a hs) | (refine stn hs rfl rfl ds_ ?_; clear hs hm a; rintro - w hm a hs) ) | (with_reducible first | apply lNilThen | apply lNilBlock | apply lNil | apply wp_seq | apply wp_region_lit | apply wp_block | apply cExit | apply cRet | apply cSkip | apply gThen | apply gBlock | apply eThen | apply eBlockHit | refine eBlock rfl ?_ | apply rThen | apply rBlock) | ((with_reducible apply cCond); first | refine cTrue hs rfl bd_ ?_ | refine cFalse hs rfl bd_ ?_))
                rw [List.set_set] at hm
                exact ⟨⟨i + 1, os.set i 0, cs.set i (.int .i64 0), lA2, lc2, lcs2⟩, by dsimp only; omega, hs.sub (Has.all ⟨rfl, rfl, rfl, rfl, rfl, rfl, rfl, rfl, trivial⟩), hm, by dsimp only; omega, by dsimp only; rw [List.length_set]; exact hol, hrs 0, hlr2, q1, q2⟩
              · have hst' : lostW k xs ps qs (i + 1) = lostW k xs ps qs i := by rw [hstp]; simp [hxk]
                obtain ⟨q1, q2⟩ := hnx (x + 1) (by rw [hcw]; simp [hxk])
                repeat (first | ((with_reducible first | refine toL hm ?_ | refine toQ ?_); (first | refine oneV hs gw_ rfl rfl (by intro w hm; exact kvR_) ?_ | refine oneN hs rfl rfl rfl rfl rfl rfl rfl ?_ | refine oneU hs rfl rfl rfl rfl rfl rfl ?_); clear hs a; intro a hs) | ((with_reducible apply lCons); first | (refine dv hs gw_ rfl rfl da_ ?_; clear hs hm a; rintro _ w ⟨g, rfl, -, hm⟩ a hs) | (refine stn hs rfl rfl ds_ ?_; clear hs hm a; rintro - w hm a hs) ) | ((with_reducible apply qNil); clear hm; intro w hm) | ((with_reducible refine cQuiet hm ?_ ?_ ?_ ?_); rfl; kernel_rfl; kernel_rfl) | (with_reducible first | apply lNilThen | apply lNilBlock | apply lNil | apply wp_seq | apply wp_region_lit | apply wp_block | apply cExit | apply cRet | apply cSkip | apply gThen | apply gBlock | apply eThen | apply eBlockHit | refine eBlock rfl ?_ | apply rThen | apply rBlock) | ((with_reducible apply cCond); first | refine cTrue hs rfl bd_ ?_ | refine cFalse hs rfl bd_ ?_))
                exact ⟨⟨i + 1, os.set i (x + 1), cs.set i (.int .i64 (x + 1)), lA, lc, lcs⟩, by dsimp only; omega, hs.sub (Has.all ⟨rfl, rfl, rfl, rfl, rfl, by rw [hst']; rfl, rfl, rfl, trivial⟩), hm, by dsimp only; omega, by dsimp only; rw [List.length_set]; exact hol, hrs _, by dsimp only; rw [hst']; exact hlr, q1, q2⟩
            · have hst' : lostW k xs ps qs (i + 1) = lostW k xs ps qs i := by rw [hstp]; simp
              obtain ⟨q1, q2⟩ := hnx 0 (by rw [hcw]; rfl)
              repeat (first | ((with_reducible refine toL hm ?_); (first | refine oneV hs gw_ rfl rfl (by intro w hm; exact kvR_) ?_ | refine oneN hs rfl rfl rfl rfl rfl rfl rfl ?_ | refine oneU hs rfl rfl rfl rfl rfl rfl ?_); clear hs a; intro a hs) | ((with_reducible apply lCons); first | (refine dv hs gw_ rfl rfl da_ ?_; clear hs hm a; rintro _ w ⟨g, rfl, -, hm⟩ a hs) | (refine stn hs rfl rfl ds_ ?_; clear hs hm a; rintro - w hm a hs) ) | (with_reducible first | apply lNilThen | apply lNilBlock | apply lNil | apply wp_seq | apply wp_region_lit | apply wp_block | apply cExit | apply cRet | apply cSkip | apply gThen | apply gBlock | apply eThen | apply eBlockHit | refine eBlock rfl ?_ | apply rThen | apply rBlock) | ((with_reducible apply cCond); first | refine cTrue hs rfl bd_ ?_ | refine cFalse hs rfl bd_ ?_))
              exact ⟨⟨i + 1, os.set i 0, cs.set i (.int .i64 0), lA, lc, lcs⟩, by dsimp only; omega, hs.sub (Has.all ⟨rfl, rfl, rfl, rfl, rfl, by rw [hst']; rfl, rfl, rfl, trivial⟩), hm, by dsimp only; omega, by dsimp only; rw [List.length_set]; exact hol, hrs 0, by dsimp only; rw [hst']; exact hlr, q1, q2⟩
        · obtain rfl : i = n := by omega
          have hos : os = outW k xs ps qs := by
            apply List.ext_getElem?
            intro j
            by_cases hj : j < i
            · rw [hlo j hj, List.getElem?_eq_getElem (by rw [outW_len]; omega), outW_get _ _ _ _ (by omega)]
            · rw [List.getElem?_eq_none (by omega), List.getElem?_eq_none (by rw [outW_len]; omega)]
          repeat (first | ((with_reducible refine toL hm ?_); (first | refine oneV hs gw_ rfl rfl (by intro w hm; exact kvR_) ?_ | refine oneN hs rfl rfl rfl rfl rfl rfl rfl ?_ | refine oneU hs rfl rfl rfl rfl rfl rfl ?_); clear hs a; intro a hs) | ((with_reducible apply lCons); first | (refine dv hs gw_ rfl rfl da_ ?_; clear hs hm a; rintro _ w ⟨g, rfl, -, hm⟩ a hs) | (refine stn hs rfl rfl ds_ ?_; clear hs hm a; rintro - w hm a hs) ) | (with_reducible first | apply lNilThen | apply lNilBlock | apply lNil | apply wp_seq | apply wp_region_lit | apply wp_block | apply cExit | apply cRet | apply cSkip | apply gThen | apply gBlock | apply eThen | apply eBlockHit | refine eBlock rfl ?_ | apply rThen | apply rBlock) | ((with_reducible apply cCond); first | refine cTrue hs rfl bd_ ?_ | refine cFalse hs rfl bd_ ?_))
          apply rNoGoto
          refine gRetN tab hs rfl (.cons (.cells rfl rfl rfl rfl (hm.ro (k := 0) (n := 2) (g := g6) mem_ (cutF_ok rfl))) (.cons (.tmp rfl) (.cons (.tmp rfl) .nil))) ⟨⟨k, ⟨A'.map fun g => ⟨g, 0, none⟩, i, c', os⟩⟩, ⟨lA.map fun g => ⟨g, 0, none⟩, (lostW k xs ps qs i).length, lc, lostW k xs ps qs i⟩, rfl, ⟨hol, hm.rd_row mem_ hrow⟩, ⟨rfl, hm.rd_row mem_ hlr⟩, by unfold Wt.ab; dsimp only; rw [hos], rfl, hm.fr⟩
      · have hst : stpW k xs ps qs = (xs, [], 1) := by unfold stpW; rw [hck, if_neg (by omega), if_pos (by omega)]
        rw [hst]
        repeat (first | ((with_reducible refine toL hm ?_); (first | refine oneV hs gw_ rfl rfl (by intro w hm; exact kvR_) ?_ | refine oneN hs rfl rfl rfl rfl rfl rfl rfl ?_ | refine oneU hs rfl rfl rfl rfl rfl rfl ?_); clear hs a; intro a hs) | ((with_reducible apply lCons); first | (refine dv hs gw_ rfl rfl da_ ?_; clear hs hm a; rintro _ w ⟨g, rfl, -, hm⟩ a hs) | (refine stn hs rfl rfl ds_ ?_; clear hs hm a; rintro - w hm a hs) | (refine dv hs gw_ rfl rfl (d_call hs rfl rfl rfl (pl 14 rfl) (hchk _ hm.fr)) ?_; clear hs a; rintro _ w ⟨rfl, hf⟩ a hs; replace hm := hm.pu hf; clear hf)) | (with_reducible first | apply lNilThen | apply lNilBlock | apply lNil | apply wp_seq | apply wp_region_lit | apply wp_block | apply cExit | apply cRet | apply cSkip | apply gThen | apply gBlock | apply eThen | apply eBlockHit | refine eBlock rfl ?_ | apply rThen | apply rBlock) | ((with_reducible apply cCond); first | refine cTrue hs rfl bd_ ?_ | refine cFalse hs rfl bd_ ?_))
        apply rNoGoto
        refine gRetN tab hs rfl (.cons (.cells rfl rfl rfl rfl (hm.ro (k := 0) (n := 2) (g := g6) mem_ (cutF_ok rfl))) (.cons (.tmp rfl) (.cons (.tmp rfl) .nil))) ⟨⟨k, ⟨A'.map fun g => ⟨g, 0, none⟩, n, c', xs⟩⟩, ⟨none, 0, 0, []⟩, rfl, ⟨hl, hm.rd_row mem_ hrow⟩, nil_is_ok _, rfl, rfl, hm.fr⟩
    · have hst : stpW k xs ps qs = (xs, [], 1) := by unfold stpW; rw [hck, if_neg (by omega), if_pos (by omega)]
      rw [hst]
      repeat (first | ((with_reducible refine toL hm ?_); (first | refine oneV hs gw_ rfl rfl (by intro w hm; exact kvR_) ?_ | refine oneN hs rfl rfl rfl rfl rfl rfl rfl ?_ | refine oneU hs rfl rfl rfl rfl rfl rfl ?_); clear hs a; intro a hs) | ((with_reducible apply lCons); first | (refine dv hs gw_ rfl rfl da_ ?_; clear hs hm a; rintro _ w ⟨g, rfl, -, hm⟩ a hs) | (refine stn hs rfl rfl ds_ ?_; clear hs hm a; rintro - w hm a hs) | (refine dv hs gw_ rfl rfl (d_call hs rfl rfl rfl (pl 14 rfl) (hchk _ hm.fr)) ?_; clear hs a; rintro _ w ⟨rfl, hf⟩ a hs; replace hm := hm.pu hf; clear hf)) | (with_reducible first | apply lNilThen | apply lNilBlock | apply lNil | apply wp_seq | apply wp_region_lit | apply wp_block | apply cExit | apply cRet | apply cSkip | apply gThen | apply gBlock | apply eThen | apply eBlockHit | refine eBlock rfl ?_ | apply rThen | apply rBlock) | ((with_reducible apply cCond); first | refine cTrue hs rfl bd_ ?_ | refine cFalse hs rfl bd_ ?_))
      apply rNoGoto
      refine gRetN tab hs rfl (.cons (.cells rfl rfl rfl rfl (hm.ro (k := 0) (n := 2) (g := g6) mem_ (cutF_ok rfl))) (.cons (.tmp rfl) (.cons (.tmp rfl) .nil))) ⟨⟨k, ⟨A'.map fun g => ⟨g, 0, none⟩, n, c', xs⟩⟩, ⟨none, 0, 0, []⟩, rfl, ⟨hl, hm.rd_row mem_ hrow⟩, nil_is_ok _, rfl, rfl, hm.fr⟩
  · have hst : stpW k xs ps qs = (xs, [], e) := by unfold stpW; rw [hck, if_pos he]
    rw [hst]
    repeat (first | ((with_reducible refine toL hm ?_); (first | refine oneV hs gw_ rfl rfl (by intro w hm; exact kvR_) ?_ | refine oneN hs rfl rfl rfl rfl rfl rfl rfl ?_ | refine oneU hs rfl rfl rfl rfl rfl rfl ?_); clear hs a; intro a hs) | ((with_reducible apply lCons); first | (refine dv hs gw_ rfl rfl da_ ?_; clear hs hm a; rintro _ w ⟨g, rfl, -, hm⟩ a hs) | (refine stn hs rfl rfl ds_ ?_; clear hs hm a; rintro - w hm a hs) | (refine dv hs gw_ rfl rfl (d_call hs rfl rfl rfl (pl 14 rfl) (hchk _ hm.fr)) ?_; clear hs a; rintro _ w ⟨rfl, hf⟩ a hs; replace hm := hm.pu hf; clear hf)) | (with_reducible first | apply lNilThen | apply lNilBlock | apply lNil | apply wp_seq | apply wp_region_lit | apply wp_block | apply cExit | apply cRet | apply cSkip | apply gThen | apply gBlock | apply eThen | apply eBlockHit | refine eBlock rfl ?_ | apply rThen | apply rBlock) | ((with_reducible apply cCond); first | refine cTrue hs rfl bd_ ?_ | refine cFalse hs rfl bd_ ?_))
    apply rNoGoto
    refine gRetN tab hs rfl (.cons (.cells rfl rfl rfl rfl (hm.ro (k := 0) (n := 2) (g := g6) mem_ (cutF_ok rfl))) (.cons (.tmp rfl) (.cons (.tmp rfl) .nil))) ⟨⟨k, ⟨A'.map fun g => ⟨g, 0, none⟩, n, c', xs⟩⟩, ⟨none, 0, 0, []⟩, rfl, ⟨hl, hm.rd_row mem_ hrow⟩, nil_is_ok _, rfl, rfl, hm.fr⟩
end Go.Proofs.Ytlgimjinaijhlaa
