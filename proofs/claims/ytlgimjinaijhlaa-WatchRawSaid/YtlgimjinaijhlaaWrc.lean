/- Silent of both; equal numbers; equal watches; clones. -/
import Derived.Test.YtlgimjinaijhlaaWrb
namespace Go.Proofs.Ytlgimjinaijhlaa
open Go.RowKit


/-- hangs as they lie in memory -/
structure HS where
  A : Option Addr
  n : Nat
  c : Nat
  l : List (Int × Int × Int)
def HS.v (x : HS) : Value := .slice x.A x.n x.c
structure HS.ok (x : HS) (w : World) : Prop where
  len : x.l.length = x.n
  rd : Rd w w.heap.size x.A (x.l.flatMap hangV)
  el : ∀ h ∈ x.l, I64 h.1 ∧ I64 h.2.2
theorem HS.ok.pu {x : HS} {w w' : World} (h : x.ok w) (hf : Pu w w') : x.ok w' := ⟨h.len, hf.rd' h.rd, h.el⟩
theorem wsil_c (x : HS) (rp at_ : Int) (w : World) (hx : x.ok w) (hn : x.n ≤ 1000) (hat : I64 at_) : Ret Try.prog 16 [x.v, .int .i64 rp, .int .i64 at_] w (fun u w' => u = .bool (x.l.any (hangs rp at_)) ∧ Pu w w') :=
  ⟨Calls.mono (silent_c x.A x.n x.c x.l rp at_ w hx.len hn hx.el hat hx.rd) fun _ _ ⟨h, e⟩ => ⟨_, h, rfl, e⟩⟩
theorem wsam_c (p q : IS) (w : World) (hp : p.ok w) (hq : q.ok w) (h1 : p.n ≤ 1000) (h2 : q.n ≤ 1000) : Ret Try.prog 13 [p.v, q.v] w (fun u w' => u = .bool (decide (p.xs = q.xs)) ∧ Pu w w') :=
  ⟨Calls.mono (same_c p.A q.A p.n q.n p.c q.c p.xs q.xs w hp.1 hq.1 h1 h2 hp.2 hq.2) fun _ _ ⟨h, e⟩ => ⟨_, h, rfl, e⟩⟩
theorem hangV_len (h : Int × Int × Int) : (hangV h).length = 3 := rfl
set_option maxHeartbeats 8000000 in
theorem wrsil_c (x : HS) (rp at_ : Int) (wB : World) (hx : x.ok wB) (hn : x.n ≤ 1000) (hat : I64 at_) : Ret Try.prog 17 [x.v, .int .i64 rp, .int .i64 at_] wB (fun u w' => u = .bool (x.l.any (hangs rp at_)) ∧ Pu wB w') := by
  obtain ⟨A, n, c, l⟩ := x
  have hl : l.length = n := hx.len
  obtain ⟨at1, at2⟩ := hat
  unfold HS.v
  dsimp only at hn ⊢
  refine enterR Try.func17 rfl rfl rfl fun a hs hm => ?_
  repeat (first | ((with_reducible refine toL hm ?_); (first | refine oneV hs gw_ rfl rfl (by intro w hm; (first | exact kvR_ | exact r_b2s hs rfl rfl tab rfl rfl rfl rfl rfl rfl (by first | exact Fr.rd' hm.fr (by assumption) | exact Mm.rd_row hm mem_ (by assumption)) (by assumption))) ?_ | refine oneN hs rfl rfl rfl rfl rfl rfl rfl ?_ | refine oneU hs rfl rfl rfl rfl rfl rfl ?_); clear hs a; intro a hs) | ((with_reducible apply lCons); first | (refine dv hs gw_ rfl rfl da_ ?_; clear hs hm a; rintro _ w ⟨g, rfl, -, hm⟩ a hs) | (refine stn hs rfl rfl ds_ ?_; clear hs hm a; rintro - w hm a hs) ) | (with_reducible first | apply lNilThen | apply lNilBlock | apply lNil | apply wp_seq | apply wp_region_lit | apply wp_block | apply cExit | apply cRet | apply cSkip | apply gThen | apply gBlock | apply eThen | apply eBlockHit | refine eBlock rfl ?_ | apply rThen | apply rBlock) | ((with_reducible apply cCond); first | refine cTrue hs rfl bd_ ?_ | refine cFalse hs rfl bd_ ?_))
  refine cLoop (X := Nat) (fun j a w' => Sl Try.f17.ntmps [(0, .slice A n c), (1, .int .i64 rp), (2, .int .i64 at_), (6, .bool false), (7, .int .i64 (j : Int))] a ∧ Mm (fun _ => False) wB [] w' ∧ j ≤ n ∧ ∀ i (hi : i < l.length), i < j → hangs rp at_ l[i] = false) (fun j => n - j) 0 ⟨hs.sub (Has.all ⟨rfl, rfl, rfl, rfl, rfl, trivial⟩), hm, Nat.zero_le _, fun j _ hj => by omega⟩ ?_
  clear hs hm a
  rintro j a w' ⟨hs, hm, hj, hno⟩
  by_cases hlt : j < n
  · obtain ⟨b1, o1, rfl, hb1, r1⟩ := hx.rd.ro (by rw [flat_len hangV 3 hangV_len]; dsimp only; omega)
    dsimp only at r1
    have k1 : j < l.length := by omega
    have e1 := r1.flat hangV_len k1
    have hel := hx.el l[j] (List.getElem_mem k1)
    have hyes : hangs rp at_ l[j] = true → l.any (hangs rp at_) = true := fun e => List.any_eq_true.2 ⟨l[j], List.getElem_mem _, e⟩
    have hnext : hangs rp at_ l[j] = false → ∀ i (hi : i < l.length), i < j + 1 → hangs rp at_ l[i] = false := fun e i hi hij => by
      by_cases e' : i = j
      · subst e'; exact e
      · exact hno i hi (by omega)
    generalize l[j]'(_) = h at *
    obtain ⟨ha, hr, hf⟩ := h
    unfold hangV at e1
    dsimp only at e1 hel
    obtain ⟨⟨q1, q2⟩, q3, q4⟩ := hel
    by_cases c1 : hr = rp
    · by_cases c2 : ha ≤ at_
      · by_cases c3 : 0 < hf
        · have s1 : IntKind.u64.wrap (IntKind.u64.wrap at_ - IntKind.u64.wrap ha) = at_ - ha := by
            simp [IntKind.wrap, IntKind.signed, IntKind.bits]; omega
          have s2 : IntKind.u64.wrap hf = hf := u64_of (by omega) q4
          by_cases c4 : at_ - ha < hf
          · rw [hyes (by unfold hangs; simp [c1, c2, c3, c4])]
            repeat (first | ((with_reducible first | refine toL hm ?_ | refine toQ ?_); (first | refine oneV hs gw_ rfl rfl (by intro w hm; (first | exact kvR_ | exact r_b2s hs rfl rfl tab rfl rfl rfl rfl rfl rfl (by first | exact Fr.rd' hm.fr (by assumption) | exact Mm.rd_row hm mem_ (by assumption)) (by assumption))) ?_ | refine oneN hs rfl rfl rfl rfl rfl rfl rfl ?_ | refine oneU hs rfl rfl rfl rfl rfl rfl ?_); clear hs a; intro a hs) | ((with_reducible apply lCons); first | (refine dv hs gw_ rfl rfl da_ ?_; clear hs hm a; rintro _ w ⟨g, rfl, -, hm⟩ a hs) | (refine stn hs rfl rfl ds_ ?_; clear hs hm a; rintro - w hm a hs) ) | ((with_reducible apply qNil); clear hm; intro w hm) | ((with_reducible refine cQuiet hm ?_ ?_ ?_ ?_); rfl; kernel_rfl; kernel_rfl) | (with_reducible first | apply lNilThen | apply lNilBlock | apply lNil | apply wp_seq | apply wp_region_lit | apply wp_block | apply cExit | apply cRet | apply cSkip | apply gThen | apply gBlock | apply eThen | apply eBlockHit | refine eBlock rfl ?_ | apply rThen | apply rBlock) | ((with_reducible apply cCond); first | refine cTrue hs rfl bd_ ?_ | refine cFalse hs rfl bd_ ?_))
            exact gRet1 hs rfl rfl ⟨rfl, hm.fr⟩
          · replace hnext := hnext (by unfold hangs; simp [c4])
            repeat (first | ((with_reducible first | refine toL hm ?_ | refine toQ ?_); (first | refine oneV hs gw_ rfl rfl (by intro w hm; (first | exact kvR_ | exact r_b2s hs rfl rfl tab rfl rfl rfl rfl rfl rfl (by first | exact Fr.rd' hm.fr (by assumption) | exact Mm.rd_row hm mem_ (by assumption)) (by assumption))) ?_ | refine oneN hs rfl rfl rfl rfl rfl rfl rfl ?_ | refine oneU hs rfl rfl rfl rfl rfl rfl ?_); clear hs a; intro a hs) | ((with_reducible apply lCons); first | (refine dv hs gw_ rfl rfl da_ ?_; clear hs hm a; rintro _ w ⟨g, rfl, -, hm⟩ a hs) | (refine stn hs rfl rfl ds_ ?_; clear hs hm a; rintro - w hm a hs) ) | ((with_reducible apply qNil); clear hm; intro w hm) | ((with_reducible refine cQuiet hm ?_ ?_ ?_ ?_); rfl; kernel_rfl; kernel_rfl) | (with_reducible first | apply lNilThen | apply lNilBlock | apply lNil | apply wp_seq | apply wp_region_lit | apply wp_block | apply cExit | apply cRet | apply cSkip | apply gThen | apply gBlock | apply eThen | apply eBlockHit | refine eBlock rfl ?_ | apply rThen | apply rBlock) | ((with_reducible apply cCond); first | refine cTrue hs rfl bd_ ?_ | refine cFalse hs rfl bd_ ?_))
            exact ⟨j + 1, by omega, hs.sub (Has.all ⟨rfl, rfl, rfl, rfl, rfl, trivial⟩), hm, by omega, hnext⟩
        · replace hnext := hnext (by unfold hangs; simp [c3])
          repeat (first | ((with_reducible first | refine toL hm ?_ | refine toQ ?_); (first | refine oneV hs gw_ rfl rfl (by intro w hm; (first | exact kvR_ | exact r_b2s hs rfl rfl tab rfl rfl rfl rfl rfl rfl (by first | exact Fr.rd' hm.fr (by assumption) | exact Mm.rd_row hm mem_ (by assumption)) (by assumption))) ?_ | refine oneN hs rfl rfl rfl rfl rfl rfl rfl ?_ | refine oneU hs rfl rfl rfl rfl rfl rfl ?_); clear hs a; intro a hs) | ((with_reducible apply lCons); first | (refine dv hs gw_ rfl rfl da_ ?_; clear hs hm a; rintro _ w ⟨g, rfl, -, hm⟩ a hs) | (refine stn hs rfl rfl ds_ ?_; clear hs hm a; rintro - w hm a hs) ) | ((with_reducible apply qNil); clear hm; intro w hm) | ((with_reducible refine cQuiet hm ?_ ?_ ?_ ?_); rfl; kernel_rfl; kernel_rfl) | (with_reducible first | apply lNilThen | apply lNilBlock | apply lNil | apply wp_seq | apply wp_region_lit | apply wp_block | apply cExit | apply cRet | apply cSkip | apply gThen | apply gBlock | apply eThen | apply eBlockHit | refine eBlock rfl ?_ | apply rThen | apply rBlock) | ((with_reducible apply cCond); first | refine cTrue hs rfl bd_ ?_ | refine cFalse hs rfl bd_ ?_))
          exact ⟨j + 1, by omega, hs.sub (Has.all ⟨rfl, rfl, rfl, rfl, rfl, trivial⟩), hm, by omega, hnext⟩
      · replace hnext := hnext (by unfold hangs; simp [c2])
        repeat (first | ((with_reducible first | refine toL hm ?_ | refine toQ ?_); (first | refine oneV hs gw_ rfl rfl (by intro w hm; (first | exact kvR_ | exact r_b2s hs rfl rfl tab rfl rfl rfl rfl rfl rfl (by first | exact Fr.rd' hm.fr (by assumption) | exact Mm.rd_row hm mem_ (by assumption)) (by assumption))) ?_ | refine oneN hs rfl rfl rfl rfl rfl rfl rfl ?_ | refine oneU hs rfl rfl rfl rfl rfl rfl ?_); clear hs a; intro a hs) | ((with_reducible apply lCons); first | (refine dv hs gw_ rfl rfl da_ ?_; clear hs hm a; rintro _ w ⟨g, rfl, -, hm⟩ a hs) | (refine stn hs rfl rfl ds_ ?_; clear hs hm a; rintro - w hm a hs) ) | ((with_reducible apply qNil); clear hm; intro w hm) | ((with_reducible refine cQuiet hm ?_ ?_ ?_ ?_); rfl; kernel_rfl; kernel_rfl) | (with_reducible first | apply lNilThen | apply lNilBlock | apply lNil | apply wp_seq | apply wp_region_lit | apply wp_block | apply cExit | apply cRet | apply cSkip | apply gThen | apply gBlock | apply eThen | apply eBlockHit | refine eBlock rfl ?_ | apply rThen | apply rBlock) | ((with_reducible apply cCond); first | refine cTrue hs rfl bd_ ?_ | refine cFalse hs rfl bd_ ?_))
        exact ⟨j + 1, by omega, hs.sub (Has.all ⟨rfl, rfl, rfl, rfl, rfl, trivial⟩), hm, by omega, hnext⟩
    · replace hnext := hnext (by unfold hangs; simp [c1])
      repeat (first | ((with_reducible first | refine toL hm ?_ | refine toQ ?_); (first | refine oneV hs gw_ rfl rfl (by intro w hm; (first | exact kvR_ | exact r_b2s hs rfl rfl tab rfl rfl rfl rfl rfl rfl (by first | exact Fr.rd' hm.fr (by assumption) | exact Mm.rd_row hm mem_ (by assumption)) (by assumption))) ?_ | refine oneN hs rfl rfl rfl rfl rfl rfl rfl ?_ | refine oneU hs rfl rfl rfl rfl rfl rfl ?_); clear hs a; intro a hs) | ((with_reducible apply lCons); first | (refine dv hs gw_ rfl rfl da_ ?_; clear hs hm a; rintro _ w ⟨g, rfl, -, hm⟩ a hs) | (refine stn hs rfl rfl ds_ ?_; clear hs hm a; rintro - w hm a hs) ) | ((with_reducible apply qNil); clear hm; intro w hm) | ((with_reducible refine cQuiet hm ?_ ?_ ?_ ?_); rfl; kernel_rfl; kernel_rfl) | (with_reducible first | apply lNilThen | apply lNilBlock | apply lNil | apply wp_seq | apply wp_region_lit | apply wp_block | apply cExit | apply cRet | apply cSkip | apply gThen | apply gBlock | apply eThen | apply eBlockHit | refine eBlock rfl ?_ | apply rThen | apply rBlock) | ((with_reducible apply cCond); first | refine cTrue hs rfl bd_ ?_ | refine cFalse hs rfl bd_ ?_))
      exact ⟨j + 1, by omega, hs.sub (Has.all ⟨rfl, rfl, rfl, rfl, rfl, trivial⟩), hm, by omega, hnext⟩
  · have hno' : l.any (hangs rp at_) = false := by
      rw [List.any_eq_false]
      rintro x hxm hb
      obtain ⟨i, hi, rfl⟩ := List.getElem_of_mem hxm
      rw [hno i hi (by omega)] at hb
      cases hb
    rw [hno']
    repeat (first | ((with_reducible refine toL hm ?_); (first | refine oneV hs gw_ rfl rfl (by intro w hm; (first | exact kvR_ | exact r_b2s hs rfl rfl tab rfl rfl rfl rfl rfl rfl (by first | exact Fr.rd' hm.fr (by assumption) | exact Mm.rd_row hm mem_ (by assumption)) (by assumption))) ?_ | refine oneN hs rfl rfl rfl rfl rfl rfl rfl ?_ | refine oneU hs rfl rfl rfl rfl rfl rfl ?_); clear hs a; intro a hs) | ((with_reducible apply lCons); first | (refine dv hs gw_ rfl rfl da_ ?_; clear hs hm a; rintro _ w ⟨g, rfl, -, hm⟩ a hs) | (refine stn hs rfl rfl ds_ ?_; clear hs hm a; rintro - w hm a hs) ) | (with_reducible first | apply lNilThen | apply lNilBlock | apply lNil | apply wp_seq | apply wp_region_lit | apply wp_block | apply cExit | apply cRet | apply cSkip | apply gThen | apply gBlock | apply eThen | apply eBlockHit | refine eBlock rfl ?_ | apply rThen | apply rBlock) | ((with_reducible apply cCond); first | refine cTrue hs rfl bd_ ?_ | refine cFalse hs rfl bd_ ?_))
    exact gRet1 hs rfl rfl ⟨rfl, hm.fr⟩
end Go.Proofs.Ytlgimjinaijhlaa
