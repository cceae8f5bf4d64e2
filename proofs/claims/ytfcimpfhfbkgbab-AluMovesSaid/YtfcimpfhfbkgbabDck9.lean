/- Layouts that Make gives: regions that do not overlap. -/
import Derived.Test.YtfcimpfhfbkgbabDck8
namespace Go.Proofs.Ytfcimpfhfbkgbab
open Go.RowKit

set_option maxHeartbeats 1000000 in
theorem vld_c (A : Option Addr) (n c : Nat) (ss : List Int) (wB : World) (hl : ss.length = n) (hr : Rd wB wB.heap.size A (ints ss)) (ho : SzOk ss) :
    Ret Try.prog 25 [.slice A n c] wB (fun v w' => v = .bool true ∧ Pu wB w') := by
  obtain ⟨o1, o4, obd⟩ := ho
  refine enterR Try.func25 rfl rfl rfl fun a hs hm => ?_
  repeat (first | ((with_reducible refine toL hm ?_); (first | refine oneV hs gw_ rfl rfl (by intro w hm; exact kv_) ?_ | refine oneN hs rfl rfl rfl rfl rfl rfl rfl ?_ | refine oneU hs rfl rfl rfl rfl rfl rfl ?_); clear hs a; intro a hs) | ((with_reducible apply lCons); first | (refine dv hs gw_ rfl rfl da_ ?_; clear hs hm a; rintro _ w ⟨g, rfl, -, hm⟩ a hs) | (refine stn hs rfl rfl ds_ ?_; clear hs hm a; rintro - w hm a hs) ) | (with_reducible first | apply lNilThen | apply lNilBlock | apply lNil | apply wp_seq | apply wp_region_lit | apply wp_block | apply cExit | apply cRet | apply cSkip | apply gThen | apply gBlock | apply eThen | apply eBlockHit | refine eBlock rfl ?_ | apply rThen | apply rBlock) | ((with_reducible apply cCond); first | refine cTrue hs rfl bd_ ?_ | refine cFalse hs rfl bd_ ?_))
  refine cLoop (X := Nat) (fun k a w' => Sl Try.f25.ntmps [(0, .slice A n c), (5, .slice A n c), (6, .int .i64 (n : Int)), (7, .int .i64 (k : Int))] a ∧ Mm (fun _ => False) wB [] w' ∧ k ≤ n) (fun k => n - k) 0 ⟨hs.sub (Has.all ⟨rfl, rfl, rfl, rfl, trivial⟩), hm, Nat.zero_le _⟩ ?_
  clear hs hm a
  rintro k a w' ⟨hs, hm, hk⟩
  by_cases hlt : k < n
  · obtain ⟨b1, o1', rfl, hb1, r1⟩ := hr.ro (by rw [ints_len]; omega)
    have e1 := ints_some (xs := ss) (k := k) (by omega)
    have hsk := obd ss[k] (List.getElem_mem (by omega))
    generalize ss[k]'(_) = sk at *
    repeat (first | ((with_reducible first | refine toL hm ?_ | refine toQ ?_); (first | refine oneV hs gw_ rfl rfl (by intro w hm; exact kv_) ?_ | refine oneN hs rfl rfl rfl rfl rfl rfl rfl ?_ | refine oneU hs rfl rfl rfl rfl rfl rfl ?_); clear hs a; intro a hs) | ((with_reducible apply lCons); first | (refine dv hs gw_ rfl rfl da_ ?_; clear hs hm a; rintro _ w ⟨g, rfl, -, hm⟩ a hs) | (refine stn hs rfl rfl ds_ ?_; clear hs hm a; rintro - w hm a hs) ) | ((with_reducible apply qNil); clear hm; intro w hm) | ((with_reducible refine cQuiet hm ?_ ?_ ?_ ?_); rfl; kernel_rfl; kernel_rfl) | (with_reducible first | apply lNilThen | apply lNilBlock | apply lNil | apply wp_seq | apply wp_region_lit | apply wp_block | apply cExit | apply cRet | apply cSkip | apply gThen | apply gBlock | apply eThen | apply eBlockHit | refine eBlock rfl ?_ | apply rThen | apply rBlock) | ((with_reducible apply cCond); first | refine cTrue hs rfl bd_ ?_ | refine cFalse hs rfl bd_ ?_))
    exact ⟨k + 1, by omega, hs.sub (Has.all ⟨rfl, rfl, rfl, rfl, trivial⟩), hm, by omega⟩
  · repeat (first | ((with_reducible first | refine toL hm ?_ | refine toQ ?_); (first | refine oneV hs gw_ rfl rfl (by intro w hm; exact kv_) ?_ | refine oneN hs rfl rfl rfl rfl rfl rfl rfl ?_ | refine oneU hs rfl rfl rfl rfl rfl rfl ?_); clear hs a; intro a hs) | ((with_reducible apply lCons); first | (refine dv hs gw_ rfl rfl da_ ?_; clear hs hm a; rintro _ w ⟨g, rfl, -, hm⟩ a hs) | (refine stn hs rfl rfl ds_ ?_; clear hs hm a; rintro - w hm a hs) ) | ((with_reducible apply qNil); clear hm; intro w hm) | ((with_reducible refine cQuiet hm ?_ ?_ ?_ ?_); rfl; kernel_rfl; kernel_rfl) | (with_reducible first | apply lNilThen | apply lNilBlock | apply lNil | apply wp_seq | apply wp_region_lit | apply wp_block | apply cExit | apply cRet | apply cSkip | apply gThen | apply gBlock | apply eThen | apply eBlockHit | refine eBlock rfl ?_ | apply rThen | apply rBlock) | ((with_reducible apply cCond); first | refine cTrue hs rfl bd_ ?_ | refine cFalse hs rfl bd_ ?_))
    exact gRet1 hs rfl rfl ⟨rfl, hm.fr⟩
/-- regions laid so far -/
structure MkI (n s k : Nat) (x : Int) (ys ss : List Int) : Prop where
  len : ys.length = n
  xb : 1 ≤ x ∧ x ≤ 100 + 100 * (k : Int)
  b : ∀ y ∈ ys, 0 ≤ y ∧ y ≤ 600
  below : ∀ i, i < k → 1 ≤ ys.getD ((i + s) % n) 0 ∧ ys.getD ((i + s) % n) 0 + ss.getD ((i + s) % n) 0 ≤ x
  apart : ∀ i j, i < k → j < k → i ≠ j → ys.getD ((i + s) % n) 0 + ss.getD ((i + s) % n) 0 ≤ ys.getD ((j + s) % n) 0 ∨ ys.getD ((j + s) % n) 0 + ss.getD ((j + s) % n) 0 ≤ ys.getD ((i + s) % n) 0
theorem MkI.zero (n s : Nat) (x : Int) (ss : List Int) (hx : 1 ≤ x ∧ x ≤ 100) : MkI n s 0 x (List.replicate n 0) ss :=
  ⟨by simp, by omega, fun y hy => by rw [(List.mem_replicate.1 hy).2]; omega, fun i hi => by omega, fun i j hi => by omega⟩
theorem rot_inj {n s i j : Nat} (hn : n ≤ 4) (hi : i < n) (hj : j < n) (h : (i + s) % n = (j + s) % n) : i = j := by
  rcases (by omega : n = 1 ∨ n = 2 ∨ n = 3 ∨ n = 4) with rfl | rfl | rfl | rfl <;> omega
theorem rot_hit {n s r : Nat} (hn : n ≤ 4) (hr : r < n) : ∃ i, i < n ∧ (i + s) % n = r := by
  rcases (by omega : n = 1 ∨ n = 2 ∨ n = 3 ∨ n = 4) with rfl | rfl | rfl | rfl
  · exact ⟨0, by omega, by omega⟩
  · exact ⟨(r + s) % 2, by omega, by omega⟩
  · exact ⟨(r + 3 - s % 3) % 3, by omega, by omega⟩
  · exact ⟨(r + 4 - s % 4) % 4, by omega, by omega⟩
theorem getD_set {l : List Int} {i j : Nat} {v : Int} (hi : i < l.length) : (l.set i v).getD j 0 = if i = j then v else l.getD j 0 := by
  simp only [List.getD_eq_getElem?_getD, List.getElem?_set]
  by_cases h : i = j
  · subst h; simp [hi]
  · simp [h]
theorem MkI.step {n s k : Nat} {x : Int} {ys ss : List Int} (h : MkI n s k x ys ss) (hn : n ≤ 4) (hk : k < n) {v : Int} (hv : x + ss.getD ((k + s) % n) 0 ≤ v) (h1 : 1 ≤ ss.getD ((k + s) % n) 0) (hv2 : v ≤ 200 + 100 * (k : Int)) : MkI n s (k + 1) v (ys.set ((k + s) % n) x) ss := by
  obtain ⟨l1, l2, l3, l4, l5⟩ := h
  have hr : (k + s) % n < ys.length := by rw [l1]; exact Nat.mod_lt _ (by omega)
  have hne : ∀ i, i < k → (k + s) % n ≠ (i + s) % n := fun i hi e => by have := rot_inj hn hk (by omega) e; omega
  have hold : ∀ i, i < k → (ys.set ((k + s) % n) x).getD ((i + s) % n) 0 = ys.getD ((i + s) % n) 0 := fun i hi => by rw [getD_set hr, if_neg (hne i hi)]
  have hnew : (ys.set ((k + s) % n) x).getD ((k + s) % n) 0 = x := by rw [getD_set hr, if_pos rfl]
  refine ⟨by rw [List.length_set]; exact l1, by omega, fun y hy => ?_, fun i hi => ?_, fun i j hi hj hij => ?_⟩
  · rcases List.mem_or_eq_of_mem_set hy with h | h
    · exact l3 y h
    · omega
  · by_cases e : i = k
    · subst e; rw [hnew]; omega
    · rw [hold i (by omega)]; have := l4 i (by omega); omega
  · by_cases e : i = k
    · subst e
      rw [hnew, hold j (by omega)]
      have := l4 j (by omega)
      omega
    · rw [hold i (by omega)]
      by_cases e2 : j = k
      · subst e2
        rw [hnew]
        have := l4 i (by omega)
        omega
      · rw [hold j (by omega)]
        exact l5 i j (by omega) (by omega) hij
/-- a layout whose regions do not overlap, all at addresses of 16 bits -/
structure LS.apt (x : LS) : Prop where
  key : 0 ≤ x.key ∧ x.key ≤ 65535
  b : ∀ r, r < x.n → 1 ≤ x.bs.getD r 0 ∧ x.bs.getD r 0 ≤ 600
  ap : ∀ r q, r < x.n → q < x.n → r ≠ q → x.bs.getD r 0 + x.ss.getD r 0 ≤ x.bs.getD q 0 ∨ x.bs.getD q 0 + x.ss.getD q 0 ≤ x.bs.getD r 0
theorem MkI.apt {n s : Nat} {v : Int} {ys : List Int} {x : LS} (h : MkI n s n v ys x.ss) (hn : n ≤ 4) (hx : x.n = n) (hb : x.bs = ys) (hk : 0 ≤ x.key ∧ x.key ≤ 65535) : x.apt := by
  subst hb; subst hx
  refine ⟨hk, fun r hr => ?_, fun r q hr hq hrq => ?_⟩
  · obtain ⟨i, hi, e⟩ := rot_hit (s := s) hn hr
    have h1 := h.below i hi
    rw [e] at h1
    have hlt : r < x.bs.length := by rw [h.len]; exact hr
    have h2 := h.b (x.bs[r]) (List.getElem_mem hlt)
    rw [getI hlt] at h1 ⊢
    exact ⟨h1.1, h2.2⟩
  · obtain ⟨i, hi, e⟩ := rot_hit (s := s) hn hr
    obtain ⟨j, hj, e2⟩ := rot_hit (s := s) hn hq
    have := h.apart i j hi hj (fun hh => by subst hh; exact hrq (by rw [← e, ← e2]))
    rwa [e, e2] at this
theorem zrep_ints (n : Nat) : zrep n [.int .i64 0] = ints (List.replicate n 0) := by
  induction n with
  | zero => rfl
  | succ n ih => rw [zrep, ih]; rfl
set_option maxHeartbeats 2000000 in
theorem mke_c (A : Option Addr) (n c : Nat) (ss : List Int) (s : Nat) (wB : World) (hl : ss.length = n) (hr : Rd wB wB.heap.size A (ints ss)) (ho : SzOk ss) (hsd : s ≤ 1048576) :
    Ret Try.prog 16 [.slice A n c, .int .i64 (s : Int)] wB (fun u w' => ∃ (gb : Nat) (key : Int) (bs : List Int), u = .tuple #[.agg #[.slice (some ⟨gb, 0, none⟩) n n, .int .u16 key], .int .i64 0] ∧ wB.heap.size ≤ gb ∧ Rd w' w'.heap.size (some ⟨gb, 0, none⟩) (ints bs) ∧ (0 ≤ key ∧ key ≤ 65535) ∧ (∃ v, MkI n s n v bs ss) ∧ Pu wB w') := by
  have hvl := fun w'' (hf : Pu wB w'') => vld_c A n c ss w'' hl (hf.rd' hr) ho
  obtain ⟨o1, o4, obd⟩ := ho
  obtain ⟨q1, hq1⟩ : ∃ q : Nat, (s : Int) / (n : Int) = (q : Int) := ⟨s / n, by simp⟩
  obtain ⟨q2, hq2⟩ : ∃ q : Nat, (s : Int) / (50 * (n : Int)) = (q : Int) := ⟨s / (50 * n), by simp⟩
  obtain ⟨key, hkey⟩ : ∃ z, IntKind.u16.wrap (40503 * (s : Int)) = z := ⟨_, rfl⟩
  have hkb := u16_bd (40503 * (s : Int))
  rw [hkey] at hkb
  refine enterR Try.func16 rfl rfl rfl fun a hs hm => ?_
  repeat (first | ((with_reducible refine toL hm ?_); (first | refine oneV hs gw_ rfl rfl (by intro w hm; (first | exact kv_ | exact r_quo64 hs rfl rfl rfl (by omega) (by omega) | exact r_quo hs rfl rfl rfl (by omega) | exact r_remH hs rfl rfl rfl (by assumption) (by omega) (by omega) | exact r_rem64 hs rfl rfl rfl (by omega) (by omega) | exact r_rem hs rfl rfl rfl (by omega) | exact r_b2s hs rfl rfl tab rfl rfl rfl rfl rfl rfl (by first | exact Fr.rd' hm.fr (by assumption) | exact Mm.rd_row hm mem_ (by assumption)) (by assumption))) ?_ | refine oneN hs rfl rfl rfl rfl rfl rfl rfl ?_ | refine oneU hs rfl rfl rfl rfl rfl rfl ?_); clear hs a; intro a hs) | ((with_reducible apply lCons); first | (refine dv hs gw_ rfl rfl (by first | exact da_ | exact d_makeSlice hs rfl rfl rfl tab rfl rfl rfl rfl rfl (by omega) rfl hm) ?_; clear hs hm a; rintro _ w ⟨g, rfl, -, hm⟩ a hs) | (refine stn hs rfl rfl ds_ ?_; clear hs hm a; rintro - w hm a hs) | (refine dv hs gw_ rfl rfl (d_call hs rfl rfl rfl (pl 25 rfl) (hvl _ hm.fr)) ?_; clear hs a; rintro _ w ⟨rfl, hf⟩ a hs; replace hm := hm.pu hf; clear hf)) | (with_reducible first | apply lNilThen | apply lNilBlock | apply lNil | apply wp_seq | apply wp_region_lit | apply wp_block | apply cExit | apply cRet | apply cSkip | apply gThen | apply gBlock | apply eThen | apply eBlockHit | refine eBlock rfl ?_ | apply rThen | apply rBlock) | ((with_reducible apply cCond); first | refine cTrue hs rfl bd_ ?_ | refine cFalse hs rfl bd_ ?_))
  rw [hkey] at hs hm
  rename_i g4 _ _ _ _
  rename Nat => g7
  obtain ⟨gb, hgb⟩ : ∃ k, k = g := ⟨_, rfl⟩
  subst hgb
  have hz := zrep_ints n
  rw [hz] at hm
  rw [hq1] at hs
  refine cLoop (X := Nat × Int × List Int) (fun x a w' => Sl Try.f16.ntmps [(0, .slice A n c), (1, .int .i64 (s : Int)), (4, .pointer (some ⟨g4, 0, none⟩)), (5, .int .i64 0), (6, .int .i64 (n : Int)), (7, .pointer (some ⟨g7, 0, none⟩)), (8, .int .i64 x.2.1), (36, .int .i64 (n : Int)), (37, .int .i64 (x.1 : Int))] a ∧ Mm (fun _ => False) wB [⟨some g7, 30, [.slice (some ⟨gb, 0, none⟩) n n, .int .u16 key]⟩, ⟨some gb, 3, ints x.2.2⟩, ⟨some g4, 30, [.slice none 0 0, .int .u16 0]⟩] w' ∧ x.1 ≤ n ∧ MkI n s x.1 x.2.1 x.2.2 ss) (fun x => n - x.1) (0, 1 + (q1 : Int) % 50, List.replicate n 0) ⟨hs.sub (Has.all ⟨rfl, rfl, rfl, rfl, rfl, rfl, rfl, rfl, rfl, trivial⟩), hm, Nat.zero_le _, MkI.zero n s _ ss (by dsimp only; omega)⟩ ?_
  clear hs hm a hz
  rintro ⟨k, x, ys⟩ a w' ⟨hs, hm, hk, hI⟩
  dsimp only at *
  have hxb := hI.xb
  by_cases hlt : k < n
  · obtain ⟨r, hrr⟩ : ∃ r, r = (k + s) % n := ⟨_, rfl⟩
    have hr1 : ((k : Int) + (s : Int)) = ((k + s : Nat) : Int) := by omega
    have hr2 : ((k + s : Nat) : Int) % (n : Int) = (r : Int) := by rw [hrr]; simp
    have hrn : r < n := by rw [hrr]; exact Nat.mod_lt _ (by omega)
    obtain ⟨b1, o1', rfl, hb1, r1⟩ := hr.ro (by rw [ints_len]; omega)
    have e1 := ints_some (xs := ss) (k := r) (by omega)
    have hg1 := getI (l := ss) (k := r) (by omega)
    have hsk := obd ss[r] (List.getElem_mem (by omega))
    have hyl := hI.len
    have hst : ∀ v, x + ss[r] ≤ v → v ≤ 200 + 100 * (k : Int) → MkI n s (k + 1) v (ys.set r x) ss := fun v h1 h2 => by
      rw [hrr]
      exact hI.step (by omega) hlt (by rw [← hrr, hg1]; exact h1) (by rw [← hrr, hg1]; exact hsk.1) h2
    generalize ss[r]'(_) = sk at *
    have hyi : r < (ints ys).length := by rw [ints_len]; omega
    repeat (first | ((with_reducible first | refine toL hm ?_ | refine toQ ?_); (first | refine oneV hs gw_ rfl rfl (by intro w hm; (first | exact kv_ | exact r_quo64 hs rfl rfl rfl (by omega) (by omega) | exact r_quo hs rfl rfl rfl (by omega) | exact r_remH hs rfl rfl rfl (by assumption) (by omega) (by omega) | exact r_rem64 hs rfl rfl rfl (by omega) (by omega) | exact r_rem hs rfl rfl rfl (by omega) | exact r_b2s hs rfl rfl tab rfl rfl rfl rfl rfl rfl (by first | exact Fr.rd' hm.fr (by assumption) | exact Mm.rd_row hm mem_ (by assumption)) (by assumption))) ?_ | refine oneN hs rfl rfl rfl rfl rfl rfl rfl ?_ | refine oneU hs rfl rfl rfl rfl rfl rfl ?_); clear hs a; intro a hs) | ((with_reducible apply lCons); first | (refine dv hs gw_ rfl rfl (by first | exact da_ | exact d_makeSlice hs rfl rfl rfl tab rfl rfl rfl rfl rfl (by omega) rfl hm) ?_; clear hs hm a; rintro _ w ⟨g, rfl, -, hm⟩ a hs) | (refine stn hs rfl rfl ds_ ?_; clear hs hm a; rintro - w hm a hs) ) | ((with_reducible apply qNil); clear hm; intro w hm) | ((with_reducible refine cQuiet hm ?_ ?_ ?_ ?_); rfl; kernel_rfl; kernel_rfl) | (with_reducible first | apply lNilThen | apply lNilBlock | apply lNil | apply wp_seq | apply wp_region_lit | apply wp_block | apply cExit | apply cRet | apply cSkip | apply gThen | apply gBlock | apply eThen | apply eBlockHit | refine eBlock rfl ?_ | apply rThen | apply rBlock) | ((with_reducible apply cCond); first | refine cTrue hs rfl bd_ ?_ | refine cFalse hs rfl bd_ ?_))
    exact ⟨(k + 1, x + (sk + 1 + (q2 : Int) % 40), ys.set r x), by dsimp only; omega, by rw [hq2] at hs; exact hs.sub (Has.all ⟨rfl, rfl, rfl, rfl, rfl, rfl, rfl, rfl, rfl, trivial⟩), by dsimp only; rw [show ints (ys.set r x) = (ints ys).set r (.int .i64 x) by simp [ints, List.map_set]]; exact hm, by dsimp only; omega, hst _ (by dsimp only; omega) (by dsimp only; omega)⟩
  · obtain rfl : k = n := by omega
    repeat (first | ((with_reducible first | refine toL hm ?_ | refine toQ ?_); (first | refine oneV hs gw_ rfl rfl (by intro w hm; (first | exact kv_ | exact r_quo64 hs rfl rfl rfl (by omega) (by omega) | exact r_quo hs rfl rfl rfl (by omega) | exact r_remH hs rfl rfl rfl (by assumption) (by omega) (by omega) | exact r_rem64 hs rfl rfl rfl (by omega) (by omega) | exact r_rem hs rfl rfl rfl (by omega) | exact r_b2s hs rfl rfl tab rfl rfl rfl rfl rfl rfl (by first | exact Fr.rd' hm.fr (by assumption) | exact Mm.rd_row hm mem_ (by assumption)) (by assumption))) ?_ | refine oneN hs rfl rfl rfl rfl rfl rfl rfl ?_ | refine oneU hs rfl rfl rfl rfl rfl rfl ?_); clear hs a; intro a hs) | ((with_reducible apply lCons); first | (refine dv hs gw_ rfl rfl (by first | exact da_ | exact d_makeSlice hs rfl rfl rfl tab rfl rfl rfl rfl rfl (by omega) rfl hm) ?_; clear hs hm a; rintro _ w ⟨g, rfl, -, hm⟩ a hs) | (refine stn hs rfl rfl ds_ ?_; clear hs hm a; rintro - w hm a hs) ) | ((with_reducible apply qNil); clear hm; intro w hm) | ((with_reducible refine cQuiet hm ?_ ?_ ?_ ?_); rfl; kernel_rfl; kernel_rfl) | (with_reducible first | apply lNilThen | apply lNilBlock | apply lNil | apply wp_seq | apply wp_region_lit | apply wp_block | apply cExit | apply cRet | apply cSkip | apply gThen | apply gBlock | apply eThen | apply eBlockHit | refine eBlock rfl ?_ | apply rThen | apply rBlock) | ((with_reducible apply cCond); first | refine cTrue hs rfl bd_ ?_ | refine cFalse hs rfl bd_ ?_))
    have hgb' := hm.new (R := [⟨some gb, 3, ints ys⟩]) sub_
    exact gRetN tab hs rfl (.cons (.cells rfl rfl rfl rfl (hm.ro (k := 0) (n := 2) mem_ (cutF_ok rfl))) (.cons (.tmp rfl) .nil)) ⟨gb, key, ys, rfl, hgb'.fresh _ (List.Mem.head _) gb rfl, hm.rd (List.Mem.tail _ (List.Mem.head _)) (List.prefix_refl _), hkb, ⟨x, hI⟩, hm.fr⟩
end Go.Proofs.Ytfcimpfhfbkgbab
