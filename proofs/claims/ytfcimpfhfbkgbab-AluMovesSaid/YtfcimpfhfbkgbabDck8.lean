/- The deck: sizes. Layouts that Make gives. -/
import Derived.Test.YtfcimpfhfbkgbabDck7
import Derived.Test.YtfcimpfhfbkgbabEng16
namespace Go.Proofs.Ytfcimpfhfbkgbab
open Go.RowKit

structure SzX where
  m : Nat
  at_ : Nat
  ss : List Int
  g : Nat
  c : Nat
  cs : List Value
theorem ints_snoc' (xs : List Int) (x : Int) : ints xs ++ [.int .i64 x] = ints (xs ++ [x]) := by simp [ints]
theorem szcell (r : Nat) (h : r < 3) : ∃ m : Int, 6 ≤ m ∧ m ≤ 32 ∧ ([.int .i64 6, .int .i64 12, .int .i64 32] : List Value)[r]? = some (.int .i64 m) := by
  rcases (by omega : r = 0 ∨ r = 1 ∨ r = 2) with rfl | rfl | rfl
  · exact ⟨6, by omega, by omega, rfl⟩
  · exact ⟨12, by omega, by omega, rfl⟩
  · exact ⟨32, by omega, by omega, rfl⟩
structure SzOk (ss : List Int) : Prop where
  one : 1 ≤ ss.length
  four : ss.length ≤ 4
  bd : ∀ y ∈ ss, 1 ≤ y ∧ y ≤ 32
set_option maxHeartbeats 1000000 in
theorem siz_c (gd : Nat) (A : Option Addr) (n c at_ : Nat) (xs : List Int) (wB : World) (h : Dk gd A n c at_ xs wB) :
    Ret Try.prog 5 [.pointer (some ⟨gd, 0, none⟩)] wB (fun u w' => ∃ (g m cc : Nat) (ss : List Int), u = .slice (some ⟨g, 0, none⟩) m cc ∧ ss.length = m ∧ SzOk ss ∧ Rd w' w'.heap.size (some ⟨g, 0, none⟩) (ints ss) ∧ wB.heap.size ≤ g ∧ DkR gd A n c xs wB w') := by
  refine enterR Try.func5 rfl rfl rfl fun a hs hm => ?_
  clear hm
  have hm := h.in_
  have hlt := Hp.lt h.sat (g := gd) rfl
  repeat (first | ((with_reducible refine toL hm ?_); (first | refine oneV hs gw_ rfl rfl (by intro w hm; exact kv_) ?_ | refine oneN hs rfl rfl rfl rfl rfl rfl rfl ?_ | refine oneU hs rfl rfl rfl rfl rfl rfl ?_); clear hs a; intro a hs) | ((with_reducible apply lCons); first | (refine dv hs gw_ rfl rfl da_ ?_; clear hs hm a; rintro _ w ⟨g, rfl, -, hm⟩ a hs) | (refine stn hs rfl rfl ds_ ?_; clear hs hm a; rintro - w hm a hs) ) | (with_reducible first | apply lNilThen | apply lNilBlock | apply lNil | apply wp_seq | apply wp_region_lit | apply wp_block | apply cExit | apply cRet | apply cSkip | apply gThen | apply gBlock | apply eThen | apply eBlockHit | refine eBlock rfl ?_ | apply rThen | apply rBlock) | ((with_reducible apply cCond); first | refine cTrue hs rfl bd_ ?_ | refine cFalse hs rfl bd_ ?_))
  refine st hs rfl rfl rfl (d_call hs rfl rfl rfl (pl 15 rfl) ((nxt_c gd A n c _ xs 9 _ (h.now hm mem_) (by omega) (by omega)))) ?_; clear hs a; rintro _ w1 ⟨r1, rfl, b1, a1, k1, hf⟩ a hs
  replace hm := hm.dkt rep_ k1 hf
  clear hf
  repeat (first | ((with_reducible refine toL hm ?_); (first | refine oneV hs gw_ rfl rfl (by intro w hm; exact kv_) ?_ | refine oneN hs rfl rfl rfl rfl rfl rfl rfl ?_ | refine oneU hs rfl rfl rfl rfl rfl rfl ?_); clear hs a; intro a hs) | ((with_reducible apply lCons); first | (refine dv hs gw_ rfl rfl da_ ?_; clear hs hm a; rintro _ w ⟨g, rfl, -, hm⟩ a hs) | (refine stn hs rfl rfl ds_ ?_; clear hs hm a; rintro - w hm a hs) ) | (with_reducible first | apply lNilThen | apply lNilBlock | apply lNil | apply wp_seq | apply wp_region_lit | apply wp_block | apply cExit | apply cRet | apply cSkip | apply gThen | apply gBlock | apply eThen | apply eBlockHit | refine eBlock rfl ?_ | apply rThen | apply rBlock) | ((with_reducible apply cCond); first | refine cTrue hs rfl bd_ ?_ | refine cFalse hs rfl bd_ ?_))
  rename Nat => g0
  refine st hs rfl rfl rfl (d_call hs rfl rfl rfl (pl 15 rfl) ((nxt_c gd A n c _ xs 4 _ (h.now hm mem_) (by omega) (by omega)))) ?_; clear hs a; rintro _ w1 ⟨r2, rfl, b2, a2, k2, hf⟩ a hs
  replace hm := hm.dkt rep_ k2 hf
  clear hf
  repeat (first | ((with_reducible refine toL hm ?_); (first | refine oneV hs gw_ rfl rfl (by intro w hm; exact kv_) ?_ | refine oneN hs rfl rfl rfl rfl rfl rfl rfl ?_ | refine oneU hs rfl rfl rfl rfl rfl rfl ?_); clear hs a; intro a hs) | ((with_reducible apply lCons); first | (refine dv hs gw_ rfl rfl da_ ?_; clear hs hm a; rintro _ w ⟨g, rfl, -, hm⟩ a hs) | (refine stn hs rfl rfl ds_ ?_; clear hs hm a; rintro - w hm a hs) ) | (with_reducible first | apply lNilThen | apply lNilBlock | apply lNil | apply wp_seq | apply wp_region_lit | apply wp_block | apply cExit | apply cRet | apply cSkip | apply gThen | apply gBlock | apply eThen | apply eBlockHit | refine eBlock rfl ?_ | apply rThen | apply rBlock) | ((with_reducible apply cCond); first | refine cTrue hs rfl bd_ ?_ | refine cFalse hs rfl bd_ ?_))
  refine cLoop (X := SzX) (fun x a w' => Sl Try.f5.ntmps [(0, .pointer (some ⟨gd, 0, none⟩)), (3, slv (some x.g) x.ss.length x.c), (4, .int .i64 (x.m : Int))] a ∧ Mm (own [dk gd A n c at_]) wB [⟨some x.g, 3, x.cs⟩, dk gd A n c x.at_] w' ∧ Row (some x.g) x.ss.length x.c 1 (ints x.ss) x.cs ∧ 1 ≤ x.ss.length ∧ x.ss.length + x.m ≤ 4 ∧ ∀ y ∈ x.ss, 1 ≤ y ∧ y ≤ 32) (fun x => x.m) ⟨r2, a2, [4 + (r1 : Int)], g0, 1, [.int .i64 (4 + (r1 : Int))]⟩ ⟨hs.sub (Has.all ⟨rfl, rfl, rfl, trivial⟩), hm, ⟨(fun e => by cases e), Nat.le_refl _, by dsimp only; unfold maxLen; omega, rfl, rfl, rfl⟩, Nat.le_refl _, by show 1 + r2 ≤ 4; omega, fun y hy => by rcases List.mem_singleton.1 hy with rfl; omega⟩ ?_
  clear hs hm a
  rintro ⟨m, at1, ss, g1, c1, cs⟩ a w' ⟨hs, hm, hr, h1, h4, hbd⟩
  dsimp only at *
  unfold slv at *
  by_cases hm0 : 0 < m
  · obtain ⟨m, rfl⟩ : ∃ k, m = k + 1 := ⟨m - 1, by omega⟩
    repeat (first | ((with_reducible refine toL hm ?_); (first | refine oneV hs gw_ rfl rfl (by intro w hm; exact kv_) ?_ | refine oneN hs rfl rfl rfl rfl rfl rfl rfl ?_ | refine oneU hs rfl rfl rfl rfl rfl rfl ?_); clear hs a; intro a hs) | ((with_reducible apply lCons); first | (refine dv hs gw_ rfl rfl da_ ?_; clear hs hm a; rintro _ w ⟨g, rfl, -, hm⟩ a hs) | (refine stn hs rfl rfl ds_ ?_; clear hs hm a; rintro - w hm a hs) ) | (with_reducible first | apply lNilThen | apply lNilBlock | apply lNil | apply wp_seq | apply wp_region_lit | apply wp_block | apply cExit | apply cRet | apply cSkip | apply gThen | apply gBlock | apply eThen | apply eBlockHit | refine eBlock rfl ?_ | apply rThen | apply rBlock) | ((with_reducible apply cCond); first | refine cTrue hs rfl bd_ ?_ | refine cFalse hs rfl bd_ ?_))
    rename Nat => g17
    refine st hs rfl rfl rfl (d_call hs rfl rfl rfl (pl 15 rfl) ((nxt_c gd A n c _ xs 3 _ (h.now hm mem_) (by omega) (by omega)))) ?_; clear hs a; rintro _ w1 ⟨r3, rfl, b3, a3, k3, hf⟩ a hs
    replace hm := hm.dkt rep_ k3 hf
    clear hf
    obtain ⟨z, hz1, hz2, hcell⟩ := szcell r3 (by omega)
    repeat (first | ((with_reducible refine toL hm ?_); (first | refine oneV hs gw_ rfl rfl (by intro w hm; exact kv_) ?_ | refine oneN hs rfl rfl rfl rfl rfl rfl rfl ?_ | refine oneU hs rfl rfl rfl rfl rfl rfl ?_); clear hs a; intro a hs) | ((with_reducible apply lCons); first | (refine dv hs gw_ rfl rfl da_ ?_; clear hs hm a; rintro _ w ⟨g, rfl, -, hm⟩ a hs) | (refine stn hs rfl rfl ds_ ?_; clear hs hm a; rintro - w hm a hs) ) | (with_reducible first | apply lNilThen | apply lNilBlock | apply lNil | apply wp_seq | apply wp_region_lit | apply wp_block | apply cExit | apply cRet | apply cSkip | apply gThen | apply gBlock | apply eThen | apply eBlockHit | refine eBlock rfl ?_ | apply rThen | apply rBlock) | ((with_reducible apply cCond); first | refine cTrue hs rfl bd_ ?_ | refine cFalse hs rfl bd_ ?_))
    refine st hs rfl rfl rfl (d_call hs rfl rfl rfl (pl 15 rfl) ((nxt_c gd A n c _ xs z _ (h.now hm mem_) (by omega) (by omega)))) ?_; clear hs a; rintro _ w1 ⟨r4, rfl, b4, a4, k4, hf⟩ a hs
    replace hm := hm.dkt rep_ k4 hf
    clear hf
    repeat (first | ((with_reducible refine toL hm ?_); (first | refine oneV hs gw_ rfl rfl (by intro w hm; exact kv_) ?_ | refine oneN hs rfl rfl rfl rfl rfl rfl rfl ?_ | refine oneU hs rfl rfl rfl rfl rfl rfl ?_); clear hs a; intro a hs) | ((with_reducible apply lCons); first | (refine dv hs gw_ rfl rfl da_ ?_; clear hs hm a; rintro _ w ⟨g, rfl, -, hm⟩ a hs) | (refine stn hs rfl rfl ds_ ?_; clear hs hm a; rintro - w hm a hs) ) | (with_reducible first | apply lNilThen | apply lNilBlock | apply lNil | apply wp_seq | apply wp_region_lit | apply wp_block | apply cExit | apply cRet | apply cSkip | apply gThen | apply gBlock | apply eThen | apply eBlockHit | refine eBlock rfl ?_ | apply rThen | apply rBlock) | ((with_reducible apply cCond); first | refine cTrue hs rfl bd_ ?_ | refine cFalse hs rfl bd_ ?_))
    refine dv hs (Wnt.none rfl) rfl rfl (d_append (A := some g1) (n := ss.length) (c := c1) (news := [.int .i64 (1 + (r4 : Int))]) hs rfl rfl rfl rfl rfl tab rfl rfl rfl rfl rfl hm mem_ hr rfl (hm.ro (n := 1) (List.Mem.head _) (cutF_ok rfl)) rfl (by show (ss.length + 1) * 8 ≤ _; omega) (by omega)) ?_
    clear hs
    rintro _ w2 ⟨A', c', cs', rfl, hr2, hM⟩ a hs
    replace hm := hM _ rep_
    clear hM
    obtain ⟨g2, rfl⟩ := hr2.some_ (by omega)
    rw [ints_snoc'] at hr2
    repeat (first | ((with_reducible refine toL hm ?_); (first | refine oneV hs gw_ rfl rfl (by intro w hm; exact kv_) ?_ | refine oneN hs rfl rfl rfl rfl rfl rfl rfl ?_ | refine oneU hs rfl rfl rfl rfl rfl rfl ?_); clear hs a; intro a hs) | ((with_reducible apply lCons); first | (refine dv hs gw_ rfl rfl da_ ?_; clear hs hm a; rintro _ w ⟨g, rfl, -, hm⟩ a hs) | (refine stn hs rfl rfl ds_ ?_; clear hs hm a; rintro - w hm a hs) ) | (with_reducible first | apply lNilThen | apply lNilBlock | apply lNil | apply wp_seq | apply wp_region_lit | apply wp_block | apply cExit | apply cRet | apply cSkip | apply gThen | apply gBlock | apply eThen | apply eBlockHit | refine eBlock rfl ?_ | apply rThen | apply rBlock) | ((with_reducible apply cCond); first | refine cTrue hs rfl bd_ ?_ | refine cFalse hs rfl bd_ ?_))
    refine ⟨⟨m, a4, ss ++ [1 + (r4 : Int)], g2, c', cs'⟩, by dsimp only; omega, ?_⟩
    dsimp only
    rw [List.length_append, List.length_singleton]
    refine ⟨hs.sub (Has.all ⟨rfl, rfl, rfl, trivial⟩), hm.sub sub_, hr2, by omega, by omega, fun y hy => ?_⟩
    rcases List.mem_append.1 hy with hy | hy
    · exact hbd y hy
    · rcases List.mem_singleton.1 hy with rfl; omega
  · repeat (first | ((with_reducible refine toL hm ?_); (first | refine oneV hs gw_ rfl rfl (by intro w hm; exact kv_) ?_ | refine oneN hs rfl rfl rfl rfl rfl rfl rfl ?_ | refine oneU hs rfl rfl rfl rfl rfl rfl ?_); clear hs a; intro a hs) | ((with_reducible apply lCons); first | (refine dv hs gw_ rfl rfl da_ ?_; clear hs hm a; rintro _ w ⟨g, rfl, -, hm⟩ a hs) | (refine stn hs rfl rfl ds_ ?_; clear hs hm a; rintro - w hm a hs) ) | (with_reducible first | apply lNilThen | apply lNilBlock | apply lNil | apply wp_seq | apply wp_region_lit | apply wp_block | apply cExit | apply cRet | apply cSkip | apply gThen | apply gBlock | apply eThen | apply eBlockHit | refine eBlock rfl ?_ | apply rThen | apply rBlock) | ((with_reducible apply cCond); first | refine cTrue hs rfl bd_ ?_ | refine cFalse hs rfl bd_ ?_))
    refine gRet1 hs rfl rfl ⟨g1, ss.length, c1, ss, rfl, rfl, ⟨h1, by omega, hbd⟩, ?_, ?_, at1, h.now hm mem_, Dk.out hm⟩
    · exact hm.rd (List.Mem.head _) hr.pfx
    · rcases hm.ow _ (List.Mem.head _) g1 rfl with h5 | h5
      · exact h5
      · exact absurd (Option.some.inj (own_dk h5)).symm (fun e => hm.dj.1 _ (List.Mem.head _) g1 rfl (by rw [e]; rfl))
end Go.Proofs.Ytfcimpfhfbkgbab
