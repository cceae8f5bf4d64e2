/- Count. -/
import Derived.Test.YtlapnhpaedkgcaaDoorRpd
namespace Go.Proofs.YtlapnhpaedkgcaaDoor
open Go.RowKit

structure St where
  i : Int
  d : Int
  p : Int
  t : Int
  u : Int
  m : Int
  o : Int
def stC (s : St) : List Value := [.int .i64 s.i, .int .i64 s.d, .int .i64 s.p, .int .i64 s.t, .int .i64 s.u, .int .i64 s.m, .int .i64 s.o]
def stV (s : St) : Value := .agg #[.int .i64 s.i, .int .i64 s.d, .int .i64 s.p, .int .i64 s.t, .int .i64 s.u, .int .i64 s.m, .int .i64 s.o]
def one (b : Prop) [Decidable b] : Int := if b then 1 else 0
def stepC (s : St) (x : Ft) : St :=
  ⟨s.i + one (0 ≤ x.i), s.d + one (0 ≤ x.d), s.p + one (0 ≤ x.p), s.t + (if 0 ≤ x.i ∧ 0 ≤ x.d then x.d - x.i else 0), (if 0 ≤ x.i ∧ 0 ≤ x.d then max s.u (x.d - x.i) else s.u), s.m + (if 0 ≤ x.i ∧ 0 ≤ x.p then x.p - x.i else 0), (if 0 ≤ x.i ∧ 0 ≤ x.p then max s.o (x.p - x.i) else s.o)⟩
def cntF (l : List Ft) : St := l.foldl stepC ⟨0, 0, 0, 0, 0, 0, 0⟩
def Ft.bd (x : Ft) : Prop := (-1 ≤ x.i ∧ x.i ≤ 1000) ∧ (-1 ≤ x.d ∧ x.d ≤ 1000) ∧ (-1 ≤ x.p ∧ x.p ≤ 1000)
structure St.bd (s : St) (k : Int) : Prop where
  i : 0 ≤ s.i ∧ s.i ≤ k
  d : 0 ≤ s.d ∧ s.d ≤ k
  p : 0 ≤ s.p ∧ s.p ≤ k
  t : -(1001 * k) ≤ s.t ∧ s.t ≤ 1001 * k
  u : 0 ≤ s.u ∧ s.u ≤ 1001
  m : -(1001 * k) ≤ s.m ∧ s.m ≤ 1001 * k
  o : 0 ≤ s.o ∧ s.o ≤ 1001
theorem stepC_bd {s : St} {k : Int} {x : Ft} (h : s.bd k) (hx : x.bd) : (stepC s x).bd (k + 1) := by
  obtain ⟨h1, h2, h3, h4, h5, h6, h7⟩ := h
  obtain ⟨x1, x2, x3⟩ := hx
  unfold stepC one
  constructor <;> dsimp only <;> (repeat' split) <;> omega
theorem cntF_snoc (l : List Ft) (x : Ft) : cntF (l ++ [x]) = stepC (cntF l) x := by unfold cntF; rw [List.foldl_append]; rfl
theorem cntF_take (l : List Ft) (k : Nat) (h : k < l.length) : cntF (l.take (k + 1)) = stepC (cntF (l.take k)) l[k] := by rw [List.take_succ_eq_append_getElem h, cntF_snoc]
theorem cntF_bd (l : List Ft) (hl : ∀ x ∈ l, x.bd) : ∀ k, k ≤ l.length → (cntF (l.take k)).bd k
  | 0, _ => by constructor <;> simp [cntF]
  | k + 1, h => by
    rw [cntF_take l k (by omega)]
    have := stepC_bd (cntF_bd l hl k (by omega)) (hl l[k] (List.getElem_mem _))
    simpa using this

set_option maxHeartbeats 16000000 in
theorem count_c (x : FS) (wB : World) (hx : x.ok wB) (hn : x.n ≤ 100) (hb : ∀ y ∈ x.l, y.bd) : Ret Tryd.prog 6 [x.v] wB (fun u w' => u = stV (cntF x.l) ∧ Pu wB w') := by
  obtain ⟨A, n, c, l⟩ := x
  have hl : l.length = n := hx.len
  unfold FS.v
  dsimp only at hn hb ⊢
  refine enterR Tryd.func6 rfl rfl rfl fun a hs hm => ?_
  repeat (first | ((with_reducible refine toL hm ?_); (first | refine oneV hs gw_ rfl rfl (by intro w hm; (first | exact kvR_ | exact r_max hs rfl rfl rfl)) ?_ | refine oneN hs rfl rfl rfl rfl rfl rfl rfl ?_ | refine oneU hs rfl rfl rfl rfl rfl rfl ?_); clear hs a; intro a hs) | ((with_reducible apply lCons); first | (refine dv hs gw_ rfl rfl da_ ?_; clear hs hm a; rintro _ w ⟨g, rfl, -, hm⟩ a hs) | (refine stn hs rfl rfl ds_ ?_; clear hs hm a; rintro - w hm a hs) ) | (with_reducible first | apply lNilThen | apply lNilBlock | apply lNil | apply wp_seq | apply wp_region_lit | apply wp_block | apply cExit | apply cRet | apply cSkip | apply gThen | apply gBlock | apply eThen | apply eBlockHit | refine eBlock rfl ?_ | apply rThen | apply rBlock) | ((with_reducible apply cCond); first | refine cTrue hs rfl bd_ ?_ | refine cFalse hs rfl bd_ ?_))
  obtain ⟨g2, en_⟩ := hs.pt 2 (by exact rfl); subst en_
  obtain ⟨g3, en_⟩ := hs.pt 3 (by exact rfl); subst en_
  refine cLoop (X := Nat) (fun k a w' => Sl Tryd.f6.ntmps [(2, .pointer (some ⟨g2, 0, none⟩)), (3, .pointer (some ⟨g3, 0, none⟩)), (4, .int .i64 (cntF (l.take k)).u), (5, .int .i64 (cntF (l.take k)).o), (13, .slice A n c), (14, .int .i64 (n : Int)), (15, .int .i64 (k : Int))] a ∧ Mm (fun _ => False) wB [⟨some g3, 32, stC (cntF (l.take k))⟩, ⟨some g2, 32, stC ⟨0, 0, 0, 0, 0, 0, 0⟩⟩] w' ∧ k ≤ n) (fun k => n - k) 0 ⟨hs.sub (Has.all ⟨rfl, rfl, rfl, rfl, rfl, rfl, rfl, trivial⟩), hm, Nat.zero_le _⟩ ?_
  clear hs hm a
  rintro k a w' ⟨hs, hm, hk⟩
  by_cases hlt : k < n
  · obtain ⟨b1, o1, hA, hb1, r1⟩ := hx.rd.ro (by rw [flat_len ftV 6 ftV_len]; dsimp only; omega)
    dsimp only at hA r1
    subst hA
    have k1 : k < l.length := by omega
    have e1 := r1.flat ftV_len k1
    have hbd := cntF_bd l hb k (by omega)
    have hnx := cntF_take l k k1
    have hxb := hb _ (List.getElem_mem k1)
    generalize l[k]'(_) = x at *
    obtain ⟨xf, xr, xk, xi, xd, xp⟩ := x
    obtain ⟨s, hs2⟩ : ∃ s, cntF (l.take k) = s := ⟨_, rfl⟩
    rw [hs2] at hs hm hbd hnx
    obtain ⟨si, sd, sp, st, su, sm, so⟩ := s
    obtain ⟨⟨c1, c2⟩, ⟨c3, c4⟩, ⟨c5, c6⟩, ⟨c7, c8⟩, ⟨c9, c10⟩, ⟨c11, c12⟩, ⟨c13, c14⟩⟩ := hbd
    obtain ⟨⟨d1, d2⟩, ⟨d3, d4⟩, ⟨d5, d6⟩⟩ := hxb
    unfold ftV at e1
    unfold stC at hm
    unfold stepC one at hnx
    dsimp only at *
    by_cases q1 : 0 ≤ xi
    · by_cases q2 : 0 ≤ xd
      · by_cases q3 : 0 ≤ xp
        · skip
          simp [q1, q2, q3] at hnx
          repeat (first | ((with_reducible first | refine toL hm ?_ | refine toQ ?_); (first | refine oneV hs gw_ rfl rfl (by intro w hm; (first | exact kvR_ | exact r_max hs rfl rfl rfl)) ?_ | refine oneN hs rfl rfl rfl rfl rfl rfl rfl ?_ | refine oneU hs rfl rfl rfl rfl rfl rfl ?_); clear hs a; intro a hs) | ((with_reducible apply lCons); first | (refine dv hs gw_ rfl rfl da_ ?_; clear hs hm a; rintro _ w ⟨g, rfl, -, hm⟩ a hs) | (refine stn hs rfl rfl ds_ ?_; clear hs hm a; rintro - w hm a hs) ) | ((with_reducible apply qNil); clear hm; intro w hm) | ((with_reducible refine cQuiet hm ?_ ?_ ?_ ?_); rfl; kernel_rfl; kernel_rfl) | (with_reducible first | apply lNilThen | apply lNilBlock | apply lNil | apply wp_seq | apply wp_region_lit | apply wp_block | apply cExit | apply cRet | apply cSkip | apply gThen | apply gBlock | apply eThen | apply eBlockHit | refine eBlock rfl ?_ | apply rThen | apply rBlock) | ((with_reducible apply cCond); first | refine cTrue hs rfl bd_ ?_ | refine cFalse hs rfl bd_ ?_))
          exact ⟨k + 1, by omega, hs.sub (Has.all ⟨rfl, rfl, by rw [hnx]; rfl, by rw [hnx]; rfl, rfl, rfl, rfl, trivial⟩), (by rw [hnx]; exact hm.sub (List.sublist_cons_self _ _)), by omega⟩
        · skip
          simp [q1, q2, q3] at hnx
          repeat (first | ((with_reducible first | refine toL hm ?_ | refine toQ ?_); (first | refine oneV hs gw_ rfl rfl (by intro w hm; (first | exact kvR_ | exact r_max hs rfl rfl rfl)) ?_ | refine oneN hs rfl rfl rfl rfl rfl rfl rfl ?_ | refine oneU hs rfl rfl rfl rfl rfl rfl ?_); clear hs a; intro a hs) | ((with_reducible apply lCons); first | (refine dv hs gw_ rfl rfl da_ ?_; clear hs hm a; rintro _ w ⟨g, rfl, -, hm⟩ a hs) | (refine stn hs rfl rfl ds_ ?_; clear hs hm a; rintro - w hm a hs) ) | ((with_reducible apply qNil); clear hm; intro w hm) | ((with_reducible refine cQuiet hm ?_ ?_ ?_ ?_); rfl; kernel_rfl; kernel_rfl) | (with_reducible first | apply lNilThen | apply lNilBlock | apply lNil | apply wp_seq | apply wp_region_lit | apply wp_block | apply cExit | apply cRet | apply cSkip | apply gThen | apply gBlock | apply eThen | apply eBlockHit | refine eBlock rfl ?_ | apply rThen | apply rBlock) | ((with_reducible apply cCond); first | refine cTrue hs rfl bd_ ?_ | refine cFalse hs rfl bd_ ?_))
          exact ⟨k + 1, by omega, hs.sub (Has.all ⟨rfl, rfl, by rw [hnx]; rfl, by rw [hnx]; rfl, rfl, rfl, rfl, trivial⟩), (by rw [hnx]; exact hm.sub (List.sublist_cons_self _ _)), by omega⟩
      · by_cases q3 : 0 ≤ xp
        · skip
          simp [q1, q2, q3] at hnx
          repeat (first | ((with_reducible first | refine toL hm ?_ | refine toQ ?_); (first | refine oneV hs gw_ rfl rfl (by intro w hm; (first | exact kvR_ | exact r_max hs rfl rfl rfl)) ?_ | refine oneN hs rfl rfl rfl rfl rfl rfl rfl ?_ | refine oneU hs rfl rfl rfl rfl rfl rfl ?_); clear hs a; intro a hs) | ((with_reducible apply lCons); first | (refine dv hs gw_ rfl rfl da_ ?_; clear hs hm a; rintro _ w ⟨g, rfl, -, hm⟩ a hs) | (refine stn hs rfl rfl ds_ ?_; clear hs hm a; rintro - w hm a hs) ) | ((with_reducible apply qNil); clear hm; intro w hm) | ((with_reducible refine cQuiet hm ?_ ?_ ?_ ?_); rfl; kernel_rfl; kernel_rfl) | (with_reducible first | apply lNilThen | apply lNilBlock | apply lNil | apply wp_seq | apply wp_region_lit | apply wp_block | apply cExit | apply cRet | apply cSkip | apply gThen | apply gBlock | apply eThen | apply eBlockHit | refine eBlock rfl ?_ | apply rThen | apply rBlock) | ((with_reducible apply cCond); first | refine cTrue hs rfl bd_ ?_ | refine cFalse hs rfl bd_ ?_))
          exact ⟨k + 1, by omega, hs.sub (Has.all ⟨rfl, rfl, by rw [hnx]; rfl, by rw [hnx]; rfl, rfl, rfl, rfl, trivial⟩), (by rw [hnx]; exact hm.sub (List.sublist_cons_self _ _)), by omega⟩
        · skip
          simp [q1, q2, q3] at hnx
          repeat (first | ((with_reducible first | refine toL hm ?_ | refine toQ ?_); (first | refine oneV hs gw_ rfl rfl (by intro w hm; (first | exact kvR_ | exact r_max hs rfl rfl rfl)) ?_ | refine oneN hs rfl rfl rfl rfl rfl rfl rfl ?_ | refine oneU hs rfl rfl rfl rfl rfl rfl ?_); clear hs a; intro a hs) | ((with_reducible apply lCons); first | (refine dv hs gw_ rfl rfl da_ ?_; clear hs hm a; rintro _ w ⟨g, rfl, -, hm⟩ a hs) | (refine stn hs rfl rfl ds_ ?_; clear hs hm a; rintro - w hm a hs) ) | ((with_reducible apply qNil); clear hm; intro w hm) | ((with_reducible refine cQuiet hm ?_ ?_ ?_ ?_); rfl; kernel_rfl; kernel_rfl) | (with_reducible first | apply lNilThen | apply lNilBlock | apply lNil | apply wp_seq | apply wp_region_lit | apply wp_block | apply cExit | apply cRet | apply cSkip | apply gThen | apply gBlock | apply eThen | apply eBlockHit | refine eBlock rfl ?_ | apply rThen | apply rBlock) | ((with_reducible apply cCond); first | refine cTrue hs rfl bd_ ?_ | refine cFalse hs rfl bd_ ?_))
          exact ⟨k + 1, by omega, hs.sub (Has.all ⟨rfl, rfl, by rw [hnx]; rfl, by rw [hnx]; rfl, rfl, rfl, rfl, trivial⟩), (by rw [hnx]; exact hm.sub (List.sublist_cons_self _ _)), by omega⟩
    · by_cases q2 : 0 ≤ xd
      · by_cases q3 : 0 ≤ xp
        · skip
          simp [q1, q2, q3] at hnx
          repeat (first | ((with_reducible first | refine toL hm ?_ | refine toQ ?_); (first | refine oneV hs gw_ rfl rfl (by intro w hm; (first | exact kvR_ | exact r_max hs rfl rfl rfl)) ?_ | refine oneN hs rfl rfl rfl rfl rfl rfl rfl ?_ | refine oneU hs rfl rfl rfl rfl rfl rfl ?_); clear hs a; intro a hs) | ((with_reducible apply lCons); first | (refine dv hs gw_ rfl rfl da_ ?_; clear hs hm a; rintro _ w ⟨g, rfl, -, hm⟩ a hs) | (refine stn hs rfl rfl ds_ ?_; clear hs hm a; rintro - w hm a hs) ) | ((with_reducible apply qNil); clear hm; intro w hm) | ((with_reducible refine cQuiet hm ?_ ?_ ?_ ?_); rfl; kernel_rfl; kernel_rfl) | (with_reducible first | apply lNilThen | apply lNilBlock | apply lNil | apply wp_seq | apply wp_region_lit | apply wp_block | apply cExit | apply cRet | apply cSkip | apply gThen | apply gBlock | apply eThen | apply eBlockHit | refine eBlock rfl ?_ | apply rThen | apply rBlock) | ((with_reducible apply cCond); first | refine cTrue hs rfl bd_ ?_ | refine cFalse hs rfl bd_ ?_))
          exact ⟨k + 1, by omega, hs.sub (Has.all ⟨rfl, rfl, by rw [hnx]; rfl, by rw [hnx]; rfl, rfl, rfl, rfl, trivial⟩), (by rw [hnx]; exact hm.sub (List.sublist_cons_self _ _)), by omega⟩
        · skip
          simp [q1, q2, q3] at hnx
          repeat (first | ((with_reducible first | refine toL hm ?_ | refine toQ ?_); (first | refine oneV hs gw_ rfl rfl (by intro w hm; (first | exact kvR_ | exact r_max hs rfl rfl rfl)) ?_ | refine oneN hs rfl rfl rfl rfl rfl rfl rfl ?_ | refine oneU hs rfl rfl rfl rfl rfl rfl ?_); clear hs a; intro a hs) | ((with_reducible apply lCons); first | (refine dv hs gw_ rfl rfl da_ ?_; clear hs hm a; rintro _ w ⟨g, rfl, -, hm⟩ a hs) | (refine stn hs rfl rfl ds_ ?_; clear hs hm a; rintro - w hm a hs) ) | ((with_reducible apply qNil); clear hm; intro w hm) | ((with_reducible refine cQuiet hm ?_ ?_ ?_ ?_); rfl; kernel_rfl; kernel_rfl) | (with_reducible first | apply lNilThen | apply lNilBlock | apply lNil | apply wp_seq | apply wp_region_lit | apply wp_block | apply cExit | apply cRet | apply cSkip | apply gThen | apply gBlock | apply eThen | apply eBlockHit | refine eBlock rfl ?_ | apply rThen | apply rBlock) | ((with_reducible apply cCond); first | refine cTrue hs rfl bd_ ?_ | refine cFalse hs rfl bd_ ?_))
          exact ⟨k + 1, by omega, hs.sub (Has.all ⟨rfl, rfl, by rw [hnx]; rfl, by rw [hnx]; rfl, rfl, rfl, rfl, trivial⟩), (by rw [hnx]; exact hm.sub (List.sublist_cons_self _ _)), by omega⟩
      · by_cases q3 : 0 ≤ xp
        · skip
          simp [q1, q2, q3] at hnx
          repeat (first | ((with_reducible first | refine toL hm ?_ | refine toQ ?_); (first | refine oneV hs gw_ rfl rfl (by intro w hm; (first | exact kvR_ | exact r_max hs rfl rfl rfl)) ?_ | refine oneN hs rfl rfl rfl rfl rfl rfl rfl ?_ | refine oneU hs rfl rfl rfl rfl rfl rfl ?_); clear hs a; intro a hs) | ((with_reducible apply lCons); first | (refine dv hs gw_ rfl rfl da_ ?_; clear hs hm a; rintro _ w ⟨g, rfl, -, hm⟩ a hs) | (refine stn hs rfl rfl ds_ ?_; clear hs hm a; rintro - w hm a hs) ) | ((with_reducible apply qNil); clear hm; intro w hm) | ((with_reducible refine cQuiet hm ?_ ?_ ?_ ?_); rfl; kernel_rfl; kernel_rfl) | (with_reducible first | apply lNilThen | apply lNilBlock | apply lNil | apply wp_seq | apply wp_region_lit | apply wp_block | apply cExit | apply cRet | apply cSkip | apply gThen | apply gBlock | apply eThen | apply eBlockHit | refine eBlock rfl ?_ | apply rThen | apply rBlock) | ((with_reducible apply cCond); first | refine cTrue hs rfl bd_ ?_ | refine cFalse hs rfl bd_ ?_))
          exact ⟨k + 1, by omega, hs.sub (Has.all ⟨rfl, rfl, by rw [hnx]; rfl, by rw [hnx]; rfl, rfl, rfl, rfl, trivial⟩), (by rw [hnx]; exact hm.sub (List.sublist_cons_self _ _)), by omega⟩
        · skip
          simp [q1, q2, q3] at hnx
          repeat (first | ((with_reducible first | refine toL hm ?_ | refine toQ ?_); (first | refine oneV hs gw_ rfl rfl (by intro w hm; (first | exact kvR_ | exact r_max hs rfl rfl rfl)) ?_ | refine oneN hs rfl rfl rfl rfl rfl rfl rfl ?_ | refine oneU hs rfl rfl rfl rfl rfl rfl ?_); clear hs a; intro a hs) | ((with_reducible apply lCons); first | (refine dv hs gw_ rfl rfl da_ ?_; clear hs hm a; rintro _ w ⟨g, rfl, -, hm⟩ a hs) | (refine stn hs rfl rfl ds_ ?_; clear hs hm a; rintro - w hm a hs) ) | ((with_reducible apply qNil); clear hm; intro w hm) | ((with_reducible refine cQuiet hm ?_ ?_ ?_ ?_); rfl; kernel_rfl; kernel_rfl) | (with_reducible first | apply lNilThen | apply lNilBlock | apply lNil | apply wp_seq | apply wp_region_lit | apply wp_block | apply cExit | apply cRet | apply cSkip | apply gThen | apply gBlock | apply eThen | apply eBlockHit | refine eBlock rfl ?_ | apply rThen | apply rBlock) | ((with_reducible apply cCond); first | refine cTrue hs rfl bd_ ?_ | refine cFalse hs rfl bd_ ?_))
          exact ⟨k + 1, by omega, hs.sub (Has.all ⟨rfl, rfl, by rw [hnx]; rfl, by rw [hnx]; rfl, rfl, rfl, rfl, trivial⟩), (by rw [hnx]; exact hm.sub (List.sublist_cons_self _ _)), by omega⟩
  · obtain rfl : k = n := by omega
    rw [List.take_of_length_le (by omega)] at hs hm
    unfold stC at hm
    repeat (first | ((with_reducible refine toL hm ?_); (first | refine oneV hs gw_ rfl rfl (by intro w hm; (first | exact kvR_ | exact r_max hs rfl rfl rfl)) ?_ | refine oneN hs rfl rfl rfl rfl rfl rfl rfl ?_ | refine oneU hs rfl rfl rfl rfl rfl rfl ?_); clear hs a; intro a hs) | ((with_reducible apply lCons); first | (refine dv hs gw_ rfl rfl da_ ?_; clear hs hm a; rintro _ w ⟨g, rfl, -, hm⟩ a hs) | (refine stn hs rfl rfl ds_ ?_; clear hs hm a; rintro - w hm a hs) ) | (with_reducible first | apply lNilThen | apply lNilBlock | apply lNil | apply wp_seq | apply wp_region_lit | apply wp_block | apply cExit | apply cRet | apply cSkip | apply gThen | apply gBlock | apply eThen | apply eBlockHit | refine eBlock rfl ?_ | apply rThen | apply rBlock) | ((with_reducible apply cCond); first | refine cTrue hs rfl bd_ ?_ | refine cFalse hs rfl bd_ ?_))
    exact gRetN tab hs rfl (.cons (.cells rfl rfl rfl rfl (hm.ro (k := 0) (n := 7) (g := g2) mem_ (cutF_ok rfl))) .nil) ⟨rfl, hm.fr⟩
end Go.Proofs.YtlapnhpaedkgcaaDoor
