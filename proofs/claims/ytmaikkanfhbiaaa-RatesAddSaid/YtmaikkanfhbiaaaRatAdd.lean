/- RatesAdd: adding; what lies between; the walk. -/
import Derived.Test.YtmaikkanfhbiaaaRadd
namespace Go.Proofs.Ytmaikkanfhbiaaa
open Go.RowKit

theorem mx_le {a b n : Int} (ha : a ≤ n) (hb : b ≤ n) : (if b > a then b else a) ≤ n := by split <;> assumption
theorem run_max5 {P : Program} (ts : Array TypeId) (t : TypeId) (a b c d e n : Int) (ha : a ≤ n) (hb : b ≤ n) (hc : c ≤ n) (hd : d ≤ n) (he : e ≤ n) :
    ∃ M, M ≤ n ∧ ∀ u, (Builtin.max_ ts t #[.int .i64 a, .int .i64 b, .int .i64 c, .int .i64 d, .int .i64 e]).run P u = .ok (.int .i64 M) u := by
  refine ⟨_, mx_le (mx_le (mx_le (mx_le ha hb) hc) hd) he, fun u => ?_⟩
  simp [Builtin.max_, Builtin.max2]
set_option maxHeartbeats 2000000 in
theorem add_c (i f r l la lo ls i' f' r' l' la' lo' ls' : Int) (w : World) (h : OkS i f r l la lo ls) (h' : OkS i' f' r' l' la' lo' ls')
    (b1 : i + i' ≤ 1073741824) (b2 : l + l' ≤ 1073741824) (b3 : lo + lo' ≤ 1073741824) :
    Calls Try.prog 6 #[.agg (sV i f r l la lo ls), .agg (sV i' f' r' l' la' lo' ls')] w fun e w' => e = .returned (.tuple #[.agg (sV (i + i') (f + f') (r + r') (l + l') (mx la la') (lo + lo') (mx ls ls')), .int .i64 0]) ∧ Pu w w' := by
  have hr := fun u => right_ok i f r l la lo ls u h
  have hr' := fun u => right_ok i' f' r' l' la' lo' ls' u h'
  have K0 : Kp [(w.heap.size + 2, 25, #[.int .i64 0, .int .i64 0, .int .i64 0, .int .i64 0, .int .i64 0, .int .i64 0, .int .i64 0]), (w.heap.size + 1, 25, #[.int .i64 i', .int .i64 f', .int .i64 r', .int .i64 l', .int .i64 la', .int .i64 lo', .int .i64 ls']), (w.heap.size, 25, #[.int .i64 i, .int .i64 f, .int .i64 r, .int .i64 l, .int .i64 la, .int .i64 lo, .int .i64 ls])] (((w.alloc (.cells (sV i f r l la lo ls) 25)).alloc (.cells (sV i' f' r' l' la' lo' ls') 25)).alloc (.cells #[.int .i64 0, .int .i64 0, .int .i64 0, .int .i64 0, .int .i64 0, .int .i64 0, .int .i64 0] 25)) := by
    have := (((Kp.nil w).new 25 (sV i f r l la lo ls)).new 25 (sV i' f' r' l' la' lo' ls')).new 25 #[.int .i64 0, .int .i64 0, .int .i64 0, .int .i64 0, .int .i64 0, .int .i64 0, .int .i64 0]
    simpa [Nat.add_assoc, sV] using this
  have HF0 : Pu w (((w.alloc (.cells (sV i f r l la lo ls) 25)).alloc (.cells (sV i' f' r' l' la' lo' ls') 25)).alloc (.cells #[.int .i64 0, .int .i64 0, .int .i64 0, .int .i64 0, .int .i64 0, .int .i64 0, .int .i64 0] 25)) := (((Fr.refl _ w).alloc _).alloc _).alloc _
  obtain ⟨⟨q1, _⟩, ⟨q2, _⟩, ⟨q3, _⟩, ⟨q4, _⟩, ⟨q5, _⟩, ⟨q6, _⟩, ⟨q7, _⟩, q8, q9, q10, q11⟩ := h
  obtain ⟨⟨z1, _⟩, ⟨z2, _⟩, ⟨z3, _⟩, ⟨z4, _⟩, ⟨z5, _⟩, ⟨z6, _⟩, ⟨z7, _⟩, z8, z9, z10, z11⟩ := h'
  have H1 : mx la la' = if la < la' then la' else la := rfl
  have H2 : mx ls ls' = if ls < ls' then ls' else ls := rfl
  generalize mx la la' = m1 at *
  generalize mx ls ls' = m2 at *
  unfold sV at *
  have E1 : ∃ m, (if la < la' then la' else la) = m ∧ m = m1 := ⟨_, rfl, H1.symm⟩
  obtain ⟨n1, N1, e1⟩ := E1
  have E2 : ∃ m, (if ls < ls' then ls' else ls) = m ∧ m = m2 := ⟨_, rfl, H2.symm⟩
  obtain ⟨n2, N2, e2⟩ := E2
  subst e1
  subst e2
  clear H1 H2
  have KK := Lib.hid K0
  clear K0
  go_enter Try.func6, Try.ntmps6
  go_wp2_with fail
  refine (hr _).mono ?_
  rintro e w1 ⟨rfl, hf1⟩
  have K1 := KK.out.pu hf1
  have c1_0 : (w1).cell? ⟨w.heap.size + 1, 0, none⟩ = some (.int .i64 i') := K1.at_ (g := w.heap.size + 1) (t := 25) (cs := #[.int .i64 i', .int .i64 f', .int .i64 r', .int .i64 l', .int .i64 la', .int .i64 lo', .int .i64 ls']) (by simp) 0
  have c1_1 : (w1).cell? ⟨w.heap.size + 1, 1, none⟩ = some (.int .i64 f') := K1.at_ (g := w.heap.size + 1) (t := 25) (cs := #[.int .i64 i', .int .i64 f', .int .i64 r', .int .i64 l', .int .i64 la', .int .i64 lo', .int .i64 ls']) (by simp) 1
  have c1_2 : (w1).cell? ⟨w.heap.size + 1, 2, none⟩ = some (.int .i64 r') := K1.at_ (g := w.heap.size + 1) (t := 25) (cs := #[.int .i64 i', .int .i64 f', .int .i64 r', .int .i64 l', .int .i64 la', .int .i64 lo', .int .i64 ls']) (by simp) 2
  have c1_3 : (w1).cell? ⟨w.heap.size + 1, 3, none⟩ = some (.int .i64 l') := K1.at_ (g := w.heap.size + 1) (t := 25) (cs := #[.int .i64 i', .int .i64 f', .int .i64 r', .int .i64 l', .int .i64 la', .int .i64 lo', .int .i64 ls']) (by simp) 3
  have c1_4 : (w1).cell? ⟨w.heap.size + 1, 4, none⟩ = some (.int .i64 la') := K1.at_ (g := w.heap.size + 1) (t := 25) (cs := #[.int .i64 i', .int .i64 f', .int .i64 r', .int .i64 l', .int .i64 la', .int .i64 lo', .int .i64 ls']) (by simp) 4
  have c1_5 : (w1).cell? ⟨w.heap.size + 1, 5, none⟩ = some (.int .i64 lo') := K1.at_ (g := w.heap.size + 1) (t := 25) (cs := #[.int .i64 i', .int .i64 f', .int .i64 r', .int .i64 l', .int .i64 la', .int .i64 lo', .int .i64 ls']) (by simp) 5
  have c1_6 : (w1).cell? ⟨w.heap.size + 1, 6, none⟩ = some (.int .i64 ls') := K1.at_ (g := w.heap.size + 1) (t := 25) (cs := #[.int .i64 i', .int .i64 f', .int .i64 r', .int .i64 l', .int .i64 la', .int .i64 lo', .int .i64 ls']) (by simp) 6
  clear K1
  go_wp2_with fail
  refine (hr' _).mono ?_
  rintro e w2 ⟨rfl, hf2⟩
  clear c1_0 c1_1 c1_2 c1_3 c1_4 c1_5 c1_6 hr hr'
  have K2 := (KK.out.pu hf1).pu hf2
  have HF2 : Pu w w2 := (HF0.pu hf1).pu hf2
  have c1_0 : (w2).cell? ⟨w.heap.size + 1, 0, none⟩ = some (.int .i64 i') := K2.at_ (g := w.heap.size + 1) (t := 25) (cs := #[.int .i64 i', .int .i64 f', .int .i64 r', .int .i64 l', .int .i64 la', .int .i64 lo', .int .i64 ls']) (by simp) 0
  have c1_1 : (w2).cell? ⟨w.heap.size + 1, 1, none⟩ = some (.int .i64 f') := K2.at_ (g := w.heap.size + 1) (t := 25) (cs := #[.int .i64 i', .int .i64 f', .int .i64 r', .int .i64 l', .int .i64 la', .int .i64 lo', .int .i64 ls']) (by simp) 1
  have c1_2 : (w2).cell? ⟨w.heap.size + 1, 2, none⟩ = some (.int .i64 r') := K2.at_ (g := w.heap.size + 1) (t := 25) (cs := #[.int .i64 i', .int .i64 f', .int .i64 r', .int .i64 l', .int .i64 la', .int .i64 lo', .int .i64 ls']) (by simp) 2
  have c1_3 : (w2).cell? ⟨w.heap.size + 1, 3, none⟩ = some (.int .i64 l') := K2.at_ (g := w.heap.size + 1) (t := 25) (cs := #[.int .i64 i', .int .i64 f', .int .i64 r', .int .i64 l', .int .i64 la', .int .i64 lo', .int .i64 ls']) (by simp) 3
  have c1_4 : (w2).cell? ⟨w.heap.size + 1, 4, none⟩ = some (.int .i64 la') := K2.at_ (g := w.heap.size + 1) (t := 25) (cs := #[.int .i64 i', .int .i64 f', .int .i64 r', .int .i64 l', .int .i64 la', .int .i64 lo', .int .i64 ls']) (by simp) 4
  have c1_5 : (w2).cell? ⟨w.heap.size + 1, 5, none⟩ = some (.int .i64 lo') := K2.at_ (g := w.heap.size + 1) (t := 25) (cs := #[.int .i64 i', .int .i64 f', .int .i64 r', .int .i64 l', .int .i64 la', .int .i64 lo', .int .i64 ls']) (by simp) 5
  have c1_6 : (w2).cell? ⟨w.heap.size + 1, 6, none⟩ = some (.int .i64 ls') := K2.at_ (g := w.heap.size + 1) (t := 25) (cs := #[.int .i64 i', .int .i64 f', .int .i64 r', .int .i64 l', .int .i64 la', .int .i64 lo', .int .i64 ls']) (by simp) 6
  have c0_0 : (w2).cell? ⟨w.heap.size, 0, none⟩ = some (.int .i64 i) := K2.at_ (g := w.heap.size) (t := 25) (cs := #[.int .i64 i, .int .i64 f, .int .i64 r, .int .i64 l, .int .i64 la, .int .i64 lo, .int .i64 ls]) (by simp) 0
  have c0_1 : (w2).cell? ⟨w.heap.size, 1, none⟩ = some (.int .i64 f) := K2.at_ (g := w.heap.size) (t := 25) (cs := #[.int .i64 i, .int .i64 f, .int .i64 r, .int .i64 l, .int .i64 la, .int .i64 lo, .int .i64 ls]) (by simp) 1
  have c0_2 : (w2).cell? ⟨w.heap.size, 2, none⟩ = some (.int .i64 r) := K2.at_ (g := w.heap.size) (t := 25) (cs := #[.int .i64 i, .int .i64 f, .int .i64 r, .int .i64 l, .int .i64 la, .int .i64 lo, .int .i64 ls]) (by simp) 2
  have c0_3 : (w2).cell? ⟨w.heap.size, 3, none⟩ = some (.int .i64 l) := K2.at_ (g := w.heap.size) (t := 25) (cs := #[.int .i64 i, .int .i64 f, .int .i64 r, .int .i64 l, .int .i64 la, .int .i64 lo, .int .i64 ls]) (by simp) 3
  have c0_4 : (w2).cell? ⟨w.heap.size, 4, none⟩ = some (.int .i64 la) := K2.at_ (g := w.heap.size) (t := 25) (cs := #[.int .i64 i, .int .i64 f, .int .i64 r, .int .i64 l, .int .i64 la, .int .i64 lo, .int .i64 ls]) (by simp) 4
  have c0_5 : (w2).cell? ⟨w.heap.size, 5, none⟩ = some (.int .i64 lo) := K2.at_ (g := w.heap.size) (t := 25) (cs := #[.int .i64 i, .int .i64 f, .int .i64 r, .int .i64 l, .int .i64 la, .int .i64 lo, .int .i64 ls]) (by simp) 5
  have c0_6 : (w2).cell? ⟨w.heap.size, 6, none⟩ = some (.int .i64 ls) := K2.at_ (g := w.heap.size) (t := 25) (cs := #[.int .i64 i, .int .i64 f, .int .i64 r, .int .i64 l, .int .i64 la, .int .i64 lo, .int .i64 ls]) (by simp) 6
  have c2_0 : (w2).cell? ⟨w.heap.size + 2, 0, none⟩ = some (.int .i64 0) := K2.at_ (g := w.heap.size + 2) (t := 25) (cs := #[.int .i64 0, .int .i64 0, .int .i64 0, .int .i64 0, .int .i64 0, .int .i64 0, .int .i64 0]) (by simp) 0
  have c2_1 : (w2).cell? ⟨w.heap.size + 2, 1, none⟩ = some (.int .i64 0) := K2.at_ (g := w.heap.size + 2) (t := 25) (cs := #[.int .i64 0, .int .i64 0, .int .i64 0, .int .i64 0, .int .i64 0, .int .i64 0, .int .i64 0]) (by simp) 1
  have c2_2 : (w2).cell? ⟨w.heap.size + 2, 2, none⟩ = some (.int .i64 0) := K2.at_ (g := w.heap.size + 2) (t := 25) (cs := #[.int .i64 0, .int .i64 0, .int .i64 0, .int .i64 0, .int .i64 0, .int .i64 0, .int .i64 0]) (by simp) 2
  have c2_3 : (w2).cell? ⟨w.heap.size + 2, 3, none⟩ = some (.int .i64 0) := K2.at_ (g := w.heap.size + 2) (t := 25) (cs := #[.int .i64 0, .int .i64 0, .int .i64 0, .int .i64 0, .int .i64 0, .int .i64 0, .int .i64 0]) (by simp) 3
  have c2_4 : (w2).cell? ⟨w.heap.size + 2, 4, none⟩ = some (.int .i64 0) := K2.at_ (g := w.heap.size + 2) (t := 25) (cs := #[.int .i64 0, .int .i64 0, .int .i64 0, .int .i64 0, .int .i64 0, .int .i64 0, .int .i64 0]) (by simp) 4
  have c2_5 : (w2).cell? ⟨w.heap.size + 2, 5, none⟩ = some (.int .i64 0) := K2.at_ (g := w.heap.size + 2) (t := 25) (cs := #[.int .i64 0, .int .i64 0, .int .i64 0, .int .i64 0, .int .i64 0, .int .i64 0, .int .i64 0]) (by simp) 5
  have c2_6 : (w2).cell? ⟨w.heap.size + 2, 6, none⟩ = some (.int .i64 0) := K2.at_ (g := w.heap.size + 2) (t := 25) (cs := #[.int .i64 0, .int .i64 0, .int .i64 0, .int .i64 0, .int .i64 0, .int .i64 0, .int .i64 0]) (by simp) 6
  have l2 : w.heap.size + 2 < (w2).heap.size := K2.lt_ (g := w.heap.size + 2) (t := 25) (cs := #[.int .i64 0, .int .i64 0, .int .i64 0, .int .i64 0, .int .i64 0, .int .i64 0, .int .i64 0]) (by simp)
  have B2 := K2 (w.heap.size + 2, 25, #[.int .i64 0, .int .i64 0, .int .i64 0, .int .i64 0, .int .i64 0, .int .i64 0, .int .i64 0]) (by simp)
  have f0 := B2.frozen 0
  have f1 := B2.frozen 1
  have f2 := B2.frozen 2
  have f3 := B2.frozen 3
  have f4 := B2.frozen 4
  have f5 := B2.frozen 5
  have f6 := B2.frozen 6
  clear K2 KK HF0 hf1 hf2 B2
  obtain ⟨M, hM, h5⟩ := run_max5 (P := Try.prog) #[3, 3, 3, 3, 3] 3 (i + i') (f + f') (r + r') (l + l') (lo + lo') 1073741824 b1 (by omega) (by omega) b2 b3
  go_wp2_with fail
  all_goals
    have L2 : w.heap.size + 1 + 1 < w2.heap.size := l2
    have d0 : w2.cell? ⟨w.heap.size + 1 + 1, 0, none⟩ = some (.int .i64 0) := c2_0
    have d1 : w2.cell? ⟨w.heap.size + 1 + 1, 1, none⟩ = some (.int .i64 0) := c2_1
    have d2 : w2.cell? ⟨w.heap.size + 1 + 1, 2, none⟩ = some (.int .i64 0) := c2_2
    have d3 : w2.cell? ⟨w.heap.size + 1 + 1, 3, none⟩ = some (.int .i64 0) := c2_3
    have d4 : w2.cell? ⟨w.heap.size + 1 + 1, 4, none⟩ = some (.int .i64 0) := c2_4
    have d5 : w2.cell? ⟨w.heap.size + 1 + 1, 5, none⟩ = some (.int .i64 0) := c2_5
    have d6 : w2.cell? ⟨w.heap.size + 1 + 1, 6, none⟩ = some (.int .i64 0) := c2_6
    refine bodyPost_ret (v := .tuple #[.agg #[.int .i64 (i + i'), .int .i64 (f + f'), .int .i64 (r + r'), .int .i64 (l + l'), .int .i64 n1, .int .i64 (lo + lo'), .int .i64 n2], .int .i64 0]) (by simp [results, Try.results6, go_sem, L2, d0, d1, d2, d3, d4, d5, d6]) rfl ⟨rfl, ?_⟩
    have Lw : w.heap.size ≤ w.heap.size + 1 + 1 := by omega
    exact (((((((HF2.setCell (p := ⟨w.heap.size + 1 + 1, 0, none⟩) (.inr Lw) _).setCell (p := ⟨w.heap.size + 1 + 1, 1, none⟩) (.inr Lw) _).setCell (p := ⟨w.heap.size + 1 + 1, 2, none⟩) (.inr Lw) _).setCell (p := ⟨w.heap.size + 1 + 1, 3, none⟩) (.inr Lw) _).setCell (p := ⟨w.heap.size + 1 + 1, 4, none⟩) (.inr Lw) _).setCell (p := ⟨w.heap.size + 1 + 1, 5, none⟩) (.inr Lw) _).setCell (p := ⟨w.heap.size + 1 + 1, 6, none⟩) (.inr Lw) _).alloc _
end Go.Proofs.Ytmaikkanfhbiaaa
