/- The deck of numbers: Mod, New, Next. -/
import Derived.Test.YtfcimpfhfbkgbaaRows
import Derived.Test.YtfcimpfhfbkgbaaLib
namespace Go.Proofs.Ytfcimpfhfbkgbaa
open Go.RowKit

theorem tmod_emod_nonneg {v n : Int} (hv : 0 ≤ v) : v.tmod n = v % n := Int.tmod_eq_emod_of_nonneg hv
theorem tmod_neg_cases {v n : Int} (hv : v < 0) (hn : 1 ≤ n) : (v.tmod n < 0 ∧ v.tmod n + n = v % n ∧ -n < v.tmod n) ∨ (v.tmod n = 0 ∧ v % n = 0) := by
  have h1 : v.tmod n = -((-v) % n) := by
    have := Int.neg_tmod (a := -v) (b := n)
    rw [Int.neg_neg] at this
    rw [this, Int.tmod_eq_emod_of_nonneg (by omega)]
  have h2 := Int.emod_nonneg (-v) (b := n) (by omega)
  have h3 := Int.emod_lt_of_pos (-v) (b := n) (by omega)
  have h4 : v % n = (-(((-v) % n))) % n := by
    conv => lhs; rw [← Int.neg_neg v]
    rw [Int.neg_emod_eq_sub_emod, Int.neg_emod_eq_sub_emod, Int.sub_emod, Int.emod_self, Int.zero_sub, Int.sub_emod n, Int.emod_self, Int.zero_sub, Int.emod_emod]
  by_cases h0 : (-v) % n = 0
  · right
    rw [h1, h0]; refine ⟨rfl, ?_⟩
    rw [h4, h0]; simp
  · left
    rw [h1]
    refine ⟨by omega, ?_, by omega⟩
    have h5 : (-(-v % n)) % n = n - -v % n := by
      rw [Int.neg_emod_eq_sub_emod (a := -v % n)]
      exact Int.emod_eq_of_lt (by omega) (by omega)
    rw [h4, h5]
    omega

set_option maxHeartbeats 400000 in
theorem refMod (v n : Int) (w : World) (hv : I64 v) (hn : 1 ≤ n) (hn' : n ≤ 9223372036854775807) :
    Calls Try.prog 36 #[.int .i64 v, .int .i64 n] w fun e w' => e = .returned (.int .i64 (v % n)) ∧ w = w' := by
  obtain ⟨hv1, hv2⟩ := hv
  by_cases h : 0 ≤ v
  · have hm := Int.emod_nonneg v (b := n) (by omega)
    go_enter Try.func36, Try.ntmps36
    go_wp2
    go_ret
    exact ⟨rfl, rfl⟩
  · have h0 : v < 0 := by omega
    rcases tmod_neg_cases h0 hn with ⟨a, b, c⟩ | ⟨a, b⟩
    · have B := Lib.hid b
      clear b
      go_enter Try.func36, Try.ntmps36
      go_wp2
      go_ret
      exact ⟨ret_i B.out, rfl⟩
    · have B := Lib.hid b
      have A' : ¬ v.tmod n < 0 := by omega
      have A2 := Lib.hid a
      clear b a
      go_enter Try.func36, Try.ntmps36
      go_wp2
      go_ret
      exact ⟨ret_i (by rw [A2.out, B.out]), rfl⟩

set_option maxHeartbeats 400000 in
theorem mkMod (v n : Int) (w : World) (hv : I64 v) (hn : 1 ≤ n) (hn' : n ≤ 9223372036854775807) :
    Calls Try.prog 17 #[.int .i64 v, .int .i64 n] w fun e w' => e = .returned (.int .i64 (v % n)) ∧ w = w' := by
  go_enter Try.func17, Try.ntmps17
  go_wp2_with (go_at_call 36; refine (refMod v n _ hv hn hn').mono ?_; rintro e w' ⟨rfl, rfl⟩)
  go_ret
  exact ⟨rfl, rfl⟩

/-- Block g is a deck: a list of ints in older blocks, and a place in it. -/
def DeckOK (w : World) (g : Nat) : Prop :=
  ∃ (A : Option Addr) (c : Nat) (xs : List Int) (p : Nat), Blk w g 62 #[.slice A xs.length c, .int .i64 p] ∧ Rd w g A (ints xs) ∧ (∀ x ∈ xs, I64 x) ∧ xs.length ≤ 9223372036854775807 ∧ p ≤ xs.length

theorem DeckOK.keep {w w' : World} {g : Nat} (h : DeckOK w g) (hb : ∀ i, i ≤ g → w'.heap[i]? = w.heap[i]?) : DeckOK w' g := by
  obtain ⟨A, c, xs, p, h1, h2, h3⟩ := h
  exact ⟨A, c, xs, p, (hb g (Nat.le_refl _)).trans h1, h2.keep fun a ha => World.cell?_of_block (hb _ (by omega)), h3⟩

set_option maxHeartbeats 400000 in
theorem mkNew (A : Option Addr) (c : Nat) (xs : List Int) (w : World) (hr : Rd w w.heap.size A (ints xs)) (hx : ∀ x ∈ xs, I64 x) (hl : xs.length ≤ 9223372036854775807) :
    Calls Try.prog 9 #[.slice A xs.length c] w fun e w' => e = .returned (.pointer (some ⟨w.heap.size, 0, none⟩)) ∧ DeckOK w' w.heap.size ∧ w' = w.alloc (.cells #[.slice A xs.length c, .int .i64 0] 62) := by
  go_enter Try.func9, Try.ntmps9
  go_wp2
  go_ret
  exact ⟨rfl, ⟨A, c, xs, 0, Blk.new _ _ _, hr.keep fun p hp => World.cell?_alloc_lt w _ p hp, hx, hl, Nat.zero_le _⟩, rfl⟩

set_option maxHeartbeats 400000 in
theorem mkNext (g : Nat) (n : Int) (w : World) (hd : DeckOK w g) (hn : 1 ≤ n) (hn' : n ≤ 9223372036854775807) :
    Calls Try.prog 19 #[.pointer (some ⟨g, 0, none⟩), .int .i64 n] w fun e w' =>
      ∃ r : Nat, e = .returned (.int .i64 r) ∧ (r : Int) < n ∧ DeckOK w' g ∧ w.grownBy w' (some g) := by
  obtain ⟨A, c, xs, p, hb, hr, hx, hl, hp⟩ := hd
  have c0 : w.cell? ⟨g, 0, none⟩ = some (.slice A xs.length c) := hb.cell 0
  have c1 : w.cell? ⟨g, 1, none⟩ = some (.int .i64 p) := hb.cell 1
  have f1 : w.frozen? ⟨g, 1, none⟩ = false := hb.frozen 1
  by_cases h : p < xs.length
  · obtain ⟨b, off, rfl, had, hc⟩ := hr.at_ (k := p) (by rw [ints_len]; exact h)
    rw [ints_get h] at hc
    have hv := hx xs[p] (List.getElem_mem h)
    have d1 : b ≠ g := by omega
    have hm0 := Int.emod_nonneg xs[p] (b := n) (by omega)
    have hm1 := Int.emod_lt_of_pos xs[p] (b := n) (by omega)
    go_enter Try.func19, Try.ntmps19
    go_wp2
    go_quiet (fail)
    go_wp2
    have hb' := (hb.drewN nq).set_ 1 (.int .i64 ((p : Int) + 1))
    have hr' : Rd ((w.drewN nq).setCell ⟨g, 1, none⟩ (.int .i64 ((p : Int) + 1))) g (some ⟨b, off, none⟩) (ints xs) :=
      (hr.drewN nq).keep fun q hq => World.cell?_setCell_other _ _ q _ (fun e => by subst e; simp at hq)
    have hg' : w.grownBy ((w.drewN nq).setCell ⟨g, 1, none⟩ (.int .i64 ((p : Int) + 1))) (some g) := grown_setCell (grown_drewN (World.grownBy.refl w _) nq) (.inl rfl) _
    generalize (w.drewN nq).setCell ⟨g, 1, none⟩ (.int .i64 ((p : Int) + 1)) = W at *
    clear c0 c1 f1 hc hb
    have c0 : W.cell? ⟨g, 0, none⟩ = some (.slice (some ⟨b, off, none⟩) xs.length c) := hb'.cell 0
    have c1 : W.cell? ⟨g, 1, none⟩ = some (.int .i64 ((p : Int) + 1)) := hb'.cell 1
    have hc : W.cell? ⟨b, off + p, none⟩ = some (.int .i64 xs[p]) := by
      obtain ⟨b', off', e, _, h2⟩ := hr'.at_ (k := p) (by rw [ints_len]; exact h)
      cases e
      rw [h2, ints_get h]
    go_quiet ((go_at_call 17; exact quietL (mkMod _ _ _ hv hn hn')))
    go_wp2
    go_ret
    exact ⟨(xs[p] % n).toNat, ret_i (by omega), by omega, ⟨some ⟨b, off, none⟩, c, xs, p + 1, by simpa using hb'.drewN _, hr'.drewN _, hx, hl, by omega⟩, grown_drewN hg' _⟩
  · have e : p = xs.length := by omega
    go_enter Try.func19, Try.ntmps19
    go_wp2
    go_quiet (fail)
    go_wp2
    go_ret
    exact ⟨0, rfl, by omega, ⟨A, c, xs, p, hb, hr, hx, hl, hp⟩, grown_drewN (World.grownBy.refl w _) _⟩

/-- What sizes are valid. -/
def VSizes (xs : List Int) : Prop := 1 ≤ xs.length ∧ xs.length ≤ 4 ∧ (∀ x ∈ xs, 1 ≤ x ∧ x ≤ 32)

theorem Try.infoInt : (Try.prog.info? 3).map (fun i => (i.zero, i.size, i.bytes)) = some (some (.int .i64 0), 1, 8) := by kernel_rfl

theorem DeckOK.fr {S : Nat → Prop} {w w' : World} {g : Nat} (h : DeckOK w g) (hg : g < w.heap.size) (hf : Fr S w w') (hS : ∀ i, i ≤ g → ¬ S i) : DeckOK w' g :=
  h.keep fun i hi => hf.block i (by omega) (hS i hi)
theorem DeckOK.lt {w : World} {g : Nat} (h : DeckOK w g) : g < w.heap.size := by
  obtain ⟨A, c, xs, p, hb, _⟩ := h
  exact hb.lt
theorem DeckOK.alloc {w : World} {g : Nat} (h : DeckOK w g) (o : Obj) : DeckOK (w.alloc o) g :=
  h.fr h.lt ((Fr.refl (fun _ => False) w).alloc o) (fun _ _ t => t)

theorem DeckOK.set_ {w : World} {g : Nat} (h : DeckOK w g) {q : Addr} (hq : g < q.block) (u : Value) : DeckOK (w.setCell q u) g :=
  h.keep fun i hi => Below.heap_setCell w q u i (by omega)

set_option maxHeartbeats 400000 in
/-- Next, in the frame's words. -/
theorem next (g : Nat) (n : Int) (w : World) (hd : DeckOK w g) (hn : 1 ≤ n) (hn' : n ≤ 9223372036854775807) :
    Calls Try.prog 19 #[.pointer (some ⟨g, 0, none⟩), .int .i64 n] w fun e w' =>
      ∃ r : Nat, e = .returned (.int .i64 r) ∧ (r : Int) < n ∧ DeckOK w' g ∧ Fr (· = g) w w' :=
  (mkNext g n w hd hn hn').mono fun _ _ ⟨r, a, b, c, d⟩ => ⟨r, a, b, c, .of_grown d⟩

theorem VSizes.add {xs : List Int} (h : VSizes xs) (hl : xs.length < 4) {x : Int} (h1 : 1 ≤ x) (h2 : x ≤ 32) : VSizes (xs ++ [x]) :=
  ⟨by simp, by simp; omega, fun y hy => by
    rcases List.mem_append.1 hy with h' | h'
    · exact h.2.2 y h'
    · obtain rfl : y = x := by simpa using h'
      exact ⟨h1, h2⟩⟩
theorem VSizes.one {x : Int} (h1 : 1 ≤ x) (h2 : x ≤ 32) : VSizes [x] := ⟨by simp, by simp, fun y hy => by
  obtain rfl : y = x := by simpa using hy
  exact ⟨h1, h2⟩⟩
theorem ints_snoc (xs : List Int) (x : Int) : ints (xs ++ [x]) = ints xs ++ [.int .i64 x] := by simp [ints]

set_option maxHeartbeats 1000000 in
theorem mkSizes (g : Nat) (w : World) (hd : DeckOK w g) :
    Calls Try.prog 10 #[.pointer (some ⟨g, 0, none⟩)] w fun e w' =>
      ∃ (v : Value) (xs : List Int), e = .returned v ∧ VSizes xs ∧ w'.ownsRow w.heap.size 3 1 v xs.length (ints xs) ∧ DeckOK w' g ∧ Fr (· = g) w w' := by
  obtain ⟨i0, hi, hz0, hz1, hz2⟩ := info_parts Try.infoInt
  have hg := hd.lt
  go_enter Try.func10, Try.ntmps10
  go_wp2_with fail
  refine (next g 9 _ hd (by omega) (by omega)).mono ?_
  rintro e w1 ⟨r, rfl, hr, hd1, hf1⟩
  go_wp2_with fail
  refine (next g 4 _ (hd1.alloc _) (by omega) (by omega)).mono ?_
  rintro e w2 ⟨r2, rfl, hr2, hd2, hf2⟩
  have ho2 : w2.ownsRow w.heap.size 3 1 (.slice (some ⟨w1.heap.size, 0, none⟩) 1 1) 1 (ints [4 + r]) :=
    hf2.own (World.ownsRow_lit w1 #[.int .i64 (4 + r)] 1 hf1.size (by decide) rfl) (fun k hk => by
      have : k = w1.heap.size := by simpa [Value.ownBlock] using hk.symm
      have := hf1.size
      omega)
  have hF : Fr (· = g) w w2 := (hf1.alloc _).trans hf2
  go_wp2_with fail
  go_loopw [3, 4] (fun v k wr => ∃ (xs : List Int) (n : Nat), k = .int .i64 n ∧ VSizes xs ∧ xs.length + n ≤ 4 ∧ wr.ownsRow w.heap.size 3 1 v xs.length (ints xs) ∧ DeckOK wr g ∧ Fr (· = g) w wr)
    (fun _ k _ => (intOf k).toNat)
  case atStart => exact ⟨[4 + (r : Int)], r2, rfl, VSizes.one (by omega) (by omega), by simp; omega, ho2, hd2, hF⟩
  case round =>
    obtain ⟨xs, n, rfl, hv, hl, hown, hdr, hFr⟩ := hrel
    by_cases hn : 0 < n
    · go_wp2_with fail
      refine (next g 3 _ (hdr.alloc _) (by omega) (by omega)).mono ?_
      rintro e w3 ⟨r3, rfl, hr3, hd3, hf3⟩
      have hb3 : Blk w3 wr.heap.size 3 #[.int .i64 6, .int .i64 12, .int .i64 32] := hf3.blk (Blk.new wr _ _) (by have := hdr.lt; omega)
      obtain ⟨m, hm6, hm32, hc3⟩ : ∃ m : Int, 6 ≤ m ∧ m ≤ 32 ∧ w3.cell? ⟨wr.heap.size, r3, none⟩ = some (.int .i64 m) := by
        rw [hb3.cell]
        rcases (by omega : r3 = 0 ∨ r3 = 1 ∨ r3 = 2) with rfl | rfl | rfl
        · exact ⟨6, by omega, by omega, rfl⟩
        · exact ⟨12, by omega, by omega, rfl⟩
        · exact ⟨32, by omega, by omega, rfl⟩
      go_wp2_with fail
      refine (next g m _ hd3 (by omega) (by omega)).mono ?_
      rintro e w4 ⟨r4, rfl, hr4, hd4, hf4⟩
      have hF4 : Fr (· = g) w w4 := (((hFr.alloc _).trans hf3).trans hf4)
      have ho4 : w4.ownsRow w.heap.size 3 1 _ xs.length (ints xs) := hf4.own (hf3.own (hown.alloc _) (fun k hk => by have := hown.lt k hk; omega)) (fun k hk => by have := hown.lt k hk; omega)
      go_wp2_with (at_builtin; refine wpList_app1 rfl _ _ 25 rfl w.heap.size 3 i0 (.int .i64 0) 1 8 Try.underlying25 hi hz0 hz1 hz2 rfl (by decide) _ xs.length (ints xs) rfl ho4 _ rfl rfl (by intro u hu; simp at hu; subst hu; rfl) (by unfold maxLen; omega) (by omega) hF4.size ?_)
      intro v' w5 hown5 hf5 hnew
      go_wp2_with fail
      go_roundw
      case rel =>
        refine ⟨xs ++ [1 + (r4 : Int)], n - 1, by go_num, hv.add (by omega) (by omega) (by omega), by simp; omega, ?_, ?_, ?_⟩
        · rw [ints_snoc]; simpa using hown5
        · exact hd4.fr hd4.lt hf5 (fun i hi hk => by have := ho4.lt i hk; omega)
        · exact hF4.then hf5 (fun i hi hk => by have := ho4.lt i hk; omega)
      case measure => simp [intOf]; omega
    · go_wp2_with fail
      go_ret
      exact ⟨_, xs, rfl, hv, hown, hdr, hFr⟩
end Go.Proofs.Ytfcimpfhfbkgbaa
