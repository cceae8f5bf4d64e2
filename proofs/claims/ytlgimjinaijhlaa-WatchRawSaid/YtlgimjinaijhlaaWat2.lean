/- A new watch; a copy; equal numbers; whether a replica answers. -/
import Derived.Test.YtlgimjinaijhlaaWat
import Derived.Lib.SliceRun
namespace Go.Proofs.Ytlgimjinaijhlaa
open Go.RowKit

theorem Try.infoI : (Try.prog.info? 3).map (fun i => (i.zero, i.size, i.bytes)) = some (some (.int .i64 0), 1, 8) := by kernel_rfl
/-- n cells of 0 -/
theorem made_int (n : Nat) (hn : n ≤ 1000) : ∃ Z : Array Value, Z.size = n ∧ Z.toList = ints (List.replicate n 0) ∧ ∀ u, (Instr.makeSlice 22 (.int .i64 n) (.int .i64 n)).run Try.prog u = .ok (.slice (some ⟨u.heap.size, 0, none⟩) n n) (u.alloc (.cells Z 3)) := by
  obtain ⟨i0, hi, hz0, hz1, hz2⟩ := info_parts Try.infoI
  refine ⟨madeCells (Value.cells (.int .i64 0)) (n * i0.size), by simp [madeCells, hz1], ?_, fun u => ?_⟩
  · rw [hz1]
    apply List.ext_getElem
    · simp [madeCells, ints]
    · intro j h1 h2
      simp [madeCells, ints, Value.cells, Nat.mod_one]
  · have := run_makeSlice (w := u) 22 3 i0 (.int .i64 0) Try.underlying22 hi hz0 .i64 .i64 n n (by omega) (Int.le_refl _) (by rw [hz1]; simp; omega) (by rw [hz2]; omega) (by omega)
    simpa using this
set_option maxHeartbeats 800000 in
theorem new_ok (n : Nat) (k : Int) (w : World) (hn : 1 ≤ n ∧ n ≤ 5) (hk : 0 ≤ k ∧ k ≤ 20) :
    Calls Try.prog 8 #[.int .i64 n, .int .i64 k] w fun e w' => ∃ A c, e = .returned (.tuple #[.agg #[.int .i64 k, .slice A n c], .int .i64 0]) ∧ Rd w' w'.heap.size A (ints (List.replicate n 0)) ∧ Pu w w' := by
  have hlim := fun u => limits_ok n k u (by omega) hk
  obtain ⟨n1, n2⟩ := hn
  obtain ⟨k1, k2⟩ := hk
  obtain ⟨Z, hZ, hZl, hmk⟩ := made_int n (by omega)
  replace hZl := Lib.hid hZl
  go_enter Try.func8, Try.ntmps8
  go_wp2_with (go_at_call 19; refine (hlim _).mono ?_; rintro e w' ⟨rfl, rfl⟩)
  refine bodyPost_ret (v := .tuple #[.agg #[.int .i64 k, .slice (some ⟨w.heap.size + 1, 0, none⟩) n n], .int .i64 0]) (by simp [results, Try.results8, go_sem]) rfl ⟨_, _, rfl, ?_, ((Fr.refl _ w).alloc _).alloc _⟩
  intro h
  refine ⟨w.heap.size + 1, 0, rfl, by simp, fun j u hu => ?_⟩
  rw [← hZl.out] at hu
  have := (Blk.new (w.alloc (.cells #[.int .i64 k, .slice (some ⟨w.heap.size + 1, 0, none⟩) n n] 24)) 3 Z).cell j
  simp only [World.size_alloc] at this
  rw [Nat.zero_add, this, ← hu, Array.getElem?_toList]

set_option maxHeartbeats 1000000 in
theorem clone_c (A : Option Addr) (n c : Nat) (xs : List Int) (w : World) (hl : xs.length = n) (hn : 1 ≤ n) (hn5 : n ≤ 5) (hr : Rd w w.heap.size A (ints xs)) :
    Calls Try.prog 20 #[.slice A n c] w fun e w' => ∃ (g : Nat) (cap : Nat) (cur : Array Value), e = .returned (.slice (some ⟨g, 0, none⟩) n cap) ∧ w.heap.size ≤ g ∧ Blk w' g 3 cur ∧ n ≤ cur.size ∧ cur.toList.take n = ints xs ∧ Pu w w' := by
  obtain ⟨i0, hi, hz0, hz1, hz2⟩ := info_parts Try.infoI
  obtain ⟨b, off, rfl, hb, hc⟩ := hr (by rw [ints_len]; omega)
  have AA := Lib.hid hc
  have q22 : ∀ (w : World) (a : Option Addr) (n c n' c' : Nat), (binOp .eql 22 (.slice a n c) (.slice none n' c')).run Try.prog w = .ok (.bool a.isNone) w := fun w a n c n' c' => Lib.run_eql_slice_nil w _ _ a n c n' c' Try.underlying22
  clear hc
  go_enter Try.func20, Try.ntmps20
  go_wp2_with (at_builtin; refine wpList_append_own _ rfl _ _ 22 rfl w.heap.size 3 i0 (.int .i64 0) 1 8 Try.underlying22 hi hz0 hz1 hz2 rfl (by decide) _ _ _ rfl (World.ownsRow_made w #[] 0 (Nat.le_refl _) (Nat.zero_le _) (by simp)) ⟨b, off, none⟩ n c (ints xs) rfl ?qc1 ?qc2 ?qc3 ?qc4 ?qc5 ?qc6 ?_)
  case qc1 => rw [ints_len, hl, Nat.mul_one]
  case qc2 =>
    intro j u hj
    rw [add_lit]
    exact cell_alloc (AA.out j u hj)
  case qc3 => intro u hu; simp [ints] at hu; obtain ⟨x, _, rfl⟩ := hu; rfl
  case qc4 => simp only [maxLen]; omega
  case qc5 => omega
  case qc6 => simp
  intro v' w1 hown hgrow hnil
  go_wp2
  go_ret
  obtain ⟨h1, h2⟩ := hown
  rcases h2 with ⟨h2, h3⟩ | ⟨g, cap, cur, rfl, hg, hh, hcap, _, hsz, htk⟩
  · omega
  · refine ⟨g, cap, cur, rfl, hg, hh, by omega, by rw [← htk, Nat.mul_one], ?_⟩
    exact (((Fr.refl _ w).alloc _).grown hgrow fun k hk => .inr (by simp [Value.ownBlock] at hk; omega))

set_option maxHeartbeats 1000000 in
theorem same_c (A B : Option Addr) (n m c d : Nat) (xs ys : List Int) (w : World) (hx : xs.length = n) (hy : ys.length = m) (hn : n ≤ 1000) (hm : m ≤ 1000) (ha : Rd w w.heap.size A (ints xs)) (hb : Rd w w.heap.size B (ints ys)) :
    Calls Try.prog 13 #[.slice A n c, .slice B m d] w fun e w' => e = .returned (.bool (decide (xs = ys))) ∧ Pu w w' := by
  subst hx
  subst hy
  by_cases hlen : xs.length = ys.length
  · go_enter Try.func13, Try.ntmps13
    go_wp2
    go_loopw [5] (fun i wr => ∃ k : Nat, k ≤ xs.length ∧ i = .int .i64 k ∧ Hid (xs.take k = ys.take k) ∧ Pu w wr) (fun i _ => xs.length - (intOf i).toNat)
    case atStart => exact ⟨0, by omega, rfl, rfl, Fr.refl _ _⟩
    case round =>
      obtain ⟨k, hk, rfl, hT, hF⟩ := hrel
      by_cases hlt : k < xs.length
      · obtain ⟨b1, o1, e1, _, hc⟩ := Rd.at_ (hF.rd ha (Nat.le_refl _) (fun _ _ t => t)) (k := k) (by rw [ints_len]; omega)
        obtain ⟨b2, o2, e2, _, hc'⟩ := Rd.at_ (hF.rd hb (Nat.le_refl _) (fun _ _ t => t)) (k := k) (by rw [ints_len]; omega)
        rw [ints_get hlt] at hc
        rw [ints_get (by omega)] at hc'
        have hst : Hid ((xs[k]'hlt = ys[k]'(by omega) → xs.take (k + 1) = ys.take (k + 1)) ∧ (xs[k]'hlt ≠ ys[k]'(by omega) → xs ≠ ys)) := Lib.hid ⟨fun h => by
          rw [List.take_succ_eq_append_getElem hlt, List.take_succ_eq_append_getElem (show k < ys.length by omega), hT.out, h], fun h h' => h (by subst h'; rfl)⟩
        generalize xs[k]'hlt = x at *
        generalize ys[k]'(_) = y at *
        subst e1
        subst e2
        clear ha hb
        by_cases hxy : x = y
        · have h1 : (x != y) = false := by simpa using hxy
          go_wp2
          go_quiet (fail)
          go_wp2
          go_roundw
          case rel => exact ⟨k + 1, by omega, by go_num, hst.out.1 hxy, hF.drewN _⟩
          case measure => simp [intOf]; omega
        · have h1 : (x != y) = true := by simpa using hxy
          go_wp2
          go_quiet (fail)
          go_wp2
          go_ret
          exact ⟨ret_b (df (hst.out.2 hxy)), hF.drewN _⟩
      · go_wp2
        go_ret
        refine ⟨ret_b (dt ?_), hF⟩
        have := hT.out
        rwa [List.take_of_length_le (by omega), List.take_of_length_le (by omega)] at this
  · have hne : xs ≠ ys := fun h => hlen (by rw [h])
    have hR : Hid (false = decide (xs = ys)) := df hne
    clear hne ha hb
    go_enter Try.func13, Try.ntmps13
    go_wp2
    go_ret
    exact ⟨ret_b hR.out, Fr.refl _ _⟩
end Go.Proofs.Ytlgimjinaijhlaa
