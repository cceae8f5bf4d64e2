/- RegionPages: the walk, and the plain laws on pages that it leans on. -/
import Derived.Test.YtgjmndpkjenchaaReg4
import Derived.Test.YtgjmndpkjenchaaOpen
namespace Go.Proofs.Ytgjmndpkjenchaa
open Go.RowKit

theorem loc_of (xs : List Int) (hx : ∀ x ∈ xs, 0 ≤ x) (i : Int) (r : Nat) (o : Int) (hr : r < xs.length) (h0 : 0 ≤ o) (h1 : o < xs[r]) (h : (xs.take r).sum + o = i) : loc xs i = some (r, o) := by
  induction xs generalizing i r with
  | nil => simp at hr
  | cons x t ih =>
    have ht : ∀ y ∈ t, 0 ≤ y := fun y hy => hx y (by simp [hy])
    cases r with
    | zero => simp at h h1; subst h; simp [loc, h1]
    | succ r =>
      simp only [List.take_succ_cons, List.sum_cons] at h
      have hn : 0 ≤ (t.take r).sum := sum_nn _ fun y hy => ht y (List.mem_of_mem_take hy)
      simp only [loc]
      rw [if_neg (by omega), ih ht (i - x) r (by simpa using hr) (by simpa using h1) (by omega)]
      rfl
theorem place_of {xs : List Int} (hx : ∀ x ∈ xs, 0 ≤ x) {i : Int} {r : Nat} {o : Int} (hr : r < xs.length) (h0 : 0 ≤ o) (h1 : o < xs[r]) (h : (xs.take r).sum + o = i) : place xs i = some (r, o) := by
  have hn : 0 ≤ (xs.take r).sum := sum_nn _ fun y hy => hx y (List.mem_of_mem_take hy)
  unfold place
  rw [if_pos (by omega)]
  exact loc_of xs hx i r o hr h0 h1 h

/-- the number of the first place of page i -/
def posAt (xs : List Int) (i : Int) : Int := match place (xs.map pageN) i with | some p => (xs.take p.1).sum + p.2 * 8 | none => xs.sum

theorem page_nn {xs : List Int} (hv : VSizes xs) : ∀ y ∈ xs.map pageN, 0 ≤ y := fun y hy => by
  obtain ⟨x, hx, rfl⟩ := List.mem_map.1 hy
  have := hv.2.2 x hx
  have := pageN_bd this.1 this.2
  omega
theorem pages_take (xs : List Int) (r : Nat) (hr : r < xs.length) : ((xs.map pageN).take (r + 1)).sum = ((xs.map pageN).take r).sum + pageN xs[r] := by
  rw [take_snoc _ r (by simpa using hr), List.sum_append]; simp
theorem posAt_zero {xs : List Int} (hv : VSizes xs) : posAt xs 0 = 0 := by
  have h0 : 0 < xs.length := hv.1
  have hx := hv.2.2 _ (List.getElem_mem h0)
  have hp := pageN_bd hx.1 hx.2
  have : place (xs.map pageN) 0 = some (0, 0) := place_of (page_nn hv) (r := 0) (by simpa using h0) (Int.le_refl _) (by simp; omega) (by simp)
  unfold posAt; rw [this]; simp
/-- page k: where it lies, what it holds, where the next one begins -/
theorem page_all {xs : List Int} (hv : VSizes xs) {k : Int} (h0 : 0 ≤ k) (h1 : k < pagesS xs) :
    ∃ (r : Nat) (j : Int) (N : Nat), ∃ hr : r < xs.length, pageS xs k = some (pageL r j N) ∧ 1 ≤ N ∧ N ≤ 8 ∧ 0 ≤ j ∧ j < 4 ∧ posAt xs k = (xs.take r).sum + j * 8 ∧ posAt xs (k + 1) = posAt xs k + N ∧ j * 8 + N ≤ xs[r] := by
  obtain ⟨r, j, hp⟩ := place_some h0 h1
  obtain ⟨_, hr', hj0, hj1, hix⟩ := place_spec hp
  have hr : r < xs.length := by simpa using hr'
  have hj1' : j < pageN xs[r] := by simpa using hj1
  have hx := hv.2.2 _ (List.getElem_mem hr)
  have hpn := pageN_bd hx.1 hx.2
  obtain ⟨hN, hN8⟩ := pageLen_eq hj1'
  have hpe : pageN xs[r] = (xs[r] + 7) / 8 := rfl
  have hN1 : 1 ≤ pageLen j xs[r] := by omega
  have hpos : posAt xs k = (xs.take r).sum + j * 8 := by unfold posAt; rw [hp]
  unfold indexS at hix
  simp only [Int.toNat_natCast] at hix
  refine ⟨r, j, pageLen j xs[r], hr, ?_, hN1, hN8, hj0, by omega, hpos, ?_, by omega⟩
  · unfold pageS; rw [hp]; simp [List.getD, hr]
  · rw [hpos]
    by_cases hlast : j + 1 < pageN xs[r]
    · have : place (xs.map pageN) (k + 1) = some (r, j + 1) := place_of (page_nn hv) hr' (by omega) (by simpa using hlast) (by omega)
      unfold posAt; rw [this]
      show (xs.take r).sum + (j + 1) * 8 = _
      omega
    · by_cases hend : r + 1 < xs.length
      · have hx2 := hv.2.2 _ (List.getElem_mem hend)
        have hpn2 := pageN_bd hx2.1 hx2.2
        have hs := pages_take xs r hr
        have : place (xs.map pageN) (k + 1) = some (r + 1, 0) := place_of (page_nn hv) (by simpa using hend) (Int.le_refl _) (by simp; omega) (by omega)
        unfold posAt; rw [this]
        show (xs.take (r + 1)).sum + 0 * 8 = _
        rw [take_snoc xs r hr, List.sum_append]
        simp only [List.sum_cons, List.sum_nil]
        omega
      · have hs := pages_take xs r hr
        rw [List.take_of_length_le (by simp; omega)] at hs
        have : place (xs.map pageN) (k + 1) = none := by
          unfold place; rw [if_pos (by omega)]; exact loc_none _ _ (page_nn hv) (by omega)
        unfold posAt; rw [this]
        show xs.sum = _
        have e : xs.sum = (xs.take (r + 1)).sum := by rw [List.take_of_length_le (by omega)]
        rw [e, take_snoc xs r hr, List.sum_append]
        simp only [List.sum_cons, List.sum_nil]
        omega
theorem posAt_end {xs : List Int} (hv : VSizes xs) : posAt xs (pagesS xs) = xs.sum := by
  have : place (xs.map pageN) (pagesS xs) = none := by
    unfold place; split
    · exact loc_none _ _ (page_nn hv) (Int.le_refl _)
    · rfl
  unfold posAt; rw [this]
theorem pageL_get (r : Nat) (j : Int) (N t : Nat) (h : t < N) : (pageL r j N)[t]'(by rw [pageL_len]; exact h) = ((r : Int), j * 8 + t) := by simp [pageL]

set_option maxHeartbeats 2000000 in
theorem walk_RegionPages (A : Option Addr) (n c : Nat) (z : List Int) (w : World) (hz : IsInts .i64 w A n c z) :
    Calls Try.prog 6 #[.slice A n c] w fun e w' => e = .returned (.bool true) ∧ Pu w w' := by
  obtain ⟨rfl, hnc, hc, hrd, hwf⟩ := hz
  go_enter Try.func6, Try.ntmps6
  go_wp2_with fail
  refine (mkNew A c z w hrd (fun x hx => wf_I64 (hwf x hx)) (by omega)).mono ?_
  rintro e w1 ⟨rfl, hd1, he1⟩
  have hF1 : Pu w w1 := by rw [he1]; exact (Fr.refl _ w).alloc _
  clear he1
  go_wp2_with fail
  refine (mkSizes w.heap.size w1 hd1).mono ?_
  rintro e w2 ⟨v, xs, rfl, hv, hown2, hd2, hf2⟩
  have hF2 : Pu w w2 := hF1.then hf2 (fun i hi e => by omega)
  obtain ⟨A2, c2, rfl, hc2⟩ := own_form hown2
  have hr2 := Rd.of_own hown2
  clear hown2 hf2 hd2 hd1 hF1
  have hT := sum_bd xs hv.2.2
  have hl4 := hv.2.1
  have hPb := pages_bd xs hv.2.2
  have hp := pages_p A2 xs.length c2 xs w2.heap.size w2 rfl hv hr2
  have HZ := Lib.hid (posAt_zero hv)
  have HE := Lib.hid (posAt_end hv)
  go_wp2_with fail
  refine hp.mono ?_
  rintro e w3 ⟨rfl, rfl⟩
  clear hp
  go_wp2_with fail
  go_loopw [17, 4] (fun i p wr => ∃ k : Nat, i = .int .i64 k ∧ (k : Int) ≤ pagesS xs ∧ p = .int .i64 (posAt xs k) ∧ Pu w2 wr) (fun i _ _ => (pagesS xs - intOf i).toNat)
  case atStart => exact ⟨0, rfl, by omega, by rw [show ((0 : Nat) : Int) = 0 from rfl, HZ.out], Fr.refl _ _⟩
  case round =>
    obtain ⟨k, rfl, hk, rfl, hF⟩ := hrel
    by_cases hkP : (k : Int) < pagesS xs
    · obtain ⟨r, j, N, hr, hpg, hN1, hN8, hj0, hj4, hpos, hnext, hfit⟩ := page_all hv (by omega) hkP
      have hx := hv.2.2 _ (List.getElem_mem hr)
      have hrr := hF.rd' hr2
      have hpc := page_p A2 xs.length c2 xs k wr rfl hv ⟨by omega, by omega⟩ hrr
      rw [hpg] at hpc
      have HN := Lib.hid hnext
      have HP := Lib.hid hpos
      generalize hq : posAt xs k = q at *
      have hq0 : 0 ≤ q ∧ q ≤ 1000 := by
        have := sum_bd (xs.take r) (fun x hx => hv.2.2 x (List.mem_of_mem_take hx))
        have : (xs.take r).length ≤ 4 := by rw [List.length_take]; omega
        omega
      clear hpg hnext hpos hq
      go_wp2_with fail
      refine hpc.mono ?_
      rintro e w4 ⟨v4, rfl, hown4, hf4⟩
      clear hpc
      simp only [Option.getD_some, pageL_len] at hown4
      have he4 : errOf (some (pageL r j N)) = .int .i64 0 := rfl
      rw [he4]
      clear he4
      obtain ⟨A4, c4, rfl, hc4⟩ := own_form hown4
      have hr4 := Rd.of_own hown4
      have hF4 : Pu w2 w4 := hF.pu hf4
      clear hown4 hf4
      go_wp2_with fail
      go_loopw [40, 4] (fun i p wr => ∃ t : Nat, i = .int .i64 t ∧ t ≤ N ∧ p = .int .i64 (q + t) ∧ Pu w4 wr) (fun i _ _ => N - (intOf i).toNat)
      case atStart => exact ⟨0, rfl, Nat.zero_le _, by go_num, Fr.refl _ _⟩
      case round =>
        obtain ⟨t, rfl, ht, rfl, hFi⟩ := hrel
        by_cases htN : t < N
        · have hri := hFi.rd' hr4
          obtain ⟨b, off, rfl, hbB, hcell⟩ := Rd.flat (f := pcell) pcell_len hri (by decide) (k := t) (by rw [pageL_len]; exact htN)
          rw [pageL_get r j N t htN] at hcell
          obtain ⟨b', off', e', _, hcell0⟩ := Rd.flat (f := pcell) pcell_len hri (by decide) (k := 0) (by rw [pageL_len]; omega)
          rw [pageL_get r j N 0 (by omega)] at hcell0
          cases e'
          have ct0 : wr.cell? ⟨b, off + t * 2, none⟩ = some (.int .i64 r) := hcell 0 (by decide)
          have ct1 : wr.cell? ⟨b, off + t * 2 + 1, none⟩ = some (.int .i64 (j * 8 + t)) := hcell 1 (by decide)
          have c00 : wr.cell? ⟨b, off, none⟩ = some (.int .i64 r) := by have := hcell0 0 (by decide); simpa [pcell] using this
          have hpl : place xs (q + t) = some (r, j * 8 + t) := place_of (fun x hx => by have := hv.2.2 x hx; omega) hr (by omega) (by omega) (by have := HP.out; omega)
          have hFw := hF4.pu hFi
          have hat := at_r A2 xs.length c2 xs (q + t) _ (wr.alloc (.cells #[.int .i64 (r : Int), .int .i64 (j * 8 + t)] 33)) rfl hv ⟨by omega, by omega⟩ (by simp) ((hFw.rd' hr2).alloc (Nat.le_refl _) _)
          rw [hpl] at hat
          clear hcell hcell0 hpl hri
          go_wp2_with fail
          refine hat.mono ?_
          rintro e w5 ⟨he, hf5⟩
          obtain rfl : e = .returned (.tuple #[.agg #[.int .i64 r, .int .i64 (j * 8 + t)], .int .i64 0]) := he
          clear hat
          have hB9 : Blk w5 wr.heap.size 33 #[.int .i64 r, .int .i64 (j * 8 + t)] := hf5.blk (Blk.new _ _ _) (fun t => t)
          have c90 : w5.cell? ⟨wr.heap.size, 0, none⟩ = some (.int .i64 r) := hB9.cell 0
          have c91 : w5.cell? ⟨wr.heap.size, 1, none⟩ = some (.int .i64 (j * 8 + t)) := hB9.cell 1
          have hF5 : Pu w4 w5 := (hFi.alloc _).pu hf5
          have hz5 := hB9.lt
          have hb5 : b < w5.heap.size := by omega
          have c05 : w5.cell? ⟨b, off, none⟩ = some (.int .i64 r) := hf5.cell (by rw [World.cell?_alloc_lt wr _ _ (by exact hbB)]; exact c00) (fun t => t)
          clear ct0 ct1 c00 hB9 hf5
          go_wp2_with fail
          go_quiet (fail)
          go_wp2_with fail
          go_roundw
          case rel => exact ⟨t + 1, by go_num, by omega, by go_num, (hF5.alloc _).drewN _⟩
          case measure => simp [intOf]; omega
        · have e : t = N := by omega
          have HT := Lib.hid e
          clear e
          go_wp2_with fail
          go_roundw
          case rel => exact ⟨k + 1, by go_num, by omega, by rw [HT.out, show ((k + 1 : Nat) : Int) = (k : Int) + 1 from rfl, HN.out], hF4.pu hFi⟩
          case measure => simp [intOf]; omega
    · have e : (k : Int) = pagesS xs := by omega
      have HK := Lib.hid (show posAt xs k = xs.sum by rw [e]; exact HE.out)
      rw [HK.out]
      have ht := total_r A2 xs.length c2 xs _ wr rfl (by omega) (hF.rd' hr2)
      rw [sumW_eq hv] at ht
      clear e
      go_wp2_with fail
      refine ht.mono ?_
      rintro e w4 ⟨rfl, rfl⟩
      clear ht
      go_wp2_with fail
      refine (awake_any _).mono ?_
      rintro e w4 ⟨rfl, hf4⟩
      go_wp2_with fail
      go_ret
      exact ⟨rfl, (hF2.pu hF).pu hf4⟩
end Go.Proofs.Ytgjmndpkjenchaa
