/- Whether a replica answers at an entry. -/
import Derived.Test.YtlgimjinaijhlaaWat2
import Derived.Test.YtlgimjinaijhlaaOpen
namespace Go.Proofs.Ytlgimjinaijhlaa
open Go.RowKit

/-- a hang (its entry, its replica, how long) silences the replica at the entry -/
def hangs (rp at_ : Int) (h : Int × Int × Int) : Bool := decide (h.2.1 = rp) && decide (h.1 ≤ at_) && decide (0 < h.2.2) && decide (at_ - h.1 < h.2.2)
def hangV (h : Int × Int × Int) : List Value := [.int .i64 h.1, .int .i64 h.2.1, .int .i64 h.2.2]
theorem u64_of {x : Int} (h : 0 ≤ x) (h' : x ≤ 9223372036854775807) : IntKind.u64.wrap x = x := by simp [IntKind.wrap, IntKind.signed, IntKind.bits]; omega

set_option maxHeartbeats 1000000 in
theorem hang_c (a r f rp at_ : Int) (B1 B2 : Nat) (w : World) (ha : I64 a) (hf : I64 f) (hat : I64 at_) (h1 : w.cell? ⟨B1, 0, none⟩ = some (.int .i64 rp)) (h2 : w.cell? ⟨B2, 0, none⟩ = some (.int .i64 at_)) :
    Calls Try.prog 24 #[.agg #[.int .i64 a, .int .i64 r, .int .i64 f], .pointer (some ⟨B1, 0, none⟩), .pointer (some ⟨B2, 0, none⟩)] w fun e w' => e = .returned (.bool (hangs rp at_ (a, r, f))) ∧ Pu w w' := by
  obtain ⟨a1, a2⟩ := ha
  obtain ⟨f1, f2⟩ := hf
  obtain ⟨t1, t2⟩ := hat
  have l1 := cell_lt h1
  have l2 := cell_lt h2
  simp only at l1 l2
  have HF : Pu w (w.alloc (.cells #[.int .i64 a, .int .i64 r, .int .i64 f] 42)) := (Fr.refl _ w).alloc _
  by_cases c1 : r = rp
  · have e1 : (r == rp) = true := by simpa using c1
    replace c1 := Lib.hid c1
    by_cases c2 : a ≤ at_
    · by_cases c3 : 0 < f
      · have s1 : IntKind.u64.wrap (IntKind.u64.wrap at_ - IntKind.u64.wrap a) = at_ - a := by
          simp [IntKind.wrap, IntKind.signed, IntKind.bits]; omega
        have s2 : IntKind.u64.wrap f = f := u64_of (by omega) f2
        have HR := Lib.hid (show decide (at_ - a < f) = hangs rp at_ (a, r, f) by simp [hangs, c1.out, c2, c3])
        go_enter Try.func24, Try.ntmps24
        go_wp2
        go_ret
        exact ⟨ret_b HR.out, HF⟩
      · have HR := Lib.hid (show false = hangs rp at_ (a, r, f) by simp [hangs, c3])
        go_enter Try.func24, Try.ntmps24
        go_wp2
        go_ret
        exact ⟨ret_b HR.out, HF⟩
    · have HR := Lib.hid (show false = hangs rp at_ (a, r, f) by simp [hangs, c2])
      go_enter Try.func24, Try.ntmps24
      go_wp2
      go_ret
      exact ⟨ret_b HR.out, HF⟩
  · have e1 : (r == rp) = false := by simpa using c1
    have HR := Lib.hid (show false = hangs rp at_ (a, r, f) by simp [hangs, c1])
    go_enter Try.func24, Try.ntmps24
    go_wp2
    go_ret
    exact ⟨ret_b HR.out, HF⟩

set_option maxHeartbeats 1000000 in
theorem index_c (A : Option Addr) (n c : Nat) (hs : List (Int × Int × Int)) (rp at_ : Int) (B1 B2 : Nat) (w : World) (hl : hs.length = n) (hn : n ≤ 1000) (h64 : ∀ h ∈ hs, I64 h.1 ∧ I64 h.2.2) (hat : I64 at_) (hr : Rd w w.heap.size A (hs.flatMap hangV)) (h1 : w.cell? ⟨B1, 0, none⟩ = some (.int .i64 rp)) (h2 : w.cell? ⟨B2, 0, none⟩ = some (.int .i64 at_)) :
    Calls Try.prog 26 #[.slice A n c, .func (.func 24) #[] #[.pointer (some ⟨B1, 0, none⟩), .pointer (some ⟨B2, 0, none⟩)]] w fun e w' => ∃ i : Int, e = .returned (.int .i64 i) ∧ decide (0 ≤ i) = hs.any (hangs rp at_) ∧ Pu w w' := by
  subst hl
  go_enter Try.func26, Try.ntmps26
  go_wp2
  go_loopw [8] (fun i wr => ∃ k : Nat, k ≤ hs.length ∧ i = .int .i64 k ∧ Hid ((hs.take k).any (hangs rp at_) = false) ∧ Pu w wr) (fun i _ => hs.length - (intOf i).toNat)
  case atStart => exact ⟨0, by omega, rfl, rfl, Fr.refl _ _⟩
  case round =>
    obtain ⟨k, hk, rfl, hT, hF⟩ := hrel
    by_cases hlt : k < hs.length
    · obtain ⟨b, off, e1, hb, hc⟩ := Rd.flat (f := hangV) (s := 3) (fun _ => rfl) (hF.rd hr (Nat.le_refl _) (fun _ _ t => t)) (by omega) hlt
      subst e1
      have c0 := hc 0 (by omega)
      have c1 := hc 1 (by omega)
      have c2 := hc 2 (by omega)
      simp only [hangV, List.getElem?_cons_zero, List.getElem?_cons_succ, ← Nat.add_assoc, Nat.add_zero] at c0 c1 c2
      have g1 := hF.cl h1 (fun t => t)
      have g2 := hF.cl h2 (fun t => t)
      have hcl := hang_c hs[k].1 hs[k].2.1 hs[k].2.2 rp at_ B1 B2 wr (h64 _ (List.getElem_mem hlt)).1 (h64 _ (List.getElem_mem hlt)).2 hat g1 g2
      have hst : (hs.take (k + 1)).any (hangs rp at_) = ((hs.take k).any (hangs rp at_) || hangs rp at_ (hs[k].1, hs[k].2.1, hs[k].2.2)) := by
        rw [List.take_succ_eq_append_getElem hlt, List.any_append]; simp
      have hany : hangs rp at_ (hs[k].1, hs[k].2.1, hs[k].2.2) = true → true = hs.any (hangs rp at_) := fun h =>
        (List.any_eq_true.2 ⟨hs[k], List.getElem_mem hlt, h⟩).symm
      cases hv : hangs rp at_ (hs[k].1, hs[k].2.1, hs[k].2.2) with
      | true =>
        rw [hv] at hcl
        have HA := Lib.hid (hany hv)
        clear hany hst hv hc g1 g2 h64 hr
        go_wp2_with fail
        refine hcl.mono ?_
        rintro e w1 ⟨rfl, hf⟩
        go_wp2_with fail
        go_ret
        exact ⟨k, rfl, by rw [← HA.out]; simp, hF.pu hf⟩
      | false =>
        rw [hv] at hcl hst
        rw [hT.out] at hst
        have HA := Lib.hid hst
        clear hany hst hv hc g1 g2 h64 hr
        go_wp2_with fail
        refine hcl.mono ?_
        rintro e w1 ⟨rfl, hf⟩
        go_wp2_with fail
        go_roundw
        case rel => exact ⟨k + 1, by omega, by go_num, Lib.hid (HA.out.trans rfl), hF.pu hf⟩
        case measure => simp [intOf]; omega
    · go_wp2
      go_ret
      refine ⟨_, rfl, ?_, hF⟩
      have := hT.out
      rw [List.take_of_length_le (by omega)] at this
      rw [this]; rfl

set_option maxHeartbeats 1000000 in
theorem silent_c (A : Option Addr) (n c : Nat) (hs : List (Int × Int × Int)) (rp at_ : Int) (w : World) (hl : hs.length = n) (hn : n ≤ 1000) (h64 : ∀ h ∈ hs, I64 h.1 ∧ I64 h.2.2) (hat : I64 at_) (hr : Rd w w.heap.size A (hs.flatMap hangV)) :
    Calls Try.prog 16 #[.slice A n c, .int .i64 rp, .int .i64 at_] w fun e w' => e = .returned (.bool (hs.any (hangs rp at_))) ∧ Pu w w' := by
  have HF : Pu w ((w.alloc (.cells #[.int .i64 rp] 3)).alloc (.cells #[.int .i64 at_] 3)) := ((Fr.refl _ w).alloc _).alloc _
  have hi := index_c A n c hs rp at_ w.heap.size (w.heap.size + 1) ((w.alloc (.cells #[.int .i64 rp] 3)).alloc (.cells #[.int .i64 at_] 3)) hl hn h64 hat (HF.rd' hr) (((Blk.new w 3 #[.int .i64 rp]).alloc _).cell 0) (by simp)
  have hcf : ∀ fv, Calls Try.prog 26 #[.slice A n c, fv] ((w.alloc (.cells #[.int .i64 rp] 3)).alloc (.cells #[.int .i64 at_] 3)) (fun e w' => ∃ i : Int, e = .returned (.int .i64 i) ∧ decide (0 ≤ i) = hs.any (hangs rp at_) ∧ Pu ((w.alloc (.cells #[.int .i64 rp] 3)).alloc (.cells #[.int .i64 at_] 3)) w') →
      Calls Try.prog 23 #[.slice A n c, fv] ((w.alloc (.cells #[.int .i64 rp] 3)).alloc (.cells #[.int .i64 at_] 3)) (fun e w' => e = .returned (.bool (hs.any (hangs rp at_))) ∧ Pu w w') := fun fv h => by
    generalize ((w.alloc (.cells #[.int .i64 rp] 3)).alloc (.cells #[.int .i64 at_] 3)) = W at *
    generalize hs.any (hangs rp at_) = r at *
    go_enter Try.func23, Try.ntmps23
    go_wp2_with fail
    refine h.mono ?_
    rintro e w1 ⟨i, rfl, hv, hf⟩
    replace hv := Lib.hid hv
    go_wp2_with fail
    go_ret
    exact ⟨ret_b hv.out, HF.pu hf⟩
  have hcc := hcf _ hi
  clear hcf hi hr h64
  generalize hs.any (hangs rp at_) = r at *
  go_enter Try.func16, Try.ntmps16
  go_wp2_with fail
  refine hcc.mono ?_
  rintro e w1 ⟨rfl, hf⟩
  go_wp2_with fail
  go_ret
  exact ⟨rfl, hf⟩
end Go.Proofs.Ytlgimjinaijhlaa
