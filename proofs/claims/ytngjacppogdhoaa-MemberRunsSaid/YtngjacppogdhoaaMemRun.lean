/- MemberRuns: plain law. -/
import Derived.Test.YtngjacppogdhoaaMemNxt
import Derived.Test.YtngjacppogdhoaaDck
namespace Go.Proofs.Ytngjacppogdhoaa
open Go.RowKit

def Cnd (rr : Nat) (e nn : Int) (i : Nat) (a b : Mb) : Prop := a = b ∨ (i = rr ∧ e = 0 ∧ a.1 ≠ b.1 ∧ a.2.2 ≤ b.2.2 ∧ b.2.2 ≤ nn ∧ a.1 ≠ 3 ∧ (b.1 = 0 → a.1 = 2) ∧ (b.1 = 2 → a.1 = 1))
structure Lok (nn : Int) (l : List Mb) : Prop where
  len : 1 ≤ l.length ∧ l.length ≤ 5
  el : ∀ x ∈ l, okM x = true ∧ x.2.2 ≤ nn
theorem Lok.chk {nn : Int} {l : List Mb} (h : Lok nn l) : chkF l = 0 := chk_good (by have := h.len; omega) (List.all_eq_true.2 fun x hx => (h.el x hx).1)
theorem step_ok {al : Int → Bool} {right : Bool} {F : Mb → Mb} {l : List Mb} {rr t : Nat} {nn : Int} (h : Lok nn l) (ht : t ≤ 200) (hr : rr < l.length)
    (hF : ∀ x, okM x = true → x.2.2 ≤ nn → al x.1 = true → (0 ≤ (F x).1 ∧ (F x).1 ≤ 3) ∧ (F x).2.2 ≤ 20 ∧ x.1 ≠ (F x).1 ∧ x.2.2 ≤ (F x).2.2 ∧ (F x).2.2 ≤ nn ∧ x.1 ≠ 3 ∧ ((F x).1 = 0 → x.1 = 2) ∧ ((F x).1 = 2 → x.1 = 1)) :
    (stepF al right F l (rr : Int) (t : Int)).1.length = l.length ∧ Lok nn (stepF al right F l (rr : Int) (t : Int)).1 ∧ ∀ i a b, l[i]? = some a → (stepF al right F l (rr : Int) (t : Int)).1[i]? = some b → Cnd rr (stepF al right F l (rr : Int) (t : Int)).2 nn i a b := by
  have hsame : ∀ e, (l, e).1.length = l.length ∧ Lok nn (l, e).1 ∧ ∀ (i : Nat) (a b : Mb), l[i]? = some a → (l, e).1[i]? = some b → Cnd rr (l, e).2 nn i a b := fun e => ⟨rfl, h, fun i a b ha hb => .inl (Option.some.inj (ha.symm.trans hb))⟩
  have hx : l[rr]? = some l[rr] := List.getElem?_eq_getElem hr
  have hgd : l.getD (rr : Int).toNat (0, 0, 0) = l[rr] := by rw [List.getD_eq_getElem?_getD, Int.toNat_natCast, hx]; rfl
  have hxe := h.el _ (List.getElem_mem hr)
  unfold stepF
  rw [if_pos h.chk, hgd, Int.toNat_natCast]
  generalize l[rr]'(_) = x at *
  split
  · rename_i hal
    split
    · have hf := hF x hxe.1 hxe.2 hal.2
      have hok := okM_i hxe.1
      have hy : okM ((F x).1, (t : Int), (F x).2.2) = true := by
        unfold okM
        rw [inB_t (by dsimp only; omega), inB_t (by dsimp only; omega), inB_t (by dsimp only; omega)]; rfl
      refine ⟨by simp, ⟨by simpa using h.len, fun z hz => ?_⟩, fun i a b ha hb => ?_⟩
      · rcases List.mem_or_eq_of_mem_set hz with h1 | rfl
        · exact h.el z h1
        · exact ⟨hy, hf.2.2.2.2.1⟩
      · dsimp only at hb
        rw [List.getElem?_set] at hb
        by_cases hi : rr = i
        · subst hi
          rw [if_pos rfl, if_pos hr] at hb
          rw [hx] at ha
          obtain rfl := Option.some.inj ha
          obtain rfl := Option.some.inj hb
          exact .inr ⟨rfl, rfl, hf.2.2.1, hf.2.2.2.1, hf.2.2.2.2.1, hf.2.2.2.2.2.1, hf.2.2.2.2.2.2.1, hf.2.2.2.2.2.2.2⟩
        · rw [if_neg hi] at hb
          exact .inl (Option.some.inj (ha.symm.trans hb))
    · exact hsame 1
  · exact hsame 32
theorem okF_0 {nn : Int} (x : Mb) (hx : okM x = true) (hn : x.2.2 ≤ nn) (ha : alF 0 x.1 = true) : (0 ≤ ((1, x.2.1, x.2.2) : Mb).1 ∧ ((1, x.2.1, x.2.2) : Mb).1 ≤ 3) ∧ ((1, x.2.1, x.2.2) : Mb).2.2 ≤ 20 ∧ x.1 ≠ ((1, x.2.1, x.2.2) : Mb).1 ∧ x.2.2 ≤ ((1, x.2.1, x.2.2) : Mb).2.2 ∧ ((1, x.2.1, x.2.2) : Mb).2.2 ≤ nn ∧ x.1 ≠ 3 ∧ (((1, x.2.1, x.2.2) : Mb).1 = 0 → x.1 = 2) ∧ (((1, x.2.1, x.2.2) : Mb).1 = 2 → x.1 = 1) := by
  have := okM_i hx
  unfold alF at ha
  simp at ha
  dsimp only
  omega
theorem okF_2 {nn : Int} (x : Mb) (hx : okM x = true) (hn : x.2.2 ≤ nn) (ha : alF 2 x.1 = true) : (0 ≤ ((0, x.2.1, x.2.2) : Mb).1 ∧ ((0, x.2.1, x.2.2) : Mb).1 ≤ 3) ∧ ((0, x.2.1, x.2.2) : Mb).2.2 ≤ 20 ∧ x.1 ≠ ((0, x.2.1, x.2.2) : Mb).1 ∧ x.2.2 ≤ ((0, x.2.1, x.2.2) : Mb).2.2 ∧ ((0, x.2.1, x.2.2) : Mb).2.2 ≤ nn ∧ x.1 ≠ 3 ∧ (((0, x.2.1, x.2.2) : Mb).1 = 0 → x.1 = 2) ∧ (((0, x.2.1, x.2.2) : Mb).1 = 2 → x.1 = 1) := by
  have := okM_i hx
  unfold alF at ha
  simp at ha
  dsimp only
  omega
theorem okF_1 {nn : Int} (hn5 : nn < 5) (x : Mb) (hx : okM x = true) (hn : x.2.2 ≤ nn) (ha : alF 1 x.1 = true) : (0 ≤ (begF nn x).1 ∧ (begF nn x).1 ≤ 3) ∧ (begF nn x).2.2 ≤ 20 ∧ x.1 ≠ (begF nn x).1 ∧ x.2.2 ≤ (begF nn x).2.2 ∧ (begF nn x).2.2 ≤ nn ∧ x.1 ≠ 3 ∧ ((begF nn x).1 = 0 → x.1 = 2) ∧ ((begF nn x).1 = 2 → x.1 = 1) := by
  have := okM_i hx
  unfold alF at ha
  simp at ha
  unfold begF
  split <;> dsimp only <;> omega
section
variable {N : Nat} {L : List (Nat × Value)} {a : Act} {w : World} {o : Oper} {x y : Operand}
theorem r_neM {s t r : Int} (hs : Sl N L a) (ho : o.op = .binOp .neq 38 x y 38) (hx : ev L x = some (.agg #[.int .i64 s, .int .i64 t, .int .i64 r])) (hy : ev L y = some (.agg #[.int .i64 s, .int .i64 t, .int .i64 r])) : RunV Try.prog a o w (.bool false) := by
  have h := r_neqSt (P := Try.prog) (w := w) (fl := [(true, 0, 3), (true, 1, 3), (true, 2, 3)]) hs ho hx hy tab (by kernel_rfl) (by kernel_rfl) (by kernel_rfl) (by kernel_rfl) rfl
  simpa using h
end
end Go.Proofs.Ytngjacppogdhoaa
