/- LockOrder: the plain law. -/
import Derived.Test.YtfcmejcmijjnpaaLk16
import Derived.Test.YtfcmejcmijjnpaaEng19
namespace Go.Proofs.Ytfcmejcmijjnpaa
open Go.RowKit

/-- lock 2 alone is used: its owner, and who waits -/
structure OI (a : Ab) (owner : Int) (queue : List Int) : Prop where
  va : VA a
  o : a.os.getD 2 0 = owner
  q : a.qs.getD 2 [] = queue
  e : ∀ i, i < 4 → i ≠ 2 → a.qs.getD i [] = []
theorem newA_oi : OI newA (-1) [] := by
  refine ⟨newA_va, rfl, rfl, fun i hi _ => ?_⟩
  unfold newA
  rcases (by omega : i = 0 ∨ i = 1 ∨ i = 2 ∨ i = 3) with rfl | rfl | rfl | rfl <;> rfl
theorem OI.wt {a : Ab} {owner : Int} {queue : List Int} (h : OI a owner queue) (t : Int) : a.wt t = queue.any (t == ·) := by
  have hq := h.va.q
  have h2 := h.q
  have he := h.e
  obtain ⟨os, qs⟩ := a
  dsimp only at hq h2 he
  match qs, hq with
  | [q0, q1, q2, q3], _ =>
    have e0 : q0 = [] := he 0 (by omega) (by omega)
    have e1 : q1 = [] := he 1 (by omega) (by omega)
    have e3 : q3 = [] := he 3 (by omega) (by omega)
    have e2 : q2 = queue := h2
    subst e0; subst e1; subst e3; subst e2
    simp [Ab.wt]
section
variable {a : Ab} {owner t : Int} {queue : List Int}
theorem oi_in (h : OI a owner queue) (hi : (decide (t = owner) || queue.any (t == ·)) = true) : takF a 2 t = (a, 2) := by
  unfold takF
  rw [h.o, h.wt]
  by_cases c : owner = t
  · rw [if_pos c]
  · rw [if_neg c]
    rcases Bool.or_eq_true_iff.1 hi with h1 | h1
    · exact absurd (of_decide_eq_true h1).symm c
    · rw [if_pos h1]
theorem oi_free (h : OI a owner queue) (ht : 0 ≤ t ∧ t < 4) (hi : (decide (t = owner) || queue.any (t == ·)) = false) (ho : owner = -1) : (takF a 2 t).2 = 0 ∧ OI (takF a 2 t).1 t queue := by
  obtain ⟨h1, h2⟩ := Bool.or_eq_false_iff.1 hi
  have hv := tak_va (k := 2) h.va (by omega) ht
  have e : takF a 2 t = (⟨a.os.set 2 t, a.qs⟩, 0) := by
    unfold takF
    rw [h.o, h.wt, h2, if_neg (fun e => of_decide_eq_false h1 e.symm), if_neg (by simp), if_pos ho]
  rw [e] at hv ⊢
  exact ⟨rfl, hv, by dsimp only; rw [getD_set (by have := h.va.o; omega), if_pos rfl], h.q, h.e⟩
theorem oi_wait (h : OI a owner queue) (ht : 0 ≤ t ∧ t < 4) (hi : (decide (t = owner) || queue.any (t == ·)) = false) (ho : ¬ owner = -1) : (takF a 2 t).2 = 1 ∧ OI (takF a 2 t).1 owner (queue ++ [t]) := by
  obtain ⟨h1, h2⟩ := Bool.or_eq_false_iff.1 hi
  have hv := tak_va (k := 2) h.va (by omega) ht
  have hl := h.va.q
  have e : takF a 2 t = (⟨a.os, a.qs.set 2 (queue ++ [t])⟩, 1) := by
    unfold takF
    rw [h.o, h.wt, h2, if_neg (fun e => of_decide_eq_false h1 e.symm), if_neg (by simp), if_neg ho, h.q]
  rw [e] at hv ⊢
  exact ⟨rfl, hv, h.o, by dsimp only; rw [getQ_set (by omega), if_pos rfl], fun i hi hne => by dsimp only; rw [getQ_set (by omega), if_neg (Ne.symm hne)]; exact h.e i hi hne⟩
theorem oi_no (h : OI a owner queue) (hi : ¬ t = owner) : givF a 2 t = (a, -1, false) := by
  unfold givF
  rw [h.o, if_neg (fun e => hi e.symm)]
theorem oi_nil (h : OI a owner queue) (hi : t = owner) (hq : queue = []) : (givF a 2 t).2 = (-1, true) ∧ OI (givF a 2 t).1 (-1) [] := by
  have hv := giv_va (k := 2) (t := t) h.va (by omega)
  have e : givF a 2 t = (⟨a.os.set 2 (-1), a.qs⟩, -1, true) := by
    unfold givF
    rw [h.o, if_pos hi.symm, h.q, hq]
  rw [e] at hv ⊢
  exact ⟨rfl, hv, by dsimp only; rw [getD_set (by have := h.va.o; omega), if_pos rfl], h.q.trans hq, h.e⟩
theorem oi_cons (h : OI a owner queue) (hi : t = owner) {u : Int} {l : List Int} (hq : queue = u :: l) : (givF a 2 t).2 = (u, true) ∧ OI (givF a 2 t).1 u l := by
  have hv := giv_va (k := 2) (t := t) h.va (by omega)
  have hl := h.va.q
  have e : givF a 2 t = (⟨a.os.set 2 u, a.qs.set 2 l⟩, u, true) := by
    unfold givF
    rw [h.o, if_pos hi.symm, h.q, hq]
  rw [e] at hv ⊢
  exact ⟨rfl, hv, by dsimp only; rw [getD_set (by have := h.va.o; omega), if_pos rfl], by dsimp only; rw [getQ_set (by omega), if_pos rfl], fun i hi hne => by dsimp only; rw [getQ_set (by omega), if_neg (Ne.symm hne)]; exact h.e i hi hne⟩
theorem RowO.is_ok {S : Nat → Prop} {w0 w : World} {M : List Hp} {A : Option Nat} {off n c : Nat} {q : List Int} {cs : List Value} (hm : Mm S w0 M w) (hM : (⟨A, 3, cs⟩ : Hp) ∈ M) (hr : RowO A off n c (ints q) cs) : IS.ok ⟨A.map fun g => ⟨g, off, none⟩, n, c, q⟩ w := by
  have hxl := hr.xl
  rw [ints_len] at hxl
  refine ⟨hxl, fun h0 => ?_⟩
  cases A with
  | none =>
    have := (hr.nil rfl).1
    rw [ints_len] at h0; dsimp only at h0; omega
  | some g => exact ⟨g, off, rfl, Hp.lt (hm.me _ hM) rfl, fun j u hj => by rw [hm.at_ hM]; exact hr.cell j u hj⟩
/-- the row without its first one -/
theorem RowO.tail {g off n c : Nat} {u : Int} {l : List Int} {cs : List Value} (hr : RowO (some g) off n c (ints (u :: l)) cs) : RowO (some g) (if c = 1 then off else off + 1) (n - 1) (c - 1) (ints l) cs := by
  have hxl := hr.xl
  have hle := hr.le
  rw [ints_len] at hxl
  simp only [List.length_cons] at hxl
  have hlen := hr.len rfl
  have hcm := hr.cm
  refine ⟨(fun e => by cases e), by omega, by omega, fun _ => by split <;> omega, by rw [ints_len]; omega, fun j v hj => ?_⟩
  have hjl : j < l.length := by
    rcases Nat.lt_or_ge j l.length with h | h
    · exact h
    · rw [List.getElem?_eq_none (by rw [ints_len]; exact h)] at hj; cases hj
  rw [if_neg (by omega)]
  have := hr.cell (j + 1) v hj
  rwa [show off + 1 + j = off + (j + 1) by omega]
end
end Go.Proofs.Ytfcmejcmijjnpaa
