/- The plain law of votes: both ways give one verdict. -/
import Derived.Test.YtoojckkmalfimaaVot6
namespace Go.Proofs.Ytoojckkmalfimaa
open Go.RowKit

theorem numM_cons (x : CA) (C : List CA) : numM (x :: C) = x.2.2.length + numM C := by simp [numM]
theorem numM_set {C : List CA} {q : Nat} {x : CA} {i : Int} (h : C[q]? = some x) : numM (C.set q (x.1, x.2.1, x.2.2 ++ [i])) = numM C + 1 := by
  induction C generalizing q with
  | nil => simp at h
  | cons c t ih =>
    cases q with
    | zero =>
      simp at h; subst h
      simp only [List.set_cons_zero, numM_cons, List.length_append, List.length_cons, List.length_nil]; omega
    | succ q =>
      simp only [List.set_cons_succ, numM_cons, ih (by simpa using h)]; omega
theorem numM_add (C : List CA) (y : Bool × List Int) (i : Int) : numM (addC C y i) = numM C + 1 := by
  by_cases hf : C.findIdx (sameC y) < C.length
  · rw [addC_old rfl (List.getElem?_eq_getElem hf), numM_set (List.getElem?_eq_getElem hf)]
  · rw [addC_new hf]; unfold numM; simp
theorem numM_clsTo (l : List (Bool × List Int)) (ss : List Bool) (k : Nat) : numM (clsTo l ss k) = numS ss k := by
  induction k with
  | zero => rfl
  | succ k ih =>
    rw [numS_step]
    simp only [clsTo]
    split
    · rw [numM_add, ih]
    · rw [ih]; rfl
theorem numM_at {C : List CA} {i : Nat} {x : CA} (h : C[i]? = some x) : x.2.2.length ≤ numM C := by
  induction C generalizing i with
  | nil => simp at h
  | cons c t ih =>
    rw [numM_cons]
    cases i with
    | zero => simp at h; subst h; omega
    | succ i => have := ih (i := i) (by simpa using h); omega
theorem numM_two {C : List CA} {i j : Nat} {x y : CA} (h : C[i]? = some x) (h' : C[j]? = some y) (hij : i ≠ j) : x.2.2.length + y.2.2.length ≤ numM C := by
  induction C generalizing i j with
  | nil => simp at h
  | cons c t ih =>
    rw [numM_cons]
    cases i with
    | zero =>
      cases j with
      | zero => exact absurd rfl hij
      | succ j => simp at h; subst h; have := numM_at (C := t) (i := j) (by simpa using h'); omega
    | succ i =>
      cases j with
      | zero => simp at h'; subst h'; have := numM_at (C := t) (i := i) (by simpa using h); omega
      | succ j => have := ih (i := i) (j := j) (by simpa using h) (by simpa using h') (by omega); omega
def BestQ (C : List CA) (b : CA) : Prop := (b = (false, [], []) ∨ ∃ i : Nat, C[i]? = some b ∧ b.1 = true) ∧ ∀ x ∈ C, x.1 = true → x.2.2.length ≤ b.2.2.length
theorem bestQ_step {C : List CA} {b x : CA} (ih : BestQ C b) : BestQ (C ++ [x]) (stepB b x) := by
  unfold stepB
  by_cases h : (x.1 && decide (b.2.2.length < x.2.2.length)) = true
  · rw [if_pos h]
    simp only [Bool.and_eq_true, decide_eq_true_eq] at h
    refine ⟨.inr ⟨C.length, by simp, h.1⟩, fun y hy hy1 => ?_⟩
    rcases List.mem_append.1 hy with hy | hy
    · have := ih.2 y hy hy1; omega
    · rcases List.mem_singleton.1 hy with rfl; exact Nat.le_refl _
  · rw [if_neg h]
    simp only [Bool.and_eq_true, decide_eq_true_eq, not_and] at h
    refine ⟨?_, fun y hy hy1 => ?_⟩
    · rcases ih.1 with h1 | ⟨i, h1, h2⟩
      · exact .inl h1
      · refine .inr ⟨i, ?_, h2⟩
        have : i < C.length := by
          rcases Nat.lt_or_ge i C.length with h3 | h3
          · exact h3
          · rw [List.getElem?_eq_none h3] at h1; cases h1
        rw [List.getElem?_append_left this]; exact h1
    · rcases List.mem_append.1 hy with hy | hy
      · exact ih.2 y hy hy1
      · rcases List.mem_singleton.1 hy with rfl
        have := h hy1; omega
theorem bestQ_fold (l : List CA) : ∀ (C : List CA) (b : CA), BestQ C b → BestQ (C ++ l) (l.foldl stepB b) := by
  induction l with
  | nil => intro C b h; simpa using h
  | cons x t ih =>
    intro C b h
    have := ih (C ++ [x]) (stepB b x) (bestQ_step h)
    rwa [List.append_assoc] at this
theorem best_spec (C : List CA) : BestQ C (bestF C) := bestQ_fold C [] _ ⟨.inl rfl, fun x hx => by cases hx⟩
/-- is r a member of another class than `but` among the first i -/
def inOther (C : List CA) (but r i : Nat) : Bool := (List.range i).any fun j => j != but && ((C[j]?).map (fun c => c.2.2.contains (r : Int))).getD false
theorem filter_one {ms : List Int} {r : Int} (h : ms.Pairwise (· < ·)) : ms.filter (fun x => x == r) = if ms.contains r then [r] else [] := by
  induction ms with
  | nil => rfl
  | cons x t ih =>
    have h1 := List.pairwise_cons.1 h
    by_cases e : x = r
    · subst e
      have hno : x ∉ t := fun hx => by have := h1.1 x hx; omega
      rw [List.filter_cons_of_pos (by simp), ih h1.2, if_neg (by simpa using hno), if_pos (by simp)]
    · rw [List.filter_cons_of_neg (by simpa using e), ih h1.2]
      have : (x :: t).contains r = t.contains r := by
        rw [List.contains_cons]
        have : (r == x) = false := by simpa using fun h => e h.symm
        rw [this, Bool.false_or]
      rw [this]
end Go.Proofs.Ytoojckkmalfimaa
