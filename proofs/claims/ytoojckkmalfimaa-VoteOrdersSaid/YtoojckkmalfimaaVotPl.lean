/- The plain law of verdicts, without classes: who has answered what. -/
import Derived.Test.YtoojckkmalfimaaVot8
namespace Go.Proofs.Ytoojckkmalfimaa
open Go.RowKit

def isT (l : List (Bool × List Int)) (t : List Int) (r : Nat) : Bool := decide (l.getD r (false, []) = (true, t))
def cntT (l : List (Bool × List Int)) (ss : List Bool) (m : Nat) (t : List Int) : Nat := ((List.range m).filter fun r => ss.getD r false && isT l t r).length
def losT (l : List (Bool × List Int)) (ss : List Bool) (m : Nat) (t : List Int) : List Int := ((List.range m).filter fun r => ss.getD r false && !isT l t r).map fun r : Nat => (r : Int)
theorem cnt_los (l : List (Bool × List Int)) (ss : List Bool) (m : Nat) (t : List Int) : cntT l ss m t + (losT l ss m t).length = numS ss m := by
  unfold cntT losT
  rw [List.length_map]
  induction m with
  | zero => rfl
  | succ m ih =>
    rw [numS_step, List.range_succ, List.filter_append, List.filter_append, List.length_append, List.length_append]
    cases h1 : ss.getD m false <;> cases h2 : isT l t m <;> simp only [List.filter_cons, List.filter_nil, h1, h2, Bool.true_and, Bool.false_and, Bool.not_true, Bool.not_false, if_true, if_false, Bool.false_eq_true, List.length_cons, List.length_nil] <;> omega
theorem inc_ext : ∀ {a b : List Int}, a.Pairwise (· < ·) → b.Pairwise (· < ·) → (∀ x, x ∈ a ↔ x ∈ b) → a = b
  | [], [], _, _, _ => rfl
  | [], y :: b, _, _, h => absurd ((h y).2 (List.mem_cons_self ..)) (by simp)
  | x :: a, [], _, _, h => absurd ((h x).1 (List.mem_cons_self ..)) (by simp)
  | x :: a, y :: b, ha, hb, h => by
    rw [List.pairwise_cons] at ha hb
    have e : x = y := by
      rcases List.mem_cons.1 ((h x).1 (List.mem_cons_self ..)) with e | e
      · exact e
      · rcases List.mem_cons.1 ((h y).2 (List.mem_cons_self ..)) with e' | e'
        · exact e'.symm
        · have := hb.1 x e; have := ha.1 y e'; omega
    subst e
    rw [inc_ext ha.2 hb.2 fun z => ?_]
    constructor
    · intro hz
      rcases List.mem_cons.1 ((h z).1 (List.mem_cons_of_mem _ hz)) with e | e
      · have := ha.1 z hz; omega
      · exact e
    · intro hz
      rcases List.mem_cons.1 ((h z).2 (List.mem_cons_of_mem _ hz)) with e | e
      · have := hb.1 z hz; omega
      · exact e
theorem inc_range (p : Nat → Bool) (m : Nat) : (((List.range m).filter p).map fun r : Nat => (r : Int)).Pairwise (· < ·) := by
  rw [List.pairwise_map]
  exact (List.pairwise_lt_range.filter p).imp fun h => Int.ofNat_lt.2 h
theorem sameC_true {z : Bool × List Int} {x : CA} (hx : x.1 = true) : sameC z x = decide (z = (true, x.2.1)) := by
  obtain ⟨a, b⟩ := z
  obtain ⟨x1, x2, x3⟩ := x
  dsimp only at hx
  subst hx
  unfold sameC
  cases a <;> simp
section
variable {l : List (Bool × List Int)} {ss : List Bool} {m : Nat} {C : List CA} (g : Good l ss m C) {i : Nat} {x : CA} (hx : C[i]? = some x) (h1 : x.1 = true)
include g hx h1
theorem mem_iff (r : Nat) (hr : r < m) : (r : Int) ∈ x.2.2 ↔ ss.getD r false = true ∧ isT l x.2.1 r = true := by
  constructor
  · intro h
    have a := g.mem i x r hx h
    refine ⟨by simpa using a.2.2.1, ?_⟩
    have b := a.2.2.2
    rw [sameC_true h1] at b
    simpa [isT] using b
  · rintro ⟨h2, h3⟩
    obtain ⟨j, y, h4, h5⟩ := g.all r hr h2
    have a := (g.mem j y r h4 h5).2.2.2
    have b : sameC (l.getD (r : Int).toNat (false, [])) x = true := by
      rw [sameC_true h1]
      simpa [isT] using h3
    have := g.sep i j x y _ hx h4 b a
    subst this
    rw [hx] at h4
    obtain rfl := Option.some.inj h4
    exact h5
theorem cls_ms : x.2.2 = ((List.range m).filter fun r => ss.getD r false && isT l x.2.1 r).map fun r : Nat => (r : Int) := by
  refine inc_ext (g.inc i x hx) (inc_range _ _) fun z => ?_
  constructor
  · intro hz
    have a := g.mem i x z hx hz
    have hz0 : ((z.toNat : Nat) : Int) = z := by omega
    refine List.mem_map.2 ⟨z.toNat, List.mem_filter.2 ⟨List.mem_range.2 (by omega), ?_⟩, hz0⟩
    have := (mem_iff g hx h1 z.toNat (by omega)).1 (by rw [hz0]; exact hz)
    rw [this.1, this.2]; rfl
  · intro hz
    obtain ⟨r, hr, rfl⟩ := List.mem_map.1 hz
    obtain ⟨hr1, hr2⟩ := List.mem_filter.1 hr
    rw [Bool.and_eq_true] at hr2
    exact (mem_iff g hx h1 r (List.mem_range.1 hr1)).2 hr2
theorem cls_len : x.2.2.length = cntT l ss m x.2.1 := by
  rw [cls_ms g hx h1, List.length_map]; rfl
theorem cls_los : losersF x ss m = losT l ss m x.2.1 := by
  unfold losersF losT
  congr 1
  refine List.filter_congr fun r hr => ?_
  have h := mem_iff g hx h1 r (List.mem_range.1 hr)
  cases h2 : ss.getD r false
  · rfl
  · rw [h2] at h
    simp only [true_and] at h
    cases h3 : isT l x.2.1 r
    · rw [h3] at h
      have : x.2.2.contains (r : Int) = false := by
        rw [Bool.eq_false_iff]; intro hc; exact absurd (h.1 (List.contains_iff_mem.1 hc)) (by simp)
      rw [this]
    · have : x.2.2.contains (r : Int) = true := List.contains_iff_mem.2 (h.2 h3)
      rw [this]
end
theorem cnt_cls {l : List (Bool × List Int)} {ss : List Bool} {m : Nat} {C : List CA} (g : Good l ss m C) {t : List Int} (h : 0 < cntT l ss m t) : ∃ (i : Nat) (x : CA), C[i]? = some x ∧ x.1 = true ∧ x.2.1 = t := by
  obtain ⟨r, hr⟩ := List.exists_mem_of_length_pos h
  obtain ⟨hr1, hr2⟩ := List.mem_filter.1 hr
  rw [Bool.and_eq_true] at hr2
  obtain ⟨i, x, hx, hm⟩ := g.all r (List.mem_range.1 hr1) hr2.1
  have a := (g.mem i x r hx hm).2.2.2
  have b : l.getD r (false, []) = (true, t) := by simpa [isT] using hr2.2
  have a' : sameC (l.getD r (false, [])) x = true := a
  rw [b] at a'
  unfold sameC at a'
  simp at a'
  exact ⟨i, x, hx, a'.1, a'.2.symm⟩
def Verd (l : List (Bool × List Int)) (ss : List Bool) (m : Nat) (F : Int × List Int × List Int) : Prop :=
  (numS ss m = 0 ∧ F = (4, [], [])) ∨ (0 < numS ss m ∧ ∃ t, neededF (numS ss m) ≤ cntT l ss m t ∧ F = (if cntT l ss m t = numS ss m then 1 else 2, t, losT l ss m t)) ∨ (0 < numS ss m ∧ (∀ t, (cntT l ss m t : Int) < neededF (numS ss m)) ∧ F = (3, [], []))
theorem verd (l : List (Bool × List Int)) (ss : List Bool) (m : Nat) (hm : m ≤ 5) : Verd l ss m (decideF (clsTo l ss m) m ss 1) := by
  have g := good l ss m
  have hn := numM_clsTo l ss m
  have hb := best_spec (clsTo l ss m)
  have h5 := numS_le ss m
  generalize clsTo l ss m = C at *
  unfold decideF
  rw [hn]
  unfold Verd
  generalize hN : numS ss m = n at *
  have hlos := fun t => cnt_los l ss m t
  rw [hN] at hlos
  by_cases h0 : (n : Int) < 1
  · rw [if_pos h0]
    exact .inl ⟨by omega, rfl⟩
  · rw [if_neg h0]
    have hq : neededF n = (n : Int) / 2 + 1 := by unfold neededF; rw [if_pos (by omega)]
    rcases hb.1 with e | ⟨i, hi, hi1⟩
    · have hno : ∀ t, cntT l ss m t = 0 := fun t => by
        rcases Nat.eq_zero_or_pos (cntT l ss m t) with h | h
        · exact h
        · obtain ⟨j, x, hx, hx1, -⟩ := cnt_cls g h
          obtain ⟨r, u, hu⟩ := g.ne j x hx
          have := hb.2 x (List.mem_of_getElem? hx) hx1
          rw [e, hu] at this
          simp at this
      rw [e]
      rw [if_neg (by show ¬ 0 = n; omega), if_pos (by show (0 : Int) < _; omega)]
      exact .inr (.inr ⟨by omega, fun t => by rw [hno t]; omega, rfl⟩)
    · have hl := cls_len g hi hi1
      have ho := cls_los g hi hi1
      rw [hl]
      by_cases h1 : cntT l ss m (bestF C).2.1 = n
      · rw [if_pos h1]
        refine .inr (.inl ⟨by omega, (bestF C).2.1, by omega, ?_⟩)
        rw [if_pos h1]
        have : losT l ss m (bestF C).2.1 = [] := List.eq_nil_of_length_eq_zero (by have := hlos (bestF C).2.1; omega)
        rw [this]
      · rw [if_neg h1]
        by_cases h2 : (cntT l ss m (bestF C).2.1 : Int) < neededF n
        · rw [if_pos h2]
          refine .inr (.inr ⟨by omega, fun t => ?_, rfl⟩)
          rcases Nat.eq_zero_or_pos (cntT l ss m t) with h | h
          · omega
          · obtain ⟨j, x, hx, hx1, hx2⟩ := cnt_cls g h
            have h3 := hb.2 x (List.mem_of_getElem? hx) hx1
            have h4 := cls_len g hx hx1
            rw [hx2] at h4
            omega
        · rw [if_neg h2, ho]
          exact .inr (.inl ⟨by omega, (bestF C).2.1, by omega, by rw [if_neg h1]⟩)
end Go.Proofs.Ytoojckkmalfimaa
