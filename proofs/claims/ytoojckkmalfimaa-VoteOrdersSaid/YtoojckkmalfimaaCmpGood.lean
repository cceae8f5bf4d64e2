/- What the classes are: the plain law. -/
import Derived.Test.YtoojckkmalfimaaCmp8
namespace Go.Proofs.Ytoojckkmalfimaa
open Go.RowKit

abbrev CA := Bool × List Int × List Int
def hdI (x : CA) : Int := x.2.2.headD 0
structure Good (l : List (Bool × List Int)) (s : List Bool) (k : Nat) (C : List CA) : Prop where
  mem : ∀ (i : Nat) (x : CA) (r : Int), C[i]? = some x → r ∈ x.2.2 → 0 ≤ r ∧ r < k ∧ s.getD r.toNat false = true ∧ sameC (l.getD r.toNat (false, [])) x = true
  inc : ∀ (i : Nat) (x : CA), C[i]? = some x → x.2.2.Pairwise (· < ·)
  ne : ∀ (i : Nat) (x : CA), C[i]? = some x → ∃ r t, x.2.2 = r :: t
  hd : ∀ (i j : Nat) (x y : CA), i < j → C[i]? = some x → C[j]? = some y → hdI x < hdI y
  all : ∀ r : Nat, r < k → s.getD r false = true → ∃ (i : Nat) (x : CA), C[i]? = some x ∧ (r : Int) ∈ x.2.2
  sep : ∀ (i j : Nat) (x y : CA) (z : Bool × List Int), C[i]? = some x → C[j]? = some y → sameC z x = true → sameC z y = true → i = j
theorem sameC_tr {y z : Bool × List Int} {x x' : CA} (h1 : sameC y x = true) (h2 : sameC z x = true) (h3 : sameC y x' = true) : sameC z x' = true := by
  unfold sameC at *
  simp only [Bool.and_eq_true, beq_iff_eq, Bool.or_eq_true, Bool.not_eq_true', decide_eq_true_eq] at *
  refine ⟨h2.1.trans (h1.1.symm.trans h3.1), ?_⟩
  rcases h2.2 with a | a
  · exact .inl a
  · rcases h1.2 with b | b
    · left; rw [h2.1, ← h1.1]; exact b
    · rcases h3.2 with c | c
      · left; rw [h2.1, ← h1.1]; exact c
      · exact .inr (a.trans (b.symm.trans c))
theorem sameC_new (y : Bool × List Int) (ms : List Int) : sameC y (y.1, (if y.1 then y.2 else []), ms) = true := by
  unfold sameC
  cases y.1 <;> simp
theorem Good.nil (l : List (Bool × List Int)) (s : List Bool) : Good l s 0 [] := ⟨by simp, by simp, by simp, by simp, fun r hr => absurd hr (by omega), by simp⟩
theorem Good.skip {l : List (Bool × List Int)} {s : List Bool} {k : Nat} {C : List CA} (h : Good l s k C) (hs : ¬ s.getD k false = true) : Good l s (k + 1) C :=
  ⟨fun i x r hx hr => by have := h.mem i x r hx hr; exact ⟨this.1, by omega, this.2.2⟩, h.inc, h.ne, h.hd, fun r hr hsr => by
    rcases Nat.lt_or_ge r k with h1 | h1
    · exact h.all r h1 hsr
    · have : r = k := by omega
      subst this; exact absurd hsr hs, h.sep⟩
theorem hd_app (ms : List Int) (v : Int) (h : ∃ r t, ms = r :: t) : (ms ++ [v]).headD 0 = ms.headD 0 := by
  obtain ⟨r, t, rfl⟩ := h; rfl
theorem Good.step {l : List (Bool × List Int)} {s : List Bool} {k : Nat} {C : List CA} (h : Good l s k C) (hs : s.getD k false = true) : Good l s (k + 1) (addC C (l.getD k (false, [])) k) := by
  generalize hy : l.getD k (false, []) = y
  have hkk : ((k : Int)).toNat = k := Int.toNat_natCast k
  by_cases hf : C.findIdx (sameC y) < C.length
  · obtain ⟨x, hx⟩ : ∃ x, C[C.findIdx (sameC y)]? = some x := ⟨_, List.getElem?_eq_getElem hf⟩
    have hyx : sameC y x = true := by
      have h1 := List.findIdx_getElem (w := hf)
      have h2 : C[C.findIdx (sameC y)] = x := by rw [List.getElem?_eq_getElem hf] at hx; exact Option.some.inj hx
      rw [h2] at h1; exact h1
    rw [addC_old rfl hx]
    generalize C.findIdx (sameC y) = q at *
    have hget : ∀ (i : Nat) (z : CA), (C.set q (x.1, x.2.1, x.2.2 ++ [(k : Int)]))[i]? = some z → ∃ z0 : CA, C[i]? = some z0 ∧ z.1 = z0.1 ∧ z.2.1 = z0.2.1 ∧ hdI z = hdI z0 ∧ ((i = q ∧ z.2.2 = z0.2.2 ++ [(k : Int)] ∧ z0 = x) ∨ z = z0) := fun i z hz => by
      rw [List.getElem?_set] at hz
      split at hz
      · rename_i e
        subst e
        have := Option.some.inj hz
        subst this
        exact ⟨x, hx, rfl, rfl, hd_app _ _ (h.ne _ _ hx), .inl ⟨rfl, rfl, rfl⟩⟩
      · exact ⟨z, hz, rfl, rfl, rfl, .inr rfl⟩
    have hC : ∀ (a : Bool × List Int) (z z0 : CA), z.1 = z0.1 → z.2.1 = z0.2.1 → sameC a z = sameC a z0 := fun a z z0 e1 e2 => by unfold sameC; rw [e1, e2]
    refine ⟨fun i z r hz hr => ?_, fun i z hz => ?_, fun i z hz => ?_, fun i j z w hij hz hw => ?_, fun r hr hsr => ?_, fun i j z w a hz hw h1 h2 => ?_⟩
    · obtain ⟨z0, g0, g1, g2, g3, g4⟩ := hget i z hz
      rw [hC _ z z0 g1 g2]
      rcases g4 with ⟨rfl, g4, g5⟩ | rfl
      · rw [g4] at hr
        rcases List.mem_append.1 hr with h1 | h1
        · have := h.mem i z0 r g0 h1; exact ⟨this.1, by omega, this.2.2⟩
        · rcases List.mem_singleton.1 h1 with rfl
          rw [hkk, hy, g5]
          exact ⟨by omega, by omega, hs, hyx⟩
      · have := h.mem i z r g0 hr; exact ⟨this.1, by omega, this.2.2⟩
    · obtain ⟨z0, g0, g1, g2, g3, g4⟩ := hget i z hz
      rcases g4 with ⟨rfl, g4, g5⟩ | rfl
      · rw [g4]
        refine List.pairwise_append.2 ⟨h.inc i z0 g0, List.pairwise_singleton .., fun r hr t ht => ?_⟩
        rcases List.mem_singleton.1 ht with rfl
        exact (h.mem i z0 r g0 hr).2.1
      · exact h.inc i z g0
    · obtain ⟨z0, g0, g1, g2, g3, g4⟩ := hget i z hz
      obtain ⟨r, t, e⟩ := h.ne i z0 g0
      rcases g4 with ⟨rfl, g4, g5⟩ | rfl
      · exact ⟨r, t ++ [(k : Int)], by rw [g4, e]; rfl⟩
      · exact ⟨r, t, e⟩
    · obtain ⟨z0, g0, g1, g2, g3, g4⟩ := hget i z hz
      obtain ⟨w0, k0, k1, k2, k3, k4⟩ := hget j w hw
      rw [g3, k3]
      exact h.hd i j z0 w0 hij g0 k0
    · rcases Nat.lt_or_ge r k with h1 | h1
      · obtain ⟨i, z0, g0, g1⟩ := h.all r h1 hsr
        by_cases e : q = i
        · subst e
          have : z0 = x := Option.some.inj (g0.symm.trans hx)
          subst this
          exact ⟨q, _, by rw [List.getElem?_set, if_pos rfl, if_pos hf], List.mem_append_left _ g1⟩
        · exact ⟨i, z0, by rw [List.getElem?_set, if_neg e]; exact g0, g1⟩
      · have : r = k := by omega
        subst this
        exact ⟨q, _, by rw [List.getElem?_set, if_pos rfl, if_pos hf], List.mem_append_right _ (List.mem_singleton.2 rfl)⟩
    · obtain ⟨z0, g0, g1, g2, g3, g4⟩ := hget i z hz
      obtain ⟨w0, k0, k1, k2, k3, k4⟩ := hget j w hw
      rw [hC _ z z0 g1 g2] at h1
      rw [hC _ w w0 k1 k2] at h2
      exact h.sep i j z0 w0 a g0 k0 h1 h2
  · rw [addC_new hf]
    have hno : ∀ (i : Nat) (x : CA), C[i]? = some x → ¬ sameC y x = true := fun i x hx hyx => hf (List.findIdx_lt_length_of_exists ⟨x, List.mem_of_getElem? hx, hyx⟩)
    have hget : ∀ (i : Nat) (z : CA), (C ++ [(y.1, (if y.1 then y.2 else []), [(k : Int)])])[i]? = some z → C[i]? = some z ∨ (i = C.length ∧ z = (y.1, (if y.1 then y.2 else []), [(k : Int)])) := fun i z hz => by
      rw [List.getElem?_append] at hz
      split at hz
      · exact .inl hz
      · rename_i hge
        right
        have : i - C.length = 0 := by
          rcases Nat.eq_zero_or_pos (i - C.length) with h0 | h0
          · exact h0
          · rw [List.getElem?_eq_none (by simp; omega)] at hz; cases hz
        rw [this] at hz
        exact ⟨by omega, (Option.some.inj hz).symm⟩
    have hlt : ∀ (i : Nat) (x : CA), C[i]? = some x → i < C.length := fun i x hx => by
      rcases Nat.lt_or_ge i C.length with h0 | h0
      · exact h0
      · rw [List.getElem?_eq_none h0] at hx; cases hx
    refine ⟨fun i z r hz hr => ?_, fun i z hz => ?_, fun i z hz => ?_, fun i j z w hij hz hw => ?_, fun r hr hsr => ?_, fun i j z w a hz hw h1 h2 => ?_⟩
    · rcases hget i z hz with g | ⟨g, rfl⟩
      · have := h.mem i z r g hr; exact ⟨this.1, by omega, this.2.2⟩
      · rcases List.mem_singleton.1 hr with rfl
        rw [hkk, hy]
        exact ⟨by omega, by omega, hs, sameC_new _ _⟩
    · rcases hget i z hz with g | ⟨g, rfl⟩
      · exact h.inc i z g
      · exact List.pairwise_singleton ..
    · rcases hget i z hz with g | ⟨g, rfl⟩
      · exact h.ne i z g
      · exact ⟨_, _, rfl⟩
    · rcases hget j w hw with g' | ⟨g', rfl⟩
      · rcases hget i z hz with g | ⟨g, rfl⟩
        · exact h.hd i j z w hij g g'
        · have := hlt j w g'; omega
      · rcases hget i z hz with g | ⟨g, rfl⟩
        · obtain ⟨r, t, e⟩ := h.ne i z g
          have := (h.mem i z r g (by rw [e]; exact List.mem_cons_self ..)).2.1
          unfold hdI
          rw [e]
          exact this
        · omega
    · rcases Nat.lt_or_ge r k with h1 | h1
      · obtain ⟨i, z0, g0, g1⟩ := h.all r h1 hsr
        exact ⟨i, z0, by rw [List.getElem?_append_left (hlt i z0 g0)]; exact g0, g1⟩
      · have : r = k := by omega
        subst this
        exact ⟨C.length, _, by rw [List.getElem?_append_right (Nat.le_refl _), Nat.sub_self]; rfl, List.mem_singleton.2 rfl⟩
    · rcases hget i z hz with g | ⟨g, rfl⟩
      · rcases hget j w hw with g' | ⟨g', rfl⟩
        · exact h.sep i j z w a g g' h1 h2
        · exact absurd (sameC_tr h2 (sameC_new y [(k : Int)]) h1) (hno i z g)
      · rcases hget j w hw with g' | ⟨g', rfl⟩
        · exact absurd (sameC_tr h1 (sameC_new y [(k : Int)]) h2) (hno j w g')
        · omega
theorem good (l : List (Bool × List Int)) (s : List Bool) (k : Nat) : Good l s k (clsTo l s k) := by
  induction k with
  | zero => exact Good.nil l s
  | succ k ih =>
    simp only [clsTo]
    split
    · rename_i h; exact ih.step h
    · rename_i h; exact ih.skip h
/-- two that are in: in one class exactly if the same -/
theorem Good.same {l : List (Bool × List Int)} {s : List Bool} {k : Nat} {C : List CA} (h : Good l s k C) {i j : Nat} {x y : CA} {r t : Int} (hx : C[i]? = some x) (hy : C[j]? = some y) (hr : r ∈ x.2.2) (ht : t ∈ y.2.2) (p q : An) (hp : l.getD r.toNat (false, []) = p.abs) (hq : l.getD t.toNat (false, []) = q.abs) : sameB p q = decide (i = j) := by
  have h1 := (h.mem i x r hx hr).2.2.2
  have h2 := (h.mem j y t hy ht).2.2.2
  rw [hp] at h1
  rw [hq] at h2
  by_cases e : i = j
  · subst e
    have e2 : x = y := Option.some.inj (hx.symm.trans hy)
    subst e2
    rw [decide_eq_true rfl]
    unfold sameC An.abs at h1 h2
    unfold sameB
    simp only [Bool.and_eq_true, beq_iff_eq, Bool.or_eq_true, Bool.not_eq_true', decide_eq_true_eq] at *
    refine ⟨h1.1.trans h2.1.symm, ?_⟩
    rcases h1.2 with a | a
    · exact .inl a
    · rcases h2.2 with b | b
      · left; rw [h1.1, ← h2.1]; exact b
      · exact .inr (a.trans b.symm)
  · rw [decide_eq_false e, Bool.eq_false_iff]
    intro hs
    refine e (h.sep i j x y p.abs hx hy h1 ?_)
    unfold sameC An.abs at h1 h2
    unfold sameB at hs
    unfold sameC An.abs
    simp only [Bool.and_eq_true, beq_iff_eq, Bool.or_eq_true, Bool.not_eq_true', decide_eq_true_eq] at *
    refine ⟨hs.1.trans h2.1, ?_⟩
    rcases hs.2 with a | a
    · exact .inl a
    · rcases h2.2 with b | b
      · left; rw [hs.1]; exact b
      · exact .inr (a.trans b)
end Go.Proofs.Ytoojckkmalfimaa
