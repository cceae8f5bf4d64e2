/- The plain law of votes: the others; one verdict. -/
import Derived.Test.YtoojckkmalfimaaVot7
namespace Go.Proofs.Ytoojckkmalfimaa
open Go.RowKit

theorem inOther_succ (C : List CA) (but r i : Nat) : inOther C but r (i + 1) = (inOther C but r i || (i != but && ((C[i]?).map (fun c => c.2.2.contains (r : Int))).getD false)) := by
  unfold inOther
  rw [List.range_succ, List.any_append]
  simp
theorem inOther_iff {C : List CA} {but r i : Nat} : inOther C but r i = true ↔ ∃ (j : Nat) (x : CA), j < i ∧ j ≠ but ∧ C[j]? = some x ∧ (r : Int) ∈ x.2.2 := by
  unfold inOther
  rw [List.any_eq_true]
  constructor
  · rintro ⟨j, hj, h⟩
    simp only [Bool.and_eq_true, bne_iff_ne] at h
    obtain ⟨h1, h2⟩ := h
    cases hc : C[j]? with
    | none => rw [hc] at h2; simp at h2
    | some x =>
      rw [hc] at h2
      exact ⟨j, x, List.mem_range.1 hj, h1, hc, by simpa using h2⟩
  · rintro ⟨j, x, h1, h2, h3, h4⟩
    exact ⟨j, List.mem_range.2 h1, by simp only [Bool.and_eq_true, bne_iff_ne]; exact ⟨h2, by rw [h3]; simpa using h4⟩⟩
theorem Good.one_eq {l : List (Bool × List Int)} {ss : List Bool} {m : Nat} {C : List CA} (g : Good l ss m C) (h5 : ∀ x ∈ C, x.2.2.length ≤ 5) (but r : Nat) : ∀ i, i ≤ C.length → oth1 C but r i = if inOther C but r i then [(r : Int)] else [] := by
  intro i
  induction i with
  | zero => intro _; rfl
  | succ i ih =>
    intro hi
    obtain ⟨x, hx⟩ : ∃ x, C[i]? = some x := ⟨_, List.getElem?_eq_getElem (by omega)⟩
    have hK : othK C r i 5 = if x.2.2.contains (r : Int) then [(r : Int)] else [] := by
      unfold othK
      rw [hx]
      show (x.2.2.take 5).filter _ = _
      rw [List.take_of_length_le (h5 x (List.mem_of_getElem? hx)), filter_one (g.inc i x hx)]
    show oth1 C but r i ++ _ = _
    rw [ih (by omega), inOther_succ, hx, hK]
    by_cases hb : i = but
    · subst hb
      simp
    · rw [if_neg hb]
      by_cases hc : x.2.2.contains (r : Int) = true
      · have hno : inOther C but r i = false := by
          rw [Bool.eq_false_iff]
          intro h
          obtain ⟨j, y, h1, h2, h3, h4⟩ := inOther_iff.1 h
          have a := g.mem i x r hx (List.contains_iff_mem.1 hc)
          have b := g.mem j y r h3 h4
          have := g.sep i j x y _ hx h3 a.2.2.2 b.2.2.2
          omega
        have hb' : (i != but) = true := by simpa using hb
        rw [if_pos hc, hno]
        simp only [hb', Option.map_some, Option.getD_some, hc, Bool.and_self, Bool.or_true, if_true, Bool.false_eq_true, if_false, List.nil_append]
      · have hc' : x.2.2.contains (r : Int) = false := by simpa using hc
        rw [if_neg hc]
        simp only [Option.map_some, Option.getD_some, hc', Bool.and_false, Bool.or_false, List.append_nil]
theorem Good.oth_eq {l : List (Bool × List Int)} {ss : List Bool} {m : Nat} {C : List CA} (g : Good l ss m C) (h5 : ∀ x ∈ C, x.2.2.length ≤ 5) (but : Nat) (R : Nat) : oth C but R = ((List.range R).filter (fun r : Nat => inOther C but r C.length)).map (fun r : Nat => (r : Int)) := by
  induction R with
  | zero => rfl
  | succ R ih =>
    show oth C but R ++ oth1 C but R C.length = _
    rw [ih, g.one_eq h5 but R _ (Nat.le_refl _), List.range_succ, List.filter_append, List.map_append]
    cases h : inOther C but R C.length <;> simp only [List.filter_cons, List.filter_nil, h, if_true, if_false, Bool.false_eq_true, List.map_cons, List.map_nil]
theorem Good.oth_len {l : List (Bool × List Int)} {ss : List Bool} {m : Nat} {C : List CA} (g : Good l ss m C) (h5 : ∀ x ∈ C, x.2.2.length ≤ 5) (but : Nat) : (oth C but 5).length ≤ 5 := by
  rw [g.oth_eq h5, List.length_map]
  have := List.length_filter_le (fun r : Nat => inOther C but r C.length) (List.range 5)
  simpa using this
theorem range_filter {p q : Nat → Bool} (m : Nat) (h1 : ∀ r, r < m → p r = q r) (h2 : ∀ r, m ≤ r → p r = false) (d : Nat) : (List.range (m + d)).filter p = (List.range m).filter q := by
  induction d with
  | zero => exact List.filter_congr fun r hr => h1 r (List.mem_range.1 hr)
  | succ d ih =>
    rw [show m + (d + 1) = (m + d) + 1 from rfl, List.range_succ, List.filter_append, ih]
    simp [h2 (m + d) (by omega)]
theorem Good.losers {l : List (Bool × List Int)} {ss : List Bool} {m : Nat} {C : List CA} (g : Good l ss m C) (hm : m ≤ 5) (h5 : ∀ x ∈ C, x.2.2.length ≤ 5) {but : Nat} {b : CA} (hb : C[but]? = some b) : oth C but 5 = losersF b ss m := by
  have hlt : but < C.length := by
    rcases Nat.lt_or_ge but C.length with h | h
    · exact h
    · rw [List.getElem?_eq_none h] at hb; cases hb
  rw [g.oth_eq h5]
  unfold losersF
  congr 1
  have e := range_filter (p := fun r : Nat => inOther C but r C.length) (q := fun r : Nat => ss.getD r false && !b.2.2.contains (r : Int)) m (fun r hr => ?_) (fun r hr => ?_) (5 - m)
  · rwa [show m + (5 - m) = 5 by omega] at e
  · rw [Bool.eq_iff_iff, inOther_iff]
    simp only [Bool.and_eq_true, Bool.not_eq_true']
    constructor
    · rintro ⟨j, x, h1, h2, h3, h4⟩
      have a := g.mem j x r h3 h4
      refine ⟨by simpa using a.2.2.1, ?_⟩
      rw [Bool.eq_false_iff]
      intro h
      have c := g.mem but b r hb (List.contains_iff_mem.1 h)
      exact h2 (g.sep j but x b _ h3 hb a.2.2.2 c.2.2.2)
    · rintro ⟨h1, h2⟩
      obtain ⟨i, x, h3, h4⟩ := g.all r hr h1
      refine ⟨i, x, ?_, fun e => ?_, h3, h4⟩
      · rcases Nat.lt_or_ge i C.length with h | h
        · exact h
        · rw [List.getElem?_eq_none h] at h3; cases h3
      · subst e
        rw [hb] at h3
        have := Option.some.inj h3
        subst this
        rw [List.contains_iff_mem.2 h4] at h2
        cases h2
  · rw [Bool.eq_false_iff]
    intro h
    obtain ⟨j, x, h1, h2, h3, h4⟩ := inOther_iff.1 h
    have a := g.mem j x r h3 h4
    omega
theorem Good.verdict {l : List (Bool × List Int)} {ss : List Bool} {m : Nat} {C : List CA} (g : Good l ss m C) (hm : m ≤ 5) (h5 : ∀ x ∈ C, x.2.2.length ≤ m) (hsum : numM C = numS ss m) (k : Int) (hk : 1 ≤ k) : decideF C m ss k = decideR C m ss k := by
  have h5' : ∀ x ∈ C, x.2.2.length ≤ 5 := fun x hx => Nat.le_trans (h5 x hx) hm
  unfold decideF decideR
  rw [← hsum]
  by_cases hkt : (numM C : Int) < k
  · rw [if_pos hkt, if_pos hkt]
  · rw [if_neg hkt, if_neg hkt]
    have hle : numM C ≤ 5 := by rw [hsum]; exact Nat.le_trans (numS_le ss m) hm
    have hq : neededF (numM C) = (numM C : Int) / 2 + 1 := by unfold neededF; rw [if_pos (by omega)]
    have hbs := best_spec C
    generalize bestF C = b at *
    generalize hn : numM C = n at *
    by_cases hb : b.2.2.length = n
    · rw [if_pos hb]
      rcases hbs.1 with e | ⟨i, hi, hi1⟩
      · rw [e] at hb; simp at hb; omega
      · have hone : ∀ j (x : CA), C[j]? = some x → j = i := fun j x hx => by
          rcases Nat.decEq j i with h | h
          · exfalso
            have h2 := numM_two hi hx (fun e => h e.symm)
            obtain ⟨r, t, e⟩ := g.ne j x hx
            rw [e] at h2
            simp at h2
            omega
          · exact h
        have hil : i < C.length := by
          rcases Nat.lt_or_ge i C.length with h | h
          · exact h
          · rw [List.getElem?_eq_none h] at hi; cases hi
        have hi0 : i = 0 := (hone 0 _ (List.getElem?_eq_getElem (by omega))).symm
        have hl1 : C.length = 1 := by
          rcases Nat.lt_or_ge 1 C.length with h | h
          · have := hone 1 _ (List.getElem?_eq_getElem h); omega
          · omega
        subst hi0
        have hhit : hitB (neededF n) b = true := by unfold hitB; rw [hi1, decide_eq_true (by omega)]; rfl
        have hbe : C[0] = b := by rw [List.getElem?_eq_getElem hil] at hi; exact Option.some.inj hi
        have hfi : C.findIdx (hitB (neededF n)) = 0 := (List.findIdx_eq hil).2 ⟨by rw [hbe]; exact hhit, fun j hj => absurd hj (by omega)⟩
        rw [pickR_some hfi hi, if_pos hl1, g.losers hm h5' hi]
        congr 2
        unfold losersF
        rw [List.filter_eq_nil_iff.2]
        · rfl
        · intro r hr
          simp only [Bool.and_eq_true, Bool.not_eq_true', not_and, Bool.not_eq_false]
          intro hs
          obtain ⟨j, x, h1, h2⟩ := g.all r (List.mem_range.1 hr) hs
          have := hone j x h1
          subst this
          rw [hi] at h1
          have := Option.some.inj h1
          subst this
          exact List.contains_iff_mem.2 h2
    · rw [if_neg hb]
      by_cases hbq : (b.2.2.length : Int) < neededF n
      · rw [if_pos hbq, pickR_none (List.findIdx_eq_length_of_false fun x hx => ?_)]
        unfold hitB
        cases h1 : x.1
        · rfl
        · have := hbs.2 x hx h1
          rw [decide_eq_false (by omega)]; rfl
      · rw [if_neg hbq]
        rcases hbs.1 with e | ⟨i, hi, hi1⟩
        · rw [e] at hbq; simp at hbq; omega
        · have hil : i < C.length := by
            rcases Nat.lt_or_ge i C.length with h | h
            · exact h
            · rw [List.getElem?_eq_none h] at hi; cases hi
          have hhit : hitB (neededF n) b = true := by unfold hitB; rw [hi1, decide_eq_true (by omega)]; rfl
          have hbe : C[i] = b := by rw [List.getElem?_eq_getElem hil] at hi; exact Option.some.inj hi
          have hfi : C.findIdx (hitB (neededF n)) = i := (List.findIdx_eq hil).2 ⟨by rw [hbe]; exact hhit, fun j hj => by
            have h2 := numM_two hi (List.getElem?_eq_getElem (by omega : j < C.length)) (by omega)
            unfold hitB
            rw [decide_eq_false (by omega), Bool.and_false]⟩
          have hl1 : C.length ≠ 1 := fun h => by
            obtain ⟨x, hx⟩ := List.length_eq_one_iff.1 h
            have hi0 : i = 0 := by omega
            rw [hx, hi0] at hi
            rw [hx] at hn
            have e : x = b := Option.some.inj hi
            subst e
            simp [numM] at hn
            omega
          rw [pickR_some hfi hi, if_neg hl1, g.losers hm h5' hi]
theorem clsTo_verdict (l : List (Bool × List Int)) (ss : List Bool) (m : Nat) (hm : m ≤ 5) (k : Int) (hk : 1 ≤ k) : decideF (clsTo l ss m) m ss k = decideR (clsTo l ss m) m ss k :=
  (good l ss m).verdict hm (clsTo_ms l ss m) (numM_clsTo l ss m) k hk
theorem clsTo_oth (l : List (Bool × List Int)) (ss : List Bool) (m : Nat) (hm : m ≤ 5) (i : Nat) : (oth (clsTo l ss m) i 5).length ≤ 5 :=
  (good l ss m).oth_len (fun x hx => Nat.le_trans (clsTo_ms l ss m x hx) hm) i
end Go.Proofs.Ytoojckkmalfimaa
