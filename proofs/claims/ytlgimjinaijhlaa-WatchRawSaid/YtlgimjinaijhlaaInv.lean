/- A region that draws its order, by an invariant: each operation once, whatever was done before it. -/
import Derived.Test.YtlgimjinaijhlaaLib
import Derived.Orders
namespace Go.Proofs.Ytlgimjinaijhlaa
open Go.RowKit

theorem ready_mem {md : Region.Mode} {ops : Array Oper} {l : Array Bool} {i : Nat} (h : i ∈ Region.ready md ops l) :
    i < ops.size ∧ l.getD i true = false ∧ ∀ o, ops[i]? = some o → ∀ e ∈ o.after, Region.binds md e = true → l.getD e.on false = true := by
  unfold Region.ready at h
  rw [List.mem_filter, List.mem_range] at h
  obtain ⟨h1, h2⟩ := h
  rw [Bool.and_eq_true] at h2
  refine ⟨h1, by simpa using h2.1, fun o ho e he hb => ?_⟩
  have h3 := h2.2
  rw [ho] at h3
  simp only [Option.map_some, Option.getD_some, Array.all_eq_true'] at h3
  have := h3 e he
  rw [hb] at this
  simpa using this

/-- every binding edge leads back -/
def backB (md : Region.Mode) (ops : Array Oper) : Bool := (List.range ops.size).all fun i => ((ops[i]?).map (·.after.all fun e => !Region.binds md e || decide (e.on < i))).getD true

theorem ready_all {md : Region.Mode} {ops : Array Oper} {l : Array Bool} (hb : backB md ops = true) (hs : l.size = ops.size) (hr : Region.ready md ops l = []) : ∀ i, i < ops.size → l.getD i false = true := by
  intro i
  induction i using Nat.strongRecOn with
  | _ i ih =>
    intro hi
    by_cases hc : l.getD i false = true
    · exact hc
    exfalso
    have hli : l.getD i true = false := by
      have h0 : i < l.size := by omega
      simp only [Array.getD, h0, dite_true] at hc ⊢
      simpa using hc
    have : i ∈ Region.ready md ops l := by
      unfold Region.ready
      rw [List.mem_filter, List.mem_range]
      refine ⟨hi, ?_⟩
      rw [hli, Array.getElem?_eq_getElem hi]
      simp only [Bool.not_false, Bool.true_and, Option.map_some, Option.getD_some, Array.all_eq_true']
      intro e he
      cases hbe : Region.binds md e with
      | false => rfl
      | true =>
        have := List.all_eq_true.1 hb i (List.mem_range.2 hi)
        rw [Array.getElem?_eq_getElem hi] at this
        simp only [Option.map_some, Option.getD_some, Array.all_eq_true'] at this
        have h4 := this e he
        rw [hbe] at h4
        have h5 : e.on < i := by simpa using h4
        simpa using ih e.on h5 (by omega)
    rw [hr] at this
    cases this

theorem listed_set {l : Array Bool} {i : Nat} (hi : i < l.size) (j : Nat) : (l.setIfInBounds i true).getD j false = if j = i then true else l.getD j false := by
  simp only [Array.getD_eq_getD_getElem?, Array.getElem?_setIfInBounds]
  by_cases h : j = i
  · subst h; simp [hi]
  · rw [if_neg (fun e => h e.symm), if_neg h]

theorem wpAny_inv {P : Program} {ops : Array Oper} {Q : Exit → Act → World → Prop} {md : Region.Mode} {I : Array Bool → Act → World → Prop} (hb : backB md ops = true)
    (hs : ∀ l a w, l.size = ops.size → I l a w → ∀ i, i ∈ Region.ready md ops l → wpOp P ops Q i (I (l.setIfInBounds i true)) a w)
    (hd : ∀ l a w, (∀ i, i < ops.size → l.getD i false = true) → I l a w → Q .normal a w) :
    ∀ fuel l a w, l.size = ops.size → l.toList.count false ≤ fuel → I l a w → wpAny P md ops Q fuel l a w := by
  intro fuel
  induction fuel with
  | zero =>
    intro l a w hz hc hI
    have hr : Region.ready md ops l = [] := by
      apply List.eq_nil_iff_forall_not_mem.2
      intro i hi
      obtain ⟨h1, h2, _⟩ := ready_mem hi
      have h0 : i < l.size := by omega
      simp only [Array.getD, h0, dite_true] at h2
      have : false ∈ l.toList := by rw [← h2]; simp
      have := List.count_pos_iff.2 this
      omega
    exact ⟨hr, hd l a w (ready_all hb hz hr) hI⟩
  | succ fuel ih =>
    intro l a w hz hc hI
    refine ⟨fun hr => hd l a w (ready_all hb hz hr) hI, fun i hi => wpOp_mono (fun a w h => ih _ a w (by simpa using hz) ?_ h) (hs l a w hz hI i hi)⟩
    obtain ⟨h1, h2, _⟩ := ready_mem hi
    have h0 : i < l.size := by omega
    simp only [Array.getD, h0, dite_true] at h2
    rw [Array.toList_setIfInBounds, List.count_set (by simpa using h0)]
    have h3 : l.toList[i] = false := by simpa using h2
    have : 0 < l.toList.count false := List.count_pos_iff.2 (by rw [← h3]; exact List.getElem_mem _)
    have e1 : (true == false) = false := rfl
    simp only [h3, e1, beq_self_eq_true, if_true, Bool.false_eq_true, if_false]
    omega

/-- a region that draws, by an invariant: of the frame at its head, of what is done (by number), of the frame and the world as they stand -/
theorem wp_region_inv {P : Program} {ops : Array Oper} {Q : Exit → Act → World → Prop} {id : Nat} {a : Act} {w : World} (I : Act → (Nat → Bool) → Act → World → Prop) (hm : P.follows .mixedOrders = true) (hb : backB .any ops = true)
    (hI : I a (fun _ => false) a w.drew)
    (hs : ∀ (L : Nat → Bool) b u i, I a L b u → i < ops.size → L i = false → (∀ o, ops[i]? = some o → ∀ e ∈ o.after, Region.binds .any e = true → L e.on = true) → wpOp P ops Q i (I a (fun j => if j = i then true else L j)) b u)
    (hd : ∀ (L : Nat → Bool) b u, (∀ i, i < ops.size → L i = true) → I a L b u → Q .normal b u) : (Code.region id ops true).wp P Q a w := by
  refine wp_region_any hm (wpAny_inv (I := fun l b u => I a (fun j => l.getD j false) b u) hb ?_ ?_ _ _ _ _ (by simp) (by simp) ?_)
  · intro l b u hz h i hi
    obtain ⟨h1, h2, h3⟩ := ready_mem hi
    have h0 : i < l.size := by omega
    have h4 : l.getD i false = false := by simp only [Array.getD, h0, dite_true] at h2 ⊢; exact h2
    have := hs (fun j => l.getD j false) b u i h h1 h4 h3
    rwa [show (fun j => if j = i then true else l.getD j false) = (fun j => (l.setIfInBounds i true).getD j false) from funext fun j => (listed_set h0 j).symm] at this
  · exact fun l b u h hI => hd _ b u h hI
  · have : (fun j => (Array.replicate ops.size false).getD j false) = fun _ => false := by
      funext j
      simp [Array.getD_eq_getD_getElem?, Array.getElem?_replicate]
      split <;> rfl
    show I a (fun j => (Array.replicate ops.size false).getD j false) a w.drew
    rw [this]; exact hI
end Go.Proofs.Ytlgimjinaijhlaa
