/- Classes. -/
import Derived.Test.YtoojckkmalfimaaCmp5
namespace Go.Proofs.Ytoojckkmalfimaa
open Go.RowKit

/-- a slice of answers -/
structure AS where
  A : Option Addr
  n : Nat
  c : Nat
  l : List An
def AS.v (b : AS) : Value := .slice b.A b.n b.c
structure AS.ok (b : AS) (w : World) : Prop where
  len : b.l.length = b.n
  rd : Rd w w.heap.size b.A (b.l.flatMap An.cs)
  el : ∀ x ∈ b.l, x.b.ok w ∧ x.b.n ≤ 140737488351232
theorem AS.ok.pu {b : AS} {w w' : World} (h : b.ok w) (hf : Pu w w') : b.ok w' := ⟨h.len, hf.rd' h.rd, fun x hx => ⟨(h.el x hx).1.pu hf, (h.el x hx).2⟩⟩
theorem An.len (x : An) : x.cs.length = 2 := rfl
/-- a slice of bools -/
structure TS where
  A : Option Addr
  n : Nat
  c : Nat
  xs : List Bool
def TS.v (b : TS) : Value := .slice b.A b.n b.c
def TS.ok (b : TS) (w : World) : Prop := b.xs.length = b.n ∧ Rd w w.heap.size b.A (bools b.xs)
theorem TS.ok.pu {b : TS} {w w' : World} (h : b.ok w) (hf : Pu w w') : b.ok w' := ⟨h.1, hf.rd' h.2⟩

theorem Rep.app {A B R : List Hp} {x y : Hp} (h : Rep A x y B) : Rep (A ++ R) x y (B ++ R) := by
  induction h with
  | head M x h => exact .head ..
  | tail z _ ih => exact .tail z ih
theorem Rep.pre {A B : List Hp} {x y : Hp} (C : List Hp) (h : Rep A x y B) : Rep (C ++ A) x y (C ++ B) := by
  induction C with
  | nil => exact h
  | cons z _ ih => exact .tail z ih
theorem flat_set {α : Type} (f : α → List Value) (s : Nat) (hs : ∀ a, (f a).length = s) (l : List α) (k j : Nat) (x : α) (v : Value) (hk : l[k]? = some x) (hj : j < s) (y : α) (hy : f y = (f x).set j v) : (l.flatMap f).set (k * s + j) v = (l.set k y).flatMap f := by
  induction l generalizing k with
  | nil => simp at hk
  | cons a t ih =>
    cases k with
    | zero =>
      simp at hk
      subst hk
      simp only [List.flatMap_cons, Nat.zero_mul, Nat.zero_add, List.set_cons_zero]
      rw [List.set_append_left _ _ (by rw [hs]; exact hj), hy]
    | succ k =>
      simp only [List.flatMap_cons, List.set_cons_succ]
      rw [List.set_append_right _ _ (by rw [hs, Nat.succ_mul]; omega), hs]
      have e : (k + 1) * s + j - s = k * s + j := by rw [Nat.succ_mul]; omega
      rw [e, ih k (by simpa using hk)]

/-- what is known at the head of a round -/
structure CI (y : AS) (s : TS) (i : Nat) (A : Option Nat) (c : Nat) (cs : List Value) (l : List OC) : Prop where
  hi : i ≤ y.n
  r : Row A l.length c 3 ((l.map OC.cl).flatMap Cl.cs) cs
  o : ∀ x ∈ l, x.ok
  a : l.map OC.abs = clsTo (y.l.map An.abs) s.xs i
theorem CI.le {y : AS} {s : TS} {i : Nat} {A : Option Nat} {c : Nat} {cs : List Value} {l : List OC} (h : CI y s i A c cs l) : l.length ≤ i := by
  have := congrArg List.length h.a
  rw [List.length_map] at this
  rw [this]; exact clsTo_len _ _ _
theorem ocmem {l : List OC} {k : Nat} {x : OC} (h : l[k]? = some x) : x.mh ∈ hps l := List.mem_append_left _ (List.mem_map.2 ⟨x, List.mem_of_getElem? h, rfl⟩)
theorem ocrep {l : List OC} {k : Nat} {x y : OC} (h : l[k]? = some x) (hb : y.bh = x.bh) : Rep (hps l) x.mh y.mh (hps (l.set k y)) := by
  unfold hps
  have h1 : (l.set k y).map OC.mh = (l.map OC.mh).set k y.mh := List.map_set ..
  have h2 : (l.set k y).map OC.bh = l.map OC.bh := by
    rw [List.map_set, hb]
    apply List.ext_getElem?
    intro j
    rw [List.getElem?_set]
    split
    · rename_i e; subst e
      split
      · simp [h]
      · rename_i hlt; rw [List.getElem?_eq_none (by simpa using hlt)]
    · rfl
  rw [h1, h2]
  exact (Rep.at_ y.mh (by simp [h])).app
/-- one class more member -/
theorem CI.more {l : List OC} {A : Option Nat} {c : Nat} {cs : List Value} {k : Nat} {x : OC} {i : Int} {mA : Option Nat} {mc : Nat} {mcs : List Value} (hr : Row A l.length c 3 ((l.map OC.cl).flatMap Cl.cs) cs) (ho : ∀ x ∈ l, x.ok) (hk : l[k]? = some x) (hm : Row mA (x.ms.length + 1) mc 1 (ints x.ms ++ [.int .i64 i]) mcs) :
    Row A (l.set k { x with ms := x.ms ++ [i], mA := mA, mc := mc, mcs := mcs }).length c 3 (((l.set k { x with ms := x.ms ++ [i], mA := mA, mc := mc, mcs := mcs }).map OC.cl).flatMap Cl.cs) (cs.set (k * 3 + 2) (slv mA (x.ms.length + 1) mc)) ∧
    (∀ y ∈ l.set k { x with ms := x.ms ++ [i], mA := mA, mc := mc, mcs := mcs }, y.ok) ∧
    (l.set k { x with ms := x.ms ++ [i], mA := mA, mc := mc, mcs := mcs }).map OC.abs = (l.map OC.abs).set k (x.h, x.bx, x.ms ++ [i]) := by
  refine ⟨?_, fun y hy => ?_, by rw [List.map_set]; rfl⟩
  · have h1 := hr.set (k * 3 + 2) (slv mA (x.ms.length + 1) mc)
    rw [flat_set Cl.cs 3 Cl.len (l.map OC.cl) k 2 x.cl _ (by simp [hk]) (by omega) (OC.cl { x with ms := x.ms ++ [i], mA := mA, mc := mc, mcs := mcs }) (by simp [OC.cl, Cl.cs, IS.v, slv, gA])] at h1
    rw [List.length_set, List.map_set]
    exact h1
  · have hx := ho x (List.mem_of_getElem? hk)
    rcases List.mem_or_eq_of_mem_set hy with h | h
    · exact ho y h
    · subst h
      exact ⟨hx.b, by rw [ints_app] at hm; simpa using hm, hx.i⟩
theorem addC_ms {l : List (Bool × List Int × List Int)} {y : Bool × List Int} {i : Int} {k : Nat} (h : ∀ x ∈ l, x.2.2.length ≤ k) : ∀ x ∈ addC l y i, x.2.2.length ≤ k + 1 := by
  unfold addC
  dsimp only
  intro x hx
  split at hx
  · rename_i z hz
    rcases List.mem_or_eq_of_mem_set hx with h1 | h1
    · have := h x h1; omega
    · subst h1
      have := h z (List.mem_of_getElem? hz)
      simp; omega
  · rcases List.mem_append.1 hx with h1 | h1
    · have := h x h1; omega
    · rcases List.mem_singleton.1 h1 with rfl
      simp
theorem clsTo_ms (l : List (Bool × List Int)) (s : List Bool) (k : Nat) : ∀ x ∈ clsTo l s k, x.2.2.length ≤ k := by
  induction k with
  | zero => intro x hx; simp [clsTo] at hx
  | succ k ih =>
    simp only [clsTo]
    split
    · exact addC_ms ih
    · intro x hx; have := ih x hx; omega
theorem addC_old {l : List (Bool × List Int × List Int)} {y : Bool × List Int} {i : Int} {k : Nat} {x : Bool × List Int × List Int} (hk : l.findIdx (sameC y) = k) (hx : l[k]? = some x) : addC l y i = l.set k (x.1, x.2.1, x.2.2 ++ [i]) := by
  unfold addC
  simp only [hk, hx]
theorem addC_new {l : List (Bool × List Int × List Int)} {y : Bool × List Int} {i : Int} (hk : ¬ l.findIdx (sameC y) < l.length) : addC l y i = l ++ [(y.1, if y.1 then y.2 else [], [i])] := by
  unfold addC
  have : l[l.findIdx (sameC y)]? = none := List.getElem?_eq_none (by omega)
  simp only [this]
theorem hps_snoc (l : List OC) (x : OC) : (hps (l ++ [x])).Perm (x.mh :: x.bh :: hps l) := by
  unfold hps
  simp only [List.map_append, List.map_cons, List.map_nil, List.append_assoc, List.singleton_append]
  refine List.perm_middle.trans (.cons _ ?_)
  rw [← List.append_assoc]
  exact List.perm_append_comm
end Go.Proofs.Ytoojckkmalfimaa
