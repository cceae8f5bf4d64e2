/- More of rows: empty room, one element set, one element put. -/
import Derived.Test.YtlapnhpaedkgcaaDoorEng13
namespace Go.Proofs.YtlapnhpaedkgcaaDoor
open Go.RowKit

theorem Row.room0 (g : Nat) (s : Nat) : Row (some g) 0 0 s [] [] := ⟨(fun e => by cases e), Nat.le_refl _, Nat.zero_le _, by simp, by simp, by simp⟩
theorem flat_set {α : Type} (f : α → List Value) (s : Nat) (hs : ∀ a, (f a).length = s) (l : List α) (k j : Nat) (x : α) (v : Value) (hk : l[k]? = some x) (hj : j < s) (y : α) (hy : f y = (f x).set j v) : (l.flatMap f).set (k * s + j) v = (l.set k y).flatMap f := by
  induction l generalizing k with
  | nil => simp at hk
  | cons a t ih =>
    cases k with
    | zero =>
      simp at hk
      subst hk
      simp only [List.flatMap_cons, Nat.zero_mul, Nat.zero_add, List.set_cons_zero]
      rw [List.set_append_left _ _ (by rw [hs]; exact hj), hy]
    | succ k =>
      simp only [List.flatMap_cons, List.set_cons_succ]
      rw [List.set_append_right _ _ (by rw [hs, Nat.succ_mul]; omega), hs]
      have e : (k + 1) * s + j - s = k * s + j := by rw [Nat.succ_mul]; omega
      rw [e, ih k (by simpa using hk)]
theorem put3 {a b c : Value} : ∀ {cs : List Value} {n : Nat}, n + 3 ≤ cs.length → putF cs n [a, b, c] = some (((cs.set n a).set (n + 1) b).set (n + 2) c)
  | x :: y :: z :: t, 0, _ => by cases t <;> rfl
  | x :: t, n + 1, h => by
    have ih := put3 (a := a) (b := b) (c := c) (cs := t) (n := n) (by simp at h; omega)
    simp only [putF, ih, List.set_cons_succ]
  | [], 0, h => by simp at h
  | [_], 0, h => by simp at h
  | [_, _], 0, h => by simp at h
  | [], n + 1, h => by simp at h
theorem New.none_ (w w' : World) (t : TypeId) : New w w' [⟨none, t, []⟩] := ⟨fun x hx => (by rcases List.mem_singleton.1 hx with rfl; rfl), ⟨fun x hx => (by cases hx), trivial⟩, fun x hx g hg => (by rcases List.mem_singleton.1 hx with rfl; cases hg)⟩
theorem Rd.none_nil {w : World} {B : Nat} {xs : List Value} (h : Rd w B none xs) : xs = [] := by
  cases xs with
  | nil => rfl
  | cons x r => obtain ⟨b, off, e, _⟩ := h (by simp); cases e
theorem zrep_map {α : Type} (n : Nat) (f : α → List Value) (x : α) : zrep n (f x) = (List.replicate n x).flatMap f := by
  induction n with
  | zero => rfl
  | succ n ih => rw [zrep, ih, List.replicate_succ, List.flatMap_cons]
theorem zrep_bools (n : Nat) : zrep n [.bool false] = bools (List.replicate n false) := by
  induction n with
  | zero => rfl
  | succ n ih => rw [zrep, ih]; rfl
theorem take_set_snoc {α : Type} (l : List α) (k : Nat) (v : α) (hk : k < l.length) : (l.set k v).take (k + 1) = l.take k ++ [v] := by
  rw [List.take_succ_eq_append_getElem (by simpa using hk), List.take_set_of_le (Nat.le_refl k)]
  simp
theorem gEnd {P : Program} {T : List (Nat × TI)} {N : Nat} {L : List (Nat × Value)} {a : Act} {w : World} {K : Value → World → Prop} {fn : Func} {rs : List ResultVar} {vs : List Value} (hT : TabOk P T) (hs : Sl N L a) (hf : fn.results = rs.toArray) (hv : AllRes T L w rs vs) (h : K (resV vs) w) : Goes (bodyPost P fn (fun e w' => ∃ v, e = .returned v ∧ K v w')) .normal a w := retEnd hT hs hf hv ⟨_, rfl, h⟩
/-- a slice of bools -/
structure TS where
  A : Option Addr
  n : Nat
  c : Nat
  xs : List Bool
def TS.v (b : TS) : Value := .slice b.A b.n b.c
def TS.ok (b : TS) (w : World) : Prop := b.xs.length = b.n ∧ Rd w w.heap.size b.A (bools b.xs)
theorem TS.ok.pu {b : TS} {w w' : World} (h : b.ok w) (hf : Pu w w') : b.ok w' := ⟨h.1, hf.rd' h.2⟩
/-- a slice of numbers -/
structure IS where
  A : Option Addr
  n : Nat
  c : Nat
  xs : List Int
def IS.v (b : IS) : Value := .slice b.A b.n b.c
def IS.ok (b : IS) (w : World) : Prop := b.xs.length = b.n ∧ Rd w w.heap.size b.A (ints b.xs)
theorem IS.ok.pu {b : IS} {w w' : World} (h : b.ok w) (hf : Pu w w') : b.ok w' := ⟨h.1, hf.rd' h.2⟩
end Go.Proofs.YtlapnhpaedkgcaaDoor
