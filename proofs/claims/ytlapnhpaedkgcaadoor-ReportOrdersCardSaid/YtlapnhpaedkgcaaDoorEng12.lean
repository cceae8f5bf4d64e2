/- Regions that draw their order, with operations that change memory. -/
import Derived.Test.YtlapnhpaedkgcaaDoorEng11
import Derived.OrdersHeld
import Derived.Deep.RegionHeld3
namespace Go.Proofs.YtlapnhpaedkgcaaDoor
open Go.RowKit

section
variable {P : Program} {T : List (Nat × TI)} {N : Nat} {L : List (Nat × Value)} {a : Act} {w w0 : World} {S : Nat → Prop} {M M1 : List Hp} {o : Oper} {v : Value} {K : Value → World → Prop} {Q : Exit → Act → World → Prop} {ops : Array Oper} {l : Array Bool} {S1 : World → Prop} {n : Nat}

structure Drawn (P : Program) (ops : Array Oper) (Q : Exit → Act → World → Prop) (S1 : World → Prop) (n : Nat) (l : Array Bool) (a : Act) (w : World) : Prop where
  h : wpAnyH P .any ops (NoPanic Q) S1 n l a w
theorem cDraw {id : Nat} (M1 : List Hp) (hm : Mm S w0 M w) (hf : P.follows .mixedOrders = true) (hn : ops.size = n) (k : ∀ w, Mm S w0 M w → Drawn P ops Q (fun w' => Mm S w0 M1 w') n (Array.replicate n false) a w) : (Code.region id ops true).wp P Q a w := by
  refine wp_region_noPanic (wp_region_held (S := fun w' => Mm S w0 M1 w') hf ?_)
  rw [hn]
  exact (k _ hm.drew).h
def lget : List Oper → Nat → Option Oper
  | [], _ => none
  | x :: _, 0 => some x
  | _ :: r, n + 1 => lget r n
theorem lget_eq (r : List Oper) (i : Nat) : lget r i = r[i]? := by
  induction r generalizing i with
  | nil => rfl
  | cons x t ih => cases i with
    | zero => rfl
    | succ i => simp only [lget, ih, List.getElem?_cons_succ]
theorem lget_ok {i : Nat} (h : lget ops.toList i = some o) : ops[i]? = some o := by
  rw [lget_eq] at h
  simpa using h
def takeB (ops : Array Oper) (l : Array Bool) (i : Nat) : Bool := Region.noSelect ops && Region.free .any ops l i && (Region.ready .any ops l).contains i
theorem hTake {d : Nat} (i : Nat) (hs : Sl N L a) (hi : lget ops.toList i = some o) (hb : takeB ops l i = true) (hg : Wnt ops N L o) (ho : o.dst = some d) (hd : Nat.blt d N = true) (h : ∀ w, S1 w → RunV P a o w v) (hS : S1 w) (k : ∀ a, Sl N ((d, v) :: L) a → Drawn P ops Q S1 n (l.setIfInBounds i true) a w) : Drawn P ops Q S1 (n + 1) l a w := by
  unfold takeB at hb
  simp only [Bool.and_eq_true] at hb
  refine ⟨wpAnyH_take (lget_ok hi) hb.1.1 hb.1.2 hb.2 (fun _ _ _ h => h) (.inl ⟨hg.yes hs, h⟩) hS ?_⟩
  rw [ho]
  exact (k _ (hs.put v hd)).h
theorem hDone (hr : (Region.ready .any ops l).isEmpty = true) (h : Goes Q .normal a w) : Drawn P ops Q S1 n l a w :=
  ⟨wpAnyH_done (Q := NoPanic Q) (by simpa using hr) (show NoPanic Q .normal a w from h) n⟩
/-- whichever of the rest comes next -/
structure Each (P : Program) (ops : Array Oper) (Q : Exit → Act → World → Prop) (S1 : World → Prop) (n : Nat) (l : Array Bool) (a : Act) (w : World) (rs : List Nat) : Prop where
  h : ∀ i ∈ rs, wpOp P ops (NoPanic Q) i (fun a' w' => S1 w' ∧ wpAnyH P .any ops (NoPanic Q) S1 n (l.setIfInBounds i true) a' w') a w
theorem hEach (rs : List Nat) (hr : (Region.ready .any ops l == rs && !rs.isEmpty) = true) (h : Each P ops Q S1 n l a w rs) : Drawn P ops Q S1 (n + 1) l a w := by
  simp only [Bool.and_eq_true, beq_iff_eq, Bool.not_eq_true'] at hr
  exact ⟨wpAnyH_all hr.1 (fun e => by rw [e] at hr; simp at hr) h.h⟩
theorem eNil : Each P ops Q S1 n l a w [] := ⟨fun i hi => by cases hi⟩
theorem eDo {d i : Nat} {rs : List Nat} (hs : Sl N L a) (hi : lget ops.toList i = some o) (hg : Wnt ops N L o) (ho : o.dst = some d) (hd : Nat.blt d N = true) (h : Does P a o w K) (k : ∀ v w', K v w' → ∀ a, Sl N ((d, v) :: L) a → S1 w' ∧ Drawn P ops Q S1 n (l.setIfInBounds i true) a w') (r : Each P ops Q S1 n l a w rs) : Each P ops Q S1 n l a w (i :: rs) := by
  refine ⟨fun j hj => ?_⟩
  rcases List.mem_cons.1 hj with rfl | hj
  · refine wpOp_step (lget_ok hi) fun K' hK => ?_
    rw [if_pos (hg.yes hs)]
    exact Does.wp (h.mono fun v w' hk => hK _ _ (by rw [ho]; have := k v w' hk _ (hs.put v hd); exact ⟨this.1, this.2.h⟩))
  · exact r.h j hj
theorem eDoN {i : Nat} {rs : List Nat} (hs : Sl N L a) (hi : lget ops.toList i = some o) (hg : Wnt ops N L o) (ho : o.dst = none) (h : Does P a o w K) (k : ∀ v w', K v w' → ∀ a, Sl N L a → S1 w' ∧ Drawn P ops Q S1 n (l.setIfInBounds i true) a w') (r : Each P ops Q S1 n l a w rs) : Each P ops Q S1 n l a w (i :: rs) := by
  refine ⟨fun j hj => ?_⟩
  rcases List.mem_cons.1 hj with rfl | hj
  · refine wpOp_step (lget_ok hi) fun K' hK => ?_
    rw [if_pos (hg.yes hs)]
    exact Does.wp (h.mono fun v w' hk => hK _ _ (by rw [ho]; have := k v w' hk _ hs; exact ⟨this.1, this.2.h⟩))
  · exact r.h j hj
end
end Go.Proofs.YtlapnhpaedkgcaaDoor
