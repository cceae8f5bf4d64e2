/- A cut in the middle of a walk; blocks in another order; a remainder that is a Nat. -/
import Derived.Test.YtlapnhpaedkgcaaDoorEng15
import Derived.Test.YtlapnhpaedkgcaaDoorEng12
namespace Go.Proofs.YtlapnhpaedkgcaaDoor
open Go.RowKit

section
variable {P : Program} {T : List (Nat × TI)} {N : Nat} {L : List (Nat × Value)} {a : Act} {w w0 : World} {S : Nat → Prop} {M M' : List Hp} {o : Oper} {x y z : Operand} {Q : Exit → Act → World → Prop}
/-- own blocks by their numbers in the list, each once -/
theorem Mm.sel (hm : Mm S w0 M w) (idx : List Nat) (hn : idx.Nodup) (he : M' = idx.filterMap (fun i => M[i]?)) : Mm S w0 M' w := by
  subst he
  have hmem : ∀ h ∈ idx.filterMap (fun i => M[i]?), h ∈ M := fun h hh => by
    obtain ⟨i, _, hi⟩ := List.mem_filterMap.1 hh
    exact List.mem_of_getElem? hi
  refine ⟨fun h hh => hm.me h (hmem h hh), hm.fr, ?_, fun h hh => hm.ow h (hmem h hh)⟩
  have hp := apart_iff.1 hm.dj
  have hsym : ∀ (i j : Nat) (x y : Hp), i ≠ j → M[i]? = some x → M[j]? = some y → ∀ g, x.g = some g → y.g ≠ some g := by
    intro i j x y hij hx hy g hg e
    obtain ⟨hi, rfl⟩ := List.getElem?_eq_some_iff.1 hx
    obtain ⟨hj, rfl⟩ := List.getElem?_eq_some_iff.1 hy
    rcases Nat.lt_or_gt_of_ne hij with h | h
    · exact List.pairwise_iff_getElem.1 hp i j hi hj h g hg e
    · exact List.pairwise_iff_getElem.1 hp j i hj hi h g e hg
  rw [apart_iff, List.pairwise_filterMap]
  exact List.Pairwise.imp (fun {i j} hij x hx y hy => hsym i j x y hij hx hy) hn
theorem Sl.pt (_hs : Sl N L a) (k : Nat) {g : Nat} (_h : lk L k = some (.pointer (some ⟨g, 0, none⟩))) : ∃ g', g' = g := ⟨_, rfl⟩
theorem Sl.ps (_hs : Sl N L a) (k : Nat) {g n c : Nat} (_h : lk L k = some (.slice (some ⟨g, 0, none⟩) n c)) : ∃ g', g' = g := ⟨_, rfl⟩
theorem r_remH {t yt : TypeId} {k : IntKind} {n m : Int} {q : Nat} (hs : Sl N L a) (ho : o.op = .binOp .rem t x y yt) (hx : ev L x = some (.int k n)) (hy : ev L y = some (.int k m)) (he : n % m = (q : Int)) (hn : 0 ≤ n) (hm : 0 < m) : RunV P a o w (.int k (q : Int)) := by
  have := r_rem64 (P := P) (w := w) hs ho hx hy hn hm
  rwa [he] at this
theorem r_shl {t yt : TypeId} {k k' : IntKind} {n m : Int} (hs : Sl N L a) (ho : o.op = .binOp .shl t x y yt) (hx : ev L x = some (.int k n)) (hy : ev L y = some (.int k' m)) (hm : 0 ≤ m) : RunV P a o w (.int k (k.wrap (n * 2 ^ (min m.toNat k.bits)))) := by
  replace hx := hs.ev hx
  replace hy := hs.ev hy
  have h0 : ¬ m < 0 := by omega
  unfold RunV
  generalize a.eval = ρ at *
  unfold execOp
  simp [ho, go_sem, hx, hy, Op.shift, h0]
theorem r_shr {t yt : TypeId} {k k' : IntKind} {n m : Int} (hs : Sl N L a) (ho : o.op = .binOp .shr t x y yt) (hx : ev L x = some (.int k n)) (hy : ev L y = some (.int k' m)) (hm : 0 ≤ m) : RunV P a o w (.int k (n.fdiv (2 ^ (min m.toNat k.bits)))) := by
  replace hx := hs.ev hx
  replace hy := hs.ev hy
  have h0 : ¬ m < 0 := by omega
  unfold RunV
  generalize a.eval = ρ at *
  unfold execOp
  simp [ho, go_sem, hx, hy, Op.shift, h0]
end
/-- a piece of code, and what is known behind it -/
theorem cMid {P : Program} {Q : Exit → Act → World → Prop} {a : Act} {w : World} {c : Code} (I : Act → World → Prop) (h : c.wp P (fun e a w => e = .normal ∧ I a w) a w) (k : ∀ a w, I a w → Goes Q .normal a w) : c.wp P Q a w :=
  wp_mono h fun e a w ⟨he, hi⟩ => by subst he; exact k a w hi
end Go.Proofs.YtlapnhpaedkgcaaDoor
