/- Memory known from a later world on; bytes that a string may share. -/
import Derived.Test.YtlapnhpaedkgcaaDoorEng10
namespace Go.Proofs.YtlapnhpaedkgcaaDoor
open Go.RowKit

section
variable {P : Program} {T : List (Nat × TI)} {N : Nat} {L : List (Nat × Value)} {a : Act} {w w0 w' : World} {S : Nat → Prop} {M M' : List Hp} {o : Oper} {x y z : Operand}

def own (M : List Hp) (k : Nat) : Prop := ∃ x ∈ M, x.g = some k
theorem Mm.rebase (hm : Mm S w0 M w) : Mm (own M) w M w := ⟨hm.me, Fr.refl _ w, hm.dj, fun h hh _ hg => .inr ⟨h, hh, hg⟩⟩
theorem Mm.own_ (hm : Mm S w0 M w) {k : Nat} (h : own M k) : w0.heap.size ≤ k ∨ S k := by
  obtain ⟨x, hx, e⟩ := h
  exact hm.ow x hx k e
theorem Mm.trans (hm : Mm S w0 M w) (hk : Mm (own M) w M' w') : Mm S w0 M' w' := by
  refine ⟨hk.me, hm.fr.then hk.fr fun i hi e => ?_, hk.dj, fun h hh g hg => ?_⟩
  · rcases hm.own_ e with h4 | h4
    · omega
    · exact h4
  · rcases hk.ow h hh g hg with h4 | h4
    · exact .inl (Nat.le_trans hm.fr.size h4)
    · exact hm.own_ h4
theorem freeze_fr {g n k : Nat} : Fr (fun k => (some g : Option Nat) = some k) w (w.freeze ⟨g, n, none⟩ k) := by
  unfold World.freeze
  split
  · exact Fr.refl _ w
  · refine ⟨rfl, rfl, rfl, by simp, fun i hi hne => ?_⟩
    have : ¬ g = i := fun e => hne (by rw [e])
    simp [Array.getElem?_modify, this]
theorem freeze_cell {g n k : Nat} (b : Addr) : (w.freeze ⟨g, n, none⟩ k).cell? b = w.cell? b := by
  unfold World.freeze
  split
  · rfl
  · unfold World.cell?
    simp only [Array.getElem?_modify]
    by_cases e : g = b.block
    · rw [if_pos e]
      cases h : w.heap[b.block]? with
      | none => rfl
      | some ob => cases ob <;> rfl
    · rw [if_neg e]
/-- bytes that are given a string's mark: the block is no longer own, but reads as it read -/
theorem d_strish {t e : TypeId} {i j : TI} {g n c : Nat} {cs : List Value} (hs : Sl N L a) (ho : o.op = .convert t t x) (hx : ev L x = some (.slice (some ⟨g, 0, none⟩) n c)) (hT : TabOk P T) (hc : tlk T t = some i) (hd : i.d = .sl e) (he : tlk T e = some j) (hj : j.d = .int .u8) (hm : Mm S w0 (⟨some g, e, cs⟩ :: M) w) :
    Does P a o w (fun v w' => v = .slice (some ⟨g, 0, none⟩) n c ∧ Mm S w0 M w' ∧ Ro w' g 0 cs ∧ g < w'.heap.size ∧ ¬ own M g) := by
  replace hx := hs.ev hx
  have hb : Blk w g e cs.toArray := hm.me _ (List.mem_cons_self ..)
  have hsh : w.shape? g = some (e, cs.length) := by
    unfold World.shape?
    rw [show w.heap[g]? = _ from hb]; simp
  have hno : ¬ own M g := fun ⟨y, hy, ey⟩ => hm.dj.1 y hy g rfl ey
  unfold Does execOp
  simp [ho, hx, convert, run_und ((hT _ _ hc).sl hd), run_und ((hT _ _ he).int hj), markStringish, hsh]
  have hf := freeze_fr (w := w) (g := g) (n := cs.length) (k := 1)
  refine ⟨⟨fun y hy => Hp.sat_fr hf (hm.me y (List.mem_cons_of_mem _ hy)) fun k hk e => hm.dj.1 y hy g rfl (by rw [hk]; exact e.symm), hm.fr.then hf fun k hk e => ?_, hm.dj.2, fun y hy => hm.ow y (List.mem_cons_of_mem _ hy)⟩, fun k u hu => ?_, Nat.lt_of_lt_of_le hb.lt hf.size, hno⟩
  · have e' : g = k := Option.some.inj e
    subst e'
    rcases hm.ow _ (List.mem_cons_self ..) g rfl with h4 | h4
    · omega
    · exact h4
  · rw [freeze_cell]
    rw [Nat.zero_add, hm.at_ (List.mem_cons_self ..) k]
    exact hu
end
end Go.Proofs.YtlapnhpaedkgcaaDoor
