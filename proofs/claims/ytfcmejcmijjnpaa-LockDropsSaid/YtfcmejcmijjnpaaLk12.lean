/- A map of numbers to bools: what is in it. Valid locks. -/
import Derived.Test.YtfcmejcmijjnpaaLk11
import Derived.Maps.OwnOps
import Derived.Maps.Views
namespace Go.Proofs.Ytfcmejcmijjnpaa
open Go.RowKit

theorem mapT : Try.prog.underlying 48 = some (.map 3 4) := by kernel_rfl
theorem intT : Try.prog.underlying 3 = some (.int .i64) := by kernel_rfl
theorem boolT : Try.prog.underlying 4 = some .bool := by kernel_rfl
theorem boolZv (w : World) : (zeroValue 4).run Try.prog w = .ok (.bool false) w := run_zero (tab _ _ (show tlk TAB 4 = some _ from rfl))
/-- block b is a map of at most n numbers; f says of which it holds true -/
def MB (b n : Nat) (f : Int → Bool) (w : World) : Prop := ∃ D : DataW Unit, w.ownsMap Try.prog 3 (plainElem Try.prog 4) b n D ∧ Maps.IsMap D ∧ ∀ t, (Lit.int .i64 t).wf = true → D.atKey (.int .i64 t) (.lit (.bool false)) = .lit (.bool (f t))
theorem fr_grown {w w' : World} {S : Nat → Prop} (h : Fr S w w') {b : Nat} (hb : ¬ S b) : ∀ blk, w.heap[b]? = some blk → w'.heap[b]? = some blk := fun blk e => by
  have hlt := (Array.getElem?_eq_some_iff.1 e).1
  rw [h.block b hlt hb]; exact e
theorem MB.keep {S : Nat → Prop} {b n : Nat} {f : Int → Bool} {w w' : World} (h : MB b n f w) (hf : Fr S w w') (hb : ¬ S b) : MB b n f w' := by
  obtain ⟨D, ⟨es, clock, hbk, r⟩, h2⟩ := h
  exact ⟨D, ⟨es, clock, fr_grown hf hb _ hbk, r⟩, h2⟩
theorem MB.lt {b n : Nat} {f : Int → Bool} {w : World} (h : MB b n f w) : b < w.heap.size := by
  obtain ⟨D, h1, _⟩ := h
  exact h1.lt
theorem MB.made (w : World) : MB w.heap.size 0 (fun _ => false) (w.alloc (.map #[] 0)) := ⟨.map [], World.ownsMap_made w _ _ _, Maps.isMap_empty, fun _ _ => rfl⟩
section
variable {N : Nat} {L : List (Nat × Value)} {a : Act} {w w0 : World} {S : Nat → Prop} {M : List Hp} {o : Oper} {x y z : Operand}
theorem r_look {b n : Nat} {f : Int → Bool} {k : Int} (hs : Sl N L a) (ho : o.op = .lookup 48 x y false) (hx : ev L x = some (.map (some b))) (hy : ev L y = some (.int .i64 k)) (hk : (Lit.int .i64 k).wf = true) (h : MB b n f w0) (hm : Mm S w0 M w) (hb : ¬ S b) : RunV Try.prog a o w (.bool (f k)) := by
  replace hx := hs.ev hx; replace hy := hs.ev hy
  obtain ⟨D, h1, h2, h3⟩ := h.keep hm.fr hb
  obtain ⟨v, ps, hrun, hv⟩ := h1.lookup (Maps.int_keyed intT) mapT (boolZv w) (plainElem_bool boolT false) (Maps.keyOf_int_mk intT hk)
  rw [h3 k hk] at hv
  have hv' : v = .bool (f k) := by
    unfold plainElem at hv
    rw [boolT] at hv
    cases v <;> simp at hv
    obtain ⟨rfl, _⟩ := hv
    rfl
  subst hv'
  unfold RunV
  unfold execOp
  simp [ho, hx, hy, hrun]
theorem d_mapUp {b n : Nat} {f : Int → Bool} {k : Int} (hs : Sl N L a) (ho : o.op = .mapUpdate 48 x y z) (hx : ev L x = some (.map (some b))) (hy : ev L y = some (.int .i64 k)) (hz : ev L z = some (.bool true)) (hk : (Lit.int .i64 k).wf = true) (h : MB b n f w) (hn : n < maxLen) : Does Try.prog a o w (fun _ w' => MB b (n + 1) (fun t => decide (t = k) || f t) w' ∧ Fr (fun i => i = b) w w') := by
  replace hx := hs.ev hx; replace hy := hs.ev hy; replace hz := hs.ev hz
  obtain ⟨D, h1, h2, h3⟩ := h
  obtain ⟨w', hrun, hown, hgr⟩ := h1.update (Maps.int_keyed intT) mapT hn (Maps.keyOf_int_mk intT hk) (plainElem_bool boolT true)
  unfold Does execOp
  simp [ho, hx, hy, hz, hrun]
  refine ⟨⟨_, hown, h2.put _ _, fun t ht => ?_⟩, ⟨hgr.os, hgr.tape, hgr.output, hgr.size, fun i hi hb => hgr.block i hi (fun e => hb (Option.some.inj e))⟩⟩
  show _ = DataW.lit (.bool (decide (t = k) || f t))
  by_cases e : t = k
  · subst e
    rw [show (decide (t = t) || f t) = true by simp]
    exact Maps.atKey_put_same h2 ((Maps.int_keyed intT).key (Maps.keyOf_int_mk intT hk)) _ _
  · rw [show (decide (t = k) || f t) = f t by simp [e], Maps.atKey_put_other (fun h => e (by injection h)), h3 t ht]
theorem d_makeMap (ho : o.op = .makeMap 48 none) (hm : Mm S w0 M w) : Does Try.prog a o w (fun v w' => v = .map (some w.heap.size) ∧ MB w.heap.size 0 (fun _ => false) w' ∧ Pu w w' ∧ Mm S w0 M w') := by
  have hrun := run_makeMap (P := Try.prog) 48 w
  unfold Does execOp
  simp [ho, hrun]
  exact ⟨MB.made w, (Fr.refl _ w).alloc _, hm.pu ((Fr.refl _ w).alloc _)⟩
end
end Go.Proofs.Ytfcmejcmijjnpaa
