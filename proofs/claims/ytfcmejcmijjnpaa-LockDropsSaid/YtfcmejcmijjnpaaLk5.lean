/- Locks of a walk's own, read as locks; taking and giving, without memory. -/
import Derived.Test.YtfcmejcmijjnpaaLk3
import Derived.Test.YtfcmejcmijjnpaaLk4
namespace Go.Proofs.Ytfcmejcmijjnpaa
open Go.RowKit

def KO.ks (y : KO) : KS := ⟨y.o.is, y.qA.map fun g => ⟨g, 0, none⟩, y.qc, y.rs.map RW.is⟩
theorem KO.ks_v (y : KO) : y.ks.v = y.v := by
  unfold KO.ks KS.v KO.v slv
  rw [List.length_map]
  rfl
theorem KO.ks_ab (y : KO) : y.ks.ab = y.ab := by
  unfold KO.ks KS.ab KO.ab
  rw [List.map_map]
  rfl
theorem KO.ks_ok {S : Nat → Prop} {w0 w : World} {M : List Hp} {y : KO} (hm : Mm S w0 M w) (hM : ∀ h ∈ y.hps, h ∈ M) (hy : y.ok) : y.ks.ok w := by
  refine ⟨RW.ok_is hm (hM _ (List.Mem.tail _ (List.Mem.head _))) hy.o, ?_, fun q hq => ?_⟩
  · have := hm.rd_row (hM _ (List.Mem.head _)) hy.q
    show Rd w w.heap.size _ ((y.rs.map RW.is).map IS.v)
    rw [List.map_map]
    exact this
  · obtain ⟨r, hr, rfl⟩ := List.mem_map.1 hq
    exact RW.ok_is hm (hM _ (List.Mem.tail _ (List.Mem.tail _ (List.mem_map_of_mem hr)))) (hy.rs r hr)
theorem IS.blk_rw {r : RW} {g : Nat} (h : r.is.blk g) : r.hp.g = some g := by
  obtain ⟨_, o, e⟩ := h
  unfold RW.is at e
  dsimp only at e
  unfold RW.hp
  dsimp only
  cases hA : r.A with
  | none => rw [hA] at e; cases e
  | some b => rw [hA] at e; cases e; rfl
theorem KO.blk_hps {y : KO} {g : Nat} (h : y.ks.blk g) : ∃ h ∈ y.hps, h.g = some g := by
  rcases h with h | ⟨_, o, e⟩ | ⟨q, hq, h⟩
  · exact ⟨_, List.Mem.tail _ (List.Mem.head _), IS.blk_rw h⟩
  · refine ⟨_, List.Mem.head _, ?_⟩
    unfold KO.ks at e
    dsimp only at e ⊢
    cases hA : y.qA with
    | none => rw [hA] at e; cases e
    | some b => rw [hA] at e; cases e; rfl
  · obtain ⟨r, hr, rfl⟩ := List.mem_map.1 hq
    exact ⟨_, List.Mem.tail _ (List.Mem.tail _ (List.mem_map_of_mem hr)), IS.blk_rw h⟩
theorem KO.ks_new {y : KO} {n : Nat} (h : ∀ h ∈ y.hps, ∀ g, h.g = some g → n ≤ g) : y.ks.new n := fun g hg => by
  obtain ⟨z, hz, e⟩ := KO.blk_hps hg
  exact h z hz g e
/-- the blocks of a copy, the walk's other ones first -/
theorem cp_gain {S : Nat → Prop} {w0 w w' : World} {M : List Hp} {y : KO} (hm : Mm S w0 M w) (hf : Pu w w') (hN : New w w' y.hps) : Mm S w0 (⟨y.qA, 22, y.qcs⟩ :: y.o.hp :: (M ++ y.rs.map RW.hp)) w' := by
  refine (hm.gain hf hN).perm ?_
  exact List.Perm.cons _ (List.Perm.cons _ List.perm_append_comm)
theorem rep_set {rs : List RW} {k : Nat} {r r' : RW} (h : rs[k]? = some r) : Rep (rs.map RW.hp) r.hp r'.hp ((rs.set k r').map RW.hp) := by
  induction rs generalizing k with
  | nil => simp at h
  | cons a l ih =>
    cases k with
    | zero =>
      simp at h
      subst h
      exact Rep.head _ _ _
    | succ k =>
      simp only [List.getElem?_cons_succ] at h
      exact Rep.tail _ (ih h)
theorem getI {l : List Int} {k : Nat} (h : k < l.length) : l.getD k 0 = l[k] := by rw [List.getD_eq_getElem?_getD, List.getElem?_eq_getElem h]; rfl
/-- the shape of locks -/
structure Ab.sh (a : Ab) : Prop where
  o : a.os.length = 4
  q : a.qs.length = 4
  l : ∀ q ∈ a.qs, q.length ≤ 500
theorem KS.sm_of {x : KS} {w : World} (hx : x.ok w) (h : x.ab.sh) : x.sm := by
  refine ⟨by have := hx.o.1; have := h.o; unfold KS.ab at this; dsimp only at this; omega, by have := h.q; unfold KS.ab at this; rw [List.length_map] at this; omega, fun q hq => ?_⟩
  have h1 := h.l q.xs (List.mem_map_of_mem hq)
  have h2 := (hx.qs q hq).1
  omega
def takF (a : Ab) (k : Nat) (t : Int) : Ab × Int :=
  if a.os.getD k 0 = t then (a, 2) else if a.wt t = true then (a, 2)
  else if a.os.getD k 0 = -1 then (⟨a.os.set k t, a.qs⟩, 0)
  else (⟨a.os, a.qs.set k (a.qs.getD k [] ++ [t])⟩, 1)
def givF (a : Ab) (k : Nat) (t : Int) : Ab × Int × Bool :=
  if a.os.getD k 0 = t then match a.qs.getD k [] with
    | [] => (⟨a.os.set k (-1), a.qs⟩, -1, true)
    | u :: r => (⟨a.os.set k u, a.qs.set k r⟩, u, true)
  else (a, -1, false)
/-- what taking leaves -/
def TakR (r : Ab × Int) (w : World) (u : Value) (w' : World) : Prop := ∃ y : KS, u = .tuple #[y.v, .int .i64 r.2] ∧ y.ok w' ∧ y.new w.heap.size ∧ y.ab = r.1 ∧ Pu w w'
def GivR (r : Ab × Int × Bool) (w : World) (u : Value) (w' : World) : Prop := ∃ y : KS, u = .tuple #[y.v, .int .i64 r.2.1, .bool r.2.2] ∧ y.ok w' ∧ y.new w.heap.size ∧ y.ab = r.1 ∧ Pu w w'
theorem KO.new_at {w0 w : World} {M : List Hp} {y : KO} (hm : Mm (fun _ => False) w0 M w) (hM : ∀ h ∈ y.hps, h ∈ M) : y.ks.new w0.heap.size :=
  KO.ks_new fun h hh g hg => (hm.ow h (hM h hh) g hg).resolve_right id
theorem RW.set_ok {r : RW} (h : r.ok) (k : Nat) (v : Int) : RW.ok ⟨r.A, r.c, r.cs.set k (.int .i64 v), r.xs.set k v⟩ := by
  unfold RW.ok at *
  dsimp only
  rw [List.length_set, show ints (r.xs.set k v) = (ints r.xs).set k (.int .i64 v) by simp [ints, List.map_set]]
  exact Row.set h k _
end Go.Proofs.Ytfcmejcmijjnpaa
