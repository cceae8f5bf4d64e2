/- A walk by lemmas: what the slots hold and what the blocks hold, each as a list; over any program. -/
import Derived.Test.YtlapnhpaedkgcaaDoorLib
import Derived.OrdersHeld
import Derived.Deep.LoopGhost
namespace Go.Proofs.YtlapnhpaedkgcaaDoor
open Go.RowKit

/-! ### Slots -/
def lk : List (Nat × Value) → Nat → Option Value
  | [], _ => none
  | (k, v) :: r, n => bif Nat.beq k n then some v else lk r n
structure Sl (N : Nat) (L : List (Nat × Value)) (a : Act) : Prop where
  nd : a.defers = []
  sz : a.tmps.size = N
  sl : ∀ k v, lk L k = some v → a.tmps.getD k undef = v
theorem Sl.put {N : Nat} {L : List (Nat × Value)} {a : Act} (h : Sl N L a) {d : Nat} (v : Value) (hd : Nat.blt d N = true) : Sl N ((d, v) :: L) (a.put (some d) v) := by
  have hd' : d < N := by simpa using hd
  refine ⟨h.nd, by simp [Act.put, h.sz], fun k u hk => ?_⟩
  simp only [lk] at hk
  by_cases hdk : d = k
  · subst hdk
    simp only [Nat.beq_refl, cond_true, Option.some.injEq] at hk
    subst hk
    simp [Act.put, Array.getD_eq_getD_getElem?, h.sz, hd']
  · have hb : Nat.beq d k = false := by cases e : Nat.beq d k with | true => exact absurd (Nat.eq_of_beq_eq_true e) hdk | false => rfl
    rw [hb] at hk
    have := h.sl k u hk
    simp only [Act.put, Array.getD_eq_getD_getElem?] at this ⊢
    rwa [Array.getElem?_setIfInBounds_ne hdk]
theorem Sl.skip {N : Nat} {L : List (Nat × Value)} {a : Act} (h : Sl N L a) (v : Value) : Sl N L (a.put none v) := h
/-- fewer slots, or the same by other words -/
theorem Sl.sub {N : Nat} {L L' : List (Nat × Value)} {a : Act} (h : Sl N L a) (hl : ∀ p ∈ L', lk L p.1 = some p.2) : Sl N L' a := by
  refine ⟨h.nd, h.sz, fun k v hk => h.sl k v ?_⟩
  induction L' with
  | nil => simp [lk] at hk
  | cons p r ih =>
    obtain ⟨k', v'⟩ := p
    simp only [lk] at hk
    cases hb : Nat.beq k' k with
    | true =>
      rw [hb] at hk
      simp only [cond_true, Option.some.injEq] at hk
      have : k' = k := by simpa using hb
      subst this; subst hk
      exact hl _ (List.mem_cons_self ..)
    | false => rw [hb] at hk; exact ih (fun p hp => hl p (List.mem_cons_of_mem _ hp)) hk
/-- what a list of slots asks, one by one -/
def Has (L : List (Nat × Value)) : List (Nat × Value) → Prop
  | [] => True
  | p :: r => lk L p.1 = some p.2 ∧ Has L r
theorem Has.all {L L' : List (Nat × Value)} (h : Has L L') : ∀ p ∈ L', lk L p.1 = some p.2 := by
  induction L' with
  | nil => intro p hp; cases hp
  | cons q r ih =>
    intro p hp
    rcases List.mem_cons.1 hp with rfl | hp
    · exact h.1
    · exact ih h.2 p hp
def ev (L : List (Nat × Value)) : Operand → Option Value
  | .tmp t => lk L t
  | .const v => some v
  | .global g => some (.pointer (some ⟨g, 0, none⟩))
  | .func f => some (.func (.func f) #[] #[])
theorem Sl.ev {N : Nat} {L : List (Nat × Value)} {a : Act} (h : Sl N L a) {x : Operand} {v : Value} (he : ev L x = some v) : a.eval x = v := by
  cases x with
  | tmp t => exact h.sl t v he
  | const u => exact Option.some.inj he
  | global g => exact Option.some.inj he
  | func f => exact Option.some.inj he
def evs (L : List (Nat × Value)) : List Operand → Option (List Value)
  | [] => some []
  | x :: r => match ev L x with
    | some v => match evs L r with
      | some vs => some (v :: vs)
      | none => none
    | none => none
theorem Sl.evs {N : Nat} {L : List (Nat × Value)} {a : Act} (h : Sl N L a) : ∀ {xs : List Operand} {vs : List Value}, evs L xs = some vs → xs.map a.eval = vs
  | [], vs, he => by simpa [Go.Proofs.YtlapnhpaedkgcaaDoor.evs] using he
  | x :: r, vs, he => by
    simp only [Go.Proofs.YtlapnhpaedkgcaaDoor.evs] at he
    cases hx : Go.Proofs.YtlapnhpaedkgcaaDoor.ev L x with
    | none => rw [hx] at he; cases he
    | some v =>
      rw [hx] at he
      cases hr : Go.Proofs.YtlapnhpaedkgcaaDoor.evs L r with
      | none => rw [hr] at he; cases he
      | some us =>
        rw [hr] at he
        simp only [Option.some.injEq] at he
        subst he
        simp [h.ev hx, Sl.evs h hr]

/-! ### Blocks -/
/-- a block of the walk's own: all its cells (or none: no block, no cells) -/
structure Hp where
  g : Option Nat
  t : TypeId
  cs : List Value
def Hp.sat (h : Hp) (w : World) : Prop :=
  match h.g with
  | none => h.cs = []
  | some g => Blk w g h.t h.cs.toArray
def Hp.blk (h : Hp) (k : Nat) : Prop := h.g = some k
/-- no two of them share a block -/
def Apart : List Hp → Prop
  | [] => True
  | h :: r => (∀ x ∈ r, ∀ g, h.g = some g → x.g ≠ some g) ∧ Apart r
structure Mm (S : Nat → Prop) (w0 : World) (M : List Hp) (w : World) : Prop where
  me : ∀ h ∈ M, h.sat w
  fr : Fr S w0 w
  dj : Apart M
  ow : ∀ h ∈ M, ∀ g, h.g = some g → w0.heap.size ≤ g ∨ S g
theorem Hp.lt {h : Hp} {w : World} (hs : h.sat w) {g : Nat} (hg : h.g = some g) : g < w.heap.size := by
  unfold Hp.sat at hs
  rw [hg] at hs
  exact hs.lt
theorem Hp.sat_fr {S : Nat → Prop} {w w' : World} {h : Hp} (hf : Fr S w w') (hs : h.sat w) (hn : ∀ g, h.g = some g → ¬ S g) : h.sat w' := by
  unfold Hp.sat at *
  cases hg : h.g with
  | none => rw [hg] at hs; exact hs
  | some g => rw [hg] at hs; exact hf.blk hs (hn g hg)
section
variable {S : Nat → Prop} {w0 w w' : World} {M : List Hp}
theorem Mm.nil (S : Nat → Prop) (w : World) : Mm S w [] w := ⟨fun h hh => (by cases hh), Fr.refl S w, trivial, fun h hh => (by cases hh)⟩
theorem Mm.pu (h : Mm S w0 M w) (hf : Pu w w') : Mm S w0 M w' :=
  ⟨fun x hx => Hp.sat_fr hf (h.me x hx) (fun _ _ t => t), h.fr.pu hf, h.dj, h.ow⟩
theorem Mm.drew (h : Mm S w0 M w) : Mm S w0 M w.drew := h.pu ((Fr.refl _ w).drew)
theorem Mm.drewN (h : Mm S w0 M w) (n : Nat) : Mm S w0 M (w.drewN n) := h.pu ((Fr.refl _ w).drewN n)
/-- what a call has made: whole blocks that were not there -/
structure New (w w' : World) (R : List Hp) : Prop where
  me : ∀ h ∈ R, h.sat w'
  dj : Apart R
  fresh : ∀ h ∈ R, ∀ g, h.g = some g → w.heap.size ≤ g
theorem Apart.append {A B : List Hp} (ha : Apart A) (hb : Apart B) (hab : ∀ x ∈ A, ∀ y ∈ B, ∀ g, x.g = some g → y.g ≠ some g) : Apart (A ++ B) := by
  induction A with
  | nil => exact hb
  | cons x r ih =>
    refine ⟨fun y hy g hg => ?_, ih ha.2 fun z hz => hab z (List.mem_cons_of_mem _ hz)⟩
    rcases List.mem_append.1 hy with hy | hy
    · exact ha.1 y hy g hg
    · exact hab x (List.mem_cons_self ..) y hy g hg
theorem Apart.sub {A B : List Hp} (h : A.Sublist B) (hb : Apart B) : Apart A := by
  induction h with
  | slnil => trivial
  | cons x _ ih => exact ih hb.2
  | cons_cons x hs ih => exact ⟨fun y hy => hb.1 y (hs.subset hy), ih hb.2⟩
theorem Mm.gain (h : Mm S w0 M w) (hf : Pu w w') {R : List Hp} (hn : New w w' R) : Mm S w0 (R ++ M) w' := by
  have h1 := h.pu hf
  refine ⟨fun x hx => ?_, h1.fr, hn.dj.append h.dj ?_, fun x hx g hg => ?_⟩
  · rcases List.mem_append.1 hx with hx | hx
    · exact hn.me x hx
    · exact h1.me x hx
  · intro x hx y hy g hg hg'
    have a1 := hn.fresh x hx g hg
    have a2 := Hp.lt (h.me y hy) hg'
    omega
  · rcases List.mem_append.1 hx with hx | hx
    · exact .inl (Nat.le_trans h.fr.size (hn.fresh x hx g hg))
    · exact h.ow x hx g hg
theorem New.nil (w w' : World) : New w w' [] := ⟨fun h hh => (by cases hh), trivial, fun h hh => (by cases hh)⟩
theorem New.alloc (w : World) (t : TypeId) (cs : List Value) : New w (w.alloc (.cells cs.toArray t)) [⟨some w.heap.size, t, cs⟩] := by
  refine ⟨fun h hh => ?_, ⟨fun x hx => (by cases hx), trivial⟩, fun h hh g hg => ?_⟩
  · rcases List.mem_singleton.1 hh with rfl; exact Blk.new w t cs.toArray
  · rcases List.mem_singleton.1 hh with rfl; cases hg; exact Nat.le_refl _
theorem Mm.alloc (h : Mm S w0 M w) (t : TypeId) (cs : List Value) : Mm S w0 (⟨some w.heap.size, t, cs⟩ :: M) (w.alloc (.cells cs.toArray t)) :=
  h.gain ((Fr.refl _ w).alloc _) (New.alloc w t cs)
/-- M with h in place of its like; x: what stood there -/
inductive Rep : List Hp → Hp → Hp → List Hp → Prop
  | head (M : List Hp) (x h : Hp) : Rep (x :: M) x h (h :: M)
  | tail {M M' : List Hp} {x h : Hp} (y : Hp) (r : Rep M x h M') : Rep (y :: M) x h (y :: M')
theorem Rep.mem {M M' : List Hp} {x h : Hp} (r : Rep M x h M') : x ∈ M := by
  induction r with
  | head => exact List.mem_cons_self ..
  | tail y r ih => exact List.mem_cons_of_mem _ ih
theorem Rep.mem' {M M' : List Hp} {x h : Hp} (r : Rep M x h M') : ∀ y ∈ M', y = h ∨ y ∈ M := by
  induction r with
  | head M x h =>
    intro y hy
    rcases List.mem_cons.1 hy with rfl | hy
    · exact .inl rfl
    · exact .inr (List.mem_cons_of_mem _ hy)
  | tail z r ih =>
    intro y hy
    rcases List.mem_cons.1 hy with rfl | hy
    · exact .inr (List.mem_cons_self ..)
    · exact (ih y hy).imp id (List.mem_cons_of_mem _)
/-- the others of M', each apart from x -/
theorem Rep.others {M M' : List Hp} {x h : Hp} (r : Rep M x h M') (hd : Apart M) : ∃ O : List Hp, (∀ y ∈ M', y = h ∨ y ∈ O) ∧ (∀ y ∈ O, y ∈ M) ∧ ∀ y ∈ O, ∀ g, x.g = some g → y.g ≠ some g := by
  induction r with
  | head M x h => exact ⟨M, fun y hy => List.mem_cons.1 hy, fun y hy => List.mem_cons_of_mem _ hy, fun y hy g hg => hd.1 y hy g hg⟩
  | tail z r ih =>
    obtain ⟨O, h1, h2, h3⟩ := ih hd.2
    refine ⟨z :: O, fun y hy => ?_, fun y hy => ?_, fun y hy g hg => ?_⟩
    · rcases List.mem_cons.1 hy with rfl | hy
      · exact .inr (List.mem_cons_self ..)
      · exact (h1 y hy).imp id (List.mem_cons_of_mem _)
    · rcases List.mem_cons.1 hy with rfl | hy
      · exact List.mem_cons_self ..
      · exact List.mem_cons_of_mem _ (h2 y hy)
    · rcases List.mem_cons.1 hy with rfl | hy
      · intro e; exact hd.1 _ r.mem g e hg
      · exact h3 y hy g hg
/-- the new one lies where the old one lay, or where none lies -/
theorem Rep.apart {M M' : List Hp} {x h : Hp} (r : Rep M x h M') (hd : Apart M) (hx : ∀ g, h.g = some g → x.g = some g ∨ ∀ y ∈ M, y.g ≠ some g) : Apart M' := by
  induction r with
  | head M x h =>
    refine ⟨fun y hy g hg => ?_, hd.2⟩
    rcases hx g hg with h1 | h1
    · exact hd.1 y hy g h1
    · exact h1 y (List.mem_cons_of_mem _ hy)
  | tail z r ih =>
    refine ⟨fun y hy g hg => ?_, ih hd.2 fun g hg => (hx g hg).imp id fun h1 y hy => h1 y (List.mem_cons_of_mem _ hy)⟩
    rcases r.mem' y hy with rfl | hy
    · intro e
      rcases hx g e with h1 | h1
      · exact hd.1 _ r.mem g hg h1
      · exact h1 z (List.mem_cons_self ..) hg
    · exact hd.1 y hy g hg
/-- one of the blocks has changed, or has gone over to a new one; nothing else that was there -/
theorem Mm.turn (h : Mm S w0 M w) {x y : Hp} {M' : List Hp} (r : Rep M x y M') (hf : Fr (fun k => x.g = some k) w w') (hy : y.sat w') (hg : ∀ g, y.g = some g → x.g = some g ∨ w.heap.size ≤ g) : Mm S w0 M' w' := by
  obtain ⟨O, h1, h2, h3⟩ := r.others h.dj
  refine ⟨fun z hz => ?_, h.fr.then hf fun i hi e => ?_, r.apart h.dj fun g e => ?_, fun z hz g e => ?_⟩
  · rcases h1 z hz with rfl | hz
    · exact hy
    · exact Hp.sat_fr hf (h.me z (h2 z hz)) fun g hg e => h3 z hz g e hg
  · rcases h.ow x r.mem i e with h4 | h4
    · omega
    · exact h4
  · rcases hg g e with h4 | h4
    · exact .inl h4
    · refine .inr fun z hz e' => ?_
      have := Hp.lt (h.me z hz) e'
      omega
  · rcases r.mem' z hz with rfl | hz
    · rcases hg g e with h4 | h4
      · exact h.ow x r.mem g h4
      · exact .inl (Nat.le_trans h.fr.size h4)
    · exact h.ow z hz g e
theorem Mm.sub (h : Mm S w0 M w) {M' : List Hp} (hs : M'.Sublist M) : Mm S w0 M' w :=
  ⟨fun x hx => h.me x (hs.subset hx), h.fr, h.dj.sub hs, fun x hx => h.ow x (hs.subset hx)⟩
theorem apart_iff {M : List Hp} : Apart M ↔ M.Pairwise (fun x y => ∀ g, x.g = some g → y.g ≠ some g) := by
  induction M with
  | nil => simp [Apart]
  | cons h r ih => simp only [Apart, List.pairwise_cons, ih]
theorem Mm.perm (h : Mm S w0 M w) {M' : List Hp} (hp : M'.Perm M) : Mm S w0 M' w := by
  refine ⟨fun x hx => h.me x (hp.subset hx), h.fr, ?_, fun x hx => h.ow x (hp.subset hx)⟩
  rw [apart_iff]
  refine (hp.pairwise_iff ?_).2 (apart_iff.1 h.dj)
  intro x y hxy g hg hx
  exact hxy g hx hg
theorem Mm.zero (h : Mm S w0 M w) (t : TypeId) : Mm S w0 (⟨Option.none, t, []⟩ :: M) w :=
  ⟨fun x hx => by
    rcases List.mem_cons.1 hx with rfl | hx
    · rfl
    · exact h.me x hx, h.fr, ⟨fun _ _ _ hg => (by cases hg), h.dj⟩, fun x hx g hg => by
    rcases List.mem_cons.1 hx with rfl | hx
    · cases hg
    · exact h.ow x hx g hg⟩
theorem Mm.at_ (h : Mm S w0 M w) {g : Nat} {t : TypeId} {cs : List Value} (hm : (⟨some g, t, cs⟩ : Hp) ∈ M) (i : Nat) : w.cell? ⟨g, i, none⟩ = cs[i]? := by
  have := Blk.cell (h.me _ hm) i
  simpa using this
/-- at the end: what was made, out of all that is known -/
theorem Mm.new {M : List Hp} (h : Mm (fun _ => False) w0 M w) {R : List Hp} (hs : R.Sublist M) : New w0 w R :=
  ⟨fun x hx => h.me x (hs.subset hx), h.dj.sub hs, fun x hx g hg => (h.ow x (hs.subset hx) g hg).resolve_right id⟩
/-- a slice of the walk's own reads as its cells -/
theorem Mm.rd (h : Mm S w0 M w) {g : Nat} {t : TypeId} {cs xs : List Value} (hm : (⟨some g, t, cs⟩ : Hp) ∈ M) (hx : xs <+: cs) : Rd w w.heap.size (some ⟨g, 0, none⟩) xs := fun hn => by
  refine ⟨g, 0, rfl, Hp.lt (h.me _ hm) rfl, fun j u hu => ?_⟩
  rw [Nat.zero_add, h.at_ hm]
  obtain ⟨t, rfl⟩ := hx
  rw [List.getElem?_append_left (by rcases Nat.lt_or_ge j xs.length with hlt | hge; exact hlt; rw [List.getElem?_eq_none hge] at hu; cases hu), hu]
end

/-! ### The types that a walk meets -/
inductive TD where
  | int (k : IntKind) | bool | str | ptr (e : TypeId) | sl (e : TypeId) | st (fs : List (Nat × TypeId)) | arr (n : Nat) (e : TypeId) | fn | oth
def tdOf : TypeDesc → TD
  | .int k => .int k
  | .bool => .bool
  | .string => .str
  | .pointer e => .ptr e
  | .slice e => .sl e
  | .struct fs => .st (fs.toList.map fun f => (f.offset, f.type))
  | .array n e => .arr n e
  | .func _ _ _ => .fn
  | _ => .oth
structure TI where
  sz : Nat
  by_ : Nat
  z : Value
  d : TD
def TOk (P : Program) (t : TypeId) (x : TI) : Prop :=
  (P.info? t).map (fun i => (i.zero, i.size, i.bytes)) = some (some x.z, x.sz, x.by_) ∧ (P.underlying t).map tdOf = some x.d
def tlk : List (Nat × TI) → Nat → Option TI
  | [], _ => none
  | (k, v) :: r, n => bif Nat.beq k n then some v else tlk r n
def TabOk (P : Program) (T : List (Nat × TI)) : Prop := ∀ t x, tlk T t = some x → TOk P t x
theorem tabOk {P : Program} : ∀ {T : List (Nat × TI)}, (∀ p ∈ T, TOk P p.1 p.2) → TabOk P T
  | [], _ => fun t x h => by cases h
  | (k, v) :: r, hT => fun t x h => by
    simp only [tlk] at h
    cases hb : Nat.beq k t with
    | true =>
      rw [hb] at h
      simp only [cond_true, Option.some.injEq] at h
      have : k = t := by simpa using hb
      subst this; subst h
      exact hT (k, v) (List.mem_cons_self ..)
    | false => rw [hb] at h; exact tabOk (fun p hp => hT p (List.mem_cons_of_mem _ hp)) t x h
end Go.Proofs.YtlapnhpaedkgcaaDoor
