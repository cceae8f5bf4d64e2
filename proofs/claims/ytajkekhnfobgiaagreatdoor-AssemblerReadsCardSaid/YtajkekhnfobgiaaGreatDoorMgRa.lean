/- Texts put together: Lib, Open, Eng, Eng2, Eng3, Eng4, Eng5, Eng6, Eng7, Eng8, Eng9, Eng10, Eng11, Eng13, Eng12, Eng22, Tac, Tab, Eng15, Eng16, Eng17. -/
import Derived.WalkKit
import Derived.WalkSpells
import Derived.WalkLawsBesides
import Derived.Deep.QuietTactic
import Derived.BigQuiet
import Derived.Lib.Hide
import Derived.Laws.OwnMore
import Derived.Deep.Draws
import Derived.Maps.AppendAt
import Derived.Deep.DeepFit
import Derived.ProofKit
import Derived.OpenShut
import Derived.ShutString
import Derived.ChangeOld
import Derived.SizedLaws
import Derived.OrdersHeld
import Derived.Deep.LoopGhost
import Derived.Laws.CopyRow
import Derived.Laws.BytesString
import Derived.Deep.Quiet
import Derived.Deep.RegionHeld3
import Derived.Test.YtajkekhnfobgiaaGreatDoorRows
/- Small words for memory, over any program: a slice that reads as a list, a block known whole, one block that may change. -/
namespace Go.Proofs.YtajkekhnfobgiaaGreatDoor
set_option maxRecDepth 20000
open Go.RowKit

theorem block_add (a : Addr) (n : Nat) : (a.add n).block = a.block := by unfold Addr.add; split <;> rfl
theorem add_add (a : Addr) (i j : Nat) : (a.add i).add j = a.add (i + j) := by
  unfold Addr.add
  by_cases hi : i = 0 <;> by_cases hj : j = 0 <;> simp [hi, hj, Nat.add_assoc]

/-- The slice address A holds the cells xs, in a block below B (asked only where there is a cell). -/
def Rd (w : World) (B : Nat) (A : Option Addr) (xs : List Value) : Prop :=
  0 < xs.length → ∃ b off, A = some ⟨b, off, none⟩ ∧ b < B ∧ ∀ j u, xs[j]? = some u → w.cell? ⟨b, off + j, none⟩ = some u

section
variable {w w' : World} {B B' : Nat} {A : Option Addr} {xs : List Value}
theorem Rd.nil : Rd w B A [] := fun h => absurd h (by simp)
theorem Rd.at_ {k : Nat} (h : Rd w B A xs) (hk : k < xs.length) : ∃ b off, A = some ⟨b, off, none⟩ ∧ b < B ∧ w.cell? ⟨b, off + k, none⟩ = some xs[k] := by
  obtain ⟨b, off, e, hb, hc⟩ := h (by omega)
  exact ⟨b, off, e, hb, hc k _ (List.getElem?_eq_getElem hk)⟩
theorem Rd.keep (h : Rd w B A xs) (hk : ∀ p : Addr, p.block < B → w'.cell? p = w.cell? p) : Rd w' B A xs := fun hn => by
  obtain ⟨b, off, e, hb, hc⟩ := h hn
  exact ⟨b, off, e, hb, fun j u hu => (hk _ hb).trans (hc j u hu)⟩
theorem Rd.more (h : Rd w B A xs) (hB : B ≤ B') : Rd w B' A xs := fun hn => by
  obtain ⟨b, off, e, hb, hc⟩ := h hn
  exact ⟨b, off, e, by omega, hc⟩
theorem Rd.below (h : Rd w B A xs) (hb : Below B w w') : Rd w' B A xs := h.keep fun _ hp => hb.cell hp
theorem Rd.grown (h : Rd w B A xs) {g : Nat} (hg : w.grownBy w' (some g)) (hB : B ≤ w.heap.size) (hr : B ≤ g) : Rd w' B A xs :=
  h.keep fun p hp => World.cell?_of_block (hg.block p.block (by omega) (fun e => by cases e; omega))
theorem add_lit (b off k : Nat) : (⟨b, off, none⟩ : Addr).add k = ⟨b, off + k, none⟩ := by unfold Addr.add; split <;> simp_all
theorem Rd.drop {k : Nat} (h : Rd w B A xs) (hk : k ≤ xs.length) {c : Nat} (hc : xs.length ≤ c) :
    Rd w B (if c = k then A else A.map (·.add k)) (xs.drop k) := fun hn => by
  rw [List.length_drop] at hn
  obtain ⟨b, off, rfl, hb, hcell⟩ := h (by omega)
  rw [if_neg (by omega)]
  refine ⟨b, off + k, by simp [add_lit], hb, fun j u hu => ?_⟩
  rw [Nat.add_assoc]
  exact hcell _ u (by rw [← hu, List.getElem?_drop])
/-- from cells at an address that is any -/
theorem Rd.of_add {ad : Addr} (hb : ad.block < B) (hc : ∀ j u, xs[j]? = some u → w.cell? (ad.add j) = some u) : Rd w B (some ad) xs := fun hn => by
  have h0 := hc 0 _ (List.getElem?_eq_getElem hn)
  obtain ⟨b, off, spot⟩ := ad
  cases spot with
  | none => exact ⟨b, off, rfl, hb, fun j u hu => by rw [← add_lit]; exact hc j u hu⟩
  | some q =>
    exfalso
    simp [Addr.add, World.cell?] at h0
    split at h0 <;> simp_all
end

/-- Block g is just the cells cs of element type t, none frozen. -/
def Blk (w : World) (g : Nat) (t : TypeId) (cs : Array Value) : Prop := w.heap[g]? = some (.cells cs t (0, 0))
section
variable {w w' : World} {g : Nat} {t : TypeId} {cs : Array Value}
theorem Blk.lt (h : Blk w g t cs) : g < w.heap.size := by
  rcases Nat.lt_or_ge g w.heap.size with hlt | hge
  · exact hlt
  · unfold Blk at h; rw [Array.getElem?_eq_none hge] at h; cases h
theorem Blk.cell (h : Blk w g t cs) (i : Nat) : w.cell? ⟨g, i, none⟩ = cs[i]? := cell_of_row w g i cs t (0, 0) h
theorem Blk.frozen (h : Blk w g t cs) (i : Nat) : w.frozen? ⟨g, i, none⟩ = false := by
  unfold Blk at h
  simp [World.frozen?, h]
theorem Blk.new (w : World) (t : TypeId) (cs : Array Value) : Blk (w.alloc (.cells cs t)) w.heap.size t cs := heap_alloc_new w _
theorem Blk.alloc (h : Blk w g t cs) (o : Obj) : Blk (w.alloc o) g t cs := (Below.heap_alloc w o g h.lt).trans h
theorem Blk.set_ (h : Blk w g t cs) (i : Nat) (u : Value) : Blk (w.setCell ⟨g, i, none⟩ u) g t (cs.setIfInBounds i u) := by
  unfold Blk at h ⊢
  simp [World.setCell, Array.getElem?_modify, h]
theorem Blk.far (h : Blk w g t cs) {p : Addr} (hp : g ≠ p.block) (u : Value) : Blk (w.setCell p u) g t cs := (Below.heap_setCell w p u g hp).trans h
theorem Blk.below {B : Nat} (h : Blk w g t cs) (hb : Below B w w') (hg : g < B) : Blk w' g t cs := (hb.block g hg).trans h
theorem Blk.grown {row : Option Nat} (h : Blk w g t cs) (hb : w.grownBy w' row) (hg : some g ≠ row) : Blk w' g t cs := (hb.block g h.lt hg).trans h
end

def ints (xs : List Int) : List Value := xs.map (Value.int .i64)
theorem ints_len (xs : List Int) : (ints xs).length = xs.length := by simp [ints]
theorem ints_get {xs : List Int} {k : Nat} (h : k < xs.length) : (ints xs)[k]'(by simpa [ints] using h) = .int .i64 xs[k] := by simp [ints]

/-- What a Go int can be. -/
def I64 (x : Int) : Prop := -9223372036854775808 ≤ x ∧ x ≤ 9223372036854775807

section
variable {P : Program} {f : FuncId} {args : Array Value} {w : World} {n a : Nat} {v : Value}
theorem quietL (h : Calls P f args (w.drewN n) fun e w' => e = .returned v ∧ w.drewN n = w') : Calls P f args (w.drewN n) fun e w'' => e = .returned v ∧ ∃ m, w'' = w.drewN m :=
  h.mono fun _ _ ⟨he, hm⟩ => ⟨he, n, hm.symm⟩
theorem quietLa (h : Calls P f args (w.drewN (a + n)) fun e w' => e = .returned v ∧ w.drewN (a + n) = w') : Calls P f args (w.drewN (a + n)) fun e w'' => e = .returned v ∧ ∃ m, w'' = w.drewN (a + m) :=
  h.mono fun _ _ ⟨he, hm⟩ => ⟨he, n, hm.symm⟩
theorem quietD (h : Calls P f args (w.drewN n) fun e w' => e = .returned v ∧ ∃ m, w' = (w.drewN n).drewN m) : Calls P f args (w.drewN n) fun e w'' => e = .returned v ∧ ∃ m, w'' = w.drewN m :=
  h.mono fun _ _ ⟨he, m, hm⟩ => ⟨he, n + m, by rw [hm, World.drewN_drewN]⟩
theorem quietDa (h : Calls P f args (w.drewN (a + n)) fun e w' => e = .returned v ∧ ∃ m, w' = (w.drewN (a + n)).drewN m) : Calls P f args (w.drewN (a + n)) fun e w'' => e = .returned v ∧ ∃ m, w'' = w.drewN (a + m) :=
  h.mono fun _ _ ⟨he, m, hm⟩ => ⟨he, n + m, by rw [hm, World.drewN_drewN, Nat.add_assoc]⟩
end
theorem Blk.drewN {w : World} {g : Nat} {t : TypeId} {cs : Array Value} (h : Blk w g t cs) (n : Nat) : Blk (w.drewN n) g t cs := h
theorem Rd.drewN {w : World} {B : Nat} {A : Option Addr} {xs : List Value} (h : Rd w B A xs) (n : Nat) : Rd (w.drewN n) B A xs := h
theorem grown_drewN {a w : World} {row : Option Nat} (h : a.grownBy w row) (n : Nat) : a.grownBy (w.drewN n) row := ⟨h.os, h.tape, h.output, h.size, h.block⟩
theorem grown_setCell {a w : World} {g : Nat} (h : a.grownBy w (some g)) {p : Addr} (hp : p.block = g ∨ a.heap.size ≤ p.block) (u : Value) : a.grownBy (w.setCell p u) (some g) :=
  ⟨h.os, h.tape, h.output, by simpa [World.setCell] using h.size, fun i hi hne => (Below.heap_setCell w p u i (by
    rintro rfl
    rcases hp with hp | hp
    · exact hne (by rw [hp])
    · omega)).trans (h.block i hi hne)⟩
theorem grown_alloc {a w : World} {row : Option Nat} (h : a.grownBy w row) (o : Obj) : a.grownBy (w.alloc o) row :=
  ⟨h.os, h.tape, h.output, Nat.le_trans h.size (by simp), fun i hi hne => (Below.heap_alloc w o i (Nat.lt_of_lt_of_le hi h.size)).trans (h.block i hi hne)⟩
theorem grown_of_below {a w : World} (h : Below a.heap.size a w) (row : Option Nat) : a.grownBy w row := ⟨h.os, h.tape, h.output, h.size, fun i hi _ => h.block i hi⟩

theorem ret_i {k : IntKind} {a b : Int} (h : a = b) : Ending.returned (.int k a) = .returned (.int k b) := by rw [h]
theorem bq {p q : Prop} [Decidable p] [Decidable q] (h : p ↔ q) : decide p = decide q := decide_eq_decide.2 h
theorem flat_len {α : Type} (f : α → List Value) (s : Nat) (hs : ∀ a, (f a).length = s) (l : List α) : (l.flatMap f).length = l.length * s := by
  induction l with
  | nil => simp
  | cons a t ih => simp [ih, hs, Nat.succ_mul, Nat.add_comm]
theorem flat_get {α : Type} (f : α → List Value) (s : Nat) (hs : ∀ a, (f a).length = s) (l : List α) (k j : Nat) (hk : k < l.length) (hj : j < s) : (l.flatMap f)[k * s + j]? = (f l[k])[j]? := by
  induction l generalizing k with
  | nil => simp at hk
  | cons a t ih =>
    cases k with
    | zero => rw [List.flatMap_cons, List.getElem?_append_left (by rw [hs]; omega)]; simp
    | succ k =>
      rw [List.flatMap_cons, List.getElem?_append_right (by rw [hs, Nat.succ_mul]; omega), hs]
      have e : (k + 1) * s + j - s = k * s + j := by rw [Nat.succ_mul]; omega
      rw [e, ih k (by simpa using hk)]
      simp
/-- a row of elements of s cells each -/
theorem Rd.flat {α : Type} {w : World} {B : Nat} {A : Option Addr} {f : α → List Value} {s : Nat} (hs : ∀ a, (f a).length = s) {l : List α} (h : Rd w B A (l.flatMap f)) (h0 : 0 < s) {k : Nat} (hk : k < l.length) :
    ∃ b off, A = some ⟨b, off, none⟩ ∧ b < B ∧ ∀ j, j < s → w.cell? ⟨b, off + (k * s + j), none⟩ = (f l[k])[j]? := by
  obtain ⟨b, off, e, hb, hc⟩ := h (by rw [flat_len f s hs]; exact Nat.mul_pos (by omega) h0)
  refine ⟨b, off, e, hb, fun j hj => ?_⟩
  rw [← flat_get f s hs l k j hk hj]
  have hl : k * s + j < (l.flatMap f).length := by
    rw [flat_len f s hs]
    have : (k + 1) * s ≤ l.length * s := Nat.mul_le_mul_right _ hk
    rw [Nat.succ_mul] at this; omega
  rw [hc _ _ (List.getElem?_eq_getElem hl), List.getElem?_eq_getElem hl]
theorem dt {p : Prop} [Decidable p] (h : p) : true = decide p := (decide_eq_true h).symm
theorem df {p : Prop} [Decidable p] (h : ¬ p) : false = decide p := (decide_eq_false h).symm
theorem ret_b {a b : Bool} (h : a = b) : Ending.returned (.bool a) = .returned (.bool b) := by rw [h]


/-- THE FRAME: of the blocks that were there, at most those in S have changed. -/
structure Fr (S : Nat → Prop) (w w' : World) : Prop where
  os : w'.os = w.os
  tape : w'.tape = w.tape
  output : w'.output = w.output
  size : w.heap.size ≤ w'.heap.size
  block : ∀ k, k < w.heap.size → ¬ S k → w'.heap[k]? = w.heap[k]?
/-- Nothing that was there has changed. -/
abbrev Pu (w w' : World) : Prop := Fr (fun _ => False) w w'

section
variable {S T : Nat → Prop} {w w' w'' : World}
theorem Fr.refl (S : Nat → Prop) (w : World) : Fr S w w := ⟨rfl, rfl, rfl, Nat.le_refl _, fun _ _ _ => rfl⟩
theorem Fr.then (h : Fr S w w') (k : Fr T w' w'') (hT : ∀ i, i < w.heap.size → T i → S i) : Fr S w w'' :=
  ⟨k.os.trans h.os, k.tape.trans h.tape, k.output.trans h.output, Nat.le_trans h.size k.size, fun i hi hn => (k.block i (Nat.lt_of_lt_of_le hi h.size) (fun t => hn (hT i hi t))).trans (h.block i hi hn)⟩
theorem Fr.trans (h : Fr S w w') (k : Fr S w' w'') : Fr S w w'' := h.then k fun _ _ t => t
theorem Fr.pu (h : Fr S w w') (k : Pu w' w'') : Fr S w w'' := h.then k fun _ _ t => t.elim
theorem Fr.mono (h : Fr T w w') (hT : ∀ i, i < w.heap.size → T i → S i) : Fr S w w' := (Fr.refl S w).then h hT
theorem Fr.of_pu (h : Pu w w') : Fr S w w' := h.mono fun _ _ t => t.elim
theorem Fr.alloc (h : Fr S w w') (o : Obj) : Fr S w (w'.alloc o) :=
  ⟨h.os, h.tape, h.output, Nat.le_trans h.size (by simp), fun i hi hn => (Below.heap_alloc w' o i (Nat.lt_of_lt_of_le hi h.size)).trans (h.block i hi hn)⟩
theorem Fr.setCell (h : Fr S w w') {p : Addr} (hp : S p.block ∨ w.heap.size ≤ p.block) (u : Value) : Fr S w (w'.setCell p u) :=
  ⟨h.os, h.tape, h.output, by simpa [World.setCell] using h.size, fun i hi hn => (Below.heap_setCell w' p u i (by
    rintro rfl
    rcases hp with hp | hp
    · exact hn hp
    · omega)).trans (h.block i hi hn)⟩
theorem Fr.drewN (h : Fr S w w') (n : Nat) : Fr S w (w'.drewN n) := ⟨h.os, h.tape, h.output, h.size, h.block⟩
theorem Fr.drew (h : Fr S w w') : Fr S w w'.drew := ⟨h.os, h.tape, h.output, h.size, h.block⟩
theorem Fr.grown (h : Fr S w w') {row : Option Nat} (hg : w'.grownBy w'' row) (hr : ∀ k, row = some k → S k ∨ w.heap.size ≤ k) : Fr S w w'' :=
  ⟨hg.os.trans h.os, hg.tape.trans h.tape, hg.output.trans h.output, Nat.le_trans h.size hg.size, fun i hi hn => (hg.block i (Nat.lt_of_lt_of_le hi h.size) (fun e => by
    rcases hr i e.symm with hs | hs
    · exact hn hs
    · omega)).trans (h.block i hi hn)⟩
theorem Fr.of_grown {g : Nat} (hg : w.grownBy w' (some g)) : Fr (· = g) w w' := (Fr.refl _ w).grown hg fun _ e => by cases e; exact .inl rfl
theorem Fr.to_grown {g : Nat} (h : Fr (· = g) w w') : w.grownBy w' (some g) := ⟨h.os, h.tape, h.output, h.size, fun k hk hn => h.block k hk fun e => hn (by rw [e])⟩
theorem Fr.below (h : Pu w w') : Below w.heap.size w w' := ⟨h.os, h.tape, h.output, h.size, fun k hk => h.block k hk (fun t => t.elim)⟩
theorem Fr.of_below (h : Below w.heap.size w w') : Fr S w w' := ⟨h.os, h.tape, h.output, h.size, fun k hk _ => h.block k hk⟩
theorem Fr.cell (h : Fr S w w') {a : Addr} {v : Value} (hc : w.cell? a = some v) (hn : ¬ S a.block) : w'.cell? a = some v := by
  have hl : a.block < w.heap.size := by
    rcases Nat.lt_or_ge a.block w.heap.size with hlt | hge
    · exact hlt
    · unfold World.cell? at hc; rw [Array.getElem?_eq_none hge] at hc; cases hc
  exact (World.cell?_of_block (h.block _ hl hn)).trans hc
theorem Fr.cl (h : Fr S w w') {b o : Nat} {v : Value} (hc : w.cell? ⟨b, o, none⟩ = some v) (hn : ¬ S b) : w'.cell? ⟨b, o, none⟩ = some v := h.cell hc hn
theorem Fr.blk (h : Fr S w w') {g : Nat} {t : TypeId} {cs : Array Value} (hb : Blk w g t cs) (hn : ¬ S g) : Blk w' g t cs := (h.block g hb.lt hn).trans hb
theorem Fr.rd (h : Fr S w w') {B : Nat} {A : Option Addr} {xs : List Value} (hr : Rd w B A xs) (hB : B ≤ w.heap.size) (hn : ∀ i, i < B → ¬ S i) : Rd w' B A xs :=
  hr.keep fun p hp => World.cell?_of_block (h.block _ (by omega) (hn _ hp))
theorem Fr.rd_ne (h : Fr S w w') {B : Nat} {A : Option Addr} {xs : List Value} (hr : Rd w B A xs) (hn : ∀ b off, A = some ⟨b, off, none⟩ → ¬ S b) : Rd w' B A xs := fun hn0 => by
  obtain ⟨b, off, e, hb, hc⟩ := hr hn0
  exact ⟨b, off, e, hb, fun j u hu => h.cell (hc j u hu) (hn b off e)⟩
theorem Fr.rd' (h : Pu w w') {A : Option Addr} {xs : List Value} (hr : Rd w w.heap.size A xs) : Rd w' w'.heap.size A xs := (h.rd hr (Nat.le_refl _) (fun _ _ t => t)).more h.size
theorem Fr.own (h : Fr S w w') {base : Nat} {e : TypeId} {size : Nat} {v : Value} {n : Nat} {xs : List Value} (ho : w.ownsRow base e size v n xs) (hn : ∀ k, v.ownBlock = some k → ¬ S k) : w'.ownsRow base e size v n xs := by
  obtain ⟨h1, h2⟩ := ho
  refine ⟨h1, ?_⟩
  rcases h2 with h2 | ⟨g, cap, cur, rfl, hb, hh, h3⟩
  · exact .inl h2
  · have hl : g < w.heap.size := by
      rcases Nat.lt_or_ge g w.heap.size with hlt | hge
      · exact hlt
      · rw [Array.getElem?_eq_none hge] at hh; cases hh
    exact .inr ⟨g, cap, cur, rfl, hb, (h.block g hl (hn g rfl)).trans hh, h3⟩
end

theorem cell_alloc {w : World} {a : Addr} {v : Value} {o : Obj} (h : w.cell? a = some v) : (w.alloc o).cell? a = some v := (((Fr.refl (fun _ => False) w).alloc o).cell h (fun t => t))
theorem Rd.alloc {w : World} {B : Nat} {A : Option Addr} {xs : List Value} (h : Rd w B A xs) (hB : B ≤ w.heap.size) (o : Obj) : Rd (w.alloc o) B A xs :=
  h.keep fun p hp => World.cell?_alloc_lt w o p (by omega)
theorem Rd.of_own {w : World} {base : Nat} {e : TypeId} {A : Option Addr} {n c : Nat} {xs : List Value} {size : Nat} (h : w.ownsRow base e size (.slice A n c) n xs) : Rd w w.heap.size A xs := fun hn => by
  rcases h.2 with ⟨h', h0⟩ | ⟨g, cap, cur, h', _, hh, _⟩
  · have := h.1; rw [h0, Nat.zero_mul] at this; omega
  · have hl : g < w.heap.size := by
      rcases Nat.lt_or_ge g w.heap.size with hlt | hge
      · exact hlt
      · rw [Array.getElem?_eq_none hge] at hh; cases hh
    have hA : A = some ⟨g, 0, none⟩ := by injection h'
    subst hA
    exact ⟨g, 0, rfl, hl, fun j u hu => by have := h.cells (g := g) rfl j u hu; rwa [add_lit] at this⟩
theorem own_form {w : World} {base : Nat} {e : TypeId} {v : Value} {n : Nat} {xs : List Value} {size : Nat} (h : w.ownsRow base e size v n xs) : ∃ A c, v = .slice A n c ∧ n ≤ c := by
  rcases h.2 with ⟨h', h0⟩ | ⟨g, cap, cur, h', _, _, hc, _⟩
  · exact ⟨none, 0, by rw [h', h0], by omega⟩
  · exact ⟨_, _, h', hc⟩

/-- append of one element to a row of the call's own: the element lies in the block just made. -/
theorem wpList_app1 {P : Program} {w : World} {ops : Array Oper} {rest : List Oper} {o : Oper} {a : Act} {Q : Exit → Act → World → Prop} (hgd : o.guard = none) (s x : Operand) (t : TypeId)
    (ho : o.op = .call { callee := .builtin .append, args := #[s, x], argTypes := #[t, t] })
    (base : Nat) (e : TypeId) (i : TypeInfo) (z : Value) (size bytes : Nat) (ht : P.underlying t = some (.slice e)) (hi : P.info? e = some i) (hz : i.zero = some z)
    (hsize : i.size = size) (hby : i.bytes = bytes) (hzs : z.cells.size = size) (hsz : 0 < size)
    (v : Value) (n : Nat) (xs : List Value) (hs : a.eval s = v) (hown : w.ownsRow base e size v n xs)
    (cs : Array Value) (hx : a.eval x = .slice (some ⟨w.heap.size, 0, none⟩) 1 1) (hl : cs.size = size) (h1 : ∀ u ∈ cs.toList, u.oneCell' = true)
    (h63 : n + 1 ≤ maxLen) (hbytes : (n + 1) * bytes ≤ 140737488355328) (hbase : base ≤ w.heap.size)
    (h : ∀ v' w', w'.ownsRow base e size v' (n + 1) (xs ++ cs.toList) → Fr (fun k => v.ownBlock = some k) w w' → (v'.ownBlock = v.ownBlock ∨ ∃ k, v'.ownBlock = some k ∧ w.heap.size ≤ k) → wpList P ops Q rest (a.put o.dst v') w') : wpList P ops Q (o :: rest) a (w.alloc (.cells cs e)) := by
  refine wpList_plain hgd fun K hK => ?_
  obtain ⟨v', w', hrun, h2, h3, _, h5⟩ := run_append_own_at (P := P) (w := w.alloc (.cells cs e)) base t o.type e i z size bytes ht hi hz hsize hby hzs hsz v n xs (hown.alloc _) ⟨w.heap.size, 0, none⟩ 1 1 cs.toList (by simp [hl])
    (fun j u hu => by
      rw [add_lit, Nat.zero_add, (Blk.new w e cs).cell j]
      simpa using hu) h1 h63 hbytes (by simp; omega)
  unfold Oper.wp execOp
  simp only [ho, resolve, invoke, builtin, Sem.run_bind, Sem.run_pure, Result.andThen_ok, List.map_toArray, List.map_cons, List.map_nil, hs, hx, hrun]
  refine hK _ _ (h v' w' h2 (((Fr.refl _ w).alloc _).grown h3 fun k hk => .inl hk) ?_)
  rcases h5 with h5 | h5
  · exact .inl h5
  · exact .inr ⟨_, h5, by simp⟩

/-- Several blocks, each known whole. -/
def Kp (bs : List (Nat × TypeId × Array Value)) (w : World) : Prop := ∀ x ∈ bs, Blk w x.1 x.2.1 x.2.2
section
variable {bs : List (Nat × TypeId × Array Value)} {w w' : World}
theorem Kp.nil (w : World) : Kp [] w := fun x hx => by cases hx
theorem Kp.fr {S : Nat → Prop} (h : Kp bs w) (hf : Fr S w w') (hS : ∀ x ∈ bs, ¬ S x.1) : Kp bs w' := fun x hx => hf.blk (h x hx) (hS x hx)
theorem Kp.pu (h : Kp bs w) (hf : Pu w w') : Kp bs w' := h.fr hf fun _ _ t => t
theorem Kp.alloc (h : Kp bs w) (o : Obj) : Kp bs (w.alloc o) := fun x hx => (h x hx).alloc o
theorem Kp.drewN (h : Kp bs w) (n : Nat) : Kp bs (w.drewN n) := h
theorem Kp.drew (h : Kp bs w) : Kp bs w.drew := h
theorem Kp.new (h : Kp bs w) (t : TypeId) (cs : Array Value) : Kp ((w.heap.size, t, cs) :: bs) (w.alloc (.cells cs t)) := fun x hx => by
  rcases List.mem_cons.1 hx with rfl | hx
  · exact Blk.new w t cs
  · exact (h x hx).alloc _
theorem Kp.set_ (h : Kp bs w) {p : Addr} (hp : ∀ x ∈ bs, x.1 ≠ p.block) (u : Value) : Kp bs (w.setCell p u) := fun x hx => (h x hx).far (hp x hx) u
theorem Kp.more {cs : List (Nat × TypeId × Array Value)} (h : Kp bs w) (hs : ∀ x ∈ cs, x ∈ bs) : Kp cs w := fun x hx => h x (hs x hx)
theorem Kp.at_ (h : Kp bs w) {g : Nat} {t : TypeId} {cs : Array Value} (hm : (g, t, cs) ∈ bs) (i : Nat) : w.cell? ⟨g, i, none⟩ = cs[i]? := (h _ hm).cell i
theorem Kp.lt_ (h : Kp bs w) {g : Nat} {t : TypeId} {cs : Array Value} (hm : (g, t, cs) ∈ bs) : g < w.heap.size := (h _ hm).lt
end

end Go.Proofs.YtajkekhnfobgiaaGreatDoor

/- What a statement's arguments are when they come in: over any program. -/
namespace Go.Proofs.YtajkekhnfobgiaaGreatDoor
set_option maxRecDepth 20000
open Go.ChangeShapes Go.WideShapes Go.ChangeAt Go.RowKit

/-- A slice of integers that came in. -/
def IsInts (k : IntKind) (W : World) (A : Option Addr) (n c : Nat) (xs : List Int) : Prop :=
  xs.length = n ∧ n ≤ c ∧ c ≤ 9223372036854775807 ∧ Rd W W.heap.size A (xs.map (Value.int k)) ∧ ∀ x ∈ xs, (Lit.int k x).wf = true

theorem wf_I64 {x : Int} (h : (Lit.int .i64 x).wf = true) : I64 x := by
  simp [Lit.wf, IntKind.min, IntKind.max, IntKind.signed, IntKind.bits] at h; exact h

section
variable {H : Type} {enc : TypeId × Value → H} {P : Program} {W : World} {base : Nat} {T E : TypeId} {v : Value} {d : DataW H} {p : List MemPlace}

theorem cell_lt {w : World} {a : Addr} {u : Value} (h : w.cell? a = some u) : a.block < w.heap.size := by
  rcases Nat.lt_or_ge a.block w.heap.size with hlt | hge
  · exact hlt
  · unfold World.cell? at h; rw [Array.getElem?_eq_none hge] at h; cases h

theorem opn_ints {k : IntKind} (hT : P.underlying T = some (.slice E)) (hE : P.underlying E = some (.int k)) (hc : P.cellsOf E = 1)
    (hval : Value.okWide P W .any base T v) (h : DataW.Trod enc P W 0 (fun _ => true) true T v d p) : ∃ A n c xs, v = .slice A n c ∧ IsInts k W A n c xs := by
  obtain ⟨A, n, c, rfl⟩ := okWide_slice hT hval
  obtain ⟨fuel, hf⟩ := h
  rcases open_ints hT hE hc hf with ⟨hcs, _⟩ | ⟨x, l, c', zs, hcs, _, hl, hm, hz, _, hcell, hwz⟩
  · simp [Value.cells] at hcs
    obtain ⟨rfl, rfl, rfl⟩ := hcs
    exact ⟨none, 0, 0, [], rfl, rfl, Nat.le_refl _, by omega, Rd.nil, by simp⟩
  · simp [Value.cells] at hcs
    obtain ⟨rfl, rfl, rfl⟩ := hcs
    have hz' : zs.length = c := by simpa using hz
    refine ⟨some x, n, c, zs.take n, rfl, by rw [List.length_take]; omega, hl, hm, ?_, fun y hy => hwz y (List.mem_of_mem_take hy)⟩
    by_cases h0 : 0 < zs.length
    · refine Rd.of_add (cell_lt (hcell 0 h0)) fun j u hu => ?_
      rw [List.getElem?_map, List.getElem?_take] at hu
      split at hu
      · cases hj : zs[j]? with
        | none => rw [hj] at hu; simp at hu
        | some y =>
          rw [hj] at hu
          obtain ⟨hlt, rfl⟩ := List.getElem?_eq_some_iff.1 hj
          have := hcell j hlt
          simp at hu
          rw [← hu]; simpa [List.getD, hlt] using this
      · simp at hu
    · have : zs = [] := List.eq_nil_of_length_eq_zero (by omega)
      subst this
      rw [List.take_nil]; exact Rd.nil
end
end Go.Proofs.YtajkekhnfobgiaaGreatDoor

/- A walk by lemmas: what the slots hold and what the blocks hold, each as a list; over any program. -/
namespace Go.Proofs.YtajkekhnfobgiaaGreatDoor
set_option maxRecDepth 20000
open Go.RowKit

/-! ### Slots -/
def lk : List (Nat × Value) → Nat → Option Value
  | [], _ => none
  | (k, v) :: r, n => bif Nat.beq k n then some v else lk r n
structure Sl (N : Nat) (L : List (Nat × Value)) (a : Act) : Prop where
  nd : a.defers = []
  sz : a.tmps.size = N
  sl : ∀ k v, lk L k = some v → a.tmps.getD k undef = v
theorem Sl.put {N : Nat} {L : List (Nat × Value)} {a : Act} (h : Sl N L a) {d : Nat} (v : Value) (hd : Nat.blt d N = true) : Sl N ((d, v) :: L) (a.put (some d) v) := by
  have hd' : d < N := by simpa using hd
  refine ⟨h.nd, by simp [Act.put, h.sz], fun k u hk => ?_⟩
  simp only [lk] at hk
  by_cases hdk : d = k
  · subst hdk
    simp only [Nat.beq_refl, cond_true, Option.some.injEq] at hk
    subst hk
    simp [Act.put, Array.getD_eq_getD_getElem?, h.sz, hd']
  · have hb : Nat.beq d k = false := by cases e : Nat.beq d k with | true => exact absurd (Nat.eq_of_beq_eq_true e) hdk | false => rfl
    rw [hb] at hk
    have := h.sl k u hk
    simp only [Act.put, Array.getD_eq_getD_getElem?] at this ⊢
    rwa [Array.getElem?_setIfInBounds_ne hdk]
theorem Sl.skip {N : Nat} {L : List (Nat × Value)} {a : Act} (h : Sl N L a) (v : Value) : Sl N L (a.put none v) := h
/-- fewer slots, or the same by other words -/
theorem Sl.sub {N : Nat} {L L' : List (Nat × Value)} {a : Act} (h : Sl N L a) (hl : ∀ p ∈ L', lk L p.1 = some p.2) : Sl N L' a := by
  refine ⟨h.nd, h.sz, fun k v hk => h.sl k v ?_⟩
  induction L' with
  | nil => simp [lk] at hk
  | cons p r ih =>
    obtain ⟨k', v'⟩ := p
    simp only [lk] at hk
    cases hb : Nat.beq k' k with
    | true =>
      rw [hb] at hk
      simp only [cond_true, Option.some.injEq] at hk
      have : k' = k := by simpa using hb
      subst this; subst hk
      exact hl _ (List.mem_cons_self ..)
    | false => rw [hb] at hk; exact ih (fun p hp => hl p (List.mem_cons_of_mem _ hp)) hk
/-- what a list of slots asks, one by one -/
def Has (L : List (Nat × Value)) : List (Nat × Value) → Prop
  | [] => True
  | p :: r => lk L p.1 = some p.2 ∧ Has L r
theorem Has.all {L L' : List (Nat × Value)} (h : Has L L') : ∀ p ∈ L', lk L p.1 = some p.2 := by
  induction L' with
  | nil => intro p hp; cases hp
  | cons q r ih =>
    intro p hp
    rcases List.mem_cons.1 hp with rfl | hp
    · exact h.1
    · exact ih h.2 p hp
def ev (L : List (Nat × Value)) : Operand → Option Value
  | .tmp t => lk L t
  | .const v => some v
  | .global g => some (.pointer (some ⟨g, 0, none⟩))
  | .func f => some (.func (.func f) #[] #[])
theorem Sl.ev {N : Nat} {L : List (Nat × Value)} {a : Act} (h : Sl N L a) {x : Operand} {v : Value} (he : ev L x = some v) : a.eval x = v := by
  cases x with
  | tmp t => exact h.sl t v he
  | const u => exact Option.some.inj he
  | global g => exact Option.some.inj he
  | func f => exact Option.some.inj he
def evs (L : List (Nat × Value)) : List Operand → Option (List Value)
  | [] => some []
  | x :: r => match ev L x with
    | some v => match evs L r with
      | some vs => some (v :: vs)
      | none => none
    | none => none
theorem Sl.evs {N : Nat} {L : List (Nat × Value)} {a : Act} (h : Sl N L a) : ∀ {xs : List Operand} {vs : List Value}, evs L xs = some vs → xs.map a.eval = vs
  | [], vs, he => by simpa [Go.Proofs.YtajkekhnfobgiaaGreatDoor.evs] using he
  | x :: r, vs, he => by
    simp only [Go.Proofs.YtajkekhnfobgiaaGreatDoor.evs] at he
    cases hx : Go.Proofs.YtajkekhnfobgiaaGreatDoor.ev L x with
    | none => rw [hx] at he; cases he
    | some v =>
      rw [hx] at he
      cases hr : Go.Proofs.YtajkekhnfobgiaaGreatDoor.evs L r with
      | none => rw [hr] at he; cases he
      | some us =>
        rw [hr] at he
        simp only [Option.some.injEq] at he
        subst he
        simp [h.ev hx, Sl.evs h hr]

/-! ### Blocks -/
/-- a block of the walk's own: all its cells (or none: no block, no cells) -/
structure Hp where
  g : Option Nat
  t : TypeId
  cs : List Value
def Hp.sat (h : Hp) (w : World) : Prop :=
  match h.g with
  | none => h.cs = []
  | some g => Blk w g h.t h.cs.toArray
def Hp.blk (h : Hp) (k : Nat) : Prop := h.g = some k
/-- no two of them share a block -/
def Apart : List Hp → Prop
  | [] => True
  | h :: r => (∀ x ∈ r, ∀ g, h.g = some g → x.g ≠ some g) ∧ Apart r
structure Mm (S : Nat → Prop) (w0 : World) (M : List Hp) (w : World) : Prop where
  me : ∀ h ∈ M, h.sat w
  fr : Fr S w0 w
  dj : Apart M
  ow : ∀ h ∈ M, ∀ g, h.g = some g → w0.heap.size ≤ g ∨ S g
theorem Hp.lt {h : Hp} {w : World} (hs : h.sat w) {g : Nat} (hg : h.g = some g) : g < w.heap.size := by
  unfold Hp.sat at hs
  rw [hg] at hs
  exact hs.lt
theorem Hp.sat_fr {S : Nat → Prop} {w w' : World} {h : Hp} (hf : Fr S w w') (hs : h.sat w) (hn : ∀ g, h.g = some g → ¬ S g) : h.sat w' := by
  unfold Hp.sat at *
  cases hg : h.g with
  | none => rw [hg] at hs; exact hs
  | some g => rw [hg] at hs; exact hf.blk hs (hn g hg)
section
variable {S : Nat → Prop} {w0 w w' : World} {M : List Hp}
theorem Mm.nil (S : Nat → Prop) (w : World) : Mm S w [] w := ⟨fun h hh => (by cases hh), Fr.refl S w, trivial, fun h hh => (by cases hh)⟩
theorem Mm.pu (h : Mm S w0 M w) (hf : Pu w w') : Mm S w0 M w' :=
  ⟨fun x hx => Hp.sat_fr hf (h.me x hx) (fun _ _ t => t), h.fr.pu hf, h.dj, h.ow⟩
theorem Mm.drew (h : Mm S w0 M w) : Mm S w0 M w.drew := h.pu ((Fr.refl _ w).drew)
theorem Mm.drewN (h : Mm S w0 M w) (n : Nat) : Mm S w0 M (w.drewN n) := h.pu ((Fr.refl _ w).drewN n)
/-- what a call has made: whole blocks that were not there -/
structure New (w w' : World) (R : List Hp) : Prop where
  me : ∀ h ∈ R, h.sat w'
  dj : Apart R
  fresh : ∀ h ∈ R, ∀ g, h.g = some g → w.heap.size ≤ g
theorem Apart.append {A B : List Hp} (ha : Apart A) (hb : Apart B) (hab : ∀ x ∈ A, ∀ y ∈ B, ∀ g, x.g = some g → y.g ≠ some g) : Apart (A ++ B) := by
  induction A with
  | nil => exact hb
  | cons x r ih =>
    refine ⟨fun y hy g hg => ?_, ih ha.2 fun z hz => hab z (List.mem_cons_of_mem _ hz)⟩
    rcases List.mem_append.1 hy with hy | hy
    · exact ha.1 y hy g hg
    · exact hab x (List.mem_cons_self ..) y hy g hg
theorem Apart.sub {A B : List Hp} (h : A.Sublist B) (hb : Apart B) : Apart A := by
  induction h with
  | slnil => trivial
  | cons x _ ih => exact ih hb.2
  | cons_cons x hs ih => exact ⟨fun y hy => hb.1 y (hs.subset hy), ih hb.2⟩
theorem Mm.gain (h : Mm S w0 M w) (hf : Pu w w') {R : List Hp} (hn : New w w' R) : Mm S w0 (R ++ M) w' := by
  have h1 := h.pu hf
  refine ⟨fun x hx => ?_, h1.fr, hn.dj.append h.dj ?_, fun x hx g hg => ?_⟩
  · rcases List.mem_append.1 hx with hx | hx
    · exact hn.me x hx
    · exact h1.me x hx
  · intro x hx y hy g hg hg'
    have a1 := hn.fresh x hx g hg
    have a2 := Hp.lt (h.me y hy) hg'
    omega
  · rcases List.mem_append.1 hx with hx | hx
    · exact .inl (Nat.le_trans h.fr.size (hn.fresh x hx g hg))
    · exact h.ow x hx g hg
theorem New.nil (w w' : World) : New w w' [] := ⟨fun h hh => (by cases hh), trivial, fun h hh => (by cases hh)⟩
theorem New.alloc (w : World) (t : TypeId) (cs : List Value) : New w (w.alloc (.cells cs.toArray t)) [⟨some w.heap.size, t, cs⟩] := by
  refine ⟨fun h hh => ?_, ⟨fun x hx => (by cases hx), trivial⟩, fun h hh g hg => ?_⟩
  · rcases List.mem_singleton.1 hh with rfl; exact Blk.new w t cs.toArray
  · rcases List.mem_singleton.1 hh with rfl; cases hg; exact Nat.le_refl _
theorem Mm.alloc (h : Mm S w0 M w) (t : TypeId) (cs : List Value) : Mm S w0 (⟨some w.heap.size, t, cs⟩ :: M) (w.alloc (.cells cs.toArray t)) :=
  h.gain ((Fr.refl _ w).alloc _) (New.alloc w t cs)
/-- M with h in place of its like; x: what stood there -/
inductive Rep : List Hp → Hp → Hp → List Hp → Prop
  | head (M : List Hp) (x h : Hp) : Rep (x :: M) x h (h :: M)
  | tail {M M' : List Hp} {x h : Hp} (y : Hp) (r : Rep M x h M') : Rep (y :: M) x h (y :: M')
theorem Rep.mem {M M' : List Hp} {x h : Hp} (r : Rep M x h M') : x ∈ M := by
  induction r with
  | head => exact List.mem_cons_self ..
  | tail y r ih => exact List.mem_cons_of_mem _ ih
theorem Rep.mem' {M M' : List Hp} {x h : Hp} (r : Rep M x h M') : ∀ y ∈ M', y = h ∨ y ∈ M := by
  induction r with
  | head M x h =>
    intro y hy
    rcases List.mem_cons.1 hy with rfl | hy
    · exact .inl rfl
    · exact .inr (List.mem_cons_of_mem _ hy)
  | tail z r ih =>
    intro y hy
    rcases List.mem_cons.1 hy with rfl | hy
    · exact .inr (List.mem_cons_self ..)
    · exact (ih y hy).imp id (List.mem_cons_of_mem _)
/-- the others of M', each apart from x -/
theorem Rep.others {M M' : List Hp} {x h : Hp} (r : Rep M x h M') (hd : Apart M) : ∃ O : List Hp, (∀ y ∈ M', y = h ∨ y ∈ O) ∧ (∀ y ∈ O, y ∈ M) ∧ ∀ y ∈ O, ∀ g, x.g = some g → y.g ≠ some g := by
  induction r with
  | head M x h => exact ⟨M, fun y hy => List.mem_cons.1 hy, fun y hy => List.mem_cons_of_mem _ hy, fun y hy g hg => hd.1 y hy g hg⟩
  | tail z r ih =>
    obtain ⟨O, h1, h2, h3⟩ := ih hd.2
    refine ⟨z :: O, fun y hy => ?_, fun y hy => ?_, fun y hy g hg => ?_⟩
    · rcases List.mem_cons.1 hy with rfl | hy
      · exact .inr (List.mem_cons_self ..)
      · exact (h1 y hy).imp id (List.mem_cons_of_mem _)
    · rcases List.mem_cons.1 hy with rfl | hy
      · exact List.mem_cons_self ..
      · exact List.mem_cons_of_mem _ (h2 y hy)
    · rcases List.mem_cons.1 hy with rfl | hy
      · intro e; exact hd.1 _ r.mem g e hg
      · exact h3 y hy g hg
/-- the new one lies where the old one lay, or where none lies -/
theorem Rep.apart {M M' : List Hp} {x h : Hp} (r : Rep M x h M') (hd : Apart M) (hx : ∀ g, h.g = some g → x.g = some g ∨ ∀ y ∈ M, y.g ≠ some g) : Apart M' := by
  induction r with
  | head M x h =>
    refine ⟨fun y hy g hg => ?_, hd.2⟩
    rcases hx g hg with h1 | h1
    · exact hd.1 y hy g h1
    · exact h1 y (List.mem_cons_of_mem _ hy)
  | tail z r ih =>
    refine ⟨fun y hy g hg => ?_, ih hd.2 fun g hg => (hx g hg).imp id fun h1 y hy => h1 y (List.mem_cons_of_mem _ hy)⟩
    rcases r.mem' y hy with rfl | hy
    · intro e
      rcases hx g e with h1 | h1
      · exact hd.1 _ r.mem g hg h1
      · exact h1 z (List.mem_cons_self ..) hg
    · exact hd.1 y hy g hg
/-- one of the blocks has changed, or has gone over to a new one; nothing else that was there -/
theorem Mm.turn (h : Mm S w0 M w) {x y : Hp} {M' : List Hp} (r : Rep M x y M') (hf : Fr (fun k => x.g = some k) w w') (hy : y.sat w') (hg : ∀ g, y.g = some g → x.g = some g ∨ w.heap.size ≤ g) : Mm S w0 M' w' := by
  obtain ⟨O, h1, h2, h3⟩ := r.others h.dj
  refine ⟨fun z hz => ?_, h.fr.then hf fun i hi e => ?_, r.apart h.dj fun g e => ?_, fun z hz g e => ?_⟩
  · rcases h1 z hz with rfl | hz
    · exact hy
    · exact Hp.sat_fr hf (h.me z (h2 z hz)) fun g hg e => h3 z hz g e hg
  · rcases h.ow x r.mem i e with h4 | h4
    · omega
    · exact h4
  · rcases hg g e with h4 | h4
    · exact .inl h4
    · refine .inr fun z hz e' => ?_
      have := Hp.lt (h.me z hz) e'
      omega
  · rcases r.mem' z hz with rfl | hz
    · rcases hg g e with h4 | h4
      · exact h.ow x r.mem g h4
      · exact .inl (Nat.le_trans h.fr.size h4)
    · exact h.ow z hz g e
theorem Mm.sub (h : Mm S w0 M w) {M' : List Hp} (hs : M'.Sublist M) : Mm S w0 M' w :=
  ⟨fun x hx => h.me x (hs.subset hx), h.fr, h.dj.sub hs, fun x hx => h.ow x (hs.subset hx)⟩
theorem apart_iff {M : List Hp} : Apart M ↔ M.Pairwise (fun x y => ∀ g, x.g = some g → y.g ≠ some g) := by
  induction M with
  | nil => simp [Apart]
  | cons h r ih => simp only [Apart, List.pairwise_cons, ih]
theorem Mm.perm (h : Mm S w0 M w) {M' : List Hp} (hp : M'.Perm M) : Mm S w0 M' w := by
  refine ⟨fun x hx => h.me x (hp.subset hx), h.fr, ?_, fun x hx => h.ow x (hp.subset hx)⟩
  rw [apart_iff]
  refine (hp.pairwise_iff ?_).2 (apart_iff.1 h.dj)
  intro x y hxy g hg hx
  exact hxy g hx hg
theorem Mm.zero (h : Mm S w0 M w) (t : TypeId) : Mm S w0 (⟨Option.none, t, []⟩ :: M) w :=
  ⟨fun x hx => by
    rcases List.mem_cons.1 hx with rfl | hx
    · rfl
    · exact h.me x hx, h.fr, ⟨fun _ _ _ hg => (by cases hg), h.dj⟩, fun x hx g hg => by
    rcases List.mem_cons.1 hx with rfl | hx
    · cases hg
    · exact h.ow x hx g hg⟩
theorem Mm.at_ (h : Mm S w0 M w) {g : Nat} {t : TypeId} {cs : List Value} (hm : (⟨some g, t, cs⟩ : Hp) ∈ M) (i : Nat) : w.cell? ⟨g, i, none⟩ = cs[i]? := by
  have := Blk.cell (h.me _ hm) i
  simpa using this
/-- at the end: what was made, out of all that is known -/
theorem Mm.new {M : List Hp} (h : Mm (fun _ => False) w0 M w) {R : List Hp} (hs : R.Sublist M) : New w0 w R :=
  ⟨fun x hx => h.me x (hs.subset hx), h.dj.sub hs, fun x hx g hg => (h.ow x (hs.subset hx) g hg).resolve_right id⟩
/-- a slice of the walk's own reads as its cells -/
theorem Mm.rd (h : Mm S w0 M w) {g : Nat} {t : TypeId} {cs xs : List Value} (hm : (⟨some g, t, cs⟩ : Hp) ∈ M) (hx : xs <+: cs) : Rd w w.heap.size (some ⟨g, 0, none⟩) xs := fun hn => by
  refine ⟨g, 0, rfl, Hp.lt (h.me _ hm) rfl, fun j u hu => ?_⟩
  rw [Nat.zero_add, h.at_ hm]
  obtain ⟨t, rfl⟩ := hx
  rw [List.getElem?_append_left (by rcases Nat.lt_or_ge j xs.length with hlt | hge; exact hlt; rw [List.getElem?_eq_none hge] at hu; cases hu), hu]
end

/-! ### The types that a walk meets -/
inductive TD where
  | int (k : IntKind) | bool | str | ptr (e : TypeId) | sl (e : TypeId) | st (fs : List (Nat × TypeId)) | arr (n : Nat) (e : TypeId) | fn | oth
def tdOf : TypeDesc → TD
  | .int k => .int k
  | .bool => .bool
  | .string => .str
  | .pointer e => .ptr e
  | .slice e => .sl e
  | .struct fs => .st (fs.toList.map fun f => (f.offset, f.type))
  | .array n e => .arr n e
  | .func _ _ _ => .fn
  | _ => .oth
structure TI where
  sz : Nat
  by_ : Nat
  z : Value
  d : TD
def TOk (P : Program) (t : TypeId) (x : TI) : Prop :=
  (P.info? t).map (fun i => (i.zero, i.size, i.bytes)) = some (some x.z, x.sz, x.by_) ∧ (P.underlying t).map tdOf = some x.d
def tlk : List (Nat × TI) → Nat → Option TI
  | [], _ => none
  | (k, v) :: r, n => bif Nat.beq k n then some v else tlk r n
def TabOk (P : Program) (T : List (Nat × TI)) : Prop := ∀ t x, tlk T t = some x → TOk P t x
theorem tabOk {P : Program} : ∀ {T : List (Nat × TI)}, (∀ p ∈ T, TOk P p.1 p.2) → TabOk P T
  | [], _ => fun t x h => by cases h
  | (k, v) :: r, hT => fun t x h => by
    simp only [tlk] at h
    cases hb : Nat.beq k t with
    | true =>
      rw [hb] at h
      simp only [cond_true, Option.some.injEq] at h
      have : k = t := by simpa using hb
      subst this; subst h
      exact hT (k, v) (List.mem_cons_self ..)
    | false => rw [hb] at h; exact tabOk (fun p hp => hT p (List.mem_cons_of_mem _ hp)) t x h
end Go.Proofs.YtajkekhnfobgiaaGreatDoor

/- What each operation does, by the slots and the blocks. -/
namespace Go.Proofs.YtajkekhnfobgiaaGreatDoor
set_option maxRecDepth 20000
open Go.RowKit

/-- the operation gives v and leaves the world as it is -/
def RunV (P : Program) (a : Act) (o : Oper) (w : World) (v : Value) : Prop := (execOp a.eval o).run P w = .ok (.value v) w
theorem beq_dec (n m : Int) : (n == m) = decide (n = m) := by
  by_cases h : n = m <;> simp [h]
theorem run_und {P : Program} {t : TypeId} {d : TypeDesc} {w : World} (h : P.underlying t = some d) : Sem.run P (underlying t) w = .ok d w := by
  unfold underlying; simp [go_sem, h]
theorem TOk.und {P : Program} {t : TypeId} {x : TI} (h : TOk P t x) : ∃ d, P.underlying t = some d ∧ tdOf d = x.d := by
  have := h.2; rwa [Option.map_eq_some_iff] at this
theorem TOk.int {P : Program} {t : TypeId} {x : TI} {k : IntKind} (h : TOk P t x) (hd : x.d = .int k) : P.underlying t = some (.int k) := by
  obtain ⟨d, h1, h2⟩ := h.und
  rw [hd] at h2
  cases d <;> simp [tdOf] at h2
  rw [h1, h2]
theorem TOk.bool {P : Program} {t : TypeId} {x : TI} (h : TOk P t x) (hd : x.d = .bool) : P.underlying t = some .bool := by
  obtain ⟨d, h1, h2⟩ := h.und
  rw [hd] at h2
  cases d <;> simp [tdOf] at h2
  exact h1
theorem TOk.sl {P : Program} {t e : TypeId} {x : TI} (h : TOk P t x) (hd : x.d = .sl e) : P.underlying t = some (.slice e) := by
  obtain ⟨d, h1, h2⟩ := h.und
  rw [hd] at h2
  cases d <;> simp [tdOf] at h2
  rw [h1, h2]
theorem TOk.arr {P : Program} {t e : TypeId} {n : Nat} {x : TI} (h : TOk P t x) (hd : x.d = .arr n e) : P.underlying t = some (.array n e) := by
  obtain ⟨d, h1, h2⟩ := h.und
  rw [hd] at h2
  cases d <;> simp [tdOf] at h2
  rw [h1, h2.1, h2.2]
theorem TOk.st {P : Program} {t : TypeId} {fs : List (Nat × TypeId)} {x : TI} (h : TOk P t x) (hd : x.d = .st fs) : ∃ gs, P.underlying t = some (.struct gs) ∧ gs.toList.map (fun f => (f.offset, f.type)) = fs := by
  obtain ⟨d, h1, h2⟩ := h.und
  rw [hd] at h2
  cases d <;> simp [tdOf] at h2
  exact ⟨_, h1, h2⟩
/-- is it one cell? -/
def TD.flat : TD → Bool
  | .st _ => false
  | .arr _ _ => false
  | _ => true
theorem run_isAgg {P : Program} {t : TypeId} {x : TI} {w : World} (h : TOk P t x) : Sem.run P (isAgg t) w = .ok (!x.d.flat) w := by
  obtain ⟨d, h1, h2⟩ := h.und
  unfold isAgg
  simp only [Sem.run_bind, run_und h1, Result.andThen_ok]
  rw [← h2]
  cases d <;> rfl
theorem TOk.info {P : Program} {t : TypeId} {x : TI} (h : TOk P t x) : ∃ i, P.info? t = some i ∧ i.zero = some x.z ∧ i.size = x.sz ∧ i.bytes = x.by_ := by
  have := h.1
  rw [Option.map_eq_some_iff] at this
  obtain ⟨i, h1, h2⟩ := this
  simp only [Prod.mk.injEq] at h2
  exact ⟨i, h1, h2.1, h2.2.1, h2.2.2⟩
theorem run_sizeOf {P : Program} {t : TypeId} {x : TI} {w : World} (h : TOk P t x) : Sem.run P (sizeOf t) w = .ok x.sz w := by
  obtain ⟨i, h1, h2, h3, h4⟩ := h.info
  unfold sizeOf typeInfo; simp [go_sem, h1, h3]
theorem run_zero {P : Program} {t : TypeId} {x : TI} {w : World} (h : TOk P t x) : Sem.run P (zeroValue t) w = .ok x.z w := by
  obtain ⟨i, h1, h2, h3, h4⟩ := h.info
  unfold zeroValue typeInfo; simp [go_sem, h1, h2]
/-- an integer division that is none by zero: what it gives -/
theorem ediv_wrap64 {n m : Int} (h0 : 0 ≤ n) (h1 : n ≤ 9223372036854775807) (h2 : 0 < m) : IntKind.i64.wrap (n.tdiv m) = n / m := by
  rw [Int.tdiv_eq_ediv_of_nonneg h0]
  have h3 : 0 ≤ n / m := Int.ediv_nonneg h0 (by omega)
  have h4 : n / m ≤ n := Int.ediv_le_self _ h0
  simp [IntKind.wrap, IntKind.bits, IntKind.signed]; omega

section
variable {P : Program} {T : List (Nat × TI)} {N : Nat} {L : List (Nat × Value)} {a : Act} {w w0 : World} {S : Nat → Prop} {M : List Hp} {o : Oper} {x y z : Operand} {v u : Value}

theorem r_move (hs : Sl N L a) (ho : o.op = .move x) (hx : ev L x = some (v)) : RunV P a o w (v) := by
  replace hx := hs.ev hx
  unfold RunV
  generalize a.eval = ρ at *
  unfold execOp
  simp [ho, go_sem, hx]
theorem r_assign (hs : Sl N L a) (ho : o.op = .assign x) (hx : ev L x = some (v)) : RunV P a o w (v) := by
  replace hx := hs.ev hx
  unfold RunV
  generalize a.eval = ρ at *
  unfold execOp
  simp [ho, go_sem, hx]
theorem r_pick {b : Bool} (hs : Sl N L a) (ho : o.op = .pick x y z) (hx : ev L x = some (.bool b)) (hy : ev L y = some (v)) (hz : ev L z = some (u)) : RunV P a o w (if b then v else u) := by
  replace hx := hs.ev hx
  replace hy := hs.ev hy
  replace hz := hs.ev hz
  unfold RunV
  generalize a.eval = ρ at *
  unfold execOp
  cases b <;> simp [ho, go_sem, hx, hy, hz]
theorem r_not {t : TypeId} {b : Bool} (hs : Sl N L a) (ho : o.op = .unOp .not t x) (hx : ev L x = some (.bool b)) : RunV P a o w (.bool (!b)) := by
  replace hx := hs.ev hx
  unfold RunV
  generalize a.eval = ρ at *
  unfold execOp
  simp [ho, go_sem, hx]
theorem r_neg {t : TypeId} {k : IntKind} {n : Int} (hs : Sl N L a) (ho : o.op = .unOp .neg t x) (hx : ev L x = some (.int k n)) : RunV P a o w (.int k (k.wrap (0 - n))) := by
  replace hx := hs.ev hx
  unfold RunV
  generalize a.eval = ρ at *
  unfold execOp
  simp [ho, go_sem, hx, Op.unary, Op.intArith]
theorem r_add {t yt : TypeId} {k : IntKind} {n m : Int} (hs : Sl N L a) (ho : o.op = .binOp .add t x y yt) (hx : ev L x = some (.int k n)) (hy : ev L y = some (.int k m)) : RunV P a o w (.int k (k.wrap (n + m))) := by
  replace hx := hs.ev hx
  replace hy := hs.ev hy
  unfold RunV
  generalize a.eval = ρ at *
  unfold execOp
  simp [ho, go_sem, hx, hy]
theorem r_sub {t yt : TypeId} {k : IntKind} {n m : Int} (hs : Sl N L a) (ho : o.op = .binOp .sub t x y yt) (hx : ev L x = some (.int k n)) (hy : ev L y = some (.int k m)) : RunV P a o w (.int k (k.wrap (n - m))) := by
  replace hx := hs.ev hx
  replace hy := hs.ev hy
  unfold RunV
  generalize a.eval = ρ at *
  unfold execOp
  simp [ho, go_sem, hx, hy]
theorem r_mul {t yt : TypeId} {k : IntKind} {n m : Int} (hs : Sl N L a) (ho : o.op = .binOp .mul t x y yt) (hx : ev L x = some (.int k n)) (hy : ev L y = some (.int k m)) : RunV P a o w (.int k (k.wrap (n * m))) := by
  replace hx := hs.ev hx
  replace hy := hs.ev hy
  unfold RunV
  generalize a.eval = ρ at *
  unfold execOp
  simp [ho, go_sem, hx, hy]
theorem r_add64 {t yt : TypeId} {n m : Int} (hs : Sl N L a) (ho : o.op = .binOp .add t x y yt) (hx : ev L x = some (.int .i64 n)) (hy : ev L y = some (.int .i64 m)) (hb : -9223372036854775808 ≤ n + m ∧ n + m ≤ 9223372036854775807) : RunV P a o w (.int .i64 (n + m)) := by
  replace hx := hs.ev hx
  replace hy := hs.ev hy
  unfold RunV
  generalize a.eval = ρ at *
  unfold execOp
  have hw : IntKind.i64.wrap (n + m) = n + m := by simp [IntKind.wrap, IntKind.bits, IntKind.signed]; omega
  simp [ho, go_sem, hx, hy, hw]
theorem r_sub64 {t yt : TypeId} {n m : Int} (hs : Sl N L a) (ho : o.op = .binOp .sub t x y yt) (hx : ev L x = some (.int .i64 n)) (hy : ev L y = some (.int .i64 m)) (hb : -9223372036854775808 ≤ n - m ∧ n - m ≤ 9223372036854775807) : RunV P a o w (.int .i64 (n - m)) := by
  replace hx := hs.ev hx
  replace hy := hs.ev hy
  unfold RunV
  generalize a.eval = ρ at *
  unfold execOp
  have hw : IntKind.i64.wrap (n - m) = n - m := by simp [IntKind.wrap, IntKind.bits, IntKind.signed]; omega
  simp [ho, go_sem, hx, hy, hw]
theorem r_mul64 {t yt : TypeId} {n m : Int} (hs : Sl N L a) (ho : o.op = .binOp .mul t x y yt) (hx : ev L x = some (.int .i64 n)) (hy : ev L y = some (.int .i64 m)) (hb : -9223372036854775808 ≤ n * m ∧ n * m ≤ 9223372036854775807) : RunV P a o w (.int .i64 (n * m)) := by
  replace hx := hs.ev hx
  replace hy := hs.ev hy
  unfold RunV
  generalize a.eval = ρ at *
  unfold execOp
  have hw : IntKind.i64.wrap (n * m) = n * m := by simp [IntKind.wrap, IntKind.bits, IntKind.signed]; omega
  simp [ho, go_sem, hx, hy, hw]
theorem r_quo {t yt : TypeId} {k : IntKind} {n m : Int} (hs : Sl N L a) (ho : o.op = .binOp .quo t x y yt) (hx : ev L x = some (.int k n)) (hy : ev L y = some (.int k m)) (hm : m ≠ 0) : RunV P a o w (.int k (k.wrap (n.tdiv m))) := by
  replace hx := hs.ev hx
  replace hy := hs.ev hy
  unfold RunV
  generalize a.eval = ρ at *
  unfold execOp
  simp [ho, go_sem, hx, hy, binOp, Op.intDiv, hm]
theorem r_rem {t yt : TypeId} {k : IntKind} {n m : Int} (hs : Sl N L a) (ho : o.op = .binOp .rem t x y yt) (hx : ev L x = some (.int k n)) (hy : ev L y = some (.int k m)) (hm : m ≠ 0) : RunV P a o w (.int k (n.tmod m)) := by
  replace hx := hs.ev hx
  replace hy := hs.ev hy
  unfold RunV
  generalize a.eval = ρ at *
  unfold execOp
  simp [ho, go_sem, hx, hy, binOp, Op.intDiv, hm]
theorem r_lss {t yt : TypeId} {k : IntKind} {n m : Int} (hs : Sl N L a) (ho : o.op = .binOp .lss t x y yt) (hx : ev L x = some (.int k n)) (hy : ev L y = some (.int k m)) : RunV P a o w (.bool (decide (n < m))) := by
  replace hx := hs.ev hx
  replace hy := hs.ev hy
  unfold RunV
  generalize a.eval = ρ at *
  unfold execOp
  simp [ho, go_sem, hx, hy, binOp, Op.intCmp]
theorem r_leq {t yt : TypeId} {k : IntKind} {n m : Int} (hs : Sl N L a) (ho : o.op = .binOp .leq t x y yt) (hx : ev L x = some (.int k n)) (hy : ev L y = some (.int k m)) : RunV P a o w (.bool (decide (n ≤ m))) := by
  replace hx := hs.ev hx
  replace hy := hs.ev hy
  unfold RunV
  generalize a.eval = ρ at *
  unfold execOp
  simp [ho, go_sem, hx, hy, binOp, Op.intCmp]
theorem r_gtr {t yt : TypeId} {k : IntKind} {n m : Int} (hs : Sl N L a) (ho : o.op = .binOp .gtr t x y yt) (hx : ev L x = some (.int k n)) (hy : ev L y = some (.int k m)) : RunV P a o w (.bool (decide (m < n))) := by
  replace hx := hs.ev hx
  replace hy := hs.ev hy
  unfold RunV
  generalize a.eval = ρ at *
  unfold execOp
  simp [ho, go_sem, hx, hy, binOp, Op.intCmp]
theorem r_geq {t yt : TypeId} {k : IntKind} {n m : Int} (hs : Sl N L a) (ho : o.op = .binOp .geq t x y yt) (hx : ev L x = some (.int k n)) (hy : ev L y = some (.int k m)) : RunV P a o w (.bool (decide (m ≤ n))) := by
  replace hx := hs.ev hx
  replace hy := hs.ev hy
  unfold RunV
  generalize a.eval = ρ at *
  unfold execOp
  simp [ho, go_sem, hx, hy, binOp, Op.intCmp]
theorem r_eql {t yt : TypeId} {k : IntKind} {n m : Int} (hs : Sl N L a) (ho : o.op = .binOp .eql t x y yt) (hx : ev L x = some (.int k n)) (hy : ev L y = some (.int k m)) : RunV P a o w (.bool (decide (n = m))) := by
  replace hx := hs.ev hx
  replace hy := hs.ev hy
  unfold RunV
  generalize a.eval = ρ at *
  unfold execOp
  simp [ho, go_sem, hx, hy, binOp, Op.intCmp]
  exact beq_dec n m
theorem r_neq {t yt : TypeId} {k : IntKind} {n m : Int} (hs : Sl N L a) (ho : o.op = .binOp .neq t x y yt) (hx : ev L x = some (.int k n)) (hy : ev L y = some (.int k m)) : RunV P a o w (.bool (!decide (n = m))) := by
  replace hx := hs.ev hx
  replace hy := hs.ev hy
  unfold RunV
  generalize a.eval = ρ at *
  unfold execOp
  simp [ho, go_sem, hx, hy, binOp, Op.intCmp, bne, beq_dec]
theorem r_and {t yt : TypeId} {k : IntKind} {n m : Int} (hs : Sl N L a) (ho : o.op = .binOp .and t x y yt) (hx : ev L x = some (.int k n)) (hy : ev L y = some (.int k m)) : RunV P a o w (.int k (bits .and k n m)) := by
  replace hx := hs.ev hx
  replace hy := hs.ev hy
  unfold RunV
  generalize a.eval = ρ at *
  unfold execOp
  simp [ho, go_sem, hx, hy]
theorem r_or {t yt : TypeId} {k : IntKind} {n m : Int} (hs : Sl N L a) (ho : o.op = .binOp .or t x y yt) (hx : ev L x = some (.int k n)) (hy : ev L y = some (.int k m)) : RunV P a o w (.int k (bits .or k n m)) := by
  replace hx := hs.ev hx
  replace hy := hs.ev hy
  unfold RunV
  generalize a.eval = ρ at *
  unfold execOp
  simp [ho, go_sem, hx, hy]
theorem r_xor {t yt : TypeId} {k : IntKind} {n m : Int} (hs : Sl N L a) (ho : o.op = .binOp .xor t x y yt) (hx : ev L x = some (.int k n)) (hy : ev L y = some (.int k m)) : RunV P a o w (.int k (bits .xor k n m)) := by
  replace hx := hs.ev hx
  replace hy := hs.ev hy
  unfold RunV
  generalize a.eval = ρ at *
  unfold execOp
  simp [ho, go_sem, hx, hy]
theorem r_conv {s t : TypeId} {k k' : IntKind} {n : Int} (hs : Sl N L a) (ho : o.op = .convert s t x) (hx : ev L x = some (.int k n)) (hT : TabOk P T) {i i' : TI} (hc : tlk T s = some i) (hc' : tlk T t = some i') (hd' : i'.d = .int k') : RunV P a o w (.int k' (k'.wrap n)) := by
  replace hx := hs.ev hx
  unfold RunV
  generalize a.eval = ρ at *
  unfold execOp
  obtain ⟨d1, e1, g1⟩ := (hT _ _ hc).und
  simp [ho, go_sem, hx, convert, run_und e1, run_und ((hT _ _ hc').int hd'), Conv.intToInt]
end
end Go.Proofs.YtajkekhnfobgiaaGreatDoor

/- Addresses, loads, literals, lengths: what each gives. -/
namespace Go.Proofs.YtajkekhnfobgiaaGreatDoor
set_option maxRecDepth 20000
open Go.RowKit

/-- the n cells of cs from cell k on are vs -/
inductive Cut : List Value → Nat → Nat → List Value → Prop
  | nil (cs : List Value) : Cut cs 0 0 []
  | cons {cs vs : List Value} {n : Nat} (c : Value) (h : Cut cs 0 n vs) : Cut (c :: cs) 0 (n + 1) (c :: vs)
  | skip {cs vs : List Value} {k n : Nat} (c : Value) (h : Cut cs k n vs) : Cut (c :: cs) (k + 1) n vs
theorem Cut.len {cs vs : List Value} {k n : Nat} (h : Cut cs k n vs) : vs.length = n := by
  induction h <;> simp_all
theorem Cut.get {cs vs : List Value} {k n : Nat} (h : Cut cs k n vs) : ∀ j u, vs[j]? = some u → cs[k + j]? = some u := by
  induction h with
  | nil => intro j u hu; simp at hu
  | cons c h ih =>
    intro j u hu
    cases j with
    | zero => simpa using hu
    | succ j => have := ih j u (by simpa using hu); simpa [Nat.zero_add] using this
  | skip c h ih => intro j u hu; have := ih j u hu; rw [Nat.add_right_comm]; simpa using this
/-- cs with vs laid over it from cell k on is ds -/
inductive Put : List Value → Nat → List Value → List Value → Prop
  | nil (cs : List Value) : Put cs 0 [] cs
  | cons {cs vs ds : List Value} (c v : Value) (h : Put cs 0 vs ds) : Put (c :: cs) 0 (v :: vs) (v :: ds)
  | skip {cs vs ds : List Value} {k : Nat} (c : Value) (h : Put cs k vs ds) : Put (c :: cs) (k + 1) vs (c :: ds)
theorem Put.eq {cs vs ds : List Value} {k : Nat} (h : Put cs k vs ds) : k + vs.length ≤ cs.length ∧ ds = cs.take k ++ vs ++ cs.drop (k + vs.length) := by
  induction h with
  | nil => simp
  | cons c v h ih => obtain ⟨h1, h2⟩ := ih; subst h2; simp at h1 ⊢; omega
  | skip c h ih =>
    obtain ⟨h1, h2⟩ := ih
    refine ⟨by simp; omega, ?_⟩
    subst h2
    rw [Nat.add_right_comm]
    simp
/-- the cells of a value -/
inductive VC : Value → List Value → Prop
  | agg (l : List Value) : VC (.agg l.toArray) l
  | bool (b : Bool) : VC (.bool b) [.bool b]
  | int (k : IntKind) (n : Int) : VC (.int k n) [.int k n]
  | string (s : ByteArray) : VC (.string s) [.string s]
  | pointer (p : Option Addr) : VC (.pointer p) [.pointer p]
  | slice (p : Option Addr) (n c : Nat) : VC (.slice p n c) [.slice p n c]
  | func (f : Fn) (x y : Array Value) : VC (.func f x y) [.func f x y]
  | nilFunc : VC .nilFunc [.nilFunc]
  | map (p : Option Nat) : VC (.map p) [.map p]
  | nilIface : VC .nilIface [.nilIface]
theorem VC.eq {v : Value} {l : List Value} (h : VC v l) : v.cells = l.toArray := by
  cases h <;> rfl
theorem fill_put (cs vs : List Value) (k : Nat) (hl : k + vs.length ≤ cs.length) : (vs.toArray.zipIdx.foldl (fun (c : Array Value) (p : Value × Nat) => c.setIfInBounds (k + p.2) p.1) cs.toArray) = (cs.take k ++ vs ++ cs.drop (k + vs.length)).toArray := by
  suffices H : ∀ (vs : List Value) (m : Nat) (cs : List Value), k + m + vs.length ≤ cs.length → (vs.zipIdx m).foldl (fun (c : Array Value) (p : Value × Nat) => c.setIfInBounds (k + p.2) p.1) cs.toArray = (cs.take (k + m) ++ vs ++ cs.drop (k + m + vs.length)).toArray by
    have := H vs 0 cs (by simpa using hl)
    rw [← Array.foldl_toList]
    simpa using this
  intro vs
  induction vs with
  | nil => intro m cs h; simp
  | cons v r ih =>
    intro m cs h
    simp only [List.zipIdx_cons, List.foldl_cons, List.setIfInBounds_toArray]
    rw [ih (m + 1) (cs.set (k + m) v) (by simp only [List.length_set, List.length_cons] at *; omega)]
    congr 1
    have hk : k + m < cs.length := by simp at h; omega
    rw [List.take_set, List.drop_set_of_lt (by omega), ← Nat.add_assoc, List.take_succ_eq_append_getElem hk, List.set_append_right _ _ (by simp; omega)]
    simp [Nat.min_eq_left (Nat.le_of_lt hk)]
    congr 1
    omega
theorem fill_one {place : Nat → Option (Nat × Nat)} {cs vs ds : List Value} {rest : List (Nat × Value)} {i off : Nat} {v : Value} (hp : place i = some (off, vs.length)) (hv : VC v vs) (h : Put cs off vs ds) : Instr.fill place cs.toArray ((i, v) :: rest) = Instr.fill place ds.toArray rest := by
  obtain ⟨h1, h2⟩ := h.eq
  rw [Instr.fill]
  simp only [hp, hv.eq]
  rw [if_neg (by simp; omega), fill_put cs vs off h1, ← h2]
/-- a literal's parts, one laid over the other -/
inductive Fill (T : List (Nat × TI)) (fs : List (Nat × TypeId)) : List (Nat × Value) → List Value → List Value → Prop
  | nil (cs : List Value) : Fill T fs [] cs cs
  | cons {rest : List (Nat × Value)} {i off : Nat} {t : TypeId} {x : TI} {v : Value} {vs cs ds es : List Value} (hf : fs[i]? = some (off, t)) (ht : tlk T t = some x) (hv : VC v vs) (hl : vs.length = x.sz) (hp : Put cs off vs ds) (h : Fill T fs rest ds es) : Fill T fs ((i, v) :: rest) cs es
/-- the same for arrays and slices, whose elements have s cells -/
inductive FillA (s : Nat) : List (Nat × Value) → List Value → List Value → Prop
  | nil (cs : List Value) : FillA s [] cs cs
  | cons {rest : List (Nat × Value)} {i : Nat} {v : Value} {vs cs ds es : List Value} (hv : VC v vs) (hl : vs.length = s) (hp : Put cs (i * s) vs ds) (h : FillA s rest ds es) : FillA s ((i, v) :: rest) cs es
theorem FillA.fill {s : Nat} {ps : List (Nat × Value)} {cs ds : List Value} (h : FillA s ps cs ds) : Instr.fill (fun i => some (i * s, s)) cs.toArray ps = some ds.toArray := by
  induction h with
  | nil => rfl
  | cons hv hl hp _ ih => rw [fill_one (by rw [hl]) hv hp]; exact ih
def evp (L : List (Nat × Value)) : List (Nat × Operand) → Option (List (Nat × Value))
  | [] => some []
  | (i, x) :: r => match ev L x with
    | some v => match evp L r with
      | some vs => some ((i, v) :: vs)
      | none => none
    | none => none
theorem Sl.evp {N : Nat} {L : List (Nat × Value)} {a : Act} (h : Sl N L a) : ∀ {xs : List (Nat × Operand)} {vs : List (Nat × Value)}, evp L xs = some vs → xs.map (fun (i, x) => (i, a.eval x)) = vs
  | [], vs, he => by simpa [Go.Proofs.YtajkekhnfobgiaaGreatDoor.evp] using he
  | (i, x) :: r, vs, he => by
    simp only [Go.Proofs.YtajkekhnfobgiaaGreatDoor.evp] at he
    cases hx : Go.Proofs.YtajkekhnfobgiaaGreatDoor.ev L x with
    | none => rw [hx] at he; cases he
    | some v =>
      rw [hx] at he
      cases hr : Go.Proofs.YtajkekhnfobgiaaGreatDoor.evp L r with
      | none => rw [hr] at he; cases he
      | some us =>
        rw [hr] at he
        simp only [Option.some.injEq] at he
        subst he
        simp [h.ev hx, Sl.evp h hr]

section
variable {P : Program} {T : List (Nat × TI)} {N : Nat} {L : List (Nat × Value)} {a : Act} {w w0 : World} {S : Nat → Prop} {M : List Hp} {o : Oper} {x y z : Operand} {v u : Value}

theorem run_fieldPlace {i : TI} {f : Field} {A : Addr} (hT : TOk P f.type i) (hz : i.sz ≠ 0) : Sem.run P (fieldPlace A f) w = .ok (A.add f.offset) w := by
  unfold fieldPlace
  simp [run_sizeOf hT, hz]
theorem r_fieldAddr {t ft : TypeId} {f g n off : Nat} {i j : TI} {fs : List (Nat × TypeId)} (hs : Sl N L a) (ho : o.op = .fieldAddr t x f) (hx : ev L x = some (.pointer (some ⟨g, n, none⟩))) (hT : TabOk P T) (hc : tlk T t = some i) (hd : i.d = .st fs) (hf : fs[f]? = some (off, ft)) (hft : tlk T ft = some j) (hj : Nat.beq j.sz 0 = false) : RunV P a o w (.pointer (some ⟨g, n + off, none⟩)) := by
  replace hx := hs.ev hx
  unfold RunV
  generalize a.eval = ρ at *
  obtain ⟨gs, h1, h2⟩ := (hT _ _ hc).st hd
  subst h2
  rw [List.getElem?_map] at hf
  cases hg : gs.toList[f]? with
  | none => rw [hg] at hf; cases hf
  | some fl =>
    rw [hg] at hf
    simp only [Option.map_some, Option.some.injEq, Prod.mk.injEq] at hf
    obtain ⟨rfl, rfl⟩ := hf
    have hg' : gs[f]? = some fl := by simpa using hg
    have hz : j.sz ≠ 0 := fun e => by rw [e] at hj; cases hj
    unfold execOp
    simp [ho, hx, Instr.fieldAt, run_und h1, hg', Instr.sureAddr, run_fieldPlace (hT _ _ hft) hz, Addr.add_lit]
/-- how many cells a type has -/
def tsz : List (Nat × TI) → Nat → Option Nat
  | [], _ => none
  | (k, ⟨s, _, _, _⟩) :: r, n => bif Nat.beq k n then some s else tsz r n
theorem tsz_ok : ∀ {T : List (Nat × TI)} {n s : Nat}, tsz T n = some s → ∃ j, tlk T n = some j ∧ j.sz = s
  | [], _, _, h => by cases h
  | (k, ⟨s', _, _, _⟩) :: r, n, s, h => by
    simp only [tsz] at h
    simp only [tlk]
    cases hb : Nat.beq k n with
    | true => rw [hb] at h; simp only [cond_true, Option.some.injEq] at h; exact ⟨_, rfl, h⟩
    | false => rw [hb] at h; exact tsz_ok h
theorem run_indexAt {t e : TypeId} {i j : TI} {g off len cap : Nat} {k : Nat} {kk : IntKind} (hT : TabOk P T) (hc : tlk T t = some i) (hd : i.d = .sl e) (he : tlk T e = some j) (hk : k < len) : Sem.run P (Instr.indexAt t (.slice (some ⟨g, off, none⟩) len cap) (.int kk (k : Int))) w = .ok (.pointer (some ⟨g, off + k * j.sz, none⟩)) w := by
  unfold Instr.indexAt
  simp [run_und ((hT _ _ hc).sl hd), asIntOf, run_sizeOf (hT _ _ he), hk, Addr.add_lit]
theorem run_indexAtA {t e : TypeId} {i j : TI} {g off len : Nat} {k : Nat} {kk : IntKind} (hT : TabOk P T) (hc : tlk T t = some i) (hd : i.d = .arr len e) (he : tlk T e = some j) (hk : k < len) : Sem.run P (Instr.indexAt t (.pointer (some ⟨g, off, none⟩)) (.int kk (k : Int))) w = .ok (.pointer (some ⟨g, off + k * j.sz, none⟩)) w := by
  unfold Instr.indexAt
  simp [run_und ((hT _ _ hc).arr hd), asIntOf, run_sizeOf (hT _ _ he), hk, Addr.add_lit, Instr.sureAddr]
end

/-! ### the same, computed -/
def vcF : Value → Option (List Value)
  | .agg cs => some cs.toList
  | .bool b => some [.bool b]
  | .int k n => some [.int k n]
  | .string s => some [.string s]
  | .pointer p => some [.pointer p]
  | .slice p n c => some [.slice p n c]
  | .func f x y => some [.func f x y]
  | .nilFunc => some [.nilFunc]
  | .map p => some [.map p]
  | .nilIface => some [.nilIface]
  | _ => none
theorem vcF_ok {v : Value} {l : List Value} (h : vcF v = some l) : VC v l := by
  cases v <;> simp only [vcF, Option.some.injEq, reduceCtorEq] at h <;> subst h
  case agg cs => exact (show VC (.agg cs.toList.toArray) cs.toList from .agg _)
  all_goals constructor
def cutF : List Value → Nat → Nat → Option (List Value)
  | _, 0, 0 => some []
  | c :: cs, 0, n + 1 => match cutF cs 0 n with
    | some vs => some (c :: vs)
    | none => none
  | _ :: cs, k + 1, n => cutF cs k n
  | _, _, _ => none
theorem cutF_ok : ∀ {cs : List Value} {k n : Nat} {vs : List Value}, cutF cs k n = some vs → Cut cs k n vs
  | cs, 0, 0, vs, h => by simp [cutF] at h; subst h; exact .nil _
  | [], 0, n + 1, vs, h => by simp [cutF] at h
  | c :: cs, 0, n + 1, vs, h => by
    simp only [cutF] at h
    cases hc : cutF cs 0 n with
    | none => rw [hc] at h; cases h
    | some us => rw [hc] at h; simp only [Option.some.injEq] at h; subst h; exact .cons c (cutF_ok hc)
  | [], k + 1, n, vs, h => by simp [cutF] at h
  | c :: cs, k + 1, n, vs, h => by simp only [cutF] at h; exact .skip c (cutF_ok h)
def putF : List Value → Nat → List Value → Option (List Value)
  | cs, 0, [] => some cs
  | _ :: cs, 0, v :: vs => match putF cs 0 vs with
    | some ds => some (v :: ds)
    | none => none
  | c :: cs, k + 1, vs => match putF cs k vs with
    | some ds => some (c :: ds)
    | none => none
  | _, _, _ => none
theorem putF_ok : ∀ {cs : List Value} {k : Nat} {vs ds : List Value}, putF cs k vs = some ds → Put cs k vs ds
  | cs, 0, [], ds, h => by simp [putF] at h; subst h; exact .nil _
  | [], 0, v :: vs, ds, h => by simp [putF] at h
  | c :: cs, 0, v :: vs, ds, h => by
    simp only [putF] at h
    cases hc : putF cs 0 vs with
    | none => rw [hc] at h; cases h
    | some us => rw [hc] at h; simp only [Option.some.injEq] at h; subst h; exact .cons c v (putF_ok hc)
  | [], k + 1, vs, ds, h => by cases vs <;> simp [putF] at h
  | c :: cs, k + 1, vs, ds, h => by
    simp only [putF] at h
    cases hc : putF cs k vs with
    | none => rw [hc] at h; cases h
    | some us => rw [hc] at h; simp only [Option.some.injEq] at h; subst h; exact .skip c (putF_ok hc)
def fillF (T : List (Nat × TI)) (fs : List (Nat × TypeId)) : List (Nat × Value) → List Value → Option (List Value)
  | [], cs => some cs
  | (i, v) :: r, cs => match fs[i]? with
    | some (off, t) => match tlk T t with
      | some x => match vcF v with
        | some vs => bif Nat.beq vs.length x.sz then (match putF cs off vs with
          | some ds => fillF T fs r ds
          | none => none) else none
        | none => none
      | none => none
    | none => none
theorem fillF_ok {T : List (Nat × TI)} {fs : List (Nat × TypeId)} : ∀ {ps : List (Nat × Value)} {cs ds : List Value}, fillF T fs ps cs = some ds → Fill T fs ps cs ds
  | [], cs, ds, h => by simp [fillF] at h; subst h; exact .nil _
  | (i, v) :: r, cs, ds, h => by
    simp only [fillF] at h
    cases h1 : fs[i]? with
    | none => rw [h1] at h; cases h
    | some p =>
      obtain ⟨off, t⟩ := p
      rw [h1] at h
      cases h2 : tlk T t with
      | none => simp only [h2] at h; cases h
      | some x =>
        simp only [h2] at h
        cases h3 : vcF v with
        | none => simp only [h3] at h; cases h
        | some vs =>
          simp only [h3] at h
          cases h4 : Nat.beq vs.length x.sz with
          | false => rw [h4] at h; cases h
          | true =>
            rw [h4] at h
            simp only [cond_true] at h
            cases h5 : putF cs off vs with
            | none => rw [h5] at h; cases h
            | some es => rw [h5] at h; exact .cons h1 h2 (vcF_ok h3) (Nat.eq_of_beq_eq_true h4) (putF_ok h5) (fillF_ok h)
def fillAF (s : Nat) : List (Nat × Value) → List Value → Option (List Value)
  | [], cs => some cs
  | (i, v) :: r, cs => match vcF v with
    | some vs => bif Nat.beq vs.length s then (match putF cs (i * s) vs with
      | some ds => fillAF s r ds
      | none => none) else none
    | none => none
theorem fillAF_ok {s : Nat} : ∀ {ps : List (Nat × Value)} {cs ds : List Value}, fillAF s ps cs = some ds → FillA s ps cs ds
  | [], cs, ds, h => by simp [fillAF] at h; subst h; exact .nil _
  | (i, v) :: r, cs, ds, h => by
    simp only [fillAF] at h
    cases h3 : vcF v with
    | none => simp only [h3] at h; cases h
    | some vs =>
      simp only [h3] at h
      cases h4 : Nat.beq vs.length s with
      | false => rw [h4] at h; cases h
      | true =>
        rw [h4] at h
        simp only [cond_true] at h
        cases h5 : putF cs (i * s) vs with
        | none => rw [h5] at h; cases h
        | some es => rw [h5] at h; exact .cons (vcF_ok h3) (Nat.eq_of_beq_eq_true h4) (putF_ok h5) (fillAF_ok h)
end Go.Proofs.YtajkekhnfobgiaaGreatDoor

/- Loads, literals, lengths; allocations, stores, appends, calls. -/
namespace Go.Proofs.YtajkekhnfobgiaaGreatDoor
set_option maxRecDepth 20000
open Go.RowKit

/-- cells of memory that nobody changes, in a row -/
def Ro (w : World) (b n : Nat) (vs : List Value) : Prop := ∀ j u, vs[j]? = some u → w.cell? ⟨b, n + j, none⟩ = some u
theorem Rd.ro {w : World} {B : Nat} {A : Option Addr} {xs : List Value} (h : Rd w B A xs) (hn : 0 < xs.length) : ∃ b off, A = some ⟨b, off, none⟩ ∧ b < B ∧ Ro w b off xs := h hn
theorem Ro.rd {w : World} {b n : Nat} {vs : List Value} (h : Ro w b n vs) (hb : b < w.heap.size) : Rd w w.heap.size (some ⟨b, n, none⟩) vs := fun _ => ⟨b, n, rfl, hb, h⟩
theorem Ro.flat {α : Type} {w : World} {b off s : Nat} {f : α → List Value} (hs : ∀ a, (f a).length = s) {l : List α} (h : Ro w b off (l.flatMap f)) {k : Nat} (hk : k < l.length) : Ro w b (off + k * s) (f l[k]) := fun j u hu => by
  have hj : j < s := by
    rcases Nat.lt_or_ge j s with h1 | h1
    · exact h1
    · rw [List.getElem?_eq_none (by rw [hs]; exact h1)] at hu; cases hu
  have := flat_get f s hs l k j hk hj
  rw [Nat.add_assoc]
  exact h _ _ (by rw [this, hu])
theorem Ro.cl {S : Nat → Prop} {w0 w : World} {M : List Hp} {b n j : Nat} {vs : List Value} {v : Value} (h : Ro w0 b n vs) (hm : Mm S w0 M w) (hb : ¬ S b) (hv : vs[j]? = some v) : w.cell? ⟨b, n + j, none⟩ = some v := hm.fr.cl (h j v hv) hb
theorem Ro.ro {S : Nat → Prop} {w0 w : World} {M : List Hp} {b n : Nat} {vs : List Value} (h : Ro w0 b n vs) (hm : Mm S w0 M w) (hb : ¬ S b) : Ro w b n vs := fun j v hv => hm.fr.cl (h j v hv) hb
theorem Mm.cl {S : Nat → Prop} {w0 w : World} {M : List Hp} {g n : Nat} {t : TypeId} {cs : List Value} {v : Value} (hm : Mm S w0 M w) (hM : (⟨some g, t, cs⟩ : Hp) ∈ M) (hv : cs[n]? = some v) : w.cell? ⟨g, n, none⟩ = some v := (hm.at_ hM n).trans hv
theorem Mm.ro {S : Nat → Prop} {w0 w : World} {M : List Hp} {g k n : Nat} {t : TypeId} {cs vs : List Value} (hm : Mm S w0 M w) (hM : (⟨some g, t, cs⟩ : Hp) ∈ M) (hv : Cut cs k n vs) : Ro w g k vs := fun j v h => (hm.at_ hM _).trans (hv.get j v h)

def slv (A : Option Nat) (n c : Nat) : Value := .slice (A.map fun g => ⟨g, 0, none⟩) n c
/-- a slice of the walk's own: n elements of s cells, room for c; its first cells are xs, all its block's cells cs -/
structure Row (A : Option Nat) (n c s : Nat) (xs cs : List Value) : Prop where
  nil : A = none → n = 0 ∧ c = 0
  le : n ≤ c
  cm : c ≤ maxLen
  len : cs.length = c * s
  xl : xs.length = n * s
  pre : cs.take (n * s) = xs
theorem Row.empty (s : Nat) : Row none 0 0 s [] [] := ⟨fun _ => ⟨rfl, rfl⟩, Nat.le_refl _, Nat.zero_le _, by simp, by simp, by simp⟩
theorem Row.get {A : Option Nat} {n c s : Nat} {xs cs : List Value} (h : Row A n c s xs cs) {j : Nat} {u : Value} (hj : xs[j]? = some u) : cs[j]? = some u := by
  rw [← h.pre, List.getElem?_take] at hj
  split at hj
  · exact hj
  · cases hj
theorem Row.some_ {A : Option Nat} {n c s : Nat} {xs cs : List Value} (h : Row A n c s xs cs) (hn : 0 < n) : ∃ g, A = some g := by
  cases A with
  | none => have := (h.nil rfl).1; omega
  | some g => exact ⟨g, rfl⟩
theorem Row.pfx {A : Option Nat} {n c s : Nat} {xs cs : List Value} (h : Row A n c s xs cs) : xs <+: cs := h.pre ▸ List.take_prefix _ _
theorem Row.set {A : Option Nat} {n c s : Nat} {xs cs : List Value} (h : Row A n c s xs cs) (j : Nat) (u : Value) : Row A n c s (xs.set j u) (cs.set j u) :=
  ⟨h.nil, h.le, h.cm, by rw [List.length_set]; exact h.len, by rw [List.length_set]; exact h.xl, by rw [← h.pre, List.take_set]⟩
theorem Row.own {w : World} {A : Option Nat} {n c s base : Nat} {e : TypeId} {xs cs : List Value} (h : Row A n c s xs cs) (hs : (⟨A, e, cs⟩ : Hp).sat w) (hb : ∀ g, A = some g → base ≤ g) : w.ownsRow base e s (slv A n c) n xs := by
  refine ⟨h.xl, ?_⟩
  cases A with
  | none => obtain ⟨rfl, rfl⟩ := h.nil rfl; exact .inl ⟨rfl, rfl⟩
  | some g => exact .inr ⟨g, c, cs.toArray, rfl, hb g rfl, hs, h.le, h.cm, by simpa using h.len, by simpa using h.pre⟩
theorem Row.of_own {w : World} {n s base : Nat} {e : TypeId} {xs : List Value} {v : Value} (h : w.ownsRow base e s v n xs) : ∃ A c cs, v = slv A n c ∧ Row A n c s xs cs ∧ (⟨A, e, cs⟩ : Hp).sat w ∧ ∀ g, A = some g → v.ownBlock = some g ∧ base ≤ g := by
  obtain ⟨h1, h2⟩ := h
  rcases h2 with ⟨rfl, rfl⟩ | ⟨g, cap, cur, rfl, hb, hh, hc, hm, hz, ht⟩
  · have : xs = [] := by simpa using h1
    subst this
    exact ⟨none, 0, [], rfl, Row.empty s, rfl, fun g hg => by cases hg⟩
  · exact ⟨some g, cap, cur.toList, rfl, ⟨(fun e => by cases e), hc, hm, by simpa using hz, h1, ht⟩, by simpa [Hp.sat, Blk] using hh, (fun g' hg => by cases hg; exact ⟨rfl, hb⟩)⟩
theorem Mm.rd_row {S : Nat → Prop} {w0 w : World} {M : List Hp} (hm : Mm S w0 M w) {A : Option Nat} {n c s : Nat} {t : TypeId} {xs cs : List Value} (hM : (⟨A, t, cs⟩ : Hp) ∈ M) (hr : Row A n c s xs cs) : Rd w w.heap.size (A.map fun g => ⟨g, 0, none⟩) xs := by
  cases A with
  | none =>
    have h1 := hr.xl
    rw [(hr.nil rfl).1, Nat.zero_mul] at h1
    intro h; omega
  | some g => exact hm.rd hM hr.pfx

section
variable {P : Program} {T : List (Nat × TI)} {N : Nat} {L : List (Nat × Value)} {a : Act} {w w0 : World} {S : Nat → Prop} {M M' : List Hp} {o : Oper} {x y z : Operand} {v u : Value} {K : Value → World → Prop}

def litN : Int → Option Nat
  | .ofNat n => some n
  | _ => none
theorem litN_ok {i : Int} {k : Nat} (h : litN i = some k) : i = (k : Int) := by
  cases i with
  | ofNat n => simp only [litN, Option.some.injEq] at h; subst h; rfl
  | negSucc n => simp [litN] at h
/-! #### addresses of elements -/
theorem r_ix {t e : TypeId} {i : TI} {g off len cap k s : Nat} {kk : IntKind} (hs : Sl N L a) (ho : o.op = .indexAddr t x y) (hx : ev L x = some (.slice (some ⟨g, off, none⟩) len cap)) (hy : ev L y = some (.int kk (k : Int))) (hT : TabOk P T) (hc : tlk T t = some i) (hd : i.d = .sl e) (he : tsz T e = some s) (hk : k < len) : RunV P a o w (.pointer (some ⟨g, off + k * s, none⟩)) := by
  replace hx := hs.ev hx; replace hy := hs.ev hy
  obtain ⟨j, hj, hjs⟩ := tsz_ok he
  subst hjs
  unfold RunV execOp
  simp [ho, hx, hy, run_indexAt hT hc hd hj hk]
theorem r_ix1 {t e : TypeId} {i : TI} {g off len cap k s : Nat} {kk : IntKind} (hs : Sl N L a) (ho : o.op = .indexAddr t x y) (hx : ev L x = some (.slice (some ⟨g, off, none⟩) len cap)) (hy : ev L y = some (.int kk (k : Int))) (hT : TabOk P T) (hc : tlk T t = some i) (hd : i.d = .sl e) (he : tsz T e = some s) (h1 : Nat.beq s 1 = true) (hk : k < len) : RunV P a o w (.pointer (some ⟨g, off + k, none⟩)) := by
  replace hx := hs.ev hx; replace hy := hs.ev hy
  obtain ⟨j, hj, hjs⟩ := tsz_ok he
  subst hjs
  replace h1 := Nat.eq_of_beq_eq_true h1
  unfold RunV execOp
  simp [ho, hx, hy, run_indexAt hT hc hd hj hk, h1]
theorem r_ix0 {t e : TypeId} {i : TI} {g len cap k s : Nat} {kk : IntKind} (hs : Sl N L a) (ho : o.op = .indexAddr t x y) (hx : ev L x = some (.slice (some ⟨g, 0, none⟩) len cap)) (hy : ev L y = some (.int kk (k : Int))) (hT : TabOk P T) (hc : tlk T t = some i) (hd : i.d = .sl e) (he : tsz T e = some s) (hk : k < len) : RunV P a o w (.pointer (some ⟨g, k * s, none⟩)) := by
  replace hx := hs.ev hx; replace hy := hs.ev hy
  obtain ⟨j, hj, hjs⟩ := tsz_ok he
  subst hjs
  unfold RunV execOp
  simp [ho, hx, hy, run_indexAt hT hc hd hj hk]
theorem r_ix01 {t e : TypeId} {i : TI} {g len cap k s : Nat} {kk : IntKind} (hs : Sl N L a) (ho : o.op = .indexAddr t x y) (hx : ev L x = some (.slice (some ⟨g, 0, none⟩) len cap)) (hy : ev L y = some (.int kk (k : Int))) (hT : TabOk P T) (hc : tlk T t = some i) (hd : i.d = .sl e) (he : tsz T e = some s) (h1 : Nat.beq s 1 = true) (hk : k < len) : RunV P a o w (.pointer (some ⟨g, k, none⟩)) := by
  replace hx := hs.ev hx; replace hy := hs.ev hy
  obtain ⟨j, hj, hjs⟩ := tsz_ok he
  subst hjs
  replace h1 := Nat.eq_of_beq_eq_true h1
  unfold RunV execOp
  simp [ho, hx, hy, run_indexAt hT hc hd hj hk, h1]
theorem r_ixa {t e : TypeId} {i : TI} {g off len k s : Nat} {kk : IntKind} (hs : Sl N L a) (ho : o.op = .indexAddr t x y) (hx : ev L x = some (.pointer (some ⟨g, off, none⟩))) (hy : ev L y = some (.int kk (k : Int))) (hT : TabOk P T) (hc : tlk T t = some i) (hd : i.d = .arr len e) (he : tsz T e = some s) (hk : k < len) : RunV P a o w (.pointer (some ⟨g, off + k * s, none⟩)) := by
  replace hx := hs.ev hx; replace hy := hs.ev hy
  obtain ⟨j, hj, hjs⟩ := tsz_ok he
  subst hjs
  unfold RunV execOp
  simp [ho, hx, hy, run_indexAtA hT hc hd hj hk]
theorem r_ixa1 {t e : TypeId} {i : TI} {g off len k s : Nat} {kk : IntKind} (hs : Sl N L a) (ho : o.op = .indexAddr t x y) (hx : ev L x = some (.pointer (some ⟨g, off, none⟩))) (hy : ev L y = some (.int kk (k : Int))) (hT : TabOk P T) (hc : tlk T t = some i) (hd : i.d = .arr len e) (he : tsz T e = some s) (h1 : Nat.beq s 1 = true) (hk : k < len) : RunV P a o w (.pointer (some ⟨g, off + k, none⟩)) := by
  replace hx := hs.ev hx; replace hy := hs.ev hy
  obtain ⟨j, hj, hjs⟩ := tsz_ok he
  subst hjs
  replace h1 := Nat.eq_of_beq_eq_true h1
  unfold RunV execOp
  simp [ho, hx, hy, run_indexAtA hT hc hd hj hk, h1]
theorem r_ixl {t e : TypeId} {i : TI} {g off len cap k s : Nat} {kk : IntKind} (hs : Sl N L a) (ho : o.op = .indexAddr t x y) (hx : ev L x = some (.slice (some ⟨g, off, none⟩) len cap)) {ii : Int} (hy : ev L y = some (.int kk ii)) (hii : litN ii = some k) (hT : TabOk P T) (hc : tlk T t = some i) (hd : i.d = .sl e) (he : tsz T e = some s) (hk : ii < (len : Int)) : RunV P a o w (.pointer (some ⟨g, off + k * s, none⟩)) := r_ix hs ho hx (by rw [← litN_ok hii]; exact hy) hT hc hd he (by have e := litN_ok hii; omega)
theorem r_ix1l {t e : TypeId} {i : TI} {g off len cap k s : Nat} {kk : IntKind} (hs : Sl N L a) (ho : o.op = .indexAddr t x y) (hx : ev L x = some (.slice (some ⟨g, off, none⟩) len cap)) {ii : Int} (hy : ev L y = some (.int kk ii)) (hii : litN ii = some k) (hT : TabOk P T) (hc : tlk T t = some i) (hd : i.d = .sl e) (he : tsz T e = some s) (h1 : Nat.beq s 1 = true) (hk : ii < (len : Int)) : RunV P a o w (.pointer (some ⟨g, off + k, none⟩)) := r_ix1 hs ho hx (by rw [← litN_ok hii]; exact hy) hT hc hd he h1 (by have e := litN_ok hii; omega)
theorem r_ix0l {t e : TypeId} {i : TI} {g len cap k s : Nat} {kk : IntKind} (hs : Sl N L a) (ho : o.op = .indexAddr t x y) (hx : ev L x = some (.slice (some ⟨g, 0, none⟩) len cap)) {ii : Int} (hy : ev L y = some (.int kk ii)) (hii : litN ii = some k) (hT : TabOk P T) (hc : tlk T t = some i) (hd : i.d = .sl e) (he : tsz T e = some s) (hk : ii < (len : Int)) : RunV P a o w (.pointer (some ⟨g, k * s, none⟩)) := r_ix0 hs ho hx (by rw [← litN_ok hii]; exact hy) hT hc hd he (by have e := litN_ok hii; omega)
theorem r_ix01l {t e : TypeId} {i : TI} {g len cap k s : Nat} {kk : IntKind} (hs : Sl N L a) (ho : o.op = .indexAddr t x y) (hx : ev L x = some (.slice (some ⟨g, 0, none⟩) len cap)) {ii : Int} (hy : ev L y = some (.int kk ii)) (hii : litN ii = some k) (hT : TabOk P T) (hc : tlk T t = some i) (hd : i.d = .sl e) (he : tsz T e = some s) (h1 : Nat.beq s 1 = true) (hk : ii < (len : Int)) : RunV P a o w (.pointer (some ⟨g, k, none⟩)) := r_ix01 hs ho hx (by rw [← litN_ok hii]; exact hy) hT hc hd he h1 (by have e := litN_ok hii; omega)
theorem r_ixal {t e : TypeId} {i : TI} {g off len k s : Nat} {kk : IntKind} (hs : Sl N L a) (ho : o.op = .indexAddr t x y) (hx : ev L x = some (.pointer (some ⟨g, off, none⟩))) {ii : Int} (hy : ev L y = some (.int kk ii)) (hii : litN ii = some k) (hT : TabOk P T) (hc : tlk T t = some i) (hd : i.d = .arr len e) (he : tsz T e = some s) (hk : ii < (len : Int)) : RunV P a o w (.pointer (some ⟨g, off + k * s, none⟩)) := r_ixa hs ho hx (by rw [← litN_ok hii]; exact hy) hT hc hd he (by have e := litN_ok hii; omega)
theorem r_ixa1l {t e : TypeId} {i : TI} {g off len k s : Nat} {kk : IntKind} (hs : Sl N L a) (ho : o.op = .indexAddr t x y) (hx : ev L x = some (.pointer (some ⟨g, off, none⟩))) {ii : Int} (hy : ev L y = some (.int kk ii)) (hii : litN ii = some k) (hT : TabOk P T) (hc : tlk T t = some i) (hd : i.d = .arr len e) (he : tsz T e = some s) (h1 : Nat.beq s 1 = true) (hk : ii < (len : Int)) : RunV P a o w (.pointer (some ⟨g, off + k, none⟩)) := r_ixa1 hs ho hx (by rw [← litN_ok hii]; exact hy) hT hc hd he h1 (by have e := litN_ok hii; omega)

/-! #### loads -/
theorem r_load {t : TypeId} {i : TI} {p : Addr} (hs : Sl N L a) (ho : o.op = .load t x) (hx : ev L x = some (.pointer (some p))) (hT : TabOk P T) (hc : tlk T t = some i) (hf : i.d.flat = true) (hw : w.cell? p = some v) : RunV P a o w v := by
  replace hx := hs.ev hx
  unfold RunV execOp
  simp [ho, hx, Instr.loadAt, loadVar, Instr.sureAddr, run_isAgg (hT _ _ hc), hf, hw]
theorem r_loadA {t : TypeId} {i : TI} {b n : Nat} {vs : List Value} (hs : Sl N L a) (ho : o.op = .load t x) (hx : ev L x = some (.pointer (some ⟨b, n, none⟩))) (hT : TabOk P T) (hc : tlk T t = some i) (hf : i.d.flat = false) (hw : Ro w b n vs) (hl : vs.length = i.sz) : RunV P a o w (.agg vs.toArray) := by
  replace hx := hs.ev hx
  have h := run_loadCells_list (P := P) w ⟨b, n, none⟩ vs (fun j u hu => by rw [add_lit]; exact hw j u hu)
  rw [hl] at h
  unfold RunV execOp
  simp [ho, hx, Instr.loadAt, loadVar, Instr.sureAddr, run_isAgg (hT _ _ hc), hf, run_sizeOf (hT _ _ hc), h]

/-! #### parts, lengths, functions -/
theorem r_extract {k : Nat} {vs : List Value} (hs : Sl N L a) (ho : o.op = .extract x k) (hx : ev L x = some (.tuple vs.toArray)) (hv : vs[k]? = some v) : RunV P a o w v := by
  replace hx := hs.ev hx
  have hv' : vs.toArray[k]? = some v := by simpa using hv
  unfold RunV execOp
  simp [ho, hx, Instr.extract, hv]
theorem r_field {t ft : TypeId} {f off : Nat} {i j : TI} {fs : List (Nat × TypeId)} {cs : List Value} (hs : Sl N L a) (ho : o.op = .field t x f) (hx : ev L x = some (.agg cs.toArray)) (hT : TabOk P T) (hc : tlk T t = some i) (hd : i.d = .st fs) (hf : fs[f]? = some (off, ft)) (hft : tlk T ft = some j) (hj : j.d.flat = true) (hv : cs[off]? = some v) : RunV P a o w v := by
  replace hx := hs.ev hx
  obtain ⟨gs, h1, h2⟩ := (hT _ _ hc).st hd
  subst h2
  rw [List.getElem?_map] at hf
  cases hg : gs.toList[f]? with
  | none => rw [hg] at hf; cases hf
  | some fl =>
    rw [hg] at hf
    simp only [Option.map_some, Option.some.injEq, Prod.mk.injEq] at hf
    obtain ⟨rfl, rfl⟩ := hf
    have hg' : gs[f]? = some fl := by simpa using hg
    unfold RunV execOp
    simp [ho, hx, Instr.field, run_und h1, hg', asAgg, part, run_isAgg (hT _ _ hft), hj, hv]
theorem r_len {ts : Array TypeId} {t e : TypeId} {i : TI} {A : Option Addr} {n c : Nat} (hs : Sl N L a) (ho : o.op = .call { callee := .builtin .len, args := #[x], argTypes := ts }) (hx : ev L x = some (.slice A n c)) (hts : ts[0]? = some t) (hT : TabOk P T) (hc : tlk T t = some i) (hd : i.d = .sl e) : RunV P a o w (.int .i64 (n : Int)) := by
  replace hx := hs.ev hx
  unfold RunV execOp resolve invoke builtin
  simp [ho, hx, Builtin.len_, hts, run_und ((hT _ _ hc).sl hd), goInt]
theorem TOk.str {t : TypeId} {i : TI} (h : TOk P t i) (hd : i.d = .str) : P.underlying t = some .string := by
  obtain ⟨d, h1, h2⟩ := h.und
  rw [hd] at h2
  cases d <;> simp [tdOf] at h2
  exact h1
theorem r_slen {ts : Array TypeId} {t : TypeId} {i : TI} {s : ByteArray} (hs : Sl N L a) (ho : o.op = .call { callee := .builtin .len, args := #[x], argTypes := ts }) (hx : ev L x = some (.string s)) (hts : ts[0]? = some t) (hT : TabOk P T) (hc : tlk T t = some i) (hd : i.d = .str) : RunV P a o w (.int .i64 (s.size : Int)) := by
  replace hx := hs.ev hx
  unfold RunV execOp resolve invoke builtin
  simp [ho, hx, Builtin.len_, hts, run_und ((hT _ _ hc).str hd), goInt]
theorem r_makeFunc {fn : Fn} {xs ys : List Operand} {vs us : List Value} (hs : Sl N L a) (ho : o.op = .makeFunc fn xs.toArray ys.toArray) (hx : evs L xs = some vs) (hy : evs L ys = some us) : RunV P a o w (.func fn vs.toArray us.toArray) := by
  replace hx := hs.evs hx; replace hy := hs.evs hy
  subst hx; subst hy
  unfold RunV execOp
  simp [ho, Instr.makeFunc]
theorem r_nilCheck {p : Addr} (hs : Sl N L a) (ho : o.op = .nilCheck x) (hx : ev L x = some (.pointer (some p))) : RunV P a o w (.pointer (some p)) := by
  replace hx := hs.ev hx
  unfold RunV execOp
  simp [ho, hx]
theorem r_nilCheckF {f : Fn} {p q : Array Value} {n : FuncId} (hs : Sl N L a) (ho : o.op = .nilCheck x) (hx : ev L x = some (.func f p q)) (hf : f = .func n) : RunV P a o w (.func f p q) := by
  replace hx := hs.ev hx
  subst hf
  unfold RunV execOp
  simp [ho, hx]
/-- where the fields lie -/
def placesOf (T : List (Nat × TI)) (fs : List (Nat × TypeId)) : List (Nat × Nat) := fs.map fun p => (p.1, ((tlk T p.2).map (·.sz)).getD 0)
theorem run_places (hT : TabOk P T) : ∀ (l : List Field), (l.map fun f => (f.offset, f.type)).all (fun p => (tlk T p.2).isSome) = true →
    Sem.run P (l.mapM fun f => do pure (f.offset, ← sizeOf f.type)) w = .ok (placesOf T (l.map fun f => (f.offset, f.type))) w
  | [], _ => by simp [placesOf]
  | f :: r, h => by
    simp only [List.map_cons, List.all_cons, Bool.and_eq_true] at h
    obtain ⟨h1, h2⟩ := h
    obtain ⟨j, hj⟩ := Option.isSome_iff_exists.1 h1
    have ih := run_places hT r h2
    simp only [List.mapM_cons, Sem.run_bind, run_sizeOf (hT _ _ hj), Result.andThen_ok, Sem.run_pure, ih]
    simp [placesOf, hj]
theorem Fill.fill {fs : List (Nat × TypeId)} {ps : List (Nat × Value)} {cs ds : List Value} (h : Fill T fs ps cs ds) : Instr.fill (fun k => (placesOf T fs)[k]?) cs.toArray ps = some ds.toArray := by
  induction h with
  | nil => rfl
  | cons hf ht hv hl hp _ ih => rw [fill_one (by simp [placesOf, hf, ht, hl]) hv hp]; exact ih
/-- a struct literal -/
theorem r_build {t : TypeId} {i : TI} {fs : List (Nat × TypeId)} {ps : List (Nat × Operand)} {vs : List (Nat × Value)} {zs cs : List Value} (hs : Sl N L a) (ho : o.op = .build t ps.toArray) (hT : TabOk P T) (hc : tlk T t = some i) (hd : i.d = .st fs) (hall : fs.all (fun p => (tlk T p.2).isSome) = true) (hp : evp L ps = some vs) (hz : vcF i.z = some zs) (hf : fillF T fs vs zs = some cs) : RunV P a o w (.agg cs.toArray) := by
  replace hz := vcF_ok hz
  replace hf := fillF_ok hf
  replace hp := hs.evp hp
  obtain ⟨gs, h1, h2⟩ := (hT _ _ hc).st hd
  obtain ⟨l⟩ := gs
  subst h2
  have hpl := run_places (w := w) hT l hall
  have hfl := hf.fill
  unfold RunV execOp
  simp only [ho, Instr.build, Sem.run_bind, run_zero (hT _ _ hc), run_und h1, Result.andThen_ok, hz.eq, List.mapM_toArray, Sem.run_map, hpl]
  simp only [List.map_toArray, hp, List.getElem?_toArray, hfl]
  simp
/-- an array literal -/
theorem r_buildA {t e : TypeId} {n : Nat} {i j : TI} {ps : List (Nat × Operand)} {vs : List (Nat × Value)} {zs cs : List Value} (hs : Sl N L a) (ho : o.op = .build t ps.toArray) (hT : TabOk P T) (hc : tlk T t = some i) (hd : i.d = .arr n e) (he : tlk T e = some j) (hp : evp L ps = some vs) (hz : vcF i.z = some zs) (hf : fillAF j.sz vs zs = some cs) : RunV P a o w (.agg cs.toArray) := by
  replace hz := vcF_ok hz
  replace hf := fillAF_ok hf
  replace hp := hs.evp hp
  have hfl := hf.fill
  unfold RunV execOp
  simp only [ho, Instr.build, Sem.run_bind, run_zero (hT _ _ hc), run_und ((hT _ _ hc).arr hd), run_sizeOf (hT _ _ he), Result.andThen_ok, hz.eq]
  simp only [List.map_toArray, hp, hfl]
  simp

/-! #### what changes the world -/
/-- the operation, or the call that it is, gives a value and a world of which K holds -/
def Does (P : Program) (a : Act) (o : Oper) (w : World) (K : Value → World → Prop) : Prop :=
  match (execOp a.eval o).run P w with
  | .ok (.value v) w' => K v w'
  | .ok .skip w' => K undef w'
  | .ok (.enter f args) w' => Calls P f args w' (fun e w'' => ∃ v, e = .returned v ∧ K v w'')
  | _ => False
theorem RunV.does (h : RunV P a o w v) : Does P a o w (fun v' w' => v' = v ∧ w' = w) := by
  unfold Does; rw [show (execOp a.eval o).run P w = _ from h]; exact ⟨rfl, rfl⟩
theorem Does.wp {next : Act → World → Prop} {Q : Exit → Act → World → Prop} (h : Does P a o w (fun v w' => next (a.put o.dst v) w')) : o.wp P a w next Q := by
  unfold Does at h
  unfold Oper.wp
  generalize (execOp a.eval o).run P w = r at *
  cases r with
  | ok n w' =>
    cases n <;> simp only [Oper.upon] at h ⊢ <;> first | exact h | exact h.elim | skip
    exact h.mono fun e w'' ⟨v, he, hk⟩ => by subst he; exact hk
  | halt x w' => exact h.elim
theorem Does.mono {K' : Value → World → Prop} (h : Does P a o w K) (hk : ∀ v w', K v w' → K' v w') : Does P a o w K' := by
  unfold Does at *
  generalize (execOp a.eval o).run P w = r at *
  cases r with
  | ok n w' =>
    cases n <;> first | exact hk _ _ h | exact h.elim | skip
    exact Calls.mono h fun e w'' ⟨v, he, h'⟩ => ⟨v, he, hk _ _ h'⟩
  | halt x w' => exact h.elim
end
end Go.Proofs.YtajkekhnfobgiaaGreatDoor

/- Allocations, stores, appends, calls; the steps of a walk. -/
namespace Go.Proofs.YtajkekhnfobgiaaGreatDoor
set_option maxRecDepth 20000
open Go.RowKit

section
variable {P : Program} {T : List (Nat × TI)} {N : Nat} {L : List (Nat × Value)} {a : Act} {w w0 : World} {S : Nat → Prop} {M M' : List Hp} {o : Oper} {x y z : Operand} {v u : Value} {K : Value → World → Prop}

theorem d_alloc {e : TypeId} {i : TI} {cs : List Value} (ho : o.op = .alloc e) (hT : TabOk P T) (hc : tlk T e = some i) (hz : vcF i.z = some cs) (hm : Mm S w0 M w) :
    Does P a o w (fun v w' => ∃ g, v = .pointer (some ⟨g, 0, none⟩) ∧ w.heap.size ≤ g ∧ Mm S w0 (⟨some g, e, cs⟩ :: M) w') := by
  replace hz := vcF_ok hz
  unfold Does execOp
  simp [ho, Instr.alloc, run_zero (hT _ _ hc), newVar, newRow, hz.eq]
  exact hm.alloc e cs
theorem d_box {e : TypeId} {cs : List Value} (hs : Sl N L a) (ho : o.op = .box e x) (hx : ev L x = some v) (hz : vcF v = some cs) (hm : Mm S w0 M w) :
    Does P a o w (fun v w' => ∃ g, v = .pointer (some ⟨g, 0, none⟩) ∧ w.heap.size ≤ g ∧ Mm S w0 (⟨some g, e, cs⟩ :: M) w') := by
  replace hz := vcF_ok hz
  replace hx := hs.ev hx
  unfold Does execOp
  simp [ho, hx, Instr.box, newVar, newRow, hz.eq]
  exact hm.alloc e cs
def zrep : Nat → List Value → List Value
  | 0, _ => []
  | n + 1, z => z ++ zrep n z
theorem zrep_eq (n : Nat) (z : List Value) : (Array.range (n * z.length)).map (fun k => z.toArray[k % z.toArray.size]!) = (zrep n z).toArray := by
  induction n with
  | zero => simp [zrep, Array.range]
  | succ n ih =>
    rcases Nat.eq_zero_or_pos z.length with h0 | h0
    · have : z = [] := List.eq_nil_of_length_eq_zero h0
      subst this
      have e : ∀ m, zrep m [] = [] := fun m => by induction m <;> simp_all [zrep]
      simp [e, Array.range]
    · have hz : (zrep n z).length = n * z.length := by
        have := congrArg Array.size ih
        simpa using this.symm
      apply Array.ext
      · simp [zrep, hz, Nat.succ_mul, Nat.add_comm]
      · intro k h1 h2
        have hk : k < (n + 1) * z.length := by simpa using h1
        simp only [Array.getElem_map, Array.getElem_range, zrep, List.getElem_toArray]
        by_cases hlt : k < z.length
        · rw [List.getElem_append_left hlt]
          simp [Nat.mod_eq_of_lt hlt, hlt]
        · rw [List.getElem_append_right (by omega)]
          have hk' : k - z.length < n * z.length := by rw [Nat.succ_mul] at hk; omega
          have e := congrArg (fun (A : Array Value) => A[k - z.length]?) ih
          simp only [Array.getElem?_map, List.getElem?_toArray] at e
          rw [List.getElem?_eq_getElem (by rw [hz]; exact hk')] at e
          rw [Array.getElem?_range, if_pos hk'] at e
          simp only [Option.map_some, Option.some.injEq] at e
          rw [← e]
          congr 1
          rw [Nat.mod_eq_sub_mod (by simpa using Nat.le_of_not_lt hlt)]
          simp
/-- a slice literal -/
theorem d_buildSlice {t e : TypeId} {n : Nat} {i j : TI} {ps : List (Nat × Operand)} {vs : List (Nat × Value)} {zs cs : List Value} (hs : Sl N L a) (ho : o.op = .buildSlice t n ps.toArray) (hT : TabOk P T) (hc : tlk T t = some i) (hd : i.d = .sl e) (he : tlk T e = some j) (hn : Nat.blt (n * j.sz) 16777216 = true) (h0 : Nat.beq (n * j.sz) 0 = false) (hp : evp L ps = some vs) (hz : vcF j.z = some zs) (hzl : zs.length = j.sz) (hf : fillAF j.sz vs (zrep n zs) = some cs) (hm : Mm S w0 M w) :
    Does P a o w (fun v w' => ∃ g, v = .slice (some ⟨g, 0, none⟩) n n ∧ w.heap.size ≤ g ∧ Mm S w0 (⟨some g, e, cs⟩ :: M) w') := by
  replace hz := vcF_ok hz
  replace hf := fillAF_ok hf
  replace hp := hs.evp hp
  have hfl := hf.fill
  have hn' : ¬ n * j.sz > 2 ^ 24 := by have : n * j.sz < 16777216 := by simpa using hn
                                       omega
  have h0' : ¬ n * j.sz = 0 := fun e => by rw [e] at h0; cases h0
  have hzr := zrep_eq n zs
  rw [hzl] at hzr
  unfold Does execOp
  simp only [ho, Instr.buildSlice, Sem.run_bind, run_und ((hT _ _ hc).sl hd), run_sizeOf (hT _ _ he), Result.andThen_ok, if_neg hn', if_neg h0', Sem.run_pure, run_zero (hT _ _ he), hz.eq, hzr]
  simp only [List.map_toArray, hp, hfl]
  simp [newRow]
  exact hm.alloc e cs
theorem d_makeSlice {t e : TypeId} {n : Nat} {kk kl : IntKind} {i j : TI} {zs : List Value} (hs : Sl N L a) (ho : o.op = .makeSlice t x y) (hx : ev L x = some (.int kk (n : Int))) (hy : ev L y = some (.int kl (n : Int))) (hT : TabOk P T) (hc : tlk T t = some i) (hd : i.d = .sl e) (he : tlk T e = some j) (hz : vcF j.z = some zs) (hzl : zs.length = j.sz) (hn : n ≤ 1048576) (hsz : Nat.ble j.by_ 1048576 = true) (hm : Mm S w0 M w) :
    Does P a o w (fun v w' => ∃ g, v = .slice (some ⟨g, 0, none⟩) n n ∧ w.heap.size ≤ g ∧ Mm S w0 (⟨some g, e, zrep n zs⟩ :: M) w') := by
  replace hz := vcF_ok hz
  replace hx := hs.ev hx; replace hy := hs.ev hy
  obtain ⟨i0, h1, h2, h3, h4⟩ := (hT _ _ he).info
  have hb : j.by_ ≤ 1048576 := by simpa using hsz
  have hmul : j.by_ * n ≤ 1048576 * 1048576 := Nat.mul_le_mul hb hn
  have := run_make w t e i0 j.z ((hT _ _ hc).sl hd) h1 h2 kk kl n n (by omega) (by omega) (by rw [h4]; rw [← Int.natCast_mul]; exact Int.ofNat_le.2 (show j.by_ * n ≤ 281474976710656 by omega)) (by omega)
  have e1 : madeCells j.z.cells (n * i0.size) = (zrep n zs).toArray := by
    rw [h3, hz.eq, ← hzl, ← zrep_eq]
    rfl
  simp only [Int.toNat_natCast] at this
  rw [e1] at this
  unfold Does execOp
  simp only [ho, hx, hy, Sem.run_bind, this, Result.andThen_ok]
  exact ⟨_, rfl, Nat.le_refl _, hm.alloc e _⟩

/-! #### stores -/
theorem setRow_fr {g : Nat} {A : Array Value} : Fr (fun k => (some g : Option Nat) = some k) w (w.setRow g A) := by
  refine ⟨rfl, rfl, rfl, by simp [World.setRow], fun k hk hne => ?_⟩
  have : ¬ g = k := fun e => hne (by rw [e])
  simp [World.setRow, Array.getElem?_modify, this]
theorem setRow_sat {g : Nat} {t : TypeId} {cs ds : List Value} (h : (⟨some g, t, cs⟩ : Hp).sat w) : (⟨some g, t, ds⟩ : Hp).sat (w.setRow g ds.toArray) := by
  have h' : w.heap[g]? = some (.cells cs.toArray t (0, 0)) := h
  show (w.setRow g ds.toArray).heap[g]? = _
  exact setRow_heap w g _ _ t _ h'
theorem Mm.store (hm : Mm S w0 M w) {g : Nat} {t : TypeId} {cs ds : List Value} (hr : Rep M ⟨some g, t, cs⟩ ⟨some g, t, ds⟩ M') : Mm S w0 M' (w.setRow g ds.toArray) :=
  hm.turn hr setRow_fr (setRow_sat (hm.me _ hr.mem)) fun _ hk => .inl hk
theorem run_store_hp {g n : Nat} {t ty : TypeId} {i : TI} {cs ds vs : List Value} (hT : TabOk P T) (hc : tlk T ty = some i) (hl : vs.length = i.sz) (hz : VC v vs) (h1 : vs.all (·.oneCell') = true) (hp : Put cs n vs ds) (hs : (⟨some g, t, cs⟩ : Hp).sat w) :
    Sem.run P (Instr.storeAt ty (.pointer (some ⟨g, n, none⟩)) v) w = .ok () (w.setRow g ds.toArray) := by
  obtain ⟨h2, rfl⟩ := hp.eq
  have := run_storeCells_at (P := P) g n t vs 0 cs.toArray w hs (by simpa using h2) (fun u hu => List.all_eq_true.1 h1 u hu)
  simp only [Nat.add_zero] at this
  simp [Instr.storeAt, Instr.sureAddr, storeVar, run_sizeOf (hT _ _ hc), hz.eq, hl, this]
/-- a store: cells at a place that is given by a number -/
theorem d_store {g n : Nat} {t ty : TypeId} {i : TI} {cs ds vs : List Value} (hs : Sl N L a) (ho : o.op = .store ty x y) (hx : ev L x = some (.pointer (some ⟨g, n, none⟩))) (hy : ev L y = some v) (hT : TabOk P T) (hc : tlk T ty = some i) (hz : vcF v = some vs) (hl : vs.length = i.sz) (h1 : vs.all (·.oneCell') = true) (hm : Mm S w0 M w) (hr : Rep M ⟨some g, t, cs⟩ ⟨some g, t, ds⟩ M') (hp : putF cs n vs = some ds) :
    Does P a o w (fun _ w' => Mm S w0 M' w') := by
  replace hz := vcF_ok hz
  replace hp := putF_ok hp
  replace hx := hs.ev hx; replace hy := hs.ev hy
  unfold Does execOp
  simp only [ho, hx, hy, Sem.run_bind, run_store_hp hT hc hl hz h1 hp (hm.me _ hr.mem), Result.andThen_ok]
  exact hm.store hr
theorem Put.one {cs : List Value} {n : Nat} {v : Value} (hn : n < cs.length) : Put cs n [v] (cs.set n v) := by
  induction cs generalizing n with
  | nil => simp at hn
  | cons c r ih =>
    cases n with
    | zero => exact .cons c v (.nil r)
    | succ n => exact .skip c (ih (by simpa using hn))
theorem putF_nil (cs : List Value) : putF cs 0 [] = some cs := by cases cs <;> rfl
theorem putF_one {cs : List Value} {n : Nat} {v : Value} (hn : n < cs.length) : putF cs n [v] = some (cs.set n v) := by
  induction cs generalizing n with
  | nil => simp at hn
  | cons c r ih =>
    cases n with
    | zero => simp [putF, putF_nil]
    | succ n => simp only [putF, ih (show n < r.length by simpa using hn), List.set_cons_succ]
/-- a store of one cell, wherever -/
theorem d_store1 {g n : Nat} {t ty : TypeId} {i : TI} {cs : List Value} (hs : Sl N L a) (ho : o.op = .store ty x y) (hx : ev L x = some (.pointer (some ⟨g, n, none⟩))) (hy : ev L y = some v) (hT : TabOk P T) (hc : tlk T ty = some i) (hz : vcF v = some [v]) (hl : Nat.beq i.sz 1 = true) (h1 : v.oneCell' = true) (hm : Mm S w0 M w) (hr : Rep M ⟨some g, t, cs⟩ ⟨some g, t, cs.set n v⟩ M') (hn : n < cs.length) :
    Does P a o w (fun _ w' => Mm S w0 M' w') :=
  d_store hs ho hx hy hT hc hz (by rw [Nat.eq_of_beq_eq_true hl]; rfl) (by simp [h1]) hm hr (putF_one hn)

/-! #### append -/
theorem d_append {t e : TypeId} {i j : TI} {A : Option Nat} {A2 : Option Addr} {n c m c2 g2 o2 : Nat} {xs cs news : List Value} {ts : Array TypeId} (hs : Sl N L a) (ho : o.op = .call { callee := .builtin .append, args := #[x, y], argTypes := ts }) (hx : ev L x = some (slv A n c)) (hy : ev L y = some (.slice A2 m c2)) (hA2 : A2 = some ⟨g2, o2, none⟩) (hts : ts = #[t, t]) (hT : TabOk P T) (hc : tlk T t = some i) (hd : i.d = .sl e) (he : tlk T e = some j) (hsz : Nat.blt 0 j.sz = true) (hzl : j.z.cells.size = j.sz)
    (hm : Mm S w0 M w) (hM : (⟨A, e, cs⟩ : Hp) ∈ M) (hr : Row A n c j.sz xs cs) (hl : news.length = m * j.sz) (hnew : Ro w g2 o2 news) (h1 : news.all (·.oneCell') = true) (hb : (n + m) * j.by_ ≤ 140737488355328) (h63 : n + m ≤ 140737488355328) :
    Does P a o w (fun v w' => ∃ A' c' cs', v = slv A' (n + m) c' ∧ Row A' (n + m) c' j.sz (xs ++ news) cs' ∧ ∀ M', Rep M ⟨A, e, cs⟩ ⟨A', e, cs'⟩ M' → Mm S w0 M' w') := by
  replace hx := hs.ev hx; replace hy := hs.ev hy
  subst hA2; subst hts
  obtain ⟨i0, q1, q2, q3, q4⟩ := (hT _ _ he).info
  have hsz' : 0 < j.sz := by simpa using hsz
  have hown := hr.own (w := w) (base := 0) (hm.me _ hM) (fun g _ => Nat.zero_le _)
  obtain ⟨v', w', hrun, k1, k2, k3, k4⟩ := run_append_own_at (P := P) w 0 t o.type e i0 j.z j.sz j.by_ ((hT _ _ hc).sl hd) q1 q2 q3 q4 hzl hsz' _ n xs hown ⟨g2, o2, none⟩ m c2 news hl
    (fun k u hu => by rw [add_lit]; exact hnew k u hu) (fun u hu => List.all_eq_true.1 h1 u hu) (by unfold maxLen; omega) hb (Nat.zero_le _)
  obtain ⟨A', c', cs', rfl, hrow, hsat, hg'⟩ := Row.of_own k1
  unfold Does execOp resolve invoke builtin
  simp only [ho, Sem.run_bind, Sem.run_pure, Result.andThen_ok, List.map_toArray, List.map_cons, List.map_nil, hx, hy, hrun]
  have hob : (slv A n c).ownBlock = A := by cases A <;> rfl
  rw [hob] at k2 k4
  refine ⟨A', c', cs', rfl, hrow, fun M' hR => hm.turn hR ⟨k2.os, k2.tape, k2.output, k2.size, fun k hk hne => k2.block k hk (fun e => hne e.symm)⟩ hsat fun g hg => ?_⟩
  have h5 := (hg' g hg).1
  have hob' : (slv A' (n + m) c').ownBlock = A' := by cases A' <;> rfl
  rw [hob'] at k4
  rcases k4 with h6 | h6
  · left; show A = some g; rw [← h6]; exact hg
  · right; have h7 : A' = some g := hg
    rw [h7] at h6; cases h6; exact Nat.le_refl _

/-! #### calls -/
structure plain (P : Program) (f : FuncId) : Prop where
  h : (P.funcs[f]?).map (fun fn => !(fn.name == "runtime.NumGoroutine") && fn.body.isSome) = some true
/-- what a call gives -/
structure Ret (P : Program) (f : FuncId) (vs : List Value) (w : World) (K : Value → World → Prop) : Prop where
  c : Calls P f vs.toArray w (fun e w' => ∃ v, e = .returned v ∧ K v w')
theorem Ret.mono {f : FuncId} {vs : List Value} {K' : Value → World → Prop} (h : Ret P f vs w K) (hk : ∀ v w', K v w' → K' v w') : Ret P f vs w K' := .mk <| Calls.mono h.c fun _ _ ⟨v, he, hv⟩ => ⟨v, he, hk _ _ hv⟩
theorem d_callC {fo : Operand} {xs : List Operand} {vs caps : List Value} {ts : Array TypeId} {f : FuncId} (hs : Sl N L a) (ho : o.op = .call { callee := .value fo, args := xs.toArray, argTypes := ts }) (hf : ev L fo = some (.func (.func f) #[] caps.toArray)) (hx : evs L xs = some vs) (hp : plain P f)
    (hc : Ret P f (vs ++ caps) w K) : Does P a o w K := by
  replace hf := hs.ev hf; replace hx := hs.evs hx
  replace hp := hp.h
  rw [Option.map_eq_some_iff] at hp
  obtain ⟨fn, h1, h2⟩ := hp
  simp only [Bool.and_eq_true, Bool.not_eq_true'] at h2
  have h3 : fn.body.isNone = false := by cases hb : fn.body <;> simp_all
  unfold Does execOp resolve Deferred.ofValue
  simp only [ho, hf, Sem.run_bind, Sem.run_pure, Result.andThen_ok, List.map_toArray, hx]
  unfold invoke callFunc
  simp only [Sem.run_bind, run_program, Result.andThen_ok, h1, h2.1, h3, Bool.false_eq_true, if_false, Sem.run_pure, List.append_toArray]
  exact hc.c
theorem d_call {fo : Operand} {xs : List Operand} {vs : List Value} {ts : Array TypeId} {f : FuncId} (hs : Sl N L a) (ho : o.op = .call { callee := .value fo, args := xs.toArray, argTypes := ts }) (hf : ev L fo = some (.func (.func f) #[] #[])) (hx : evs L xs = some vs) (hp : plain P f)
    (hc : Ret P f vs w K) : Does P a o w K := d_callC (caps := []) hs ho hf hx hp (by rw [List.append_nil]; exact hc)
end
end Go.Proofs.YtajkekhnfobgiaaGreatDoor

/- The steps of a walk: one operation, a test, a loop, the end. -/
namespace Go.Proofs.YtajkekhnfobgiaaGreatDoor
set_option maxRecDepth 20000
open Go.RowKit

section
variable {P : Program} {T : List (Nat × TI)} {N : Nat} {L L' : List (Nat × Value)} {a : Act} {w w0 : World} {S : Nat → Prop} {M M' : List Hp} {o : Oper} {x y z : Operand} {v u : Value} {K : Value → World → Prop} {Q : Exit → Act → World → Prop} {ops : Array Oper} {rest : List Oper}

theorem st {d : Nat} (hs : Sl N L a) (hg : o.guard = none) (ho : o.dst = some d) (hd : Nat.blt d N = true) (h : Does P a o w K) (k : ∀ v w', K v w' → ∀ a, Sl N ((d, v) :: L) a → wpList P ops Q rest a w') : wpList P ops Q (o :: rest) a w :=
  wpList_plain hg fun K' hK => Does.wp (h.mono fun v w' hk => hK _ _ (by rw [ho]; exact k v w' hk _ (hs.put v hd)))
theorem stn (hs : Sl N L a) (hg : o.guard = none) (ho : o.dst = none) (h : Does P a o w K) (k : ∀ v w', K v w' → ∀ a, Sl N L a → wpList P ops Q rest a w') : wpList P ops Q (o :: rest) a w :=
  wpList_plain hg fun K' hK => Does.wp (h.mono fun v w' hk => hK _ _ (by rw [ho]; exact k v w' hk _ hs))
/-- the same for an operation that only yields a value -/
theorem sv {d : Nat} (hs : Sl N L a) (hg : o.guard = none) (ho : o.dst = some d) (hd : Nat.blt d N = true) (h : RunV P a o w v) (k : ∀ a, Sl N ((d, v) :: L) a → wpList P ops Q rest a w) : wpList P ops Q (o :: rest) a w :=
  st hs hg ho hd h.does fun _ _ ⟨hv, hw⟩ a h' => by subst hv; subst hw; exact k a h'
/-- guarded: its guard's value -/
theorem yielded_of {j d : Nat} {b : Bool} (hs : Sl N L a) (hj : (ops[j]?).bind (·.dst) = some d) (hd : Nat.blt d N = true) (hv : lk L d = some (.bool b)) : yielded ops a.tmps j = some b := by
  have h := hs.sl d _ hv
  have hd' : d < a.tmps.size := by rw [hs.sz]; simpa using hd
  have h1 : a.tmps[d]? = some (.bool b) := by
    rw [Array.getD_eq_getD_getElem?, Array.getElem?_eq_getElem hd'] at h
    rw [Array.getElem?_eq_getElem hd']
    simpa using h
  unfold yielded
  simp [hj, h1]
theorem yielded_un {j d : Nat} (hs : Sl N L a) (hj : (ops[j]?).bind (·.dst) = some d) (hd : Nat.blt d N = true) (hv : lk L d = some undef) : yielded ops a.tmps j = none := by
  have h := hs.sl d _ hv
  have hd' : d < a.tmps.size := by rw [hs.sz]; simpa using hd
  have h1 : a.tmps[d]? = some undef := by
    rw [Array.getD_eq_getD_getElem?, Array.getElem?_eq_getElem hd'] at h
    rw [Array.getElem?_eq_getElem hd']
    simpa using h
  unfold yielded
  simp [hj, h1]
  rfl
theorem sty {d j e : Nat} {b : Bool} (hs : Sl N L a) (hg : o.guard = some (j, b)) (hj : (ops[j]?).bind (·.dst) = some e) (he : Nat.blt e N = true) (hv : lk L e = some (.bool b)) (ho : o.dst = some d) (hd : Nat.blt d N = true) (h : Does P a o w K) (k : ∀ v w', K v w' → ∀ a, Sl N ((d, v) :: L) a → wpList P ops Q rest a w') : wpList P ops Q (o :: rest) a w :=
  wpList_step fun K' hK => by
    rw [if_pos (by simp [Region.wanted, hg, yielded_of hs hj he hv])]
    exact Does.wp (h.mono fun v w' hk => hK _ _ (by rw [ho]; exact k v w' hk _ (hs.put v hd)))
theorem svy {d j e : Nat} {b : Bool} (hs : Sl N L a) (hg : o.guard = some (j, b)) (hj : (ops[j]?).bind (·.dst) = some e) (he : Nat.blt e N = true) (hv : lk L e = some (.bool b)) (ho : o.dst = some d) (hd : Nat.blt d N = true) (h : RunV P a o w v) (k : ∀ a, Sl N ((d, v) :: L) a → wpList P ops Q rest a w) : wpList P ops Q (o :: rest) a w :=
  sty hs hg hj he hv ho hd h.does fun _ _ ⟨hv, hw⟩ a h' => by subst hv; subst hw; exact k a h'
/-- not wanted -/
theorem sno {d j e : Nat} {b c : Bool} (hs : Sl N L a) (hg : o.guard = some (j, b)) (hj : (ops[j]?).bind (·.dst) = some e) (he : Nat.blt e N = true) (hv : lk L e = some (.bool c)) (hbc : (c == b) = false) (ho : o.dst = some d) (hd : Nat.blt d N = true) (k : ∀ a, Sl N ((d, undef) :: L) a → wpList P ops Q rest a w) : wpList P ops Q (o :: rest) a w :=
  wpList_step fun K' hK => by
    rw [if_neg (by simp only [Region.wanted, hg, yielded_of hs hj he hv]; simpa using hbc)]
    exact hK _ _ (by rw [ho]; exact k _ (hs.put undef hd))
theorem snu {d j e : Nat} {b : Bool} (hs : Sl N L a) (hg : o.guard = some (j, b)) (hj : (ops[j]?).bind (·.dst) = some e) (he : Nat.blt e N = true) (hv : lk L e = some undef) (ho : o.dst = some d) (hd : Nat.blt d N = true) (k : ∀ a, Sl N ((d, undef) :: L) a → wpList P ops Q rest a w) : wpList P ops Q (o :: rest) a w :=
  wpList_step fun K' hK => by
    rw [if_neg (by simp [Region.wanted, hg, yielded_un hs hj he hv])]
    exact hK _ _ (by rw [ho]; exact k _ (hs.put undef hd))

/-- the operation is wanted: it has no guard, or its guard says so -/
inductive Wnt (ops : Array Oper) (N : Nat) (L : List (Nat × Value)) (o : Oper) : Prop
  | none (h : o.guard = none) : Wnt ops N L o
  | some {j e : Nat} {b : Bool} (h : o.guard = some (j, b)) (hj : (ops[j]?).bind (·.dst) = Option.some e) (he : Nat.blt e N = true) (hv : lk L e = Option.some (.bool b)) : Wnt ops N L o
theorem Wnt.yes (hs : Sl N L a) (h : Wnt ops N L o) : Region.wanted o (yielded ops a.tmps) = true := by
  cases h with
  | none h => simp [Region.wanted, h]
  | some h hj he hv => simp [Region.wanted, h, yielded_of hs hj he hv]
theorem dv {d : Nat} (hs : Sl N L a) (hg : Wnt ops N L o) (ho : o.dst = some d) (hd : Nat.blt d N = true) (h : Does P a o w K) (k : ∀ v w', K v w' → ∀ a, Sl N ((d, v) :: L) a → wpList P ops Q rest a w') : wpList P ops Q (o :: rest) a w :=
  wpList_step fun K' hK => by
    rw [if_pos (hg.yes hs)]
    exact Does.wp (h.mono fun v w' hk => hK _ _ (by rw [ho]; exact k v w' hk _ (hs.put v hd)))
theorem wv {d : Nat} (hs : Sl N L a) (hg : Wnt ops N L o) (ho : o.dst = some d) (hd : Nat.blt d N = true) (h : RunV P a o w v) (k : ∀ a, Sl N ((d, v) :: L) a → wpList P ops Q rest a w) : wpList P ops Q (o :: rest) a w :=
  dv hs hg ho hd h.does fun _ _ ⟨hv, hw⟩ a h' => by subst hv; subst hw; exact k a h'

/-! #### control -/
theorem cIf {c : Operand} {A B : Code} {b : Bool} (hs : Sl N L a) (hc : ev L c = some (.bool b)) (ht : b = true → A.wp P Q a w) (hf : b = false → B.wp P Q a w) : (Code.cond c A B).wp P Q a w :=
  wp_cond_split (hs.ev hc) ht hf
theorem cTrue {c : Operand} {A B : Code} {b : Bool} (hs : Sl N L a) (hc : ev L c = some (.bool b)) (hb : b = true) (ht : A.wp P Q a w) : (Code.cond c A B).wp P Q a w :=
  cIf hs hc (fun _ => ht) fun h => by rw [hb] at h; cases h
theorem cFalse {c : Operand} {A B : Code} {b : Bool} (hs : Sl N L a) (hc : ev L c = some (.bool b)) (hb : b = false) (hf : B.wp P Q a w) : (Code.cond c A B).wp P Q a w :=
  cIf hs hc (fun h => by rw [hb] at h; cases h) fun _ => hf
theorem cCond {c : Operand} {A B : Code} (h : (Code.cond c A B).wp P Q a w) : (Code.cond c A B).wp P Q a w := h
/-- two pieces with what is known between them -/
theorem cCut {A B : Code} (R : Act → World → Prop) (h : A.wp P (Exit.then R Q) a w) (k : ∀ a w, R a w → B.wp P Q a w) : (Code.seq A B).wp P Q a w :=
  wp_seq (wp_mono h fun e a w q => by cases e <;> first | exact q | exact k a w q)
/-- a loop, by what holds at its head of some x, and a number that every round lowers -/
theorem cLoop {X : Type} {c : Code} (I : X → Act → World → Prop) (m : X → Nat) (x0 : X) (h0 : I x0 a w) (hr : ∀ x a w, I x a w → c.wp P (Exit.then (fun a' w' => ∃ x', m x' < m x ∧ I x' a' w') Q) a w) : (Code.loop c).wp P Q a w := by
  refine wp_loop_ghost (fun n a w => ∃ x, m x = n ∧ I x a w) (m x0) ⟨x0, rfl, h0⟩ fun n a w ⟨x, hx, hI⟩ => ?_
  refine wp_mono (hr x a w hI) fun e a' w' q => ?_
  cases e <;> first | exact q | skip
  obtain ⟨x', h1, h2⟩ := q
  exact ⟨m x', by rw [← hx]; exact h1, x', rfl, h2⟩

/-! #### how a walk goes from one piece to the next: each by its shape alone -/
/-- what stands at an exit: behind a name -/
def Goes (Q : Exit → Act → World → Prop) (e : Exit) (a : Act) (w : World) : Prop := Q e a w
theorem lCons (h : wpList P ops Q (o :: rest) a w) : wpList P ops Q (o :: rest) a w := h
theorem lNilThen {n : Act → World → Prop} (h : n a w) : wpList P ops (Exit.then n Q) [] a w := h
theorem lNilBlock {i : Nat} (h : wpList P ops Q [] a w) : wpList P ops (Exit.inBlock i Q) [] a w := h
theorem lNil (h : Goes Q .normal a w) : wpList P ops Q [] a w := h
theorem cExit {i : Nat} (h : Goes Q (.exit i) a w) : (Code.exit i).wp P Q a w := wp_exit h
theorem cRet (h : Goes Q .ret a w) : Code.ret.wp P Q a w := wp_ret h
theorem cSkip (h : Goes Q .normal a w) : Code.skip.wp P Q a w := wp_skip h
theorem gThen {n : Act → World → Prop} (h : n a w) : Goes (Exit.then n Q) .normal a w := h
theorem gBlock {i : Nat} (h : Goes Q .normal a w) : Goes (Exit.inBlock i Q) .normal a w := h
theorem eThen {n : Act → World → Prop} {i : Nat} (h : Goes Q (.exit i) a w) : Goes (Exit.then n Q) (.exit i) a w := h
theorem eBlockHit {i : Nat} (h : Goes Q .normal a w) : Goes (Exit.inBlock i Q) (.exit i) a w := by
  show (if i = i then Q .normal a w else Q (.exit i) a w)
  rw [if_pos rfl]; exact h
theorem eBlock {i j : Nat} (hij : Nat.beq i j = false) (h : Goes Q (.exit i) a w) : Goes (Exit.inBlock j Q) (.exit i) a w := by
  show (if i = j then Q .normal a w else Q (.exit i) a w)
  rw [if_neg (fun e => by subst e; simp at hij)]; exact h
theorem rThen {n : Act → World → Prop} (h : Goes Q .ret a w) : Goes (Exit.then n Q) .ret a w := h
theorem rBlock {i : Nat} (h : Goes Q .ret a w) : Goes (Exit.inBlock i Q) .ret a w := h

/-! #### beginning and end -/
def slotsOf : Nat → List Value → List (Nat × Value)
  | _, [] => []
  | n, v :: r => (n, v) :: slotsOf (n + 1) r
theorem lk_slotsOf : ∀ (vs : List Value) (n k : Nat) (v : Value), lk (slotsOf n vs) k = some v → n ≤ k ∧ vs[k - n]? = some v
  | [], n, k, v, h => by cases h
  | u :: r, n, k, v, h => by
    simp only [slotsOf, lk] at h
    cases hb : Nat.beq n k with
    | true =>
      rw [hb] at h
      have : n = k := Nat.eq_of_beq_eq_true hb
      subst this
      simpa using h
    | false =>
      rw [hb] at h
      have h1 : n ≠ k := fun e => by subst e; simp at hb
      obtain ⟨h2, h3⟩ := lk_slotsOf r (n + 1) k v h
      refine ⟨by omega, ?_⟩
      have e : k - n = (k - (n + 1)) + 1 := by omega
      rw [e]; simpa using h3
theorem Sl.enter {vs : List Value} (hN : vs.length ≤ N) : Sl N (slotsOf 0 vs) { tmps := vs.toArray ++ Array.replicate (N - vs.length) undef, defers := [] } := by
  refine ⟨rfl, by simp; omega, fun k v hk => ?_⟩
  obtain ⟨_, h⟩ := lk_slotsOf vs 0 k v hk
  have hlt : k < vs.length := by
    rcases Nat.lt_or_ge k vs.length with h1 | h1
    · exact h1
    · rw [List.getElem?_eq_none (by simpa using h1)] at h; cases h
  rw [Array.getD_eq_getD_getElem?, Array.getElem?_append_left (by simpa using hlt)]
  simp at h ⊢
  rw [h]; rfl
theorem enter {f : FuncId} {fn : Func} {c : Code} {vs : List Value} {R : Ending → World → Prop} (hf : P.funcs[f]? = some fn) (hb : fn.body = some c) (hn : fn.ntmps = N) (hN : Nat.ble vs.length N = true)
    (h : ∀ a, Sl N (slotsOf 0 vs) a → c.wp P (bodyPost P fn R) a w) : Calls P f vs.toArray w R := by
  subst hn
  exact calls_of_wp hf hb (by rw [List.size_toArray]; exact h _ (Sl.enter (by simpa using hN)))
theorem enterR {f : FuncId} {fn : Func} {c : Code} {vs : List Value} (hf : P.funcs[f]? = some fn) (hb : fn.body = some c) (hn : fn.ntmps = N) (hN : Nat.ble vs.length N = true)
    (h : ∀ a, Sl N (slotsOf 0 vs) a → Mm (fun _ => False) w [] w → c.wp P (bodyPost P fn (fun e w' => ∃ v, e = .returned v ∧ K v w')) a w) : Ret P f vs w K :=
  .mk <| enter hf hb hn hN fun a hs => h a hs (Mm.nil _ _)
theorem gRet1 {fn : Func} {t : Nat} (hs : Sl N L a) (hf : fn.results = #[.tmp t]) (hv : lk L t = some v) (h : K v w) : Goes (bodyPost P fn (fun e w' => ∃ v, e = .returned v ∧ K v w')) .ret a w :=
  ⟨hs.nd, v, by rw [results_tmp hf, hs.sl t v hv], v, rfl, h⟩
theorem ret1 {fn : Func} {t : Nat} {R : Ending → World → Prop} (hs : Sl N L a) (hf : fn.results = #[.tmp t]) (hv : lk L t = some v) (h : R (.returned v) w) : bodyPost P fn R .ret a w :=
  ⟨hs.nd, v, by rw [results_tmp hf, hs.sl t v hv], h⟩
/-- a result: a slot, or a cell of memory -/
inductive ResIs (T : List (Nat × TI)) (L : List (Nat × Value)) (w : World) : ResultVar → Value → Prop
  | tmp {t : Nat} {v : Value} (h : lk L t = some v) : ResIs T L w (.tmp t) v
  | cell {t : Nat} {ty : TypeId} {i : TI} {p : Addr} {v : Value} (h : lk L t = some (.pointer (some p))) (hc : tlk T ty = some i) (hf : i.d.flat = true) (hw : w.cell? p = some v) : ResIs T L w (.cell t ty) v
  | cells {t : Nat} {ty : TypeId} {i : TI} {b n : Nat} {vs : List Value} (h : lk L t = some (.pointer (some ⟨b, n, none⟩))) (hc : tlk T ty = some i) (hf : i.d.flat = false) (hl : vs.length = i.sz) (hw : Ro w b n vs) : ResIs T L w (.cell t ty) (.agg vs.toArray)
inductive AllRes (T : List (Nat × TI)) (L : List (Nat × Value)) (w : World) : List ResultVar → List Value → Prop
  | nil : AllRes T L w [] []
  | cons {r : ResultVar} {v : Value} {rs : List ResultVar} {vs : List Value} (h : ResIs T L w r v) (t : AllRes T L w rs vs) : AllRes T L w (r :: rs) (v :: vs)
theorem ResIs.run {r : ResultVar} (hT : TabOk P T) (hs : Sl N L a) (h : ResIs T L w r v) : Sem.run P (match r with | .tmp t => (pure (a.tmps.getD t undef) : Sem Value) | .cell b t => do loadVar t (← asAddr (a.tmps.getD b undef))) w = .ok v w := by
  cases h with
  | tmp h => simp only [hs.sl _ _ h, Sem.run_pure]
  | cell h hc hf hw => simp [hs.sl _ _ h, asAddr, loadVar, run_isAgg (hT _ _ hc), hf, hw]
  | cells h hc hf hl hw =>
    rename_i b n vs
    have h' := run_loadCells_list (P := P) w ⟨b, n, none⟩ vs (fun j u hu => by rw [add_lit]; exact hw j u hu)
    rw [hl] at h'
    simp [hs.sl _ _ h, asAddr, loadVar, run_isAgg (hT _ _ hc), hf, run_sizeOf (hT _ _ hc), h']
theorem AllRes.run {rs : List ResultVar} {vs : List Value} (hT : TabOk P T) (hs : Sl N L a) (h : AllRes T L w rs vs) : Sem.run P (rs.mapM fun r => match r with | .tmp t => (pure (a.tmps.getD t undef) : Sem Value) | .cell b t => do loadVar t (← asAddr (a.tmps.getD b undef))) w = .ok vs w := by
  induction h with
  | nil => simp
  | cons h _ ih =>
    have h1 := h.run hT hs
    simp only [List.mapM_cons, Sem.run_bind]
    rw [h1]
    simp only [Result.andThen_ok]
    rw [ih]
    simp
def resV : List Value → Value
  | [v] => v
  | vs => .tuple vs.toArray
theorem retN {fn : Func} {rs : List ResultVar} {vs : List Value} {R : Ending → World → Prop} (hT : TabOk P T) (hs : Sl N L a) (hf : fn.results = rs.toArray) (hv : AllRes T L w rs vs) (h : R (.returned (resV vs)) w) : bodyPost P fn R .ret a w := by
  refine ⟨hs.nd, _, ?_, h⟩
  have h1 := hv.run hT hs
  unfold results
  simp only [hf, Sem.run_bind, List.mapM_toArray, Sem.run_map]
  erw [h1]
  simp only [Result.andThen_ok, Sem.run_pure, List.size_toArray]
  cases vs with
  | nil => rfl
  | cons v r => cases r <;> rfl
theorem gRetN {fn : Func} {rs : List ResultVar} {vs : List Value} (hT : TabOk P T) (hs : Sl N L a) (hf : fn.results = rs.toArray) (hv : AllRes T L w rs vs) (h : K (resV vs) w) : Goes (bodyPost P fn (fun e w' => ∃ v, e = .returned v ∧ K v w')) .ret a w := retN hT hs hf hv ⟨_, rfl, h⟩
/-- the end of a function's text without 'return' -/
theorem retEnd {fn : Func} {rs : List ResultVar} {vs : List Value} {R : Ending → World → Prop} (hT : TabOk P T) (hs : Sl N L a) (hf : fn.results = rs.toArray) (hv : AllRes T L w rs vs) (h : R (.returned (resV vs)) w) : bodyPost P fn R .normal a w := retN hT hs hf hv h
end
end Go.Proofs.YtajkekhnfobgiaaGreatDoor

/- More operations. -/
namespace Go.Proofs.YtajkekhnfobgiaaGreatDoor
set_option maxRecDepth 20000
open Go.RowKit

section
variable {P : Program} {T : List (Nat × TI)} {N : Nat} {L : List (Nat × Value)} {a : Act} {w w0 : World} {S : Nat → Prop} {M : List Hp} {o : Oper} {x y z : Operand} {v u : Value}

theorem r_loadO {t t' : TypeId} {i : TI} {b n k : Nat} {cs vs : List Value} (hs : Sl N L a) (ho : o.op = .load t x) (hx : ev L x = some (.pointer (some ⟨b, n, none⟩))) (hT : TabOk P T) (hc : tlk T t = some i) (hf : i.d.flat = false) (hk : i.sz = k) (hm : Mm S w0 M w) (hM : (⟨some b, t', cs⟩ : Hp) ∈ M) (hv : cutF cs n k = some vs) : RunV P a o w (.agg vs.toArray) :=
  r_loadA hs ho hx hT hc hf (hm.ro hM (cutF_ok hv)) (by rw [hk]; exact (cutF_ok hv).len)
theorem r_pickT (hs : Sl N L a) (ho : o.op = .pick x y z) (hx : ev L x = some (.bool true)) (hy : ev L y = some v) : RunV P a o w v := by
  replace hx := hs.ev hx; replace hy := hs.ev hy
  unfold RunV execOp
  simp [ho, hx, hy, asBool]
theorem r_pickF (hs : Sl N L a) (ho : o.op = .pick x y z) (hx : ev L x = some (.bool false)) (hz : ev L z = some v) : RunV P a o w v := by
  replace hx := hs.ev hx; replace hz := hs.ev hz
  unfold RunV execOp
  simp [ho, hx, hz, asBool]
theorem r_quo64 {t yt : TypeId} {n m : Int} (hs : Sl N L a) (ho : o.op = .binOp .quo t x y yt) (hx : ev L x = some (.int .i64 n)) (hy : ev L y = some (.int .i64 m)) (hn : 0 ≤ n ∧ n ≤ 9223372036854775807) (hm : 0 < m) : RunV P a o w (.int .i64 (n / m)) := by
  have h := r_quo (P := P) (w := w) hs ho hx hy (by omega)
  rwa [ediv_wrap64 hn.1 hn.2 hm] at h
theorem r_rem64 {t yt : TypeId} {k : IntKind} {n m : Int} (hs : Sl N L a) (ho : o.op = .binOp .rem t x y yt) (hx : ev L x = some (.int k n)) (hy : ev L y = some (.int k m)) (hn : 0 ≤ n) (hm : 0 < m) : RunV P a o w (.int k (n % m)) := by
  have h := r_rem (P := P) (w := w) hs ho hx hy (by omega)
  rwa [Int.tmod_eq_emod_of_nonneg hn] at h
theorem r_neg64 {t : TypeId} {n : Int} (hs : Sl N L a) (ho : o.op = .unOp .neg t x) (hx : ev L x = some (.int .i64 n)) (hb : -9223372036854775807 ≤ n ∧ n ≤ 9223372036854775807) : RunV P a o w (.int .i64 (-n)) := by
  have h := r_neg (P := P) (w := w) hs ho hx
  rwa [show IntKind.i64.wrap (0 - n) = -n by simp [IntKind.wrap, IntKind.bits, IntKind.signed]; omega] at h
theorem run_eqB {t : TypeId} {b c : Bool} (h : P.underlying t = some .bool) : Sem.run P (Op.equal t (.bool b) (.bool c)) w = .ok (b == c) w := by
  unfold Op.equal Op.maxDepth Op.equalIn
  simp [run_und h]
theorem r_eqlB {t yt : TypeId} {i : TI} {b c : Bool} (hs : Sl N L a) (ho : o.op = .binOp .eql t x y yt) (hx : ev L x = some (.bool b)) (hy : ev L y = some (.bool c)) (hT : TabOk P T) (hc : tlk T t = some i) (hd : i.d = .bool) : RunV P a o w (.bool (b == c)) := by
  replace hx := hs.ev hx; replace hy := hs.ev hy
  have := run_eqB (w := w) (b := b) (c := c) ((hT _ _ hc).bool hd)
  unfold RunV execOp
  simp [ho, hx, hy, binOp, this, eqGuard]
theorem r_neqB {t yt : TypeId} {i : TI} {b c : Bool} (hs : Sl N L a) (ho : o.op = .binOp .neq t x y yt) (hx : ev L x = some (.bool b)) (hy : ev L y = some (.bool c)) (hT : TabOk P T) (hc : tlk T t = some i) (hd : i.d = .bool) : RunV P a o w (.bool (!(b == c))) := by
  replace hx := hs.ev hx; replace hy := hs.ev hy
  have := run_eqB (w := w) (b := b) (c := c) ((hT _ _ hc).bool hd)
  unfold RunV execOp
  simp [ho, hx, hy, binOp, this, eqGuard]
theorem run_eqnil {t e : TypeId} {A : Option Addr} {n c : Nat} (h : P.underlying t = some (.slice e)) : Sem.run P (Op.equal t (.slice A n c) (.slice none 0 0)) w = .ok A.isNone w := by
  unfold Op.equal Op.maxDepth Op.equalIn
  cases A <;> simp [run_und h]
theorem r_eqnil {t e yt : TypeId} {i : TI} {A : Option Addr} {n c : Nat} (hs : Sl N L a) (ho : o.op = .binOp .eql t x y yt) (hx : ev L x = some (.slice A n c)) (hy : ev L y = some (.slice none 0 0)) (hT : TabOk P T) (hc : tlk T t = some i) (hd : i.d = .sl e) : RunV P a o w (.bool A.isNone) := by
  replace hx := hs.ev hx; replace hy := hs.ev hy
  have := run_eqnil (w := w) (A := A) (n := n) (c := c) ((hT _ _ hc).sl hd)
  unfold RunV execOp
  simp [ho, hx, hy, binOp, this, eqGuard]
theorem r_neqnil {t e yt : TypeId} {i : TI} {A : Option Addr} {n c : Nat} (hs : Sl N L a) (ho : o.op = .binOp .neq t x y yt) (hx : ev L x = some (.slice A n c)) (hy : ev L y = some (.slice none 0 0)) (hT : TabOk P T) (hc : tlk T t = some i) (hd : i.d = .sl e) : RunV P a o w (.bool (!A.isNone)) := by
  replace hx := hs.ev hx; replace hy := hs.ev hy
  have := run_eqnil (w := w) (A := A) (n := n) (c := c) ((hT _ _ hc).sl hd)
  unfold RunV execOp
  simp [ho, hx, hy, binOp, this, eqGuard]
/-! #### strings -/
/-- bytes -/
def bys (xs : List Int) : List Value := xs.map (Value.int .u8)
def IsB (xs : List Int) : Prop := ∀ x ∈ xs, 0 ≤ x ∧ x ≤ 255
def bst (ns : List Int) : ByteArray := ns.foldl (fun r n => r.push (UInt8.ofNat n.toNat)) ByteArray.empty
theorem bst_list (ns : List Int) : (bst ns).data.toList = ns.map fun n => UInt8.ofNat n.toNat := by
  suffices H : ∀ (ns : List Int) (r : ByteArray), (ns.foldl (fun r n => r.push (UInt8.ofNat n.toNat)) r).data.toList = r.data.toList ++ ns.map fun n => UInt8.ofNat n.toNat by
    have := H ns ByteArray.empty
    simpa [bst] using this
  intro ns
  induction ns with
  | nil => intro r; simp
  | cons n ns ih => intro r; rw [List.foldl_cons, ih]; simp [ByteArray.push]
theorem bst_inj {xs ys : List Int} (hx : IsB xs) (hy : IsB ys) (h : (bst xs).data.toList = (bst ys).data.toList) : xs = ys := by
  rw [bst_list, bst_list] at h
  induction xs generalizing ys with
  | nil => cases ys <;> simp_all
  | cons x xs ih =>
    cases ys with
    | nil => simp at h
    | cons y ys =>
      simp only [List.map_cons, List.cons.injEq] at h
      obtain ⟨h1, h2⟩ := h
      have a1 := hx x (List.mem_cons_self ..)
      have a2 := hy y (List.mem_cons_self ..)
      have e := congrArg UInt8.toNat h1
      simp only [UInt8.toNat_ofNat'] at e
      have : x = y := by omega
      rw [this, ih (fun z hz => hx z (List.mem_cons_of_mem _ hz)) (fun z hz => hy z (List.mem_cons_of_mem _ hz)) h2]
theorem bst_eq {xs ys : List Int} (hx : IsB xs) (hy : IsB ys) : ((bst xs).toList == (bst ys).toList) = decide (xs = ys) := by
  rw [Bool.eq_iff_iff]
  simp only [beq_iff_eq, decide_eq_true_eq]
  constructor
  · intro h
    refine bst_inj hx hy ?_
    rw [ByteArray.toList_eq, ByteArray.toList_eq] at h
    exact h
  · intro h; rw [h]
theorem r_b2s {t t' e : TypeId} {i j k : TI} {A : Option Addr} {n c B : Nat} {xs : List Int} (hs : Sl N L a) (ho : o.op = .convert t t' x) (hx : ev L x = some (.slice A n c)) (hT : TabOk P T) (hc : tlk T t = some i) (hd : i.d = .sl e) (he : tlk T e = some j) (hj : j.d = .int .u8) (hc' : tlk T t' = some k) (hk : k.d = .str) (hr : Rd w B A (bys xs)) (hl : xs.length = n) : RunV P a o w (.string (bst xs)) := by
  replace hx := hs.ev hx
  have h1 := run_convert_bytes_string (P := P) w t t' e A n c ((hT _ _ hc).sl hd) ((hT _ _ he).int hj) ((hT _ _ hc').str hk)
  have h2 : (Conv.bytesToString (.slice A n c)).run P w = .ok (.string (bst xs)) w := by
    cases A with
    | none =>
      have : xs = [] := by
        cases xs with
        | nil => rfl
        | cons x r => obtain ⟨b, off, e, _⟩ := hr (by simp [bys]); cases e
      subst this
      unfold Conv.bytesToString
      simp [bst]
    | some p =>
      refine run_bytesToString w p n c xs ?_
      by_cases h0 : 0 < xs.length
      · obtain ⟨b, off, e, _, hcell⟩ := hr (by simpa [bys] using h0)
        cases e
        have := run_loadCells_list (P := P) w ⟨b, off, none⟩ (bys xs) (fun j u hu => by rw [add_lit]; exact hcell j u hu)
        rw [show (bys xs).length = n by simp [bys, hl]] at this
        exact this
      · have : xs = [] := List.eq_nil_of_length_eq_zero (by omega)
        subst this
        have : n = 0 := by simpa using hl.symm
        subst this
        simp [loadCells, loadCellsFrom]
  rw [h2] at h1
  unfold RunV execOp
  simp [ho, hx, h1]
theorem r_seql {t yt : TypeId} {s u : ByteArray} (hs : Sl N L a) (ho : o.op = .binOp .eql t x y yt) (hx : ev L x = some (.string s)) (hy : ev L y = some (.string u)) : RunV P a o w (.bool (s.toList == u.toList)) := by
  replace hx := hs.ev hx; replace hy := hs.ev hy
  unfold RunV execOp
  simp [ho, hx, hy, binOp, Op.stringOp, eqGuard]
theorem r_sneq {t yt : TypeId} {s u : ByteArray} (hs : Sl N L a) (ho : o.op = .binOp .neq t x y yt) (hx : ev L x = some (.string s)) (hy : ev L y = some (.string u)) : RunV P a o w (.bool (!(s.toList == u.toList))) := by
  replace hx := hs.ev hx; replace hy := hs.ev hy
  unfold RunV execOp
  simp [ho, hx, hy, binOp, Op.stringOp, eqGuard]
end
end Go.Proofs.YtajkekhnfobgiaaGreatDoor

/- Regions that draw their order: those that only read, in the order of the text; others, whatever comes up. -/
namespace Go.Proofs.YtajkekhnfobgiaaGreatDoor
set_option maxRecDepth 20000
open Go.RowKit

/-- an operation that makes no memory and writes none (a call of a Go function may) -/
def quietOp : Op → Bool
  | .alloc _ | .box .. | .buildSlice .. | .store .. | .makeMap .. | .makeChan .. | .makeSlice .. | .mapUpdate .. | .insert .. | .mapEntry .. | .entryStore .. | .go _ | .defer _ | .panic _ | .send .. | .recv .. | .select .. | .range .. | .next .. | .entry _ => false
  | .call { callee := .builtin .append, .. } | .call { callee := .builtin .copy, .. } | .call { callee := .builtin .delete, .. } | .call { callee := .builtin .clear, .. } => false
  | _ => true
section
variable {P : Program} {T : List (Nat × TI)} {N : Nat} {L : List (Nat × Value)} {a : Act} {w w0 : World} {S : Nat → Prop} {M : List Hp} {o : Oper} {x y z : Operand} {v u : Value} {ops : Array Oper} {rest : List Oper} {Q : Exit → Act → World → Prop} {C : World → Prop} {Qa : Act → Prop}

theorem cQuiet {id : Nat} {l : List Oper} (hm : Mm S w0 M w) (hq : l.all (fun o => quietOp o.op) = true) (hf : P.follows .mixedOrders = true) (hB : Region.lexB .any l.toArray = true)
    (h : wpQuiet P l.toArray (fun w' => Mm S w0 M w') (fun a' => ∀ w', Mm S w0 M w' → Goes Q .normal a' w') l a) : (Code.region id l.toArray true).wp P Q a w :=
  (fun _ => wp_region_quiet (C := fun w' => Mm S w0 M w') hf hB hm.drew (show wpQuiet P l.toArray _ _ l.toArray.toList a from h)) hq
theorem qNil (h : ∀ w', Mm S w0 M w' → Goes Q .normal a w') : wpQuiet P ops C (fun a' => ∀ w', Mm S w0 M w' → Goes Q .normal a' w') [] a := h
theorem qCons (h : wpQuiet P ops C Qa (o :: rest) a) : wpQuiet P ops C Qa (o :: rest) a := h
theorem qquiet (h : ∀ w, C w → RunV P a o w v) (k : Qa (a.put o.dst v)) : o.quiet P a C Qa :=
  ⟨v, fun w hw => by unfold Oper.quietAt; rw [show (execOp a.eval o).run P w = _ from h w hw]; exact ⟨rfl, rfl⟩, k⟩
/-- a call that gives one value, whatever the world of the class -/
theorem qquietC {fo : Operand} {xs : List Operand} {vs caps : List Value} {ts : Array TypeId} {f : FuncId} (hs : Sl N L a) (ho : o.op = .call { callee := .value fo, args := xs.toArray, argTypes := ts }) (hf : ev L fo = some (.func (.func f) #[] caps.toArray)) (hx : evs L xs = some vs) (hp : plain P f)
    (hc : ∀ w, C w → Ret P f (vs ++ caps) w (fun v' w' => v' = v ∧ C w')) (k : Qa (a.put o.dst v)) : o.quiet P a C Qa := by
  replace hf := hs.ev hf; replace hx := hs.evs hx
  replace hp := hp.h
  rw [Option.map_eq_some_iff] at hp
  obtain ⟨fn, h1, h2⟩ := hp
  simp only [Bool.and_eq_true, Bool.not_eq_true'] at h2
  have h3 : fn.body.isNone = false := by cases hb : fn.body <;> simp_all
  refine ⟨v, fun w hw => ?_, k⟩
  have h4 : Calls P f (vs ++ caps).toArray w (fun e w'' => e = .returned v ∧ C w'') := by
    have h5 := hc w hw
    replace h5 := h5.c
    exact Calls.mono h5 fun e w' ⟨v', he, hv, hC⟩ => by subst hv; exact ⟨he, hC⟩
  unfold Oper.quietAt execOp resolve Deferred.ofValue
  simp only [ho, hf, Sem.run_bind, Sem.run_pure, Result.andThen_ok, List.map_toArray, hx]
  unfold invoke callFunc
  simp only [Sem.run_bind, run_program, Result.andThen_ok, h1, h2.1, h3, Bool.false_eq_true, if_false, Sem.run_pure, List.append_toArray]
  exact ⟨rfl, h4⟩
theorem qv {d : Nat} (hs : Sl N L a) (hg : o.guard = none) (ho : o.dst = some d) (hd : Nat.blt d N = true) (h : ∀ w, C w → RunV P a o w v) (k : ∀ a, Sl N ((d, v) :: L) a → wpQuiet P ops C Qa rest a) : wpQuiet P ops C Qa (o :: rest) a := by
  unfold wpQuiet
  rw [if_pos (by simp [Region.wanted, hg])]
  exact qquiet h (by rw [ho]; exact k _ (hs.put v hd))
theorem qvn (hs : Sl N L a) (hg : o.guard = none) (ho : o.dst = none) (h : ∀ w, C w → RunV P a o w v) (k : wpQuiet P ops C Qa rest a) : wpQuiet P ops C Qa (o :: rest) a := by
  unfold wpQuiet
  rw [if_pos (by simp [Region.wanted, hg])]
  exact qquiet h (by rw [ho]; exact (fun _ => k) hs)
theorem qw {d : Nat} (hs : Sl N L a) (hg : Wnt ops N L o) (ho : o.dst = some d) (hd : Nat.blt d N = true) (h : ∀ w, C w → RunV P a o w v) (k : ∀ a, Sl N ((d, v) :: L) a → wpQuiet P ops C Qa rest a) : wpQuiet P ops C Qa (o :: rest) a := by
  unfold wpQuiet
  rw [if_pos (hg.yes hs)]
  exact qquiet h (by rw [ho]; exact k _ (hs.put v hd))
theorem qvy {d j e : Nat} {b : Bool} (hs : Sl N L a) (hg : o.guard = some (j, b)) (hj : (ops[j]?).bind (·.dst) = some e) (he : Nat.blt e N = true) (hv : lk L e = some (.bool b)) (ho : o.dst = some d) (hd : Nat.blt d N = true) (h : ∀ w, C w → RunV P a o w v) (k : ∀ a, Sl N ((d, v) :: L) a → wpQuiet P ops C Qa rest a) : wpQuiet P ops C Qa (o :: rest) a := by
  unfold wpQuiet
  rw [if_pos (by simp [Region.wanted, hg, yielded_of hs hj he hv])]
  exact qquiet h (by rw [ho]; exact k _ (hs.put v hd))
theorem qno {d j e : Nat} {b c : Bool} (hs : Sl N L a) (hg : o.guard = some (j, b)) (hj : (ops[j]?).bind (·.dst) = some e) (he : Nat.blt e N = true) (hv : lk L e = some (.bool c)) (hbc : (c == b) = false) (ho : o.dst = some d) (hd : Nat.blt d N = true) (k : ∀ a, Sl N ((d, undef) :: L) a → wpQuiet P ops C Qa rest a) : wpQuiet P ops C Qa (o :: rest) a := by
  unfold wpQuiet
  rw [if_neg (by simp only [Region.wanted, hg, yielded_of hs hj he hv]; simpa using hbc)]
  rw [ho]; exact k _ (hs.put undef hd)
theorem qnu {d j e : Nat} {b : Bool} (hs : Sl N L a) (hg : o.guard = some (j, b)) (hj : (ops[j]?).bind (·.dst) = some e) (he : Nat.blt e N = true) (hv : lk L e = some undef) (ho : o.dst = some d) (hd : Nat.blt d N = true) (k : ∀ a, Sl N ((d, undef) :: L) a → wpQuiet P ops C Qa rest a) : wpQuiet P ops C Qa (o :: rest) a := by
  unfold wpQuiet
  rw [if_neg (by simp [Region.wanted, hg, yielded_un hs hj he hv])]
  rw [ho]; exact k _ (hs.put undef hd)
theorem qwcall {d : Nat} {fo : Operand} {xs : List Operand} {vs : List Value} {ts : Array TypeId} {f : FuncId} (hs : Sl N L a) (hg : Wnt ops N L o) (ho' : o.dst = some d) (hd : Nat.blt d N = true) (ho : o.op = .call { callee := .value fo, args := xs.toArray, argTypes := ts }) (hf : ev L fo = some (.func (.func f) #[] #[])) (hx : evs L xs = some vs) (hp : plain P f)
    (hc : ∀ w, C w → Ret P f vs w (fun v' w' => v' = v ∧ C w')) (k : ∀ a, Sl N ((d, v) :: L) a → wpQuiet P ops C Qa rest a) : wpQuiet P ops C Qa (o :: rest) a := by
  unfold wpQuiet
  rw [if_pos (hg.yes hs)]
  exact qquietC (caps := []) hs ho hf hx hp (by rw [List.append_nil]; exact hc) (by rw [ho']; exact k _ (hs.put v hd))
theorem qcall {d : Nat} {fo : Operand} {xs : List Operand} {vs : List Value} {ts : Array TypeId} {f : FuncId} (hs : Sl N L a) (hg : o.guard = none) (ho' : o.dst = some d) (hd : Nat.blt d N = true) (ho : o.op = .call { callee := .value fo, args := xs.toArray, argTypes := ts }) (hf : ev L fo = some (.func (.func f) #[] #[])) (hx : evs L xs = some vs) (hp : plain P f)
    (hc : ∀ w, C w → Ret P f vs w (fun v' w' => v' = v ∧ C w')) (k : ∀ a, Sl N ((d, v) :: L) a → wpQuiet P ops C Qa rest a) : wpQuiet P ops C Qa (o :: rest) a := by
  unfold wpQuiet
  rw [if_pos (by simp [Region.wanted, hg])]
  exact qquietC (caps := []) hs ho hf hx hp (by rw [List.append_nil]; exact hc) (by rw [ho']; exact k _ (hs.put v hd))
theorem Sl.shadow {e : Nat} (hs : Sl N L a) (hv : lk L e = some v) : Sl N ((e, v) :: L) a := by
  refine ⟨hs.nd, hs.sz, fun k u hk => hs.sl k u ?_⟩
  simp only [lk] at hk
  cases hb : Nat.beq e k with
  | true =>
    rw [hb] at hk
    have : e = k := Nat.eq_of_beq_eq_true hb
    subst this
    simp only [cond_true, Option.some.injEq] at hk
    subst hk; exact hv
  | false => rw [hb] at hk; exact hk
/-- a guard whose value is not known: both ways -/
theorem sgs {j e : Nat} {b c : Bool} (hs : Sl N L a) (hg : o.guard = some (j, b)) (hj : (ops[j]?).bind (·.dst) = some e) (hv : lk L e = some (.bool c)) (ht : c = true → Sl N ((e, .bool true) :: L) a → wpList P ops Q (o :: rest) a w) (hf : c = false → Sl N ((e, .bool false) :: L) a → wpList P ops Q (o :: rest) a w) : wpList P ops Q (o :: rest) a w := by
  cases c
  · exact (fun _ _ => hf rfl (hs.shadow hv)) hg hj
  · exact (fun _ _ => ht rfl (hs.shadow hv)) hg hj
theorem qgs {j e : Nat} {b c : Bool} (hs : Sl N L a) (hg : o.guard = some (j, b)) (hj : (ops[j]?).bind (·.dst) = some e) (hv : lk L e = some (.bool c)) (ht : c = true → Sl N ((e, .bool true) :: L) a → wpQuiet P ops C Qa (o :: rest) a) (hf : c = false → Sl N ((e, .bool false) :: L) a → wpQuiet P ops C Qa (o :: rest) a) : wpQuiet P ops C Qa (o :: rest) a := by
  cases c
  · exact (fun _ _ => hf rfl (hs.shadow hv)) hg hj
  · exact (fun _ _ => ht rfl (hs.shadow hv)) hg hj
/-! #### what kind of operation: by its shape alone -/
theorem kMove {d : Option Tmp} {x : Operand} {ty : TypeId} {p : String} {f : Array Edge} {g : Option (Nat × Bool)} (h : RunV P a ⟨d, .move x, ty, p, f, g⟩ w v) : RunV P a ⟨d, .move x, ty, p, f, g⟩ w v := h
theorem kAssign {d : Option Tmp} {x : Operand} {ty : TypeId} {p : String} {f : Array Edge} {g : Option (Nat × Bool)} (h : RunV P a ⟨d, .assign x, ty, p, f, g⟩ w v) : RunV P a ⟨d, .assign x, ty, p, f, g⟩ w v := h
theorem kLoad {d : Option Tmp} {t : TypeId} {x : Operand} {ty : TypeId} {p : String} {f : Array Edge} {g : Option (Nat × Bool)} (h : RunV P a ⟨d, .load t x, ty, p, f, g⟩ w v) : RunV P a ⟨d, .load t x, ty, p, f, g⟩ w v := h
theorem kField {d : Option Tmp} {t : TypeId} {x : Operand} {n : Nat} {ty : TypeId} {p : String} {f : Array Edge} {g : Option (Nat × Bool)} (h : RunV P a ⟨d, .fieldAddr t x n, ty, p, f, g⟩ w v) : RunV P a ⟨d, .fieldAddr t x n, ty, p, f, g⟩ w v := h
theorem kIx {d : Option Tmp} {t : TypeId} {x y : Operand} {ty : TypeId} {p : String} {f : Array Edge} {g : Option (Nat × Bool)} (h : RunV P a ⟨d, .indexAddr t x y, ty, p, f, g⟩ w v) : RunV P a ⟨d, .indexAddr t x y, ty, p, f, g⟩ w v := h
theorem kBin {d : Option Tmp} {b : BinOp} {t u : TypeId} {x y : Operand} {ty : TypeId} {p : String} {f : Array Edge} {g : Option (Nat × Bool)} (h : RunV P a ⟨d, .binOp b t x y u, ty, p, f, g⟩ w v) : RunV P a ⟨d, .binOp b t x y u, ty, p, f, g⟩ w v := h
theorem kUn {d : Option Tmp} {b : UnOp} {t : TypeId} {x : Operand} {ty : TypeId} {p : String} {f : Array Edge} {g : Option (Nat × Bool)} (h : RunV P a ⟨d, .unOp b t x, ty, p, f, g⟩ w v) : RunV P a ⟨d, .unOp b t x, ty, p, f, g⟩ w v := h
theorem kCall {d : Option Tmp} {c : Call} {ty : TypeId} {p : String} {f : Array Edge} {g : Option (Nat × Bool)} (h : RunV P a ⟨d, .call c, ty, p, f, g⟩ w v) : RunV P a ⟨d, .call c, ty, p, f, g⟩ w v := h
theorem kPick {d : Option Tmp} {x y z : Operand} {ty : TypeId} {p : String} {f : Array Edge} {g : Option (Nat × Bool)} (h : RunV P a ⟨d, .pick x y z, ty, p, f, g⟩ w v) : RunV P a ⟨d, .pick x y z, ty, p, f, g⟩ w v := h
theorem kBuild {d : Option Tmp} {t : TypeId} {q : Array (Nat × Operand)} {ty : TypeId} {p : String} {f : Array Edge} {g : Option (Nat × Bool)} (h : RunV P a ⟨d, .build t q, ty, p, f, g⟩ w v) : RunV P a ⟨d, .build t q, ty, p, f, g⟩ w v := h
theorem kConv {d : Option Tmp} {t u : TypeId} {x : Operand} {ty : TypeId} {p : String} {f : Array Edge} {g : Option (Nat × Bool)} (h : RunV P a ⟨d, .convert t u x, ty, p, f, g⟩ w v) : RunV P a ⟨d, .convert t u x, ty, p, f, g⟩ w v := h
theorem kFunc {d : Option Tmp} {m : Fn} {q s : Array Operand} {ty : TypeId} {p : String} {f : Array Edge} {g : Option (Nat × Bool)} (h : RunV P a ⟨d, .makeFunc m q s, ty, p, f, g⟩ w v) : RunV P a ⟨d, .makeFunc m q s, ty, p, f, g⟩ w v := h
theorem kExt {d : Option Tmp} {x : Operand} {n : Nat} {ty : TypeId} {p : String} {f : Array Edge} {g : Option (Nat × Bool)} (h : RunV P a ⟨d, .extract x n, ty, p, f, g⟩ w v) : RunV P a ⟨d, .extract x n, ty, p, f, g⟩ w v := h
theorem kNil {d : Option Tmp} {x : Operand} {ty : TypeId} {p : String} {f : Array Edge} {g : Option (Nat × Bool)} (h : RunV P a ⟨d, .nilCheck x, ty, p, f, g⟩ w v) : RunV P a ⟨d, .nilCheck x, ty, p, f, g⟩ w v := h
theorem kFld {d : Option Tmp} {t : TypeId} {x : Operand} {n : Nat} {ty : TypeId} {p : String} {f : Array Edge} {g : Option (Nat × Bool)} (h : RunV P a ⟨d, .field t x n, ty, p, f, g⟩ w v) : RunV P a ⟨d, .field t x n, ty, p, f, g⟩ w v := h
theorem kIdx {d : Option Tmp} {t : TypeId} {x y : Operand} {ty : TypeId} {p : String} {f : Array Edge} {g : Option (Nat × Bool)} (h : RunV P a ⟨d, .index t x y, ty, p, f, g⟩ w v) : RunV P a ⟨d, .index t x y, ty, p, f, g⟩ w v := h
theorem kSlice {d : Option Tmp} {t : TypeId} {x : Operand} {l h1 m : Option Operand} {ty : TypeId} {p : String} {f : Array Edge} {g : Option (Nat × Bool)} (h : RunV P a ⟨d, .slice t x l h1 m, ty, p, f, g⟩ w v) : RunV P a ⟨d, .slice t x l h1 m, ty, p, f, g⟩ w v := h
end
end Go.Proofs.YtajkekhnfobgiaaGreatDoor

/- Empty literals; append of whatever is read; least and greatest; slices of slices. -/
namespace Go.Proofs.YtajkekhnfobgiaaGreatDoor
set_option maxRecDepth 20000
open Go.RowKit

theorem ndT {p : Prop} [Decidable p] (h : ¬ p) : (!decide p) = true := by simp [h]
theorem ndF {p : Prop} [Decidable p] (h : p) : (!decide p) = false := by simp [h]
theorem ints_some {xs : List Int} {k : Nat} (h : k < xs.length) : (ints xs)[k]? = some (.int .i64 xs[k]) := by simp [ints, h]
theorem bys_some {xs : List Int} {k : Nat} (h : k < xs.length) : (bys xs)[k]? = some (.int .u8 xs[k]) := by simp [bys, h]
def bools (xs : List Bool) : List Value := xs.map Value.bool
theorem bools_some {xs : List Bool} {k : Nat} (h : k < xs.length) : (bools xs)[k]? = some (.bool xs[k]) := by simp [bools, h]
theorem ints_take {xs : List Int} {k : Nat} : (ints xs).take k = ints (xs.take k) := by simp [ints, List.map_take]
theorem ints_app (xs : List Int) (x : Int) : ints xs ++ [.int .i64 x] = ints (xs ++ [x]) := by simp [ints]
theorem bys_len (xs : List Int) : (bys xs).length = xs.length := by simp [bys]
theorem bools_len (xs : List Bool) : (bools xs).length = xs.length := by simp [bools]
theorem Rep.at_ {R : List Hp} {k : Nat} {x : Hp} (y : Hp) (h : R[k]? = some x) : Rep R x y (R.set k y) := by
  induction R generalizing k with
  | nil => simp at h
  | cons z r ih =>
    cases k with
    | zero => simp at h; subst h; exact .head ..
    | succ k => exact .tail z (ih (by simpa using h))

section
variable {P : Program} {T : List (Nat × TI)} {N : Nat} {L : List (Nat × Value)} {a : Act} {w w0 : World} {S : Nat → Prop} {M M' : List Hp} {o : Oper} {x y z : Operand} {v u : Value}

theorem r_T {p : Prop} [Decidable p] (h : RunV P a o w (.bool (decide p))) (hp : p) : RunV P a o w (.bool true) := by rwa [decide_eq_true hp] at h
theorem r_F {p : Prop} [Decidable p] (h : RunV P a o w (.bool (decide p))) (hp : ¬ p) : RunV P a o w (.bool false) := by rwa [decide_eq_false hp] at h
theorem r_nT {p : Prop} [Decidable p] (h : RunV P a o w (.bool (!decide p))) (hp : ¬ p) : RunV P a o w (.bool true) := by rwa [decide_eq_false hp] at h
theorem r_nF {p : Prop} [Decidable p] (h : RunV P a o w (.bool (!decide p))) (hp : p) : RunV P a o w (.bool false) := by rwa [decide_eq_true hp] at h
theorem r_min {ts : Array TypeId} {k : IntKind} {n m : Int} (hs : Sl N L a) (ho : o.op = .call { callee := .builtin .min, args := #[x, y], argTypes := ts }) (hx : ev L x = some (.int k n)) (hy : ev L y = some (.int k m)) : RunV P a o w (.int k (min n m)) := by
  replace hx := hs.ev hx; replace hy := hs.ev hy
  unfold RunV
  generalize a.eval = ρ at *
  unfold execOp resolve invoke builtin
  simp [ho, hx, hy, go_sem]
  omega
theorem r_max {ts : Array TypeId} {k : IntKind} {n m : Int} (hs : Sl N L a) (ho : o.op = .call { callee := .builtin .max, args := #[x, y], argTypes := ts }) (hx : ev L x = some (.int k n)) (hy : ev L y = some (.int k m)) : RunV P a o w (.int k (max n m)) := by
  replace hx := hs.ev hx; replace hy := hs.ev hy
  unfold RunV
  generalize a.eval = ρ at *
  unfold execOp resolve invoke builtin
  simp [ho, hx, hy, go_sem]
  omega
/-- '[]T{}' -/
theorem d_buildSlice0 {t e : TypeId} {i j : TI} (ho : o.op = .buildSlice t 0 #[]) (hT : TabOk P T) (hc : tlk T t = some i) (hd : i.d = .sl e) (he : tlk T e = some j) (hm : Mm S w0 M w) :
    Does P a o w (fun v w' => ∃ g, v = .slice (some ⟨g, 0, none⟩) 0 0 ∧ w.heap.size ≤ g ∧ Mm S w0 (⟨some g, e, []⟩ :: M) w') := by
  unfold Does execOp
  simp only [ho, Instr.buildSlice, Sem.run_bind, run_und ((hT _ _ hc).sl hd), run_sizeOf (hT _ _ he), Result.andThen_ok, Nat.zero_mul]
  simp [Instr.fill, newRow, Array.range]
  exact hm.alloc e []
/-- append of what some slice reads (nil, empty, or not) -/
theorem d_appendS {t e : TypeId} {i j : TI} {A : Option Nat} {A2 : Option Addr} {n c m c2 B : Nat} {xs cs news : List Value} {ts : Array TypeId} (hs : Sl N L a) (ho : o.op = .call { callee := .builtin .append, args := #[x, y], argTypes := ts }) (hx : ev L x = some (slv A n c)) (hy : ev L y = some (.slice A2 m c2)) (hts : ts = #[t, t]) (hT : TabOk P T) (hc : tlk T t = some i) (hd : i.d = .sl e) (he : tlk T e = some j) (hsz : Nat.blt 0 j.sz = true) (hzl : j.z.cells.size = j.sz)
    (hm : Mm S w0 M w) (hM : (⟨A, e, cs⟩ : Hp) ∈ M) (hr : Row A n c j.sz xs cs) (hl : news.length = m * j.sz) (hnew : Rd w B A2 news) (h1 : news.all (·.oneCell') = true) (hb : (n + m) * j.by_ ≤ 140737488355328) (h63 : n + m ≤ 140737488355328) :
    Does P a o w (fun v w' => ∃ A' c' cs', v = slv A' (n + m) c' ∧ Row A' (n + m) c' j.sz (xs ++ news) cs' ∧ ∀ M', Rep M ⟨A, e, cs⟩ ⟨A', e, cs'⟩ M' → Mm S w0 M' w') := by
  have hsz' : 0 < j.sz := by simpa using hsz
  by_cases h0 : 0 < news.length
  · obtain ⟨b, off, rfl, _, hro⟩ := hnew h0
    exact d_append hs ho hx hy rfl hts hT hc hd he hsz hzl hm hM hr hl hro h1 hb h63
  · have hn : news = [] := List.eq_nil_of_length_eq_zero (by omega)
    subst hn
    have hm0 : m = 0 := by
      have h2 : m * j.sz = 0 := by simpa using hl.symm
      rcases Nat.mul_eq_zero.1 h2 with h | h
      · exact h
      · omega
    subst hm0
    replace hx := hs.ev hx; replace hy := hs.ev hy
    subst hts
    have hf : Sem.run P (Builtin.firstCells j.sz 0 (.slice A2 0 c2)) w = .ok #[] w := by
      cases A2 <;> simp [Builtin.firstCells, loadCells, loadCellsFrom]
    have hmt : (match TypeDesc.slice e with | TypeDesc.int _ => true | _ => false) = false := rfl
    have hrun : Sem.run P (Builtin.append_ #[t, t] o.type #[slv A n c, .slice A2 0 c2]) w = .ok (slv A n c) w := by
      have hle : n ≤ c := hr.le
      unfold Builtin.append_ slv
      cases A <;> simp [run_und ((hT _ _ hc).sl hd), run_sizeOf (hT _ _ he), Builtin.lenOf, hf, hle, storeCells]
    unfold Does execOp resolve invoke builtin
    simp only [ho, Sem.run_bind, Sem.run_pure, Result.andThen_ok, List.map_toArray, List.map_cons, List.map_nil, hx, hy, hrun]
    refine ⟨A, c, cs, rfl, by rw [List.append_nil]; exact hr, fun M' hR => ?_⟩
    exact hm.turn hR (Fr.refl _ w) (hm.me _ hM) (fun g hg => .inl hg)
end
end Go.Proofs.YtajkekhnfobgiaaGreatDoor

/- Slices of slices and of arrays. -/
namespace Go.Proofs.YtajkekhnfobgiaaGreatDoor
set_option maxRecDepth 20000
open Go.RowKit

section
variable {P : Program} {T : List (Nat × TI)} {N : Nat} {L : List (Nat × Value)} {a : Act} {w w0 : World} {o : Oper} {x y z : Operand} {t e : TypeId} {i j : TI} {A : Option Addr} {n c : Nat} {k k' : IntKind} {l h : Int}

theorem r_addH {yt : TypeId} {m : Nat} {p q : Int} (hs : Sl N L a) (ho : o.op = .binOp .add t x y yt) (hx : ev L x = some (.int .i64 p)) (hy : ev L y = some (.int .i64 q)) (he : p + q = (m : Int)) (hb : (m : Int) ≤ 9223372036854775807) : RunV P a o w (.int .i64 (m : Int)) := by
  have h := r_add64 (P := P) (w := w) hs ho hx hy (by omega)
  rwa [he] at h
theorem r_subH {yt : TypeId} {m : Nat} {p q : Int} (hs : Sl N L a) (ho : o.op = .binOp .sub t x y yt) (hx : ev L x = some (.int .i64 p)) (hy : ev L y = some (.int .i64 q)) (he : p - q = (m : Int)) (hb : (m : Int) ≤ 9223372036854775807) : RunV P a o w (.int .i64 (m : Int)) := by
  have h := r_sub64 (P := P) (w := w) hs ho hx hy (by omega)
  rwa [he] at h
theorem r_mulH {yt : TypeId} {m : Nat} {p q : Int} (hs : Sl N L a) (ho : o.op = .binOp .mul t x y yt) (hx : ev L x = some (.int .i64 p)) (hy : ev L y = some (.int .i64 q)) (he : p * q = (m : Int)) (hb : (m : Int) ≤ 9223372036854775807) : RunV P a o w (.int .i64 (m : Int)) := by
  have h := r_mul64 (P := P) (w := w) hs ho hx hy (by omega)
  rwa [he] at h
theorem r_pred {yt : TypeId} {m : Nat} (hs : Sl N L a) (ho : o.op = .binOp .sub t x y yt) (hx : ev L x = some (.int .i64 ((m + 1 : Nat) : Int))) (hy : ev L y = some (.int .i64 1)) (hb : (m : Int) ≤ 9223372036854775806) : RunV P a o w (.int .i64 (m : Int)) :=
  r_subH hs ho hx hy (by omega) (by omega)
theorem add_zero' (p : Addr) : p.add 0 = p := by cases p; rfl
/-- `x[:h]` -/
theorem r_sliceTo (hs : Sl N L a) (ho : o.op = .slice t x none (some y) none) (hx : ev L x = some (.slice A n c)) (hy : ev L y = some (.int k h)) (hT : TabOk P T) (hc : tlk T t = some i) (hd : i.d = .sl e) (he : tlk T e = some j) (h0 : 0 ≤ h) (h1 : h ≤ c) : RunV P a o w (.slice A h.toNat c) := by
  replace hx := hs.ev hx; replace hy := hs.ev hy
  unfold RunV execOp
  have e1 : (A.map fun x => x.add 0) = A := by cases A <;> simp [add_zero']
  simp [ho, hx, hy, Instr.sliceAt, Instr.slice, run_und ((hT _ _ hc).sl hd), Instr.sliceBounds, run_sliceBound, h0, h1, run_sizeOf (hT _ _ he), e1]
/-- `x[l:]` -/
theorem r_sliceFrom (hs : Sl N L a) (ho : o.op = .slice t x (some y) none none) (hx : ev L x = some (.slice A n c)) (hy : ev L y = some (.int k l)) (hT : TabOk P T) (hc : tlk T t = some i) (hd : i.d = .sl e) (he : tlk T e = some j) (h0 : 0 ≤ l) (h1 : l ≤ n) : RunV P a o w (.slice (if c = l.toNat then A else A.map (·.add (l.toNat * j.sz))) (n - l.toNat) (c - l.toNat)) := by
  replace hx := hs.ev hx; replace hy := hs.ev hy
  unfold RunV execOp
  simp [ho, hx, hy, Instr.sliceAt, Instr.slice, run_und ((hT _ _ hc).sl hd), Instr.sliceBounds, run_sliceBound, h0, h1, run_sizeOf (hT _ _ he)]
/-- `x[:]` of an array -/
theorem r_sliceArr {g : Nat} (hs : Sl N L a) (ho : o.op = .slice t x none none none) (hx : ev L x = some (.pointer (some ⟨g, 0, none⟩))) (hT : TabOk P T) (hc : tlk T t = some i) (hd : i.d = .arr n e) (he : tlk T e = some j) : RunV P a o w (.slice (some ⟨g, 0, none⟩) n n) := by
  replace hx := hs.ev hx
  unfold RunV execOp
  simp [ho, hx, Instr.sliceAt, Instr.sureAddr, run_und ((hT _ _ hc).arr hd), Instr.sliceBounds, run_sizeOf (hT _ _ he), add_zero']
/-- `x[:h]` of an array -/
theorem r_sliceArrTo {g : Nat} (hs : Sl N L a) (ho : o.op = .slice t x none (some y) none) (hx : ev L x = some (.pointer (some ⟨g, 0, none⟩))) (hy : ev L y = some (.int k h)) (hT : TabOk P T) (hc : tlk T t = some i) (hd : i.d = .arr n e) (he : tlk T e = some j) (h0 : 0 ≤ h) (h1 : h ≤ n) : RunV P a o w (.slice (some ⟨g, 0, none⟩) h.toNat n) := by
  replace hx := hs.ev hx; replace hy := hs.ev hy
  unfold RunV execOp
  simp [ho, hx, hy, Instr.sliceAt, Instr.sureAddr, run_und ((hT _ _ hc).arr hd), Instr.sliceBounds, run_sliceBound, h0, h1, run_sizeOf (hT _ _ he), add_zero']
theorem Ret.law {f : FuncId} {vs : List Value} (h : Ret P f vs w (fun v w' => v = .bool true ∧ Pu w w')) : Calls P f vs.toArray w (fun e w' => e = .returned (.bool true) ∧ Pu w w') :=
  Calls.mono h.c fun _ _ ⟨_, he, hv, hp⟩ => ⟨by rw [he, hv], hp⟩
end
end Go.Proofs.YtajkekhnfobgiaaGreatDoor

/- Memory known from a later world on; bytes that a string may share. -/
namespace Go.Proofs.YtajkekhnfobgiaaGreatDoor
set_option maxRecDepth 20000
open Go.RowKit

section
variable {P : Program} {T : List (Nat × TI)} {N : Nat} {L : List (Nat × Value)} {a : Act} {w w0 w' : World} {S : Nat → Prop} {M M' : List Hp} {o : Oper} {x y z : Operand}

def own (M : List Hp) (k : Nat) : Prop := ∃ x ∈ M, x.g = some k
theorem Mm.rebase (hm : Mm S w0 M w) : Mm (own M) w M w := ⟨hm.me, Fr.refl _ w, hm.dj, fun h hh _ hg => .inr ⟨h, hh, hg⟩⟩
theorem Mm.own_ (hm : Mm S w0 M w) {k : Nat} (h : own M k) : w0.heap.size ≤ k ∨ S k := by
  obtain ⟨x, hx, e⟩ := h
  exact hm.ow x hx k e
theorem Mm.trans (hm : Mm S w0 M w) (hk : Mm (own M) w M' w') : Mm S w0 M' w' := by
  refine ⟨hk.me, hm.fr.then hk.fr fun i hi e => ?_, hk.dj, fun h hh g hg => ?_⟩
  · rcases hm.own_ e with h4 | h4
    · omega
    · exact h4
  · rcases hk.ow h hh g hg with h4 | h4
    · exact .inl (Nat.le_trans hm.fr.size h4)
    · exact hm.own_ h4
theorem freeze_fr {g n k : Nat} : Fr (fun k => (some g : Option Nat) = some k) w (w.freeze ⟨g, n, none⟩ k) := by
  unfold World.freeze
  split
  · exact Fr.refl _ w
  · refine ⟨rfl, rfl, rfl, by simp, fun i hi hne => ?_⟩
    have : ¬ g = i := fun e => hne (by rw [e])
    simp [Array.getElem?_modify, this]
theorem freeze_cell {g n k : Nat} (b : Addr) : (w.freeze ⟨g, n, none⟩ k).cell? b = w.cell? b := by
  unfold World.freeze
  split
  · rfl
  · unfold World.cell?
    simp only [Array.getElem?_modify]
    by_cases e : g = b.block
    · rw [if_pos e]
      cases h : w.heap[b.block]? with
      | none => rfl
      | some ob => cases ob <;> rfl
    · rw [if_neg e]
/-- bytes that are given a string's mark: the block is no longer own, but reads as it read -/
theorem d_strish {t e : TypeId} {i j : TI} {g n c : Nat} {cs : List Value} (hs : Sl N L a) (ho : o.op = .convert t t x) (hx : ev L x = some (.slice (some ⟨g, 0, none⟩) n c)) (hT : TabOk P T) (hc : tlk T t = some i) (hd : i.d = .sl e) (he : tlk T e = some j) (hj : j.d = .int .u8) (hm : Mm S w0 (⟨some g, e, cs⟩ :: M) w) :
    Does P a o w (fun v w' => v = .slice (some ⟨g, 0, none⟩) n c ∧ Mm S w0 M w' ∧ Ro w' g 0 cs ∧ g < w'.heap.size ∧ ¬ own M g) := by
  replace hx := hs.ev hx
  have hb : Blk w g e cs.toArray := hm.me _ (List.mem_cons_self ..)
  have hsh : w.shape? g = some (e, cs.length) := by
    unfold World.shape?
    rw [show w.heap[g]? = _ from hb]; simp
  have hno : ¬ own M g := fun ⟨y, hy, ey⟩ => hm.dj.1 y hy g rfl ey
  unfold Does execOp
  simp [ho, hx, convert, run_und ((hT _ _ hc).sl hd), run_und ((hT _ _ he).int hj), markStringish, hsh]
  have hf := freeze_fr (w := w) (g := g) (n := cs.length) (k := 1)
  refine ⟨⟨fun y hy => Hp.sat_fr hf (hm.me y (List.mem_cons_of_mem _ hy)) fun k hk e => hm.dj.1 y hy g rfl (by rw [hk]; exact e.symm), hm.fr.then hf fun k hk e => ?_, hm.dj.2, fun y hy => hm.ow y (List.mem_cons_of_mem _ hy)⟩, fun k u hu => ?_, Nat.lt_of_lt_of_le hb.lt hf.size, hno⟩
  · have e' : g = k := Option.some.inj e
    subst e'
    rcases hm.ow _ (List.mem_cons_self ..) g rfl with h4 | h4
    · omega
    · exact h4
  · rw [freeze_cell]
    rw [Nat.zero_add, hm.at_ (List.mem_cons_self ..) k]
    exact hu
end
end Go.Proofs.YtajkekhnfobgiaaGreatDoor

/- One lemma for each kind of step: what an operation gives, computed; the same for both kinds of regions. -/
namespace Go.Proofs.YtajkekhnfobgiaaGreatDoor
set_option maxRecDepth 20000
open Go.RowKit

section
variable (T : List (Nat × TI)) (L : List (Nat × Value))
def pkF (c y z : Operand) : Option Value := match ev L c with
  | some (.bool b) => bif b then ev L y else ev L z
  | _ => none
def faF (t : TypeId) (x : Operand) (f : Nat) : Option Value := match ev L x with
  | some (.pointer (some ⟨g, n, none⟩)) => match tlk T t with
    | some ⟨_, _, _, .st fs⟩ => match fs[f]? with
      | some (off, ft) => match tlk T ft with
        | some ⟨s, _, _, _⟩ => bif Nat.beq s 0 then none else some (.pointer (some ⟨g, n + off, none⟩))
        | none => none
      | none => none
    | _ => none
  | _ => none
def fdF (t : TypeId) (x : Operand) (f : Nat) : Option Value := match ev L x with
  | some (.agg cs) => match tlk T t with
    | some ⟨_, _, _, .st fs⟩ => match fs[f]? with
      | some (off, ft) => match tlk T ft with
        | some ⟨_, _, _, d⟩ => bif d.flat then cs.toList[off]? else none
        | none => none
      | none => none
    | _ => none
  | _ => none
def lnF (c : Call) : Option Value := match c.callee with
  | .builtin .len => match c.args.toList with
    | [x] => match c.argTypes.toList with
      | t :: _ => match tlk T t with
        | some ⟨_, _, _, .sl _⟩ => match ev L x with
          | some (.slice _ n _) => some (.int .i64 (n : Int))
          | _ => none
        | some ⟨_, _, _, .str⟩ => match ev L x with
          | some (.string s) => some (.int .i64 (s.size : Int))
          | _ => none
        | _ => none
      | _ => none
    | _ => none
  | _ => none
def cvF (s t : TypeId) (x : Operand) : Option Value := match ev L x with
  | some (.int _ n) => match tlk T s with
    | some _ => match tlk T t with
      | some ⟨_, _, _, .int k⟩ => some (.int k (k.wrap n))
      | _ => none
    | none => none
  | _ => none
def bdF (t : TypeId) (ps : Array (Nat × Operand)) : Option Value := match tlk T t with
  | some ⟨_, _, z, .st fs⟩ => bif fs.all (fun p => (tlk T p.2).isSome) then match evp L ps.toList with
    | some vs => match vcF z with
      | some zs => match fillF T fs vs zs with
        | some cs => some (.agg cs.toArray)
        | none => none
      | none => none
    | none => none else none
  | some ⟨_, _, z, .arr _ e⟩ => match tlk T e with
    | some ⟨s, _, _, _⟩ => match evp L ps.toList with
      | some vs => match vcF z with
        | some zs => match fillAF s vs zs with
          | some cs => some (.agg cs.toArray)
          | none => none
        | none => none
      | none => none
    | none => none
  | _ => none
def nkF (x : Operand) : Option Value := match ev L x with
  | some (.pointer (some p)) => some (.pointer (some p))
  | some (.func (.func n) p q) => some (.func (.func n) p q)
  | _ => none
def exF (x : Operand) (k : Nat) : Option Value := match ev L x with
  | some (.tuple vs) => vs.toList[k]?
  | _ => none
def mfF (f : Fn) (x y : Array Operand) : Option Value := match evs L x.toList with
  | some vs => match evs L y.toList with
    | some us => some (.func f vs.toArray us.toArray)
    | none => none
  | none => none
def eqF (b : Bool) (t : TypeId) (x y : Operand) : Option Value := match ev L x with
  | some (.bool p) => match ev L y with
    | some (.bool q) => match tlk T t with
      | some ⟨_, _, _, .bool⟩ => bif b then some (.bool (p == q)) else some (.bool (!(p == q)))
      | _ => none
    | _ => none
  | some (.string s) => match ev L y with
    | some (.string u) => bif b then some (.bool (s.toList == u.toList)) else some (.bool (!(s.toList == u.toList)))
    | _ => none
  | some (.slice A _ _) => match ev L y with
    | some (.slice none 0 0) => match tlk T t with
      | some ⟨_, _, _, .sl _⟩ => bif b then some (.bool A.isNone) else some (.bool (!A.isNone))
      | _ => none
    | _ => none
  | _ => none
def valF : Op → Option Value
  | .move x => ev L x
  | .assign x => ev L x
  | .pick c y z => pkF L c y z
  | .fieldAddr t x f => faF T L t x f
  | .field t x f => fdF T L t x f
  | .call c => lnF T L c
  | .convert s t x => cvF T L s t x
  | .build t ps => bdF T L t ps
  | .nilCheck x => nkF L x
  | .extract x k => exF L x k
  | .makeFunc f x y => mfF L f x y
  | .unOp .not _ x => match ev L x with
    | some (.bool b) => some (.bool (!b))
    | _ => none
  | .binOp .eql t x y _ => eqF T L true t x y
  | .binOp .neq t x y _ => eqF T L false t x y
  | _ => none
end
section
variable {P : Program} {T : List (Nat × TI)} {N : Nat} {L : List (Nat × Value)} {a : Act} {w w0 : World} {S : Nat → Prop} {M : List Hp} {o : Oper} {x y z : Operand} {v u : Value}
theorem pk_ok (hs : Sl N L a) (ho : o.op = .pick x y z) (h : pkF L x y z = some v) : RunV P a o w v := by
  unfold pkF at h
  split at h
  · rename_i b hb
    cases b
    · exact r_pickF hs ho hb h
    · exact r_pickT hs ho hb h
  · cases h
theorem fa_ok {t : TypeId} {f : Nat} (hs : Sl N L a) (hT : TabOk P T) (ho : o.op = .fieldAddr t x f) (h : faF T L t x f = some v) : RunV P a o w v := by
  unfold faF at h
  split at h
  · rename_i g n hx
    split at h
    · rename_i fs ht
      split at h
      · rename_i off ft hf
        split at h
        · rename_i s _ _ _ hft
          cases hb : Nat.beq s 0 with
          | true => rw [hb] at h; cases h
          | false =>
            rw [hb] at h
            obtain rfl := Option.some.inj h
            exact r_fieldAddr hs ho hx hT ht rfl hf hft hb
        · cases h
      · cases h
    · cases h
  · cases h
theorem fd_ok {t : TypeId} {f : Nat} (hs : Sl N L a) (hT : TabOk P T) (ho : o.op = .field t x f) (h : fdF T L t x f = some v) : RunV P a o w v := by
  unfold fdF at h
  split at h
  · rename_i cs hx
    split at h
    · rename_i fs ht
      split at h
      · rename_i off ft hf
        split at h
        · rename_i s b z d hft
          cases hb : d.flat with
          | false => rw [hb] at h; cases h
          | true => rw [hb] at h; exact r_field (cs := cs.toList) hs ho (by rw [hx, Array.toArray_toList]) hT ht rfl hf hft hb h
        · cases h
      · cases h
    · cases h
  · cases h
theorem arr1 {α : Type} {a : Array α} {x : α} (h : a.toList = [x]) : a = #[x] := by cases a; simp_all
theorem ln_ok {c : Call} (hs : Sl N L a) (hT : TabOk P T) (ho : o.op = .call c) (h : lnF T L c = some v) : RunV P a o w v := by
  obtain ⟨ce, ar, ty⟩ := c
  unfold lnF at h
  dsimp only at h
  split at h
  · split at h
    · rename_i x hx
      split at h
      · rename_i t r ht
        have ht' : ty[0]? = some t := by cases ty; simp_all
        rw [arr1 hx] at ho
        split at h
        · rename_i e htl
          split at h
          · rename_i A n c hv
            obtain rfl := Option.some.inj h
            exact r_len hs ho hv ht' hT htl rfl
          · cases h
        · rename_i htl
          split at h
          · rename_i s hv
            obtain rfl := Option.some.inj h
            exact r_slen hs ho hv ht' hT htl rfl
          · cases h
        · cases h
      · cases h
    · cases h
  · cases h
theorem cv_ok {s t : TypeId} (hs : Sl N L a) (hT : TabOk P T) (ho : o.op = .convert s t x) (h : cvF T L s t x = some v) : RunV P a o w v := by
  unfold cvF at h
  split at h
  · rename_i k n hx
    split at h
    · rename_i i hi
      split at h
      · rename_i k' hk
        obtain rfl := Option.some.inj h
        exact r_conv hs ho hx hT hi hk rfl
      · cases h
    · cases h
  · cases h
theorem bd_ok {t : TypeId} {ps : Array (Nat × Operand)} (hs : Sl N L a) (hT : TabOk P T) (ho : o.op = .build t ps) (h : bdF T L t ps = some v) : RunV P a o w v := by
  have ho' : o.op = .build t ps.toList.toArray := by rw [ho, Array.toArray_toList]
  unfold bdF at h
  split at h
  · rename_i z fs ht
    cases hb : fs.all (fun p => (tlk T p.2).isSome) with
    | false => rw [hb] at h; cases h
    | true =>
      rw [hb, cond_true] at h
      split at h
      · rename_i vs hv
        split at h
        · rename_i zs hz
          split at h
          · rename_i cs hc
            obtain rfl := Option.some.inj h
            exact r_build hs ho' hT ht rfl hb hv hz hc
          · cases h
        · cases h
      · cases h
  · rename_i z n e ht
    split at h
    · rename_i s _ _ _ he
      split at h
      · rename_i vs hv
        split at h
        · rename_i zs hz
          split at h
          · rename_i cs hc
            obtain rfl := Option.some.inj h
            exact r_buildA hs ho' hT ht rfl he hv hz hc
          · cases h
        · cases h
      · cases h
    · cases h
  · cases h
theorem nk_ok (hs : Sl N L a) (ho : o.op = .nilCheck x) (h : nkF L x = some v) : RunV P a o w v := by
  unfold nkF at h
  split at h
  · rename_i p hx
    obtain rfl := Option.some.inj h
    exact r_nilCheck hs ho hx
  · rename_i n p q hx
    obtain rfl := Option.some.inj h
    exact r_nilCheckF hs ho hx rfl
  · cases h
theorem ex_ok {k : Nat} (hs : Sl N L a) (ho : o.op = .extract x k) (h : exF L x k = some v) : RunV P a o w v := by
  unfold exF at h
  split at h
  · rename_i vs hx
    exact r_extract (vs := vs.toList) hs ho (by rw [hx, Array.toArray_toList]) h
  · cases h
theorem mf_ok {f : Fn} {p q : Array Operand} (hs : Sl N L a) (ho : o.op = .makeFunc f p q) (h : mfF L f p q = some v) : RunV P a o w v := by
  unfold mfF at h
  split at h
  · rename_i vs hx
    split at h
    · rename_i us hy
      obtain rfl := Option.some.inj h
      exact r_makeFunc (xs := p.toList) (ys := q.toList) hs (by rw [ho, Array.toArray_toList, Array.toArray_toList]) hx hy
    · cases h
  · cases h
theorem eqT_ok {t yt : TypeId} (hs : Sl N L a) (hT : TabOk P T) (ho : o.op = .binOp .eql t x y yt) (h : eqF T L true t x y = some v) : RunV P a o w v := by
  unfold eqF at h
  split at h
  · rename_i p hx
    split at h
    · rename_i q hy
      split at h
      · rename_i ht
        obtain rfl := Option.some.inj h
        exact r_eqlB hs ho hx hy hT ht rfl
      · cases h
    · cases h
  · rename_i p hx
    split at h
    · rename_i q hy
      obtain rfl := Option.some.inj h
      exact r_seql hs ho hx hy
    · cases h
  · rename_i A n c hx
    split at h
    · rename_i hy
      split at h
      · rename_i e ht
        obtain rfl := Option.some.inj h
        exact r_eqnil hs ho hx hy hT ht rfl
      · cases h
    · cases h
  · cases h
theorem eqFf_ok {t yt : TypeId} (hs : Sl N L a) (hT : TabOk P T) (ho : o.op = .binOp .neq t x y yt) (h : eqF T L false t x y = some v) : RunV P a o w v := by
  unfold eqF at h
  split at h
  · rename_i p hx
    split at h
    · rename_i q hy
      split at h
      · rename_i ht
        obtain rfl := Option.some.inj h
        exact r_neqB hs ho hx hy hT ht rfl
      · cases h
    · cases h
  · rename_i p hx
    split at h
    · rename_i q hy
      obtain rfl := Option.some.inj h
      exact r_sneq hs ho hx hy
    · cases h
  · rename_i A n c hx
    split at h
    · rename_i hy
      split at h
      · rename_i e ht
        obtain rfl := Option.some.inj h
        exact r_neqnil hs ho hx hy hT ht rfl
      · cases h
    · cases h
  · cases h
/-- what an operation gives that needs no more than the slots -/
theorem r_val (hs : Sl N L a) (hT : TabOk P T) (h : valF T L o.op = some v) : RunV P a o w v := by
  cases ho : o.op <;> rw [ho] at h <;> simp only [valF] at h
  case move => exact r_move hs ho h
  case assign => exact r_assign hs ho h
  case pick => exact pk_ok hs ho h
  case fieldAddr => exact fa_ok hs hT ho h
  case field => exact fd_ok hs hT ho h
  case call => exact ln_ok hs hT ho h
  case convert => exact cv_ok hs hT ho h
  case build => exact bd_ok hs hT ho h
  case nilCheck => exact nk_ok hs ho h
  case extract => exact ex_ok hs ho h
  case makeFunc => exact mf_ok hs ho h
  case unOp b t x =>
    cases b <;> simp only at h
    case not =>
      split at h
      · rename_i b hb
        obtain rfl := Option.some.inj h
        exact r_not hs ho hb
      · cases h
    all_goals cases h
  case binOp b t x y yt =>
    cases b <;> simp only at h
    case eql => exact eqT_ok hs hT ho h
    case neq => exact eqFf_ok hs hT ho h
    all_goals cases h
  all_goals cases h
end

/-! ### comparisons and sums of numbers -/
def kEq : IntKind → IntKind → Bool
  | .i64, .i64 | .u8, .u8 | .u16, .u16 | .u32, .u32 | .u64, .u64 | .i32, .i32 | .i16, .i16 | .i8, .i8 => true
  | _, _ => false
theorem kEq_ok {k k' : IntKind} (h : kEq k k' = true) : k' = k := by
  cases k <;> cases k' <;> first | rfl | cases h
structure Cq where
  p : Prop
  d : Decidable p
def Cq.v (c : Cq) : Bool := @decide c.p c.d
def cqF (b : BinOp) (n m : Int) : Option Cq := match b with
  | .lss => some ⟨n < m, inferInstance⟩
  | .leq => some ⟨n ≤ m, inferInstance⟩
  | .gtr => some ⟨m < n, inferInstance⟩
  | .geq => some ⟨m ≤ n, inferInstance⟩
  | .eql => some ⟨n = m, inferInstance⟩
  | .neq => some ⟨¬ n = m, inferInstance⟩
  | _ => none
def cmpF (L : List (Nat × Value)) : Op → Option Cq
  | .binOp b _ x y _ => match ev L x with
    | some (.int k n) => match ev L y with
      | some (.int k' m) => bif kEq k k' then cqF b n m else none
      | _ => none
    | _ => none
  | _ => none
section
variable {P : Program} {T : List (Nat × TI)} {N : Nat} {L : List (Nat × Value)} {a : Act} {w w0 : World} {S : Nat → Prop} {M : List Hp} {o : Oper} {x y z : Operand} {v u : Value}
theorem cmp_one {b : BinOp} {t yt : TypeId} {k : IntKind} {n m : Int} {p : Prop} {d : Decidable p} (hs : Sl N L a) (ho : o.op = .binOp b t x y yt) (hx : ev L x = some (.int k n)) (hy : ev L y = some (.int k m))
    (h : cqF b n m = some ⟨p, d⟩) : RunV P a o w (.bool (@decide p d)) := by
  unfold cqF at h
  cases b <;> simp only [Option.some.injEq, Cq.mk.injEq, reduceCtorEq] at h
  case lss => obtain ⟨rfl, h⟩ := h; have := eq_of_heq h; subst this; exact r_lss hs ho hx hy
  case leq => obtain ⟨rfl, h⟩ := h; have := eq_of_heq h; subst this; exact r_leq hs ho hx hy
  case gtr => obtain ⟨rfl, h⟩ := h; have := eq_of_heq h; subst this; exact r_gtr hs ho hx hy
  case geq => obtain ⟨rfl, h⟩ := h; have := eq_of_heq h; subst this; exact r_geq hs ho hx hy
  case eql => obtain ⟨rfl, h⟩ := h; have := eq_of_heq h; subst this; exact r_eql hs ho hx hy
  case neq =>
    obtain ⟨rfl, h⟩ := h; have := eq_of_heq h; subst this
    have h1 := r_neq (P := P) (w := w) hs ho hx hy
    rw [show (!decide (n = m)) = decide (¬ n = m) by simp] at h1
    exact h1
theorem cmp_ok {p : Prop} {d : Decidable p} (hs : Sl N L a) (h : cmpF L o.op = some ⟨p, d⟩) : RunV P a o w (.bool (@decide p d)) := by
  cases ho : o.op <;> rw [ho] at h <;> simp only [cmpF] at h
  case binOp b t x y yt =>
    split at h
    · rename_i k n hx
      split at h
      · rename_i k' m hy
        cases hk : kEq k k' with
        | false => rw [hk] at h; cases h
        | true =>
          rw [hk] at h
          have hk' := kEq_ok hk
          subst hk'
          exact cmp_one hs ho hx hy h
      · cases h
    · cases h
  all_goals cases h
theorem r_cT {p : Prop} {d : Decidable p} (hs : Sl N L a) (h : cmpF L o.op = some ⟨p, d⟩) (hp : p) : RunV P a o w (.bool true) := by
  have h1 := cmp_ok (P := P) (w := w) hs h
  rwa [decide_eq_true hp] at h1
theorem r_cF {p : Prop} {d : Decidable p} (hs : Sl N L a) (h : cmpF L o.op = some ⟨p, d⟩) (hp : ¬ p) : RunV P a o w (.bool false) := by
  have h1 := cmp_ok (P := P) (w := w) hs h
  rwa [decide_eq_false hp] at h1
end
/-- a sum, a difference, a product of two ints, as it is if it fits -/
def arF (L : List (Nat × Value)) : Op → Option Int
  | .binOp b _ x y _ => match ev L x with
    | some (.int .i64 n) => match ev L y with
      | some (.int .i64 m) => match b with
        | .add => some (n + m)
        | .sub => some (n - m)
        | .mul => some (n * m)
        | _ => none
      | _ => none
    | _ => none
  | _ => none
def biF' (b : BinOp) (k : IntKind) (n m : Int) : Option Value := match b with
  | .lss => some (.bool (decide (n < m)))
  | .leq => some (.bool (decide (n ≤ m)))
  | .gtr => some (.bool (decide (m < n)))
  | .geq => some (.bool (decide (m ≤ n)))
  | .eql => some (.bool (decide (n = m)))
  | .neq => some (.bool (!decide (n = m)))
  | .add => some (.int k (k.wrap (n + m)))
  | .sub => some (.int k (k.wrap (n - m)))
  | .mul => some (.int k (k.wrap (n * m)))
  | .and => some (.int k (bits .and k n m))
  | .or => some (.int k (bits .or k n m))
  | .xor => some (.int k (bits .xor k n m))
  | _ => none
/-- the rest of what two numbers give -/
def biF (L : List (Nat × Value)) : Op → Option Value
  | .binOp b _ x y _ => match ev L x with
    | some (.int k n) => match ev L y with
      | some (.int k' m) => bif kEq k k' then biF' b k n m else none
      | _ => none
    | _ => none
  | _ => none
section
variable {P : Program} {T : List (Nat × TI)} {N : Nat} {L : List (Nat × Value)} {a : Act} {w w0 : World} {S : Nat → Prop} {M : List Hp} {o : Oper} {x y z : Operand} {v u : Value}
theorem r_ar {e : Int} (hs : Sl N L a) (h : arF L o.op = some e) (hb : -9223372036854775808 ≤ e ∧ e ≤ 9223372036854775807) : RunV P a o w (.int .i64 e) := by
  cases ho : o.op <;> rw [ho] at h <;> simp only [arF] at h
  case binOp b t x y yt =>
    split at h
    · rename_i n hx
      split at h
      · rename_i m hy
        cases b <;> simp only [Option.some.injEq, reduceCtorEq] at h
        case add => subst h; exact r_add64 hs ho hx hy hb
        case sub => subst h; exact r_sub64 hs ho hx hy hb
        case mul => subst h; exact r_mul64 hs ho hx hy hb
      · cases h
    · cases h
  all_goals cases h
theorem r_arH {e : Int} {m : Nat} (hs : Sl N L a) (h : arF L o.op = some e) (he : e = (m : Int)) (hb : (m : Int) ≤ 9223372036854775807) : RunV P a o w (.int .i64 (m : Int)) := by
  have := r_ar (P := P) (w := w) hs h (by omega)
  rwa [he] at this
theorem bi_one {b : BinOp} {t yt : TypeId} {k : IntKind} {n m : Int} (hs : Sl N L a) (ho : o.op = .binOp b t x y yt) (hx : ev L x = some (.int k n)) (hy : ev L y = some (.int k m))
    (h : biF' b k n m = some v) : RunV P a o w v := by
  unfold biF' at h
  cases b <;> simp only [Option.some.injEq, reduceCtorEq] at h
  case lss => subst h; exact r_lss hs ho hx hy
  case leq => subst h; exact r_leq hs ho hx hy
  case gtr => subst h; exact r_gtr hs ho hx hy
  case geq => subst h; exact r_geq hs ho hx hy
  case eql => subst h; exact r_eql hs ho hx hy
  case neq => subst h; exact r_neq hs ho hx hy
  case add => subst h; exact r_add hs ho hx hy
  case sub => subst h; exact r_sub hs ho hx hy
  case mul => subst h; exact r_mul hs ho hx hy
  case and => subst h; exact r_and hs ho hx hy
  case or => subst h; exact r_or hs ho hx hy
  case xor => subst h; exact r_xor hs ho hx hy
theorem r_bi (hs : Sl N L a) (h : biF L o.op = some v) : RunV P a o w v := by
  cases ho : o.op <;> rw [ho] at h <;> simp only [biF] at h
  case binOp b t x y yt =>
    split at h
    · rename_i k n hx
      split at h
      · rename_i k' m hy
        cases hk : kEq k k' with
        | false => rw [hk] at h; cases h
        | true =>
          rw [hk] at h
          have hk' := kEq_ok hk
          subst hk'
          exact bi_one hs ho hx hy h
      · cases h
    · cases h
  all_goals cases h
end

/-! ### elements of slices and arrays -/
def ixo : Nat → Nat → Nat → Option Nat
  | 0, k, 1 => some k
  | 0, k, s => some (k * s)
  | _, _, _ => none
def ixo' (off k : Nat) : Nat → Option Nat
  | 1 => some (off + k)
  | s => some (off + k * s)
def ixF (T : List (Nat × TI)) (L : List (Nat × Value)) : Op → Option (Nat × Nat × Nat × Nat × Int × Nat)
  | .indexAddr t x y => match ev L y with
    | some (.int _ i) => match ev L x with
      | some (.slice (some ⟨g, off, none⟩) len _) => match tlk T t with
        | some ⟨_, _, _, .sl e⟩ => match tsz T e with
          | some s => match litN i with
            | some k => some (g, off, k, s, i, len)
            | none => none
          | none => none
        | _ => none
      | some (.pointer (some ⟨g, off, none⟩)) => match tlk T t with
        | some ⟨_, _, _, .arr len e⟩ => match tsz T e with
          | some s => match litN i with
            | some k => some (g, off, k, s, i, len)
            | none => none
          | none => none
        | _ => none
      | _ => none
    | _ => none
  | _ => none
section
variable {P : Program} {T : List (Nat × TI)} {N : Nat} {L : List (Nat × Value)} {a : Act} {w w0 : World} {S : Nat → Prop} {M : List Hp} {o : Oper} {x y z : Operand} {v u : Value}
theorem ix_ok {g off k s len : Nat} {i : Int} (hs : Sl N L a) (hT : TabOk P T) (h : ixF T L o.op = some (g, off, k, s, i, len)) (hl : i < (len : Int)) : RunV P a o w (.pointer (some ⟨g, off + k * s, none⟩)) := by
  cases ho : o.op <;> rw [ho] at h <;> simp only [ixF] at h
  case indexAddr t x y =>
    split at h
    · rename_i kk i' hy
      split at h
      · rename_i g' off' len' c' hx
        split at h
        · rename_i e ht
          split at h
          · rename_i s' hs'
            split at h
            · rename_i k' hk
              simp only [Option.some.injEq, Prod.mk.injEq] at h
              obtain ⟨rfl, rfl, rfl, rfl, rfl, rfl⟩ := h
              exact r_ixl hs ho hx hy hk hT ht rfl hs' hl
            · cases h
          · cases h
        · cases h
      · rename_i g' off' hx
        split at h
        · rename_i len' e ht
          split at h
          · rename_i s' hs'
            split at h
            · rename_i k' hk
              simp only [Option.some.injEq, Prod.mk.injEq] at h
              obtain ⟨rfl, rfl, rfl, rfl, rfl, rfl⟩ := h
              exact r_ixal hs ho hx hy hk hT ht rfl hs' hl
            · cases h
          · cases h
        · cases h
      · cases h
    · cases h
  all_goals cases h
theorem r_iz {g off k s len q : Nat} {i : Int} (hs : Sl N L a) (hT : TabOk P T) (h : ixF T L o.op = some (g, off, k, s, i, len)) (hq : ixo off k s = some q) (hl : i < (len : Int)) : RunV P a o w (.pointer (some ⟨g, q, none⟩)) := by
  have h1 := ix_ok (P := P) (w := w) hs hT h hl
  unfold ixo at hq
  split at hq
  · obtain rfl := Option.some.inj hq
    rwa [Nat.zero_add, Nat.mul_one] at h1
  · obtain rfl := Option.some.inj hq
    rwa [Nat.zero_add] at h1
  · cases hq
theorem r_iy {g off k s len q : Nat} {i : Int} (hs : Sl N L a) (hT : TabOk P T) (h : ixF T L o.op = some (g, off, k, s, i, len)) (hq : ixo' off k s = some q) (hl : i < (len : Int)) : RunV P a o w (.pointer (some ⟨g, q, none⟩)) := by
  have h1 := ix_ok (P := P) (w := w) hs hT h hl
  unfold ixo' at hq
  split at hq
  · obtain rfl := Option.some.inj hq
    rwa [Nat.mul_one] at h1
  · obtain rfl := Option.some.inj hq
    exact h1
end

theorem Ro.cl0 {S : Nat → Prop} {w0 w : World} {M : List Hp} {b j : Nat} {vs : List Value} {v : Value} (h : Ro w0 b 0 vs) (hm : Mm S w0 M w) (hb : ¬ S b) (hv : vs[j]? = some v) : w.cell? ⟨b, j, none⟩ = some v := by
  have := Ro.cl h hm hb hv
  rwa [Nat.zero_add] at this
theorem mH {α : Type} {x : α} {l : List α} : x ∈ x :: l := List.mem_cons_self ..
theorem mT {α : Type} {x y : α} {l : List α} (h : x ∈ l) : x ∈ y :: l := List.mem_cons_of_mem _ h
/-! ### one step, in either kind of region -/
section
variable {P : Program} {T : List (Nat × TI)} {N : Nat} {L : List (Nat × Value)} {a : Act} {w w0 : World} {S : Nat → Prop} {M : List Hp} {o : Oper} {x y z : Operand} {v u : Value} {ops : Array Oper} {rest : List Oper} {Q : Exit → Act → World → Prop} {Qa : Act → Prop} {K : Act → Prop}
structure One (P : Program) (ops : Array Oper) (S : Nat → Prop) (w0 : World) (M : List Hp) (o : Oper) (a : Act) (K : Act → Prop) : Prop where
  h : (Region.wanted o (yielded ops a.tmps) = true ∧ ∃ v, (∀ w, Mm S w0 M w → RunV P a o w v) ∧ K (a.put o.dst v)) ∨ (Region.wanted o (yielded ops a.tmps) = false ∧ K (a.put o.dst undef))
theorem toL (hm : Mm S w0 M w) (h : One P ops S w0 M o a (fun a' => wpList P ops Q rest a' w)) : wpList P ops Q (o :: rest) a w := by
  rcases h.h with ⟨h1, v, h2, h3⟩ | ⟨h1, h3⟩
  · unfold wpList
    rw [if_pos h1]
    exact .inl (Does.wp ((h2 w hm).does.mono fun v' w' hvw => by rw [hvw.1, hvw.2]; exact h3))
  · unfold wpList
    rw [if_neg (by rw [h1]; exact Bool.false_ne_true)]
    exact h3
theorem toQ (h : One P ops S w0 M o a (fun a' => wpQuiet P ops (fun w' => Mm S w0 M w') Qa rest a')) : wpQuiet P ops (fun w' => Mm S w0 M w') Qa (o :: rest) a := by
  rcases h.h with ⟨h1, v, h2, h3⟩ | ⟨h1, h3⟩
  · unfold wpQuiet
    rw [if_pos h1]
    exact qquiet h2 h3
  · unfold wpQuiet
    rw [if_neg (by rw [h1]; exact Bool.false_ne_true)]
    exact h3
theorem oneV {d : Nat} (hs : Sl N L a) (hg : Wnt ops N L o) (ho : o.dst = some d) (hd : Nat.blt d N = true) (h : ∀ w, Mm S w0 M w → RunV P a o w v) (k : ∀ a, Sl N ((d, v) :: L) a → K a) : One P ops S w0 M o a K :=
  ⟨.inl ⟨hg.yes hs, v, h, by rw [ho]; exact k _ (hs.put v hd)⟩⟩
theorem oneN {d j e : Nat} {b c : Bool} (hs : Sl N L a) (hg : o.guard = some (j, b)) (hj : (ops[j]?).bind (·.dst) = some e) (he : Nat.blt e N = true) (hv : lk L e = some (.bool c)) (hbc : (c == b) = false) (ho : o.dst = some d) (hd : Nat.blt d N = true) (k : ∀ a, Sl N ((d, undef) :: L) a → K a) : One P ops S w0 M o a K := by
  refine ⟨.inr ⟨?_, by rw [ho]; exact k _ (hs.put undef hd)⟩⟩
  simp only [Region.wanted, hg, yielded_of hs hj he hv]
  simpa using hbc
theorem oneU {d j e : Nat} {b : Bool} (hs : Sl N L a) (hg : o.guard = some (j, b)) (hj : (ops[j]?).bind (·.dst) = some e) (he : Nat.blt e N = true) (hv : lk L e = some undef) (ho : o.dst = some d) (hd : Nat.blt d N = true) (k : ∀ a, Sl N ((d, undef) :: L) a → K a) : One P ops S w0 M o a K := by
  refine ⟨.inr ⟨?_, by rw [ho]; exact k _ (hs.put undef hd)⟩⟩
  simp [Region.wanted, hg, yielded_un hs hj he hv]
end
end Go.Proofs.YtajkekhnfobgiaaGreatDoor

/- Regions that draw their order, with operations that change memory. -/
namespace Go.Proofs.YtajkekhnfobgiaaGreatDoor
set_option maxRecDepth 20000
open Go.RowKit

section
variable {P : Program} {T : List (Nat × TI)} {N : Nat} {L : List (Nat × Value)} {a : Act} {w w0 : World} {S : Nat → Prop} {M M1 : List Hp} {o : Oper} {v : Value} {K : Value → World → Prop} {Q : Exit → Act → World → Prop} {ops : Array Oper} {l : Array Bool} {S1 : World → Prop} {n : Nat}

structure Drawn (P : Program) (ops : Array Oper) (Q : Exit → Act → World → Prop) (S1 : World → Prop) (n : Nat) (l : Array Bool) (a : Act) (w : World) : Prop where
  h : wpAnyH P .any ops (NoPanic Q) S1 n l a w
theorem cDraw {id : Nat} (M1 : List Hp) (hm : Mm S w0 M w) (hf : P.follows .mixedOrders = true) (hn : ops.size = n) (k : ∀ w, Mm S w0 M w → Drawn P ops Q (fun w' => Mm S w0 M1 w') n (Array.replicate n false) a w) : (Code.region id ops true).wp P Q a w := by
  refine wp_region_noPanic (wp_region_held (S := fun w' => Mm S w0 M1 w') hf ?_)
  rw [hn]
  exact (k _ hm.drew).h
def lget : List Oper → Nat → Option Oper
  | [], _ => none
  | x :: _, 0 => some x
  | _ :: r, n + 1 => lget r n
theorem lget_eq (r : List Oper) (i : Nat) : lget r i = r[i]? := by
  induction r generalizing i with
  | nil => rfl
  | cons x t ih => cases i with
    | zero => rfl
    | succ i => simp only [lget, ih, List.getElem?_cons_succ]
theorem lget_ok {i : Nat} (h : lget ops.toList i = some o) : ops[i]? = some o := by
  rw [lget_eq] at h
  simpa using h
def takeB (ops : Array Oper) (l : Array Bool) (i : Nat) : Bool := Region.noSelect ops && Region.free .any ops l i && (Region.ready .any ops l).contains i
theorem hTake {d : Nat} (i : Nat) (hs : Sl N L a) (hi : lget ops.toList i = some o) (hb : takeB ops l i = true) (hg : Wnt ops N L o) (ho : o.dst = some d) (hd : Nat.blt d N = true) (h : ∀ w, S1 w → RunV P a o w v) (hS : S1 w) (k : ∀ a, Sl N ((d, v) :: L) a → Drawn P ops Q S1 n (l.setIfInBounds i true) a w) : Drawn P ops Q S1 (n + 1) l a w := by
  unfold takeB at hb
  simp only [Bool.and_eq_true] at hb
  refine ⟨wpAnyH_take (lget_ok hi) hb.1.1 hb.1.2 hb.2 (fun _ _ _ h => h) (.inl ⟨hg.yes hs, h⟩) hS ?_⟩
  rw [ho]
  exact (k _ (hs.put v hd)).h
theorem hDone (hr : (Region.ready .any ops l).isEmpty = true) (h : Goes Q .normal a w) : Drawn P ops Q S1 n l a w :=
  ⟨wpAnyH_done (Q := NoPanic Q) (by simpa using hr) (show NoPanic Q .normal a w from h) n⟩
/-- whichever of the rest comes next -/
structure Each (P : Program) (ops : Array Oper) (Q : Exit → Act → World → Prop) (S1 : World → Prop) (n : Nat) (l : Array Bool) (a : Act) (w : World) (rs : List Nat) : Prop where
  h : ∀ i ∈ rs, wpOp P ops (NoPanic Q) i (fun a' w' => S1 w' ∧ wpAnyH P .any ops (NoPanic Q) S1 n (l.setIfInBounds i true) a' w') a w
theorem hEach (rs : List Nat) (hr : (Region.ready .any ops l == rs && !rs.isEmpty) = true) (h : Each P ops Q S1 n l a w rs) : Drawn P ops Q S1 (n + 1) l a w := by
  simp only [Bool.and_eq_true, beq_iff_eq, Bool.not_eq_true'] at hr
  exact ⟨wpAnyH_all hr.1 (fun e => by rw [e] at hr; simp at hr) h.h⟩
theorem eNil : Each P ops Q S1 n l a w [] := ⟨fun i hi => by cases hi⟩
theorem eDo {d i : Nat} {rs : List Nat} (hs : Sl N L a) (hi : lget ops.toList i = some o) (hg : Wnt ops N L o) (ho : o.dst = some d) (hd : Nat.blt d N = true) (h : Does P a o w K) (k : ∀ v w', K v w' → ∀ a, Sl N ((d, v) :: L) a → S1 w' ∧ Drawn P ops Q S1 n (l.setIfInBounds i true) a w') (r : Each P ops Q S1 n l a w rs) : Each P ops Q S1 n l a w (i :: rs) := by
  refine ⟨fun j hj => ?_⟩
  rcases List.mem_cons.1 hj with rfl | hj
  · refine wpOp_step (lget_ok hi) fun K' hK => ?_
    rw [if_pos (hg.yes hs)]
    exact Does.wp (h.mono fun v w' hk => hK _ _ (by rw [ho]; have := k v w' hk _ (hs.put v hd); exact ⟨this.1, this.2.h⟩))
  · exact r.h j hj
theorem eDoN {i : Nat} {rs : List Nat} (hs : Sl N L a) (hi : lget ops.toList i = some o) (hg : Wnt ops N L o) (ho : o.dst = none) (h : Does P a o w K) (k : ∀ v w', K v w' → ∀ a, Sl N L a → S1 w' ∧ Drawn P ops Q S1 n (l.setIfInBounds i true) a w') (r : Each P ops Q S1 n l a w rs) : Each P ops Q S1 n l a w (i :: rs) := by
  refine ⟨fun j hj => ?_⟩
  rcases List.mem_cons.1 hj with rfl | hj
  · refine wpOp_step (lget_ok hi) fun K' hK => ?_
    rw [if_pos (hg.yes hs)]
    exact Does.wp (h.mono fun v w' hk => hK _ _ (by rw [ho]; have := k v w' hk _ hs; exact ⟨this.1, this.2.h⟩))
  · exact r.h j hj
end
end Go.Proofs.YtajkekhnfobgiaaGreatDoor

/- Regions that draw their order: a load may be taken first although a later store, the barrier, changes what it reads: the store waits for the load. -/
namespace Go.Proofs.YtajkekhnfobgiaaGreatDoor
set_option maxRecDepth 20000
open Go.RowKit

section
variable {P : Program} {ops : Array Oper} {Q : Exit → Act → World → Prop} {md : Region.Mode} {S : World → Prop}
/-- whatever order is picked from here on; S holds behind every operation until the barrier b has come up -/
def wpAnyB (P : Program) (md : Region.Mode) (ops : Array Oper) (Q : Exit → Act → World → Prop) (b : Nat) (S : World → Prop) : Nat → Array Bool → Act → World → Prop
  | 0, l, a, w => Region.ready md ops l = [] ∧ Q .normal a w
  | fuel + 1, l, a, w => (Region.ready md ops l = [] → Q .normal a w) ∧ ∀ i ∈ Region.ready md ops l, wpOp P ops Q i (fun a' w' => ((l.setIfInBounds i true).getD b false = true ∨ S w') ∧ wpAnyB P md ops Q b S fuel (l.setIfInBounds i true) a' w') a w
theorem wpAny_of_b {b : Nat} : ∀ (fuel : Nat) (l : Array Bool) (a : Act) (w : World), wpAnyB P md ops Q b S fuel l a w → wpAny P md ops Q fuel l a w
  | 0, _, _, _, h => h
  | fuel + 1, _, _, _, h => ⟨h.1, fun i hi => wpOp_mono (fun a' w' h' => wpAny_of_b fuel _ a' w' h'.2) (h.2 i hi)⟩
/-- the barrier waits for i -/
def waitsB (md : Region.Mode) (ops : Array Oper) (b i : Nat) : Bool := ((ops[b]?).map fun o => o.after.any fun e => Region.binds md e && e.on == i).getD false
theorem waitsB_not {b i j : Nat} {oj : Oper} (h : waitsB md ops b i = true) (hj : ops[j]? = some oj) (hn : ∀ e ∈ oj.after, Region.binds md e = true → e.on ≠ i) : j ≠ b := by
  rintro rfl
  unfold waitsB at h
  rw [hj, Option.map_some, Option.getD_some, Array.any_eq_true'] at h
  obtain ⟨e, he, h1⟩ := h
  rw [Bool.and_eq_true] at h1
  exact hn e he h1.1 (by simpa using h1.2)
theorem getD_tf {l : Array Bool} {b : Nat} (h : l.getD b true = false) (h2 : l.getD b false = true) : False := by
  rw [Array.getD_eq_getD_getElem?] at h h2
  cases hl : l[b]? with
  | none => rw [hl] at h; cases h
  | some x => rw [hl] at h h2; dsimp only [Option.getD_some] at h h2; rw [h] at h2; cases h2
theorem wpAnyB_first {b i : Nat} {oi : Oper} {v : Value} {g : Bool} (hi : ops[i]? = some oi) (hsel : ∀ (j : Nat) (o : Oper) cs b, ops[j]? = some o → o.op ≠ .select cs b)
    (hQ : ∀ c a w, Q (.panic c) (a.put oi.dst v) w → Q (.panic c) a w) (hib : i ≠ b) (hwt : g = true → waitsB md ops b i = true) :
    ∀ (fuel : Nat) (listed : Array Bool) (a : Act) (w : World),
      (∀ j oj, ops[j]? = some oj → j ≠ i → listed.getD j true = false → (∀ e ∈ oj.after, Region.binds md e = true → e.on ≠ i) → oi.apart ops oj = true) →
      i ∈ Region.ready md ops listed → (g = true → listed.getD b true = false) → YieldsIf P ops (fun w => g = true → S w) oi v a → (listed.getD b false = true ∨ S w) →
      wpAnyB P md ops Q b S fuel (listed.setIfInBounds i true) (a.put oi.dst v) w → wpAnyB P md ops Q b S (fuel + 1) listed a w := by
  have hset : ∀ (l : Array Bool) (k : Nat), k ≠ b → ∀ x, (l.setIfInBounds k true).getD b x = l.getD b x := fun l k hk x => getD_set_ne x hk
  have hS0 : ∀ (l : Array Bool) (w : World), (g = true → l.getD b true = false) → (l.getD b false = true ∨ S w) → g = true → S w := fun l w h1 h2 hg => h2.resolve_left fun h3 => getD_tf (h1 hg) h3
  intro fuel
  induction fuel with
  | zero =>
    intro listed a w _ hr hgb hy hS H
    refine ⟨fun h => (by rw [h] at hr; cases hr), fun j hj => ?_⟩
    by_cases hji : j = i
    · subst hji
      exact hy.wpOp hi (hS0 _ _ hgb hS) ⟨by rw [hset _ _ hib]; exact hS, H⟩
    · have := ready_mono hj hji
      rw [H.1] at this
      cases this
  | succ fuel ih =>
    intro listed a w hfree hr hgb hy hS H
    refine ⟨fun h => (by rw [h] at hr; cases hr), fun j hj => ?_⟩
    by_cases hji : j = i
    · subst hji
      exact hy.wpOp hi (hS0 _ _ hgb hS) ⟨by rw [hset _ _ hib]; exact hS, H⟩
    · have h1 := H.2 j (ready_mono hj hji)
      obtain ⟨hjun, oj, hoj, hall⟩ := mem_ready.1 hj
      have hnot : ∀ e ∈ oj.after, Region.binds md e = true → e.on ≠ i := fun e he hb heq => by
        have h1 := hall e he hb
        have h0 := (mem_ready.1 hr).1
        rw [heq] at h1
        rcases Nat.lt_or_ge i listed.size with h' | h'
        · simp [h'] at h0 h1; rw [h0] at h1; cases h1
        · simp [Array.getElem?_eq_none h'] at h1
      have h2 := wpOp_putIf hoj (hfree j oj hoj hji hjun hnot) (fun cs b => hsel i oi cs b hi) (fun cs b => hsel j oj cs b hoj) hQ hy h1
      have hfree' : ∀ k ok, ops[k]? = some ok → k ≠ i → (listed.setIfInBounds j true).getD k true = false →
          (∀ e ∈ ok.after, Region.binds md e = true → e.on ≠ i) → oi.apart ops ok = true := fun k ok hk hki hun hno => by
        refine hfree k ok hk hki ?_ hno
        by_cases hjk : j = k
        · subst hjk; exact hjun
        · rw [getD_set_ne true hjk] at hun; exact hun
      have hgb' : g = true → (listed.setIfInBounds j true).getD b true = false := fun hg => by
        rw [hset _ _ (waitsB_not (hwt hg) hoj hnot)]
        exact hgb hg
      refine wpOp_mono (fun a' w' h3 => ?_) h2
      have h4 : (listed.setIfInBounds j true).getD b false = true ∨ S w' := by
        have h5 := h3.2.1
        rw [Array.setIfInBounds_comm _ _ (Ne.symm hji), hset _ _ hib] at h5
        exact h5
      refine ⟨h4, ih (listed.setIfInBounds j true) a' w' hfree' (ready_mono hr (Ne.symm hji)) hgb' h3.1 h4 ?_⟩
      rw [Array.setIfInBounds_comm _ _ hji]
      exact h3.2.2
end
section
variable {P : Program} {T : List (Nat × TI)} {N : Nat} {L : List (Nat × Value)} {a : Act} {w w0 : World} {S : Nat → Prop} {M M1 : List Hp} {o : Oper} {v : Value} {K : Value → World → Prop} {Q : Exit → Act → World → Prop} {ops : Array Oper} {l : Array Bool} {S1 : World → Prop} {n b : Nat}
structure DrawnB (P : Program) (ops : Array Oper) (Q : Exit → Act → World → Prop) (b : Nat) (S1 : World → Prop) (n : Nat) (l : Array Bool) (a : Act) (w : World) : Prop where
  h : wpAnyB P .any ops (NoPanic Q) b S1 n l a w
theorem cDrawB {id : Nat} (b : Nat) (M1 : List Hp) (hm : Mm S w0 M w) (hf : P.follows .mixedOrders = true) (hn : ops.size = n) (k : ∀ w, Mm S w0 M w → DrawnB P ops Q b (fun w' => Mm S w0 M1 w') n (Array.replicate n false) a w) : (Code.region id ops true).wp P Q a w := by
  refine wp_region_noPanic (wp_region_any hf (wpAny_of_b (b := b) (S := fun w' => Mm S w0 M1 w') _ _ _ _ ?_))
  rw [hn]
  exact (k _ hm.drew).h
theorem bTake {d : Nat} (i : Nat) (g : Bool) (hs : Sl N L a) (hi : lget ops.toList i = some o) (hb : takeB ops l i = true) (hbar : (!(Nat.beq i b) && (!g || (waitsB .any ops b i && !(l.getD b true)))) = true) (hg : Wnt ops N L o) (ho : o.dst = some d) (hd : Nat.blt d N = true) (h : ∀ w, (g = true → S1 w) → RunV P a o w v) (hS : l.getD b false = true ∨ S1 w) (k : ∀ a, Sl N ((d, v) :: L) a → DrawnB P ops Q b S1 n (l.setIfInBounds i true) a w) : DrawnB P ops Q b S1 (n + 1) l a w := by
  unfold takeB at hb
  simp only [Bool.and_eq_true] at hb
  rw [Bool.and_eq_true] at hbar
  refine ⟨wpAnyB_first (g := g) (lget_ok hi) (Region.noSelect_spec hb.1.1) (fun _ _ _ h => h) (fun e => ?_) (fun e => ?_) n l a w (Region.free_spec (lget_ok hi) hb.1.2) (by simpa using hb.2) (fun e => ?_) (.inl ⟨hg.yes hs, h⟩) hS ?_⟩
  · rw [e] at hbar
    simp at hbar
  · have h2 := hbar.2
    rw [e] at h2
    simp only [Bool.not_true, Bool.false_or, Bool.and_eq_true] at h2
    exact h2.1
  · have h2 := hbar.2
    rw [e] at h2
    simp only [Bool.not_true, Bool.false_or, Bool.and_eq_true] at h2
    simpa using h2.2
  · rw [ho]
    exact (k _ (hs.put v hd)).h
theorem bDone (hr : (Region.ready .any ops l).isEmpty = true) (h : Goes Q .normal a w) : DrawnB P ops Q b S1 n l a w := by
  have h1 : Region.ready .any ops l = [] := by simpa using hr
  refine ⟨?_⟩
  cases n with
  | zero => exact ⟨h1, h⟩
  | succ n => exact ⟨fun _ => h, by rw [h1]; simp⟩
/-- whichever of the rest comes next -/
structure EachB (P : Program) (ops : Array Oper) (Q : Exit → Act → World → Prop) (b : Nat) (S1 : World → Prop) (n : Nat) (l : Array Bool) (a : Act) (w : World) (rs : List Nat) : Prop where
  h : ∀ i ∈ rs, wpOp P ops (NoPanic Q) i (fun a' w' => ((l.setIfInBounds i true).getD b false = true ∨ S1 w') ∧ wpAnyB P .any ops (NoPanic Q) b S1 n (l.setIfInBounds i true) a' w') a w
theorem bEach (rs : List Nat) (hr : (Region.ready .any ops l == rs && !rs.isEmpty) = true) (h : EachB P ops Q b S1 n l a w rs) : DrawnB P ops Q b S1 (n + 1) l a w := by
  simp only [Bool.and_eq_true, beq_iff_eq, Bool.not_eq_true'] at hr
  refine ⟨fun h0 => ?_, hr.1 ▸ h.h⟩
  have h1 := hr.2
  rw [← hr.1, h0] at h1
  simp at h1
theorem bNil : EachB P ops Q b S1 n l a w [] := ⟨fun i hi => by cases hi⟩
theorem bDo {d i : Nat} {rs : List Nat} (hs : Sl N L a) (hi : lget ops.toList i = some o) (hg : Wnt ops N L o) (ho : o.dst = some d) (hd : Nat.blt d N = true) (h : Does P a o w K) (k : ∀ v w', K v w' → ∀ a, Sl N ((d, v) :: L) a → ((l.setIfInBounds i true).getD b false = true ∨ S1 w') ∧ DrawnB P ops Q b S1 n (l.setIfInBounds i true) a w') (r : EachB P ops Q b S1 n l a w rs) : EachB P ops Q b S1 n l a w (i :: rs) := by
  refine ⟨fun j hj => ?_⟩
  rcases List.mem_cons.1 hj with rfl | hj
  · refine wpOp_step (lget_ok hi) fun K' hK => ?_
    rw [if_pos (hg.yes hs)]
    exact Does.wp (h.mono fun v w' hk => hK _ _ (by rw [ho]; have := k v w' hk _ (hs.put v hd); exact ⟨this.1, this.2.h⟩))
  · exact r.h j hj
theorem bDoN {i : Nat} {rs : List Nat} (hs : Sl N L a) (hi : lget ops.toList i = some o) (hg : Wnt ops N L o) (ho : o.dst = none) (h : Does P a o w K) (k : ∀ v w', K v w' → ∀ a, Sl N L a → ((l.setIfInBounds i true).getD b false = true ∨ S1 w') ∧ DrawnB P ops Q b S1 n (l.setIfInBounds i true) a w') (r : EachB P ops Q b S1 n l a w rs) : EachB P ops Q b S1 n l a w (i :: rs) := by
  refine ⟨fun j hj => ?_⟩
  rcases List.mem_cons.1 hj with rfl | hj
  · refine wpOp_step (lget_ok hi) fun K' hK => ?_
    rw [if_pos (hg.yes hs)]
    exact Does.wp (h.mono fun v w' hk => hK _ _ (by rw [ho]; have := k v w' hk _ hs; exact ⟨this.1, this.2.h⟩))
  · exact r.h j hj
end
end Go.Proofs.YtajkekhnfobgiaaGreatDoor

/- Steps that a walk tries, each as a proof that stands by itself where nothing is said (a default argument): what an operation gives; whether it is wanted; what it makes and stores. -/
namespace Go.Proofs.YtajkekhnfobgiaaGreatDoor
set_option maxRecDepth 20000
open Go.RowKit

section
variable {P : Program} {N : Nat} {L : List (Nat × Value)} {a : Act} {w : World} {o : Oper} {v : Value} {K : Value → World → Prop} {ops : Array Oper}
theorem kv_ (h : RunV P a o w v := by first | exact r_val hs tab rfl | ((with_reducible apply kLoad); first | exact r_load hs rfl rfl tab rfl rfl (by first | exact hm.cl (by repeat (first | exact mH | apply mT)) (by first | rfl | assumption) | exact Ro.cl (by assumption) hm (by first | exact (fun t => t) | assumption) (by first | rfl | assumption) | exact Ro.cl0 (by assumption) hm (by first | exact (fun t => t) | assumption) (by first | rfl | assumption)) | exact r_loadO hs rfl rfl tab rfl rfl rfl hm (by repeat (first | exact mH | apply mT)) (by rfl) | exact r_loadA hs rfl rfl tab rfl rfl (Ro.ro (by assumption) hm (by first | exact (fun t => t) | assumption)) rfl) | exact r_iz hs tab rfl rfl (by omega) | exact r_iy hs tab rfl rfl (by omega) | exact r_cT hs rfl (by omega) | exact r_cF hs rfl (by omega) | exact r_arH hs rfl (by assumption) (by omega) | exact r_pred hs rfl rfl rfl (by omega) | exact r_ar hs rfl (by omega) | exact r_bi hs rfl | exact r_pick hs rfl rfl rfl rfl) : RunV P a o w v := h
theorem kvR_ (h : RunV P a o w v := by first | exact r_val hs tab rfl | ((with_reducible apply kLoad); first | exact r_load hs rfl rfl tab rfl rfl (by first | exact Ro.cl (by assumption) hm (by first | exact (fun t => t) | assumption) (by first | rfl | assumption) | exact Ro.cl0 (by assumption) hm (by first | exact (fun t => t) | assumption) (by first | rfl | assumption) | exact hm.cl (by repeat (first | exact mH | apply mT)) (by first | rfl | assumption)) | exact r_loadO hs rfl rfl tab rfl rfl rfl hm (by repeat (first | exact mH | apply mT)) (by rfl) | exact r_loadA hs rfl rfl tab rfl rfl (Ro.ro (by assumption) hm (by first | exact (fun t => t) | assumption)) rfl) | exact r_iz hs tab rfl rfl (by omega) | exact r_iy hs tab rfl rfl (by omega) | exact r_cT hs rfl (by omega) | exact r_cF hs rfl (by omega) | exact r_arH hs rfl (by assumption) (by omega) | exact r_pred hs rfl rfl rfl (by omega) | exact r_ar hs rfl (by omega) | exact r_bi hs rfl | exact r_pick hs rfl rfl rfl rfl) : RunV P a o w v := h
theorem kl_ (h : RunV P a o w v := by ((with_reducible apply kLoad); first | exact r_load hs rfl rfl tab rfl rfl (by first | exact hm.cl (by repeat (first | exact mH | apply mT)) (by first | rfl | assumption) | exact Ro.cl (by assumption) hm (by first | exact (fun t => t) | assumption) (by first | rfl | assumption) | exact Ro.cl0 (by assumption) hm (by first | exact (fun t => t) | assumption) (by first | rfl | assumption)) | exact r_loadO hs rfl rfl tab rfl rfl rfl hm (by repeat (first | exact mH | apply mT)) (by rfl) | exact r_loadA hs rfl rfl tab rfl rfl (Ro.ro (by assumption) hm (by first | exact (fun t => t) | assumption)) rfl)) : RunV P a o w v := h
theorem klR_ (h : RunV P a o w v := by ((with_reducible apply kLoad); first | exact r_load hs rfl rfl tab rfl rfl (by first | exact Ro.cl (by assumption) hm (by first | exact (fun t => t) | assumption) (by first | rfl | assumption) | exact Ro.cl0 (by assumption) hm (by first | exact (fun t => t) | assumption) (by first | rfl | assumption) | exact hm.cl (by repeat (first | exact mH | apply mT)) (by first | rfl | assumption)) | exact r_loadO hs rfl rfl tab rfl rfl rfl hm (by repeat (first | exact mH | apply mT)) (by rfl) | exact r_loadA hs rfl rfl tab rfl rfl (Ro.ro (by assumption) hm (by first | exact (fun t => t) | assumption)) rfl)) : RunV P a o w v := h
theorem gw_ (h : Wnt ops N L o := by first | exact Wnt.none rfl | exact Wnt.some rfl rfl rfl rfl) : Wnt ops N L o := h
theorem da_ (h : Does P a o w K := by first | exact d_alloc rfl tab rfl rfl hm | exact d_box hs rfl rfl rfl hm | exact d_buildSlice0 rfl tab rfl rfl rfl hm | exact d_buildSlice hs rfl tab rfl rfl rfl rfl rfl rfl rfl rfl rfl hm) : Does P a o w K := h
theorem ds_ (h : Does P a o w K := by first | exact d_store hs rfl rfl rfl tab rfl rfl rfl rfl hm (by repeat (first | exact Rep.head _ _ _ | apply Rep.tail)) (by rfl) | exact d_store1 hs rfl rfl rfl tab rfl rfl rfl rfl hm (by repeat (first | exact Rep.head _ _ _ | apply Rep.tail)) (by first | omega | assumption | (simp; omega))) : Does P a o w K := h
theorem bd_ {b c : Bool} (h : b = c := by first | rfl | assumption | exact decide_eq_true (by omega) | exact decide_eq_false (by omega) | exact ndT (by omega) | exact ndF (by omega)) : b = c := h
theorem mem_ {x : Hp} {M : List Hp} (h : x ∈ M := by repeat (first | exact mH | apply mT)) : x ∈ M := h
theorem rep_ {M M' : List Hp} {x y : Hp} (h : Rep M x y M' := by repeat (first | exact Rep.head _ _ _ | apply Rep.tail)) : Rep M x y M' := h
theorem sub_ {M M' : List Hp} (h : M.Sublist M' := by repeat (first | exact List.Sublist.refl _ | exact List.nil_sublist _ | apply List.Sublist.cons_cons | apply List.Sublist.cons)) : M.Sublist M' := h
theorem ksl_ (h : RunV P a o w v := by first | exact r_sliceArr hs rfl rfl tab rfl rfl rfl | exact r_sliceArrTo hs rfl rfl rfl tab rfl rfl rfl (by omega) (by omega) | exact r_sliceTo hs rfl rfl rfl tab rfl rfl rfl (by omega) (by omega) | exact r_sliceFrom hs rfl rfl rfl tab rfl rfl rfl (by omega) (by omega)) : RunV P a o w v := h
theorem kb2_ (h : RunV P a o w v := by exact r_b2s hs rfl rfl tab rfl rfl rfl rfl rfl rfl (by first | exact Fr.rd' hm.fr (by assumption) | exact Mm.rd_row hm (by repeat (first | exact mH | apply mT)) (by assumption)) (by assumption)) : RunV P a o w v := h
/-- steps that only unfold -/
theorem sx_ {G H : Prop} (k : H) (s : H → G := by with_reducible first | exact lNilThen | exact lNilBlock | exact lNil | exact wp_seq | exact wp_region_lit | exact wp_block | exact cExit | exact cRet | exact cSkip | exact gThen | exact gBlock | exact eThen | exact eBlockHit | exact fun k => eBlock rfl k | exact rThen | exact rBlock) : G := s k
/-- a test that is decided -/
theorem cx_ {G H : Prop} (k : H) (s : H → G := by intro k; (with_reducible apply cCond); first | exact cTrue hs rfl bd_ k | exact cFalse hs rfl bd_ k) : G := s k
/-- an operation that is not wanted -/
theorem oN_ {G H : Prop} (k : H) (s : H → G := by first | exact fun k => oneN hs rfl rfl rfl rfl rfl rfl rfl k | exact fun k => oneU hs rfl rfl rfl rfl rfl rfl k) : G := s k
/-- an operation that yields a value, or is not wanted -/
theorem ov_ {G H : Prop} (k : H) (s : H → G := by intro k; (with_reducible refine toL hm ?_); first | exact oneV hs gw_ rfl rfl (by intro w hm; exact kv_) k | exact oneN hs rfl rfl rfl rfl rfl rfl rfl k | exact oneU hs rfl rfl rfl rfl rfl rfl k) : G := s k
theorem ovR_ {G H : Prop} (k : H) (s : H → G := by intro k; (with_reducible refine toL hm ?_); first | exact oneV hs gw_ rfl rfl (by intro w hm; exact kvR_) k | exact oneN hs rfl rfl rfl rfl rfl rfl rfl k | exact oneU hs rfl rfl rfl rfl rfl rfl k) : G := s k
/-- a step that only unfolds, or a test that is decided -/
theorem sc_ {G H : Prop} (k : H) (s : H → G := by first | (with_reducible first | exact lNilThen | exact lNilBlock | exact lNil | exact wp_seq | exact wp_region_lit | exact wp_block | exact cExit | exact cRet | exact cSkip | exact gThen | exact gBlock | exact eThen | exact eBlockHit | exact fun k => eBlock rfl k | exact rThen | exact rBlock) | (intro k; (with_reducible apply cCond); first | exact cTrue hs rfl bd_ k | exact cFalse hs rfl bd_ k)) : G := s k
/-- values, in quiet regions too -/
theorem oq_ {G H : Prop} (k : H) (s : H → G := by intro k; (with_reducible first | refine toL hm ?_ | refine toQ ?_); first | exact oneV hs gw_ rfl rfl (by intro w hm; exact kv_) k | exact oneN hs rfl rfl rfl rfl rfl rfl rfl k | exact oneU hs rfl rfl rfl rfl rfl rfl k) : G := s k
theorem oqR_ {G H : Prop} (k : H) (s : H → G := by intro k; (with_reducible first | refine toL hm ?_ | refine toQ ?_); first | exact oneV hs gw_ rfl rfl (by intro w hm; exact kvR_) k | exact oneN hs rfl rfl rfl rfl rfl rfl rfl k | exact oneU hs rfl rfl rfl rfl rfl rfl k) : G := s k
theorem cQ_ {G H : Prop} (k : H) (s : H → G := by intro k; (with_reducible refine cQuiet hm ?_ ?_ ?_ k); rfl; kernel_rfl; kernel_rfl) : G := s k
end
section
variable {P : Program} {N : Nat} {L : List (Nat × Value)} {a : Act} {w w0 : World} {S : Nat → Prop} {M : List Hp} {o : Oper} {ops : Array Oper} {rest : List Oper} {Q : Exit → Act → World → Prop} {Qa : Act → Prop}
/-- a call that gives one value and leaves what was there -/
theorem dvc {d : Nat} {fo : Operand} {xs : List Operand} {vs : List Value} {ts : Array TypeId} {f : FuncId} {v : Value} (hs : Sl N L a) (hm : Mm S w0 M w) (hg : Wnt ops N L o) (ho' : o.dst = some d) (hd : Nat.blt d N = true) (ho : o.op = .call { callee := .value fo, args := xs.toArray, argTypes := ts }) (hf : ev L fo = some (.func (.func f) #[] #[])) (hx : evs L xs = some vs) (hp : plain P f) (hc : Ret P f vs w (fun u w' => u = v ∧ Pu w w')) (k : ∀ w', Mm S w0 M w' → ∀ a, Sl N ((d, v) :: L) a → wpList P ops Q rest a w') : wpList P ops Q (o :: rest) a w :=
  dv hs hg ho' hd (d_call hs ho hf hx hp hc) fun u w' ⟨hu, hf'⟩ a h => by subst hu; exact k w' (hm.pu hf') a h
theorem qwc {d : Nat} {fo : Operand} {xs : List Operand} {vs : List Value} {ts : Array TypeId} {f : FuncId} {v : Value} (hs : Sl N L a) (hg : Wnt ops N L o) (ho' : o.dst = some d) (hd : Nat.blt d N = true) (ho : o.op = .call { callee := .value fo, args := xs.toArray, argTypes := ts }) (hf : ev L fo = some (.func (.func f) #[] #[])) (hx : evs L xs = some vs) (hp : plain P f) (hc : ∀ w, Mm S w0 M w → Ret P f vs w (fun u w' => u = v ∧ Pu w w')) (k : ∀ a, Sl N ((d, v) :: L) a → wpQuiet P ops (fun w' => Mm S w0 M w') Qa rest a) : wpQuiet P ops (fun w' => Mm S w0 M w') Qa (o :: rest) a :=
  qwcall hs hg ho' hd ho hf hx hp (fun w hm => Ret.mono (hc w hm) fun _ _ ⟨h1, h2⟩ => ⟨h1, hm.pu h2⟩) k
/-- the number of an operation, for a step that takes it -/
structure Tg (i : Nat) : Prop where
theorem hTakeT {S1 : World → Prop} {l : Array Bool} {n d i : Nat} {v : Value} (_ : Tg i) (hs : Sl N L a) (hi : lget ops.toList i = some o) (hb : takeB ops l i = true) (hg : Wnt ops N L o) (ho : o.dst = some d) (hd : Nat.blt d N = true) (h : ∀ w, S1 w → RunV P a o w v) (hS : S1 w) (k : ∀ a, Sl N ((d, v) :: L) a → Drawn P ops Q S1 n (l.setIfInBounds i true) a w) : Drawn P ops Q S1 (n + 1) l a w := hTake i hs hi hb hg ho hd h hS k
theorem bTakeT {S1 : World → Prop} {l : Array Bool} {n d i b : Nat} {v : Value} (_ : Tg i) (g : Bool) (hs : Sl N L a) (hi : lget ops.toList i = some o) (hb : takeB ops l i = true) (hbar : (!(Nat.beq i b) && (!g || (waitsB .any ops b i && !(l.getD b true)))) = true) (hg : Wnt ops N L o) (ho : o.dst = some d) (hd : Nat.blt d N = true) (h : ∀ w, (g = true → S1 w) → RunV P a o w v) (hS : l.getD b false = true ∨ S1 w) (k : ∀ a, Sl N ((d, v) :: L) a → DrawnB P ops Q b S1 n (l.setIfInBounds i true) a w) : DrawnB P ops Q b S1 (n + 1) l a w := bTake i g hs hi hb hbar hg ho hd h hS k
theorem hV_ {G H : Prop} (i : Nat) (k : H) (s : Tg i → H → G := by intro t k; exact hTakeT t hs rfl (by kernel_rfl) (Wnt.none rfl) rfl rfl (by intro w hm; exact r_val hs tab rfl) (by first | exact hm.sub (List.nil_sublist _) | exact hm.sub sub_) k) : G := s ⟨⟩ k
theorem bV_ {G H : Prop} (i : Nat) (k : H) (s : Tg i → H → G := by intro t k; exact bTakeT t false hs rfl (by kernel_rfl) (by kernel_rfl) (Wnt.none rfl) rfl rfl (by intro w hm; exact r_val hs tab rfl) (by first | exact .inl (by kernel_rfl) | exact .inr (hm.sub sub_)) k) : G := s ⟨⟩ k
end
end Go.Proofs.YtajkekhnfobgiaaGreatDoor

/- The types and functions of this translation, as the walks look them up. -/
namespace Go.Proofs.YtajkekhnfobgiaaGreatDoor
set_option maxRecDepth 20000
def TAB : List (Nat × TI) := [(3, ⟨1, 8, .int .i64 0, .int .i64⟩),
  (4, ⟨1, 1, .bool false, .bool⟩),
  (5, ⟨1, 1, .int .u8 0, .int .u8⟩),
  (9, ⟨1, 16, .string .empty, .str⟩),
  (23, ⟨1, 24, .slice none 0 0, .sl 3⟩),
  (43, ⟨1, 24, .slice none 0 0, .sl 5⟩),
  (56, ⟨1, 24, .slice none 0 0, .sl 74⟩),
  (74, ⟨1, 2, .int .u16 0, .int .u16⟩),
  (77, ⟨1, 24, .slice none 0 0, .sl 4⟩),
  (22, ⟨1, 24, .slice none 0 0, .sl 54⟩),
  (24, ⟨1, 24, .slice none 0 0, .sl 56⟩),
  (26, ⟨3, 72, .agg #[.slice none 0 0, .slice none 0 0, .slice none 0 0], .st [(0, 22), (1, 23), (2, 24)]⟩),
  (29, ⟨1, 8, .pointer none, .ptr 58⟩),
  (33, ⟨1, 24, .slice none 0 0, .sl 26⟩),
  (34, ⟨1, 8, .int .i64 0, .int .i64⟩),
  (40, ⟨1, 24, .slice none 0 0, .sl 9⟩),
  (54, ⟨5, 40, .agg #[.int .i64 0, .int .i64 0, .int .i64 0, .int .i64 0, .int .i64 0], .st [(0, 3), (1, 3), (2, 3), (3, 3), (4, 3)]⟩),
  (58, ⟨2, 32, .agg #[.slice none 0 0, .int .i64 0], .st [(0, 23), (1, 3)]⟩),
  (67, ⟨1, 8, .pointer none, .ptr 69⟩),
  (69, ⟨2, 32, .agg #[.pointer none, .slice none 0 0], .st [(0, 67), (1, 43)]⟩),
  (78, ⟨4, 4, .agg #[.bool false, .bool false, .bool false, .bool false], .arr 4 4⟩),
  (98, ⟨1, 24, .slice none 0 0, .sl 22⟩),
  (2, ⟨1, 8, .int .i64 0, .int .i64⟩),
  (12, ⟨1, 8, .int .u64 0, .int .u64⟩),
  (13, ⟨2, 24, .agg #[.string .empty, .int .u64 0], .st [(0, 9), (1, 12)]⟩),
  (21, ⟨1, 4, .int .i32 0, .int .i32⟩),
  (25, ⟨3, 72, .agg #[.slice none 0 0, .slice none 0 0, .slice none 0 0], .st [(0, 22), (1, 23), (2, 24)]⟩),
  (52, ⟨1, 8, .map none, .oth⟩),
  (53, ⟨5, 40, .agg #[.int .i64 0, .int .i64 0, .int .i64 0, .int .i64 0, .int .i64 0], .st [(0, 3), (1, 3), (2, 3), (3, 3), (4, 3)]⟩),
  (57, ⟨2, 32, .agg #[.slice none 0 0, .int .i64 0], .st [(0, 23), (1, 3)]⟩),
  (68, ⟨2, 32, .agg #[.pointer none, .slice none 0 0], .st [(0, 67), (1, 43)]⟩),
  (83, ⟨1, 8, .pointer none, .ptr 87⟩),
  (84, ⟨1, 8, .map none, .oth⟩),
  (85, ⟨1, 24, .slice none 0 0, .sl 90⟩),
  (86, ⟨7, 120, .agg #[.slice none 0 0, .slice none 0 0, .slice none 0 0, .map none, .slice none 0 0, .int .i64 0, .bool false], .st [(0, 26), (3, 84), (4, 85), (5, 3), (6, 4)]⟩),
  (87, ⟨7, 120, .agg #[.slice none 0 0, .slice none 0 0, .slice none 0 0, .map none, .slice none 0 0, .int .i64 0, .bool false], .st [(0, 26), (3, 84), (4, 85), (5, 3), (6, 4)]⟩),
  (89, ⟨3, 32, .agg #[.int .i64 0, .int .i64 0, .string .empty], .st [(0, 3), (1, 3), (2, 9)]⟩),
  (90, ⟨3, 32, .agg #[.int .i64 0, .int .i64 0, .string .empty], .st [(0, 3), (1, 3), (2, 9)]⟩),
  (92, ⟨7, 136, .agg #[.slice none 0 0, .slice none 0 0, .slice none 0 0, .map none, .slice none 0 0, .slice none 0 0, .bool false], .st [(0, 26), (3, 84), (4, 40), (5, 23), (6, 4)]⟩),
  (93, ⟨7, 136, .agg #[.slice none 0 0, .slice none 0 0, .slice none 0 0, .map none, .slice none 0 0, .slice none 0 0, .bool false], .st [(0, 26), (3, 84), (4, 40), (5, 23), (6, 4)]⟩),
  (100, ⟨4, 4, .agg #[.bool false, .bool false, .bool false, .bool false], .st [(0, 4), (1, 4), (2, 4), (3, 4)]⟩),
  (101, ⟨4, 4, .agg #[.bool false, .bool false, .bool false, .bool false], .st [(0, 4), (1, 4), (2, 4), (3, 4)]⟩),
  (103, ⟨2, 16, .agg #[.bool false, .int .i64 0], .st [(0, 4), (1, 3)]⟩),
  (104, ⟨1, 24, .slice none 0 0, .sl 103⟩),
  (105, ⟨1, 8, .pointer none, .ptr 5⟩),
  (106, ⟨256, 256, .agg #[.int .u8 0, .int .u8 0, .int .u8 0, .int .u8 0, .int .u8 0, .int .u8 0, .int .u8 0, .int .u8 0, .int .u8 0, .int .u8 0, .int .u8 0, .int .u8 0, .int .u8 0, .int .u8 0, .int .u8 0, .int .u8 0, .int .u8 0, .int .u8 0, .int .u8 0, .int .u8 0, .int .u8 0, .int .u8 0, .int .u8 0, .int .u8 0, .int .u8 0, .int .u8 0, .int .u8 0, .int .u8 0, .int .u8 0, .int .u8 0, .int .u8 0, .int .u8 0, .int .u8 0, .int .u8 0, .int .u8 0, .int .u8 0, .int .u8 0, .int .u8 0, .int .u8 0, .int .u8 0, .int .u8 0, .int .u8 0, .int .u8 0, .int .u8 0, .int .u8 0, .int .u8 0, .int .u8 0, .int .u8 0, .int .u8 0, .int .u8 0, .int .u8 0, .int .u8 0, .int .u8 0, .int .u8 0, .int .u8 0, .int .u8 0, .int .u8 0, .int .u8 0, .int .u8 0, .int .u8 0, .int .u8 0, .int .u8 0, .int .u8 0, .int .u8 0, .int .u8 0, .int .u8 0, .int .u8 0, .int .u8 0, .int .u8 0, .int .u8 0, .int .u8 0, .int .u8 0, .int .u8 0, .int .u8 0, .int .u8 0, .int .u8 0, .int .u8 0, .int .u8 0, .int .u8 0, .int .u8 0, .int .u8 0, .int .u8 0, .int .u8 0, .int .u8 0, .int .u8 0, .int .u8 0, .int .u8 0, .int .u8 0, .int .u8 0, .int .u8 0, .int .u8 0, .int .u8 0, .int .u8 0, .int .u8 0, .int .u8 0, .int .u8 0, .int .u8 0, .int .u8 0, .int .u8 0, .int .u8 0, .int .u8 0, .int .u8 0, .int .u8 0, .int .u8 0, .int .u8 0, .int .u8 0, .int .u8 0, .int .u8 0, .int .u8 0, .int .u8 0, .int .u8 0, .int .u8 0, .int .u8 0, .int .u8 0, .int .u8 0, .int .u8 0, .int .u8 0, .int .u8 0, .int .u8 0, .int .u8 0, .int .u8 0, .int .u8 0, .int .u8 0, .int .u8 0, .int .u8 0, .int .u8 0, .int .u8 0, .int .u8 0, .int .u8 0, .int .u8 0, .int .u8 0, .int .u8 0, .int .u8 0, .int .u8 0, .int .u8 0, .int .u8 0, .int .u8 0, .int .u8 0, .int .u8 0, .int .u8 0, .int .u8 0, .int .u8 0, .int .u8 0, .int .u8 0, .int .u8 0, .int .u8 0, .int .u8 0, .int .u8 0, .int .u8 0, .int .u8 0, .int .u8 0, .int .u8 0, .int .u8 0, .int .u8 0, .int .u8 0, .int .u8 0, .int .u8 0, .int .u8 0, .int .u8 0, .int .u8 0, .int .u8 0, .int .u8 0, .int .u8 0, .int .u8 0, .int .u8 0, .int .u8 0, .int .u8 0, .int .u8 0, .int .u8 0, .int .u8 0, .int .u8 0, .int .u8 0, .int .u8 0, .int .u8 0, .int .u8 0, .int .u8 0, .int .u8 0, .int .u8 0, .int .u8 0, .int .u8 0, .int .u8 0, .int .u8 0, .int .u8 0, .int .u8 0, .int .u8 0, .int .u8 0, .int .u8 0, .int .u8 0, .int .u8 0, .int .u8 0, .int .u8 0, .int .u8 0, .int .u8 0, .int .u8 0, .int .u8 0, .int .u8 0, .int .u8 0, .int .u8 0, .int .u8 0, .int .u8 0, .int .u8 0, .int .u8 0, .int .u8 0, .int .u8 0, .int .u8 0, .int .u8 0, .int .u8 0, .int .u8 0, .int .u8 0, .int .u8 0, .int .u8 0, .int .u8 0, .int .u8 0, .int .u8 0, .int .u8 0, .int .u8 0, .int .u8 0, .int .u8 0, .int .u8 0, .int .u8 0, .int .u8 0, .int .u8 0, .int .u8 0, .int .u8 0, .int .u8 0, .int .u8 0, .int .u8 0, .int .u8 0, .int .u8 0, .int .u8 0, .int .u8 0, .int .u8 0, .int .u8 0, .int .u8 0, .int .u8 0, .int .u8 0, .int .u8 0, .int .u8 0, .int .u8 0, .int .u8 0, .int .u8 0, .int .u8 0, .int .u8 0, .int .u8 0, .int .u8 0, .int .u8 0, .int .u8 0, .int .u8 0, .int .u8 0, .int .u8 0, .int .u8 0, .int .u8 0, .int .u8 0, .int .u8 0, .int .u8 0, .int .u8 0], .arr 256 5⟩),
  (116, ⟨1, 8, .pointer none, .ptr 93⟩),
  (122, ⟨1, 24, .slice none 0 0, .sl 124⟩),
  (123, ⟨2, 16, .agg #[.int .i64 0, .int .i64 0], .st [(0, 3), (1, 3)]⟩),
  (124, ⟨2, 16, .agg #[.int .i64 0, .int .i64 0], .st [(0, 3), (1, 3)]⟩),
  (125, ⟨1, 4, .int .u32 0, .int .u32⟩),
  (127, ⟨1, 8, .pointer none, .ptr 148⟩),
  (134, ⟨1, 8, .pointer none, .ptr 3⟩),
  (136, ⟨2, 16, .agg #[.bool false, .pointer none], .st [(0, 4), (1, 134)]⟩),
  (137, ⟨1, 24, .slice none 0 0, .sl 136⟩),
  (138, ⟨1, 8, .int .u64 0, .int .u64⟩),
  (139, ⟨24, 24, .agg #[.int .u8 0, .int .u8 0, .int .u8 0, .int .u8 0, .int .u8 0, .int .u8 0, .int .u8 0, .int .u8 0, .int .u8 0, .int .u8 0, .int .u8 0, .int .u8 0, .int .u8 0, .int .u8 0, .int .u8 0, .int .u8 0, .int .u8 0, .int .u8 0, .int .u8 0, .int .u8 0, .int .u8 0, .int .u8 0, .int .u8 0, .int .u8 0], .arr 24 5⟩),
  (140, ⟨1, 8, .int .u64 0, .int .u64⟩),
  (145, ⟨1, 24, .slice none 0 0, .sl 150⟩),
  (146, ⟨1, 24, .slice none 0 0, .sl 153⟩),
  (147, ⟨3, 56, .agg #[.slice none 0 0, .slice none 0 0, .int .i64 0], .st [(0, 145), (1, 146), (2, 3)]⟩),
  (148, ⟨3, 56, .agg #[.slice none 0 0, .slice none 0 0, .int .i64 0], .st [(0, 145), (1, 146), (2, 3)]⟩),
  (149, ⟨3, 6, .agg #[.int .u16 0, .int .u16 0, .int .u16 0], .st [(0, 74), (1, 74), (2, 74)]⟩),
  (150, ⟨3, 6, .agg #[.int .u16 0, .int .u16 0, .int .u16 0], .st [(0, 74), (1, 74), (2, 74)]⟩),
  (152, ⟨3, 12, .agg #[.int .u32 0, .int .u32 0, .int .u32 0], .st [(0, 125), (1, 125), (2, 125)]⟩),
  (153, ⟨3, 12, .agg #[.int .u32 0, .int .u32 0, .int .u32 0], .st [(0, 125), (1, 125), (2, 125)]⟩),
  (156, ⟨256, 256, .agg #[.bool false, .bool false, .bool false, .bool false, .bool false, .bool false, .bool false, .bool false, .bool false, .bool false, .bool false, .bool false, .bool false, .bool false, .bool false, .bool false, .bool false, .bool false, .bool false, .bool false, .bool false, .bool false, .bool false, .bool false, .bool false, .bool false, .bool false, .bool false, .bool false, .bool false, .bool false, .bool false, .bool false, .bool false, .bool false, .bool false, .bool false, .bool false, .bool false, .bool false, .bool false, .bool false, .bool false, .bool false, .bool false, .bool false, .bool false, .bool false, .bool false, .bool false, .bool false, .bool false, .bool false, .bool false, .bool false, .bool false, .bool false, .bool false, .bool false, .bool false, .bool false, .bool false, .bool false, .bool false, .bool false, .bool false, .bool false, .bool false, .bool false, .bool false, .bool false, .bool false, .bool false, .bool false, .bool false, .bool false, .bool false, .bool false, .bool false, .bool false, .bool false, .bool false, .bool false, .bool false, .bool false, .bool false, .bool false, .bool false, .bool false, .bool false, .bool false, .bool false, .bool false, .bool false, .bool false, .bool false, .bool false, .bool false, .bool false, .bool false, .bool false, .bool false, .bool false, .bool false, .bool false, .bool false, .bool false, .bool false, .bool false, .bool false, .bool false, .bool false, .bool false, .bool false, .bool false, .bool false, .bool false, .bool false, .bool false, .bool false, .bool false, .bool false, .bool false, .bool false, .bool false, .bool false, .bool false, .bool false, .bool false, .bool false, .bool false, .bool false, .bool false, .bool false, .bool false, .bool false, .bool false, .bool false, .bool false, .bool false, .bool false, .bool false, .bool false, .bool false, .bool false, .bool false, .bool false, .bool false, .bool false, .bool false, .bool false, .bool false, .bool false, .bool false, .bool false, .bool false, .bool false, .bool false, .bool false, .bool false, .bool false, .bool false, .bool false, .bool false, .bool false, .bool false, .bool false, .bool false, .bool false, .bool false, .bool false, .bool false, .bool false, .bool false, .bool false, .bool false, .bool false, .bool false, .bool false, .bool false, .bool false, .bool false, .bool false, .bool false, .bool false, .bool false, .bool false, .bool false, .bool false, .bool false, .bool false, .bool false, .bool false, .bool false, .bool false, .bool false, .bool false, .bool false, .bool false, .bool false, .bool false, .bool false, .bool false, .bool false, .bool false, .bool false, .bool false, .bool false, .bool false, .bool false, .bool false, .bool false, .bool false, .bool false, .bool false, .bool false, .bool false, .bool false, .bool false, .bool false, .bool false, .bool false, .bool false, .bool false, .bool false, .bool false, .bool false, .bool false, .bool false, .bool false, .bool false, .bool false, .bool false, .bool false, .bool false, .bool false, .bool false, .bool false, .bool false, .bool false, .bool false, .bool false, .bool false, .bool false, .bool false, .bool false, .bool false, .bool false, .bool false, .bool false, .bool false, .bool false, .bool false, .bool false, .bool false, .bool false], .arr 256 4⟩),
  (157, ⟨256, 256, .agg #[.bool false, .bool false, .bool false, .bool false, .bool false, .bool false, .bool false, .bool false, .bool false, .bool false, .bool false, .bool false, .bool false, .bool false, .bool false, .bool false, .bool false, .bool false, .bool false, .bool false, .bool false, .bool false, .bool false, .bool false, .bool false, .bool false, .bool false, .bool false, .bool false, .bool false, .bool false, .bool false, .bool false, .bool false, .bool false, .bool false, .bool false, .bool false, .bool false, .bool false, .bool false, .bool false, .bool false, .bool false, .bool false, .bool false, .bool false, .bool false, .bool false, .bool false, .bool false, .bool false, .bool false, .bool false, .bool false, .bool false, .bool false, .bool false, .bool false, .bool false, .bool false, .bool false, .bool false, .bool false, .bool false, .bool false, .bool false, .bool false, .bool false, .bool false, .bool false, .bool false, .bool false, .bool false, .bool false, .bool false, .bool false, .bool false, .bool false, .bool false, .bool false, .bool false, .bool false, .bool false, .bool false, .bool false, .bool false, .bool false, .bool false, .bool false, .bool false, .bool false, .bool false, .bool false, .bool false, .bool false, .bool false, .bool false, .bool false, .bool false, .bool false, .bool false, .bool false, .bool false, .bool false, .bool false, .bool false, .bool false, .bool false, .bool false, .bool false, .bool false, .bool false, .bool false, .bool false, .bool false, .bool false, .bool false, .bool false, .bool false, .bool false, .bool false, .bool false, .bool false, .bool false, .bool false, .bool false, .bool false, .bool false, .bool false, .bool false, .bool false, .bool false, .bool false, .bool false, .bool false, .bool false, .bool false, .bool false, .bool false, .bool false, .bool false, .bool false, .bool false, .bool false, .bool false, .bool false, .bool false, .bool false, .bool false, .bool false, .bool false, .bool false, .bool false, .bool false, .bool false, .bool false, .bool false, .bool false, .bool false, .bool false, .bool false, .bool false, .bool false, .bool false, .bool false, .bool false, .bool false, .bool false, .bool false, .bool false, .bool false, .bool false, .bool false, .bool false, .bool false, .bool false, .bool false, .bool false, .bool false, .bool false, .bool false, .bool false, .bool false, .bool false, .bool false, .bool false, .bool false, .bool false, .bool false, .bool false, .bool false, .bool false, .bool false, .bool false, .bool false, .bool false, .bool false, .bool false, .bool false, .bool false, .bool false, .bool false, .bool false, .bool false, .bool false, .bool false, .bool false, .bool false, .bool false, .bool false, .bool false, .bool false, .bool false, .bool false, .bool false, .bool false, .bool false, .bool false, .bool false, .bool false, .bool false, .bool false, .bool false, .bool false, .bool false, .bool false, .bool false, .bool false, .bool false, .bool false, .bool false, .bool false, .bool false, .bool false, .bool false, .bool false, .bool false, .bool false, .bool false, .bool false, .bool false, .bool false, .bool false, .bool false, .bool false, .bool false, .bool false, .bool false, .bool false, .bool false, .bool false, .bool false, .bool false, .bool false, .bool false], .arr 256 4⟩),
  (161, ⟨1, 8, .pointer none, .ptr 157⟩),
  (165, ⟨20, 160, .agg #[.int .u64 0, .int .u64 0, .int .u64 0, .int .u64 0, .int .u64 0, .int .u64 0, .int .u64 0, .int .u64 0, .int .u64 0, .int .u64 0, .int .u64 0, .int .u64 0, .int .u64 0, .int .u64 0, .int .u64 0, .int .u64 0, .int .u64 0, .int .u64 0, .int .u64 0, .int .u64 0], .arr 20 140⟩),
  (166, ⟨65, 65, .agg #[.int .u8 0, .int .u8 0, .int .u8 0, .int .u8 0, .int .u8 0, .int .u8 0, .int .u8 0, .int .u8 0, .int .u8 0, .int .u8 0, .int .u8 0, .int .u8 0, .int .u8 0, .int .u8 0, .int .u8 0, .int .u8 0, .int .u8 0, .int .u8 0, .int .u8 0, .int .u8 0, .int .u8 0, .int .u8 0, .int .u8 0, .int .u8 0, .int .u8 0, .int .u8 0, .int .u8 0, .int .u8 0, .int .u8 0, .int .u8 0, .int .u8 0, .int .u8 0, .int .u8 0, .int .u8 0, .int .u8 0, .int .u8 0, .int .u8 0, .int .u8 0, .int .u8 0, .int .u8 0, .int .u8 0, .int .u8 0, .int .u8 0, .int .u8 0, .int .u8 0, .int .u8 0, .int .u8 0, .int .u8 0, .int .u8 0, .int .u8 0, .int .u8 0, .int .u8 0, .int .u8 0, .int .u8 0, .int .u8 0, .int .u8 0, .int .u8 0, .int .u8 0, .int .u8 0, .int .u8 0, .int .u8 0, .int .u8 0, .int .u8 0, .int .u8 0, .int .u8 0], .arr 65 5⟩),
  (168, ⟨1, 8, .pointer none, .ptr 150⟩),
  (169, ⟨1, 8, .pointer none, .ptr 153⟩),
  (170, ⟨2, 2, .agg #[.int .u8 0, .int .u8 0], .st [(0, 5), (1, 5)]⟩),
  (171, ⟨2, 2, .agg #[.int .u8 0, .int .u8 0], .st [(0, 5), (1, 5)]⟩),
  (172, ⟨32, 32, .agg #[.int .u8 0, .int .u8 0, .int .u8 0, .int .u8 0, .int .u8 0, .int .u8 0, .int .u8 0, .int .u8 0, .int .u8 0, .int .u8 0, .int .u8 0, .int .u8 0, .int .u8 0, .int .u8 0, .int .u8 0, .int .u8 0, .int .u8 0, .int .u8 0, .int .u8 0, .int .u8 0, .int .u8 0, .int .u8 0, .int .u8 0, .int .u8 0, .int .u8 0, .int .u8 0, .int .u8 0, .int .u8 0, .int .u8 0, .int .u8 0, .int .u8 0, .int .u8 0], .arr 16 171⟩),
  (178, ⟨1, 8, .int .i64 0, .int .i64⟩),
  (181, ⟨1, 8, .pointer none, .ptr 190⟩),
  (184, ⟨32, 32, .agg #[.int .u8 0, .int .u8 0, .int .u8 0, .int .u8 0, .int .u8 0, .int .u8 0, .int .u8 0, .int .u8 0, .int .u8 0, .int .u8 0, .int .u8 0, .int .u8 0, .int .u8 0, .int .u8 0, .int .u8 0, .int .u8 0, .int .u8 0, .int .u8 0, .int .u8 0, .int .u8 0, .int .u8 0, .int .u8 0, .int .u8 0, .int .u8 0, .int .u8 0, .int .u8 0, .int .u8 0, .int .u8 0, .int .u8 0, .int .u8 0, .int .u8 0, .int .u8 0], .arr 32 5⟩),
  (185, ⟨64, 64, .agg #[.int .u8 0, .int .u8 0, .int .u8 0, .int .u8 0, .int .u8 0, .int .u8 0, .int .u8 0, .int .u8 0, .int .u8 0, .int .u8 0, .int .u8 0, .int .u8 0, .int .u8 0, .int .u8 0, .int .u8 0, .int .u8 0, .int .u8 0, .int .u8 0, .int .u8 0, .int .u8 0, .int .u8 0, .int .u8 0, .int .u8 0, .int .u8 0, .int .u8 0, .int .u8 0, .int .u8 0, .int .u8 0, .int .u8 0, .int .u8 0, .int .u8 0, .int .u8 0, .int .u8 0, .int .u8 0, .int .u8 0, .int .u8 0, .int .u8 0, .int .u8 0, .int .u8 0, .int .u8 0, .int .u8 0, .int .u8 0, .int .u8 0, .int .u8 0, .int .u8 0, .int .u8 0, .int .u8 0, .int .u8 0, .int .u8 0, .int .u8 0, .int .u8 0, .int .u8 0, .int .u8 0, .int .u8 0, .int .u8 0, .int .u8 0, .int .u8 0, .int .u8 0, .int .u8 0, .int .u8 0, .int .u8 0, .int .u8 0, .int .u8 0, .int .u8 0], .arr 64 5⟩),
  (189, ⟨3, 48, .agg #[.string .empty, .string .empty, .nilIface], .st [(0, 9), (1, 9), (2, 71)]⟩),
  (190, ⟨3, 48, .agg #[.string .empty, .string .empty, .nilIface], .st [(0, 9), (1, 9), (2, 71)]⟩),
  (193, ⟨1, 8, .pointer none, .ptr 195⟩),
  (194, ⟨1, 16, .agg #[.string .empty], .st [(0, 9)]⟩),
  (195, ⟨1, 16, .agg #[.string .empty], .st [(0, 9)]⟩),
  (1, ⟨1, 8, .nilFunc, .fn⟩),
  (6, ⟨1, 1, .int .u8 0, .int .u8⟩),
  (7, ⟨4, 24, .agg #[.int .i64 0, .int .i64 0, .bool false, .int .u8 0], .st [(0, 2), (1, 3), (2, 4), (3, 6)]⟩),
  (8, ⟨4, 24, .agg #[.int .i64 0, .int .i64 0, .bool false, .int .u8 0], .st [(0, 2), (1, 3), (2, 4), (3, 6)]⟩),
  (10, ⟨1, 16, .string .empty, .str⟩),
  (11, ⟨1, 16, .string .empty, .str⟩),
  (14, ⟨2, 24, .agg #[.string .empty, .int .u64 0], .st [(0, 9), (1, 12)]⟩),
  (15, ⟨1, 8, .pointer none, .ptr 197⟩),
  (16, ⟨1, 8, .pointer none, .ptr 200⟩),
  (17, ⟨1, 8, .pointer none, .ptr 208⟩),
  (18, ⟨1, 8, .agg #[.pointer none], .st [(0, 17)]⟩),
  (19, ⟨1, 8, .agg #[.pointer none], .st [(0, 17)]⟩),
  (27, ⟨1, 8, .nilFunc, .fn⟩),
  (28, ⟨1, 8, .nilFunc, .fn⟩),
  (30, ⟨1, 8, .nilFunc, .fn⟩),
  (31, ⟨1, 8, .nilFunc, .fn⟩),
  (32, ⟨1, 8, .nilFunc, .fn⟩),
  (36, ⟨1, 8, .nilFunc, .fn⟩),
  (37, ⟨1, 8, .nilFunc, .fn⟩),
  (38, ⟨1, 8, .nilFunc, .fn⟩),
  (39, ⟨1, 8, .nilFunc, .fn⟩),
  (41, ⟨1, 8, .nilFunc, .fn⟩),
  (42, ⟨1, 8, .nilFunc, .fn⟩),
  (45, ⟨1, 8, .nilFunc, .fn⟩),
  (46, ⟨1, 8, .nilFunc, .fn⟩),
  (47, ⟨1, 8, .nilFunc, .fn⟩),
  (48, ⟨1, 8, .nilFunc, .fn⟩),
  (49, ⟨1, 8, .nilFunc, .fn⟩),
  (50, ⟨1, 8, .nilFunc, .fn⟩),
  (51, ⟨1, 8, .nilFunc, .fn⟩),
  (55, ⟨1, 8, .nilFunc, .fn⟩),
  (59, ⟨1, 8, .nilFunc, .fn⟩),
  (60, ⟨1, 8, .nilFunc, .fn⟩),
  (61, ⟨1, 8, .nilFunc, .fn⟩),
  (62, ⟨1, 8, .nilFunc, .fn⟩),
  (63, ⟨1, 8, .nilFunc, .fn⟩),
  (64, ⟨1, 8, .nilFunc, .fn⟩),
  (65, ⟨1, 8, .nilFunc, .fn⟩),
  (66, ⟨1, 8, .nilFunc, .fn⟩),
  (73, ⟨1, 8, .nilFunc, .fn⟩),
  (75, ⟨1, 8, .nilFunc, .fn⟩),
  (76, ⟨1, 8, .nilFunc, .fn⟩),
  (79, ⟨1, 8, .nilFunc, .fn⟩),
  (80, ⟨1, 8, .nilFunc, .fn⟩),
  (81, ⟨1, 8, .nilFunc, .fn⟩),
  (82, ⟨1, 8, .nilFunc, .fn⟩),
  (88, ⟨1, 8, .nilFunc, .fn⟩),
  (94, ⟨1, 8, .nilFunc, .fn⟩),
  (95, ⟨1, 8, .nilFunc, .fn⟩),
  (96, ⟨1, 8, .nilFunc, .fn⟩),
  (97, ⟨1, 8, .nilFunc, .fn⟩),
  (99, ⟨1, 8, .nilFunc, .fn⟩),
  (102, ⟨1, 8, .nilFunc, .fn⟩),
  (107, ⟨1, 8, .nilFunc, .fn⟩),
  (108, ⟨1, 8, .nilFunc, .fn⟩),
  (109, ⟨1, 8, .nilFunc, .fn⟩),
  (111, ⟨1, 8, .nilFunc, .fn⟩),
  (112, ⟨1, 8, .nilFunc, .fn⟩),
  (113, ⟨1, 8, .nilFunc, .fn⟩),
  (114, ⟨1, 8, .nilFunc, .fn⟩),
  (115, ⟨1, 8, .nilFunc, .fn⟩),
  (117, ⟨1, 8, .nilFunc, .fn⟩),
  (118, ⟨1, 8, .nilFunc, .fn⟩),
  (120, ⟨1, 8, .nilFunc, .fn⟩),
  (121, ⟨1, 8, .nilFunc, .fn⟩),
  (126, ⟨1, 8, .nilFunc, .fn⟩),
  (129, ⟨1, 8, .nilFunc, .fn⟩),
  (130, ⟨1, 8, .nilFunc, .fn⟩),
  (131, ⟨1, 8, .nilFunc, .fn⟩),
  (132, ⟨1, 8, .nilFunc, .fn⟩),
  (133, ⟨1, 8, .nilFunc, .fn⟩),
  (135, ⟨1, 8, .nilFunc, .fn⟩),
  (141, ⟨1, 8, .nilFunc, .fn⟩),
  (142, ⟨1, 8, .nilFunc, .fn⟩),
  (144, ⟨1, 8, .nilFunc, .fn⟩),
  (151, ⟨1, 8, .nilFunc, .fn⟩),
  (154, ⟨1, 8, .nilFunc, .fn⟩),
  (155, ⟨1, 8, .nilFunc, .fn⟩),
  (159, ⟨1, 8, .nilFunc, .fn⟩),
  (160, ⟨1, 8, .nilFunc, .fn⟩),
  (163, ⟨1, 8, .nilFunc, .fn⟩),
  (164, ⟨1, 8, .nilFunc, .fn⟩),
  (167, ⟨1, 8, .nilFunc, .fn⟩),
  (173, ⟨1, 8, .nilFunc, .fn⟩),
  (174, ⟨1, 8, .nilFunc, .fn⟩),
  (175, ⟨1, 8, .nilFunc, .fn⟩),
  (176, ⟨1, 8, .nilFunc, .fn⟩),
  (177, ⟨1, 8, .nilFunc, .fn⟩),
  (180, ⟨1, 8, .nilFunc, .fn⟩),
  (182, ⟨1, 8, .nilFunc, .fn⟩),
  (183, ⟨1, 8, .nilFunc, .fn⟩),
  (187, ⟨1, 8, .nilFunc, .fn⟩),
  (188, ⟨1, 8, .nilFunc, .fn⟩),
  (191, ⟨1, 8, .nilFunc, .fn⟩),
  (192, ⟨1, 8, .nilFunc, .fn⟩),
  (196, ⟨4, 40, .agg #[.pointer none, .pointer none, .pointer none, .string .empty], .st [(0, 17), (1, 17), (2, 17), (3, 9)]⟩),
  (197, ⟨4, 40, .agg #[.pointer none, .pointer none, .pointer none, .string .empty], .st [(0, 17), (1, 17), (2, 17), (3, 9)]⟩),
  (198, ⟨0, 0, .agg #[], .arr 0 16⟩),
  (199, ⟨0, 0, .agg #[], .st [(0, 198)]⟩),
  (200, ⟨0, 0, .agg #[], .st [(0, 198)]⟩),
  (201, ⟨1, 8, .nilFunc, .fn⟩),
  (202, ⟨1, 1, .int .u8 0, .int .u8⟩),
  (203, ⟨1, 1, .int .u8 0, .int .u8⟩),
  (204, ⟨1, 8, .nilFunc, .fn⟩),
  (205, ⟨1, 4, .int .i32 0, .int .i32⟩),
  (206, ⟨1, 4, .int .i32 0, .int .i32⟩),
  (207, ⟨11, 48, .agg #[.int .u64 0, .int .u64 0, .int .u32 0, .int .u8 0, .int .u8 0, .int .u8 0, .int .u8 0, .nilFunc, .pointer none, .int .i32 0, .int .i32 0], .st [(0, 12), (1, 12), (2, 125), (3, 202), (4, 5), (5, 5), (6, 203), (7, 204), (8, 105), (9, 205), (10, 206)]⟩),
  (208, ⟨11, 48, .agg #[.int .u64 0, .int .u64 0, .int .u32 0, .int .u8 0, .int .u8 0, .int .u8 0, .int .u8 0, .nilFunc, .pointer none, .int .i32 0, .int .i32 0], .st [(0, 12), (1, 12), (2, 125), (3, 202), (4, 5), (5, 5), (6, 203), (7, 204), (8, 105), (9, 205), (10, 206)]⟩)]
theorem tab : TabOk Tryz.prog TAB := by
  have h1 : TAB.map (fun p => (Tryz.prog.info? p.1).map (fun i => (i.zero, i.size, i.bytes))) = TAB.map (fun p => some (some p.2.z, p.2.sz, p.2.by_)) := by kernel_rfl
  have h2 : TAB.map (fun p => (Tryz.prog.underlying p.1).map tdOf) = TAB.map (fun p => some p.2.d) := by kernel_rfl
  exact tabOk fun p hp => ⟨List.map_inj_left.1 h1 p hp, List.map_inj_left.1 h2 p hp⟩
def NOTPL : List Nat := [0, 1, 2, 48, 76, 80, 89, 108, 137, 138, 139, 140, 141, 142, 143, 144, 145, 146, 147, 148, 149, 150, 151, 152, 153, 154, 155, 156, 157, 158, 159, 160, 161, 162, 163, 164, 165, 166, 167, 168, 169, 170, 171, 172]
def PLN (f : Nat) : Bool := Nat.blt f 173 && !(NOTPL.contains f)
theorem pl (f : Nat) (h : PLN f = true) : plain Tryz.prog f := by
  have h1 : (List.range 173).all (fun f => NOTPL.contains f || ((Tryz.prog.funcs[f]?).map (fun fn => !(fn.name == "runtime.NumGoroutine") && fn.body.isSome) == some true)) = true := by kernel_rfl
  unfold PLN at h
  simp only [Bool.and_eq_true, Bool.not_eq_true'] at h
  have h2 := List.all_eq_true.1 h1 f (List.mem_range.2 (Nat.blt_eq.mp h.1))
  rw [h.2, Bool.false_or] at h2
  exact ⟨by simpa using h2⟩

end Go.Proofs.YtajkekhnfobgiaaGreatDoor

/- More of rows: empty room, one element set, one element put. -/
namespace Go.Proofs.YtajkekhnfobgiaaGreatDoor
set_option maxRecDepth 20000
open Go.RowKit

theorem Row.room0 (g : Nat) (s : Nat) : Row (some g) 0 0 s [] [] := ⟨(fun e => by cases e), Nat.le_refl _, Nat.zero_le _, by simp, by simp, by simp⟩
theorem flat_set {α : Type} (f : α → List Value) (s : Nat) (hs : ∀ a, (f a).length = s) (l : List α) (k j : Nat) (x : α) (v : Value) (hk : l[k]? = some x) (hj : j < s) (y : α) (hy : f y = (f x).set j v) : (l.flatMap f).set (k * s + j) v = (l.set k y).flatMap f := by
  induction l generalizing k with
  | nil => simp at hk
  | cons a t ih =>
    cases k with
    | zero =>
      simp at hk
      subst hk
      simp only [List.flatMap_cons, Nat.zero_mul, Nat.zero_add, List.set_cons_zero]
      rw [List.set_append_left _ _ (by rw [hs]; exact hj), hy]
    | succ k =>
      simp only [List.flatMap_cons, List.set_cons_succ]
      rw [List.set_append_right _ _ (by rw [hs, Nat.succ_mul]; omega), hs]
      have e : (k + 1) * s + j - s = k * s + j := by rw [Nat.succ_mul]; omega
      rw [e, ih k (by simpa using hk)]
theorem put3 {a b c : Value} : ∀ {cs : List Value} {n : Nat}, n + 3 ≤ cs.length → putF cs n [a, b, c] = some (((cs.set n a).set (n + 1) b).set (n + 2) c)
  | x :: y :: z :: t, 0, _ => by cases t <;> rfl
  | x :: t, n + 1, h => by
    have ih := put3 (a := a) (b := b) (c := c) (cs := t) (n := n) (by simp at h; omega)
    simp only [putF, ih, List.set_cons_succ]
  | [], 0, h => by simp at h
  | [_], 0, h => by simp at h
  | [_, _], 0, h => by simp at h
  | [], n + 1, h => by simp at h
theorem New.none_ (w w' : World) (t : TypeId) : New w w' [⟨none, t, []⟩] := ⟨fun x hx => (by rcases List.mem_singleton.1 hx with rfl; rfl), ⟨fun x hx => (by cases hx), trivial⟩, fun x hx g hg => (by rcases List.mem_singleton.1 hx with rfl; cases hg)⟩
theorem Rd.none_nil {w : World} {B : Nat} {xs : List Value} (h : Rd w B none xs) : xs = [] := by
  cases xs with
  | nil => rfl
  | cons x r => obtain ⟨b, off, e, _⟩ := h (by simp); cases e
theorem zrep_map {α : Type} (n : Nat) (f : α → List Value) (x : α) : zrep n (f x) = (List.replicate n x).flatMap f := by
  induction n with
  | zero => rfl
  | succ n ih => rw [zrep, ih, List.replicate_succ, List.flatMap_cons]
theorem zrep_bools (n : Nat) : zrep n [.bool false] = bools (List.replicate n false) := by
  induction n with
  | zero => rfl
  | succ n ih => rw [zrep, ih]; rfl
theorem take_set_snoc {α : Type} (l : List α) (k : Nat) (v : α) (hk : k < l.length) : (l.set k v).take (k + 1) = l.take k ++ [v] := by
  rw [List.take_succ_eq_append_getElem (by simpa using hk), List.take_set_of_le (Nat.le_refl k)]
  simp
theorem gEnd {P : Program} {T : List (Nat × TI)} {N : Nat} {L : List (Nat × Value)} {a : Act} {w : World} {K : Value → World → Prop} {fn : Func} {rs : List ResultVar} {vs : List Value} (hT : TabOk P T) (hs : Sl N L a) (hf : fn.results = rs.toArray) (hv : AllRes T L w rs vs) (h : K (resV vs) w) : Goes (bodyPost P fn (fun e w' => ∃ v, e = .returned v ∧ K v w')) .normal a w := retEnd hT hs hf hv ⟨_, rfl, h⟩
/-- a slice of bools -/
structure TS where
  A : Option Addr
  n : Nat
  c : Nat
  xs : List Bool
def TS.v (b : TS) : Value := .slice b.A b.n b.c
def TS.ok (b : TS) (w : World) : Prop := b.xs.length = b.n ∧ Rd w w.heap.size b.A (bools b.xs)
theorem TS.ok.pu {b : TS} {w w' : World} (h : b.ok w) (hf : Pu w w') : b.ok w' := ⟨h.1, hf.rd' h.2⟩
/-- a slice of numbers -/
structure IS where
  A : Option Addr
  n : Nat
  c : Nat
  xs : List Int
def IS.v (b : IS) : Value := .slice b.A b.n b.c
def IS.ok (b : IS) (w : World) : Prop := b.xs.length = b.n ∧ Rd w w.heap.size b.A (ints b.xs)
theorem IS.ok.pu {b : IS} {w w' : World} (h : b.ok w) (hf : Pu w w') : b.ok w' := ⟨h.1, hf.rd' h.2⟩
end Go.Proofs.YtajkekhnfobgiaaGreatDoor

/- A cut in the middle of a walk; blocks in another order; a remainder that is a Nat. -/
namespace Go.Proofs.YtajkekhnfobgiaaGreatDoor
set_option maxRecDepth 20000
open Go.RowKit

section
variable {P : Program} {T : List (Nat × TI)} {N : Nat} {L : List (Nat × Value)} {a : Act} {w w0 : World} {S : Nat → Prop} {M M' : List Hp} {o : Oper} {x y z : Operand} {Q : Exit → Act → World → Prop}
/-- own blocks by their numbers in the list, each once -/
theorem Mm.sel (hm : Mm S w0 M w) (idx : List Nat) (hn : idx.Nodup) (he : M' = idx.filterMap (fun i => M[i]?)) : Mm S w0 M' w := by
  subst he
  have hmem : ∀ h ∈ idx.filterMap (fun i => M[i]?), h ∈ M := fun h hh => by
    obtain ⟨i, _, hi⟩ := List.mem_filterMap.1 hh
    exact List.mem_of_getElem? hi
  refine ⟨fun h hh => hm.me h (hmem h hh), hm.fr, ?_, fun h hh => hm.ow h (hmem h hh)⟩
  have hp := apart_iff.1 hm.dj
  have hsym : ∀ (i j : Nat) (x y : Hp), i ≠ j → M[i]? = some x → M[j]? = some y → ∀ g, x.g = some g → y.g ≠ some g := by
    intro i j x y hij hx hy g hg e
    obtain ⟨hi, rfl⟩ := List.getElem?_eq_some_iff.1 hx
    obtain ⟨hj, rfl⟩ := List.getElem?_eq_some_iff.1 hy
    rcases Nat.lt_or_gt_of_ne hij with h | h
    · exact List.pairwise_iff_getElem.1 hp i j hi hj h g hg e
    · exact List.pairwise_iff_getElem.1 hp j i hj hi h g e hg
  rw [apart_iff, List.pairwise_filterMap]
  exact List.Pairwise.imp (fun {i j} hij x hx y hy => hsym i j x y hij hx hy) hn
theorem Sl.pt (_hs : Sl N L a) (k : Nat) {g : Nat} (_h : lk L k = some (.pointer (some ⟨g, 0, none⟩))) : ∃ g', g' = g := ⟨_, rfl⟩
theorem Sl.ps (_hs : Sl N L a) (k : Nat) {g n c : Nat} (_h : lk L k = some (.slice (some ⟨g, 0, none⟩) n c)) : ∃ g', g' = g := ⟨_, rfl⟩
theorem r_remH {t yt : TypeId} {k : IntKind} {n m : Int} {q : Nat} (hs : Sl N L a) (ho : o.op = .binOp .rem t x y yt) (hx : ev L x = some (.int k n)) (hy : ev L y = some (.int k m)) (he : n % m = (q : Int)) (hn : 0 ≤ n) (hm : 0 < m) : RunV P a o w (.int k (q : Int)) := by
  have := r_rem64 (P := P) (w := w) hs ho hx hy hn hm
  rwa [he] at this
theorem r_shl {t yt : TypeId} {k k' : IntKind} {n m : Int} (hs : Sl N L a) (ho : o.op = .binOp .shl t x y yt) (hx : ev L x = some (.int k n)) (hy : ev L y = some (.int k' m)) (hm : 0 ≤ m) : RunV P a o w (.int k (k.wrap (n * 2 ^ (min m.toNat k.bits)))) := by
  replace hx := hs.ev hx
  replace hy := hs.ev hy
  have h0 : ¬ m < 0 := by omega
  unfold RunV
  generalize a.eval = ρ at *
  unfold execOp
  simp [ho, go_sem, hx, hy, Op.shift, h0]
theorem r_shr {t yt : TypeId} {k k' : IntKind} {n m : Int} (hs : Sl N L a) (ho : o.op = .binOp .shr t x y yt) (hx : ev L x = some (.int k n)) (hy : ev L y = some (.int k' m)) (hm : 0 ≤ m) : RunV P a o w (.int k (n.fdiv (2 ^ (min m.toNat k.bits)))) := by
  replace hx := hs.ev hx
  replace hy := hs.ev hy
  have h0 : ¬ m < 0 := by omega
  unfold RunV
  generalize a.eval = ρ at *
  unfold execOp
  simp [ho, go_sem, hx, hy, Op.shift, h0]
end
/-- a piece of code, and what is known behind it -/
theorem cMid {P : Program} {Q : Exit → Act → World → Prop} {a : Act} {w : World} {c : Code} (I : Act → World → Prop) (h : c.wp P (fun e a w => e = .normal ∧ I a w) a w) (k : ∀ a w, I a w → Goes Q .normal a w) : c.wp P Q a w :=
  wp_mono h fun e a w ⟨he, hi⟩ => by subst he; exact k a w hi
end Go.Proofs.YtajkekhnfobgiaaGreatDoor

/- Guarded operations of a drawn region that are not wanted. -/
namespace Go.Proofs.YtajkekhnfobgiaaGreatDoor
set_option maxRecDepth 20000
open Go.RowKit

section
variable {P : Program} {T : List (Nat × TI)} {N : Nat} {L : List (Nat × Value)} {a : Act} {w w0 : World} {S : Nat → Prop} {M M1 : List Hp} {o : Oper} {v : Value} {K : Value → World → Prop} {Q : Exit → Act → World → Prop} {ops : Array Oper} {l : Array Bool} {S1 : World → Prop} {n : Nat}
theorem hTakeN {d j e : Nat} {b c : Bool} (i : Nat) (hs : Sl N L a) (hi : lget ops.toList i = some o) (hb : takeB ops l i = true) (hg : o.guard = some (j, b)) (hj : (ops[j]?).bind (·.dst) = some e) (he : Nat.blt e N = true) (hv : lk L e = some (.bool c)) (hbc : (c == b) = false) (ho : o.dst = some d) (hd : Nat.blt d N = true) (hS : S1 w) (k : ∀ a, Sl N ((d, undef) :: L) a → Drawn P ops Q S1 n (l.setIfInBounds i true) a w) : Drawn P ops Q S1 (n + 1) l a w := by
  unfold takeB at hb
  simp only [Bool.and_eq_true] at hb
  refine ⟨wpAnyH_take (v := undef) (lget_ok hi) hb.1.1 hb.1.2 hb.2 (fun _ _ _ h => h) (.inr ⟨?_, rfl⟩) hS ?_⟩
  · simp only [Region.wanted, hg, yielded_of hs hj he hv]
    simpa using hbc
  · rw [ho]
    exact (k _ (hs.put undef hd)).h
theorem hTakeU {d j e : Nat} {b : Bool} (i : Nat) (hs : Sl N L a) (hi : lget ops.toList i = some o) (hb : takeB ops l i = true) (hg : o.guard = some (j, b)) (hj : (ops[j]?).bind (·.dst) = some e) (he : Nat.blt e N = true) (hv : lk L e = some undef) (ho : o.dst = some d) (hd : Nat.blt d N = true) (hS : S1 w) (k : ∀ a, Sl N ((d, undef) :: L) a → Drawn P ops Q S1 n (l.setIfInBounds i true) a w) : Drawn P ops Q S1 (n + 1) l a w := by
  unfold takeB at hb
  simp only [Bool.and_eq_true] at hb
  refine ⟨wpAnyH_take (v := undef) (lget_ok hi) hb.1.1 hb.1.2 hb.2 (fun _ _ _ h => h) (.inr ⟨?_, rfl⟩) hS ?_⟩
  · simp [Region.wanted, hg, yielded_un hs hj he hv]
  · rw [ho]
    exact (k _ (hs.put undef hd)).h
end
end Go.Proofs.YtajkekhnfobgiaaGreatDoor
