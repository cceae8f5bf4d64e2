/- Texts put together: Flat, Deep, Ato. -/
import Derived.SizedLaws
import Derived.Test.YtajkekhnfobgiaaGreatDoorMgPf
/- Arguments of flat types (integers and bools, structs and arrays of these) and slices of them: over any program. -/
namespace Go.Proofs.YtajkekhnfobgiaaGreatDoor
set_option maxRecDepth 20000
open Go.ChangeShapes Go.WideShapes Go.ChangeAt Go.RowKit

/-- one cell: an integer of a kind, or a bool -/
def isCell : Option IntKind → Value → Prop
  | some k, v => ∃ n, v = .int k n ∧ (Lit.int k n).wf = true
  | none, v => ∃ b, v = .bool b
def areCells : List (Option IntKind) → List Value → Prop
  | [], [] => True
  | c :: cs, v :: vs => isCell c v ∧ areCells cs vs
  | _, _ => False
theorem areCells_len {ks : List (Option IntKind)} {vs : List Value} (h : areCells ks vs) : vs.length = ks.length := by
  induction ks generalizing vs with
  | nil => cases vs <;> simp_all [areCells]
  | cons k ks ih =>
    cases vs with
    | nil => simp [areCells] at h
    | cons v vs => simp only [areCells] at h; simp [ih h.2]
theorem areCells_cons {k : Option IntKind} {ks : List (Option IntKind)} {vs : List Value} (h : areCells (k :: ks) vs) : ∃ v vs', vs = v :: vs' ∧ isCell k v ∧ areCells ks vs' := by
  cases vs with
  | nil => simp [areCells] at h
  | cons v vs' => exact ⟨v, vs', rfl, h.1, h.2⟩
theorem areCells_nil {vs : List Value} (h : areCells [] vs) : vs = [] := by cases vs <;> simp_all [areCells]
theorem areCells_append {a b : List (Option IntKind)} {vs ws : List Value} (h : areCells a vs) (h' : areCells b ws) : areCells (a ++ b) (vs ++ ws) := by
  induction a generalizing vs with
  | nil => have := areCells_nil h; subst this; exact h'
  | cons k ks ih =>
    obtain ⟨v, vs', rfl, h1, h2⟩ := areCells_cons h
    exact ⟨h1, ih h2⟩

/-- the fields' cells, one behind the other from cell o on -/
def flatFs (P : Program) (F : TypeId → Option (List (Option IntKind))) : Nat → List Field → Option (List (Option IntKind))
  | _, [] => some []
  | o, f :: r => if f.offset = o then (F f.type).bind fun l => if P.cellsOf f.type = l.length then (flatFs P F (o + l.length) r).bind fun l' => some (l ++ l') else none else none
/-- the kinds of a flat type's cells -/
def flat (P : Program) : Nat → TypeId → Option (List (Option IntKind))
  | 0, _ => none
  | n + 1, t => match P.underlying t with
    | some (.int k) => some [some k]
    | some .bool => some [none]
    | some (.struct fs) => (flatFs P (flat P n) 0 fs.toList).bind fun l => if P.cellsOf t = l.length then some l else none
    | some (.array m e) => (flat P n e).bind fun l => if P.cellsOf e = l.length then if P.cellsOf t = m * l.length then some (List.replicate m l).flatten else none else none
    | _ => none

section
variable {H : Type} {enc : TypeId × Value → H} {P : Program} {W : World} {base b0 : Nat} {spare : Nat → Bool} {held : Bool}

theorem flatFs_ok {F : TypeId → Option (List (Option IntKind))} {cs : List Value} (hF : ∀ t l ws, F t = some l → (∃ n x, DataW.trod enc P W base spare held n t ws = some x) → areCells l ws) (fs : List Field) :
    ∀ (o : Nat) (l : List (Option IntKind)), flatFs P F o fs = some l → cs.length = o + l.length → (∀ f ∈ fs, ∃ n x, DataW.trod enc P W base spare held n f.type ((cs.drop f.offset).take (P.cellsOf f.type)) = some x) → areCells l (cs.drop o) := by
  induction fs with
  | nil =>
    intro o l h hl _
    simp only [flatFs, Option.some.injEq] at h
    subst h
    rw [List.drop_of_length_le (by simp at hl; omega)]
    trivial
  | cons f r ih =>
    intro o l h hl ht
    simp only [flatFs] at h
    split at h
    · rename_i ho
      subst ho
      cases h1 : F f.type with
      | none => rw [h1] at h; simp at h
      | some l1 =>
        rw [h1] at h
        simp only [Option.bind_some] at h
        split at h
        · rename_i hc
          cases h2 : flatFs P F (f.offset + l1.length) r with
          | none => rw [h2] at h; simp at h
          | some l2 =>
            rw [h2] at h
            simp only [Option.bind_some, Option.some.injEq] at h
            subst h
            have a1 := hF _ _ _ h1 (ht f (by simp))
            have a2 := ih _ _ h2 (by rw [hl, List.length_append]; omega) (fun g hg => ht g (by simp [hg]))
            have := areCells_append a1 a2
            rw [hc, ← List.drop_drop, List.take_append_drop] at this
            exact this
        · simp at h
    · simp at h
theorem flat_arr {l : List (Option IntKind)} (m : Nat) : ∀ (cs : List Value), cs.length = m * l.length → (∀ i, i < m → areCells l ((cs.drop (i * l.length)).take l.length)) → areCells (List.replicate m l).flatten cs := by
  induction m with
  | zero =>
    intro cs h _
    have : cs = [] := List.eq_nil_of_length_eq_zero (by omega)
    subst this; simp [areCells]
  | succ m ih =>
    intro cs h ha
    rw [List.replicate_succ, List.flatten_cons]
    have h0 := ha 0 (by omega)
    rw [Nat.zero_mul, List.drop_zero] at h0
    have h1 := ih (cs.drop l.length) (by rw [List.length_drop, h, Nat.succ_mul]; omega) (fun i hi => by
      have := ha (i + 1) (by omega)
      rw [List.drop_drop]
      have e : l.length + i * l.length = (i + 1) * l.length := by rw [Nat.succ_mul]; omega
      rw [e]; exact this)
    have := areCells_append h0 h1
    rwa [List.take_append_drop] at this
theorem flat_ok (n : Nat) : ∀ (t : TypeId) (l : List (Option IntKind)) (cs : List Value), flat P n t = some l → (∃ m x, DataW.trod enc P W base spare held m t cs = some x) → areCells l cs := by
  induction n with
  | zero => intro t l cs h; simp [flat] at h
  | succ n ih =>
    intro t l cs h ⟨m, x, hx⟩
    simp only [flat] at h
    split at h
    · rename_i k hk
      simp only [Option.some.injEq] at h; subst h
      obtain ⟨z, rfl, _, hw⟩ := DataW.trod_int hk hx
      exact ⟨⟨z, rfl, hw⟩, trivial⟩
    · rename_i hk
      simp only [Option.some.injEq] at h; subst h
      obtain ⟨z, rfl, _⟩ := DataW.trod_bool hk hx
      exact ⟨⟨z, rfl⟩, trivial⟩
    · rename_i fs hk
      cases h1 : flatFs P (flat P n) 0 fs.toList with
      | none => rw [h1] at h; simp at h
      | some l' =>
        rw [h1] at h
        simp only [Option.bind_some] at h
        split at h
        · rename_i hc
          simp only [Option.some.injEq] at h; subst h
          obtain ⟨xs, n', _, _, hl, hlen, hf⟩ := DataW.trod_struct hk hx
          have := flatFs_ok (F := flat P n) (cs := cs) (fun t l ws h1 h2 => ih t l ws h1 h2) fs.toList 0 l' h1 (by omega) (fun f hfm => by
            obtain ⟨i, hi, rfl⟩ := List.getElem_of_mem hfm
            have hi' : i < fs.size := by simpa using hi
            have h2 := hf i fs[i] (Array.getElem?_eq_getElem hi')
            rw [List.getElem?_eq_getElem (by omega)] at h2
            exact ⟨n', _, by simpa using h2⟩)
          simpa using this
        · simp at h
    · rename_i m' e hk
      cases h1 : flat P n e with
      | none => rw [h1] at h; simp at h
      | some l' =>
        rw [h1] at h
        simp only [Option.bind_some] at h
        split at h
        · rename_i hc
          split at h
          · rename_i hc2
            simp only [Option.some.injEq] at h; subst h
            obtain ⟨xs, n', _, _, hl, hlen, hf⟩ := DataW.trod_array hk hx
            refine flat_arr m' cs (by omega) fun i hi => ?_
            have h2 := hf i hi
            rw [List.getElem?_eq_getElem (by omega), hc] at h2
            exact ih e l' _ h1 ⟨n', _, h2⟩
          · simp at h
        · simp at h
    · simp at h

/-- a struct or an array of flat cells that came in -/
theorem opn_flat {T : TypeId} {v : Value} {d : DataW H} {p : List MemPlace} {l : List (Option IntKind)} {r : Reach} (n : Nat) (hs : (∃ fs, P.underlying T = some (.struct fs)) ∨ (∃ m e, P.underlying T = some (.array m e))) (hl : flat P n T = some l)
    (hval : Value.okWide P W r b0 T v) (h : DataW.Trod enc P W base spare held T v d p) : ∃ vs : List Value, v = .agg vs.toArray ∧ areCells l vs := by
  obtain ⟨fuel, hf⟩ := h
  have hv : ∃ cs, v = .agg cs := by
    rcases hs with ⟨fs, hs⟩ | ⟨m, e, hs⟩
    · obtain ⟨cs, rfl, _⟩ := okWide_struct hs hval
      exact ⟨cs, rfl⟩
    · simp only [Value.okWide, hs] at hval
      obtain ⟨cs, rfl, _⟩ := hval
      exact ⟨cs, rfl⟩
  obtain ⟨cs, rfl⟩ := hv
  exact ⟨cs.toList, by simp, flat_ok n T l _ hl ⟨fuel, _, hf⟩⟩

/-- a slice of flat elements that came in: each element's cells -/
def IsRows (ks : List (Option IntKind)) (W : World) (A : Option Addr) (n c : Nat) (rows : List (List Value)) : Prop :=
  rows.length = n ∧ n ≤ c ∧ c ≤ 9223372036854775807 ∧ Rd W W.heap.size A rows.flatten ∧ ∀ r ∈ rows, areCells ks r

theorem flatten_get {s : Nat} (rows : List (List Value)) (hs : ∀ r ∈ rows, r.length = s) (j : Nat) (u : Value) (h : rows.flatten[j]? = some u) : ∃ (k i : Nat) (hk : k < rows.length), i < s ∧ j = k * s + i ∧ rows[k][i]? = some u := by
  induction rows generalizing j with
  | nil => simp at h
  | cons r t ih =>
    rw [List.flatten_cons] at h
    have hr := hs r (by simp)
    by_cases hj : j < s
    · rw [List.getElem?_append_left (by omega)] at h
      exact ⟨0, j, by simp, hj, by omega, by simpa using h⟩
    · rw [List.getElem?_append_right (by omega)] at h
      obtain ⟨k, i, hk, hi, e, hu⟩ := ih (fun r hr => hs r (by simp [hr])) _ h
      exact ⟨k + 1, i, by simp; omega, hi, by rw [Nat.succ_mul]; omega, by simpa using hu⟩
theorem mapM_get {α β : Type} (f : α → Option β) (l : List α) (r : List β) (h : l.mapM f = some r) : r.length = l.length ∧ ∀ i (hi : i < l.length), f l[i] = r[i]? := by
  induction l generalizing r with
  | nil => simp at h; subst h; exact ⟨rfl, fun i hi => by simp at hi⟩
  | cons a t ih =>
    rw [List.mapM_cons] at h
    cases ha : f a with
    | none => rw [ha] at h; simp at h
    | some b =>
      rw [ha] at h
      cases ht : t.mapM f with
      | none => rw [ht] at h; simp at h
      | some r' =>
        rw [ht] at h
        simp at h
        subst h
        obtain ⟨h1, h2⟩ := ih r' ht
        exact ⟨by simp [h1], fun i hi => by
          cases i with
          | zero => simpa using ha
          | succ i => simpa using h2 i (by simpa using hi)⟩
theorem cells?_get {w : World} {b : Nat} {a : Addr} {n : Nat} {l : List Value} (h : w.cells? b a n = some l) : l.length = n ∧ ∀ i, i < n → w.cell? (a.add i) = l[i]? := by
  unfold World.cells? at h
  split at h
  · obtain ⟨h1, h2⟩ := mapM_get _ _ _ h
    simp only [List.length_range] at h1 h2
    exact ⟨h1, fun i hi => by have := h2 i hi; simpa using this⟩
  · cases h
theorem add_add' (a : Addr) (i j : Nat) : (a.add i).add j = a.add (i + j) := add_add a i j

theorem opn_rows {T E : TypeId} {v : Value} {d : DataW H} {p : List MemPlace} {ks : List (Option IntKind)} {r : Reach} (n : Nat) (hT : P.underlying T = some (.slice E)) (hE : flat P n E = some ks) (hc : P.cellsOf E = ks.length)
    (hval : Value.okWide P W r b0 T v) (h : DataW.Trod enc P W base spare held T v d p) : ∃ A n c rows, v = .slice A n c ∧ IsRows ks W A n c rows := by
  obtain ⟨A, len, cap, rfl⟩ := okWide_slice hT hval
  obtain ⟨fuel, hf⟩ := h
  rcases DataW.trod_slice hT hf with ⟨hcs, _⟩ | ⟨a, len', cap', elems, rest, m, _, hcs, _, _, hl, hm, hel, hget, _⟩
  · simp [Value.cells] at hcs
    obtain ⟨rfl, rfl, rfl⟩ := hcs
    exact ⟨none, 0, 0, [], rfl, rfl, Nat.le_refl _, by omega, Rd.nil, by simp⟩
  · simp [Value.cells] at hcs
    obtain ⟨rfl, rfl, rfl⟩ := hcs
    have each : ∀ i, i < len → ∃ row, W.cells? base (a.add (i * P.cellsOf E)) (P.cellsOf E) = some row ∧ areCells ks row := fun i hi => by
      have h1 := hget i hi
      rw [List.getElem?_eq_getElem (by omega)] at h1
      cases h2 : W.cells? base (a.add (i * P.cellsOf E)) (P.cellsOf E) with
      | none => rw [h2] at h1; simp at h1
      | some row =>
        rw [h2] at h1
        exact ⟨row, rfl, flat_ok n E ks row hE ⟨m, _, by simpa using h1⟩⟩
    refine ⟨some a, len, cap, (List.range len).map fun i => (W.cells? base (a.add (i * P.cellsOf E)) (P.cellsOf E)).getD [], rfl, by simp, hl, hm, ?_, ?_⟩
    · have hrow : ∀ r ∈ (List.range len).map fun i => (W.cells? base (a.add (i * P.cellsOf E)) (P.cellsOf E)).getD [], r.length = ks.length := fun r hr => by
        obtain ⟨i, hi, rfl⟩ := List.mem_map.1 hr
        obtain ⟨row, h1, h2⟩ := each i (by simpa using hi)
        rw [h1]; exact areCells_len h2
      have hcell : ∀ j u, ((List.range len).map fun i => (W.cells? base (a.add (i * P.cellsOf E)) (P.cellsOf E)).getD []).flatten[j]? = some u → W.cell? (a.add j) = some u := fun j u hu => by
        obtain ⟨k, i, hk, hi, rfl, hku⟩ := flatten_get _ hrow j u hu
        have hk' : k < len := by simpa using hk
        obtain ⟨row, h1, h2⟩ := each k hk'
        simp only [List.getElem_map, List.getElem_range, h1, Option.getD_some] at hku
        have := (cells?_get h1).2 i (by omega)
        rw [add_add, hc] at this
        rw [this]; exact hku
      intro hn
      have h0 := hcell 0 _ (List.getElem?_eq_getElem hn)
      have hb : a.block < W.heap.size := by have := cell_lt h0; rwa [block_add] at this
      exact Rd.of_add hb hcell hn
    · intro r hr
      obtain ⟨i, hi, rfl⟩ := List.mem_map.1 hr
      obtain ⟨row, h1, h2⟩ := each i (by simpa using hi)
      rw [h1]; exact h2
end
end Go.Proofs.YtajkekhnfobgiaaGreatDoor

/- Arguments of any depth, as they come in: structs, arrays, slices of these, strings. -/
namespace Go.Proofs.YtajkekhnfobgiaaGreatDoor
set_option maxRecDepth 20000
open Go.ChangeShapes Go.WideShapes Go.ChangeAt Go.RowKit

inductive Sh where
  | int (k : IntKind)
  | bool
  | str
  | sl (e : Sh) (size bytes : Nat)
  | nil
  | pr (a : Sh) (b : Sh)
/-- how many cells -/
def Sh.sz : Sh → Nat
  | .nil => 0
  | .pr a b => a.sz + b.sz
  | _ => 1
def Sh.app : Sh → Sh → Sh
  | .nil, s => s
  | .pr a b, s => .pr a (b.app s)
  | x, s => .pr x s
def Sh.rep : Nat → Sh → Sh
  | 0, _ => .nil
  | n + 1, s => s.app (Sh.rep n s)
theorem Sh.app_sz (a b : Sh) : (a.app b).sz = a.sz + b.sz := by
  induction a with
  | nil => simp [Sh.app, Sh.sz]
  | pr x y _ ih => simp only [Sh.app, Sh.sz, ih]; omega
  | _ => simp [Sh.app, Sh.sz]
theorem Sh.rep_sz (n : Nat) (s : Sh) : (Sh.rep n s).sz = n * s.sz := by
  induction n with
  | zero => simp [Sh.rep, Sh.sz]
  | succ n ih => rw [Sh.rep, Sh.app_sz, ih, Nat.succ_mul]; omega
/-- what the cells of a shape read as -/
def Dp (W : World) : Sh → List Value → Prop
  | .int k, cs => ∃ n, cs = [.int k n] ∧ (Lit.int k n).wf = true
  | .bool, cs => ∃ b, cs = [.bool b]
  | .str, cs => ∃ s : ByteArray, cs = [.string s] ∧ s.size ≤ maxLen
  | .sl e size bytes, cs => ∃ (A : Option Addr) (n c : Nat) (rows : List (List Value)), cs = [.slice A n c] ∧ rows.length = n ∧ n * bytes ≤ 140737488351232 ∧ n ≤ c ∧ c ≤ 9223372036854775807 ∧ Rd W W.heap.size A rows.flatten ∧ ∀ r ∈ rows, r.length = size ∧ Dp W e r
  | .nil, cs => cs = []
  | .pr a b, cs => ∃ x y, cs = x ++ y ∧ Dp W a x ∧ Dp W b y
section
variable {H : Type} {enc : TypeId × Value → H} {P : Program} {W : World} {base b0 : Nat} {spare : Nat → Bool} {held : Bool}
theorem Dp.app {a b : Sh} {x y : List Value} (h : Dp W a x) (k : Dp W b y) : Dp W (a.app b) (x ++ y) := by
  induction a generalizing x with
  | nil => simp only [Dp] at h; subst h; exact k
  | pr s t _ ih =>
    obtain ⟨u, v, rfl, h1, h2⟩ := h
    exact ⟨u, v ++ y, by rw [List.append_assoc], h1, ih h2⟩
  | int _ => exact ⟨x, y, rfl, h, k⟩
  | bool => exact ⟨x, y, rfl, h, k⟩
  | str => exact ⟨x, y, rfl, h, k⟩
  | sl _ _ _ => exact ⟨x, y, rfl, h, k⟩
theorem Dp.len {s : Sh} {cs : List Value} (h : Dp W s cs) : cs.length = s.sz := by
  induction s generalizing cs with
  | nil => simp only [Dp] at h; subst h; rfl
  | pr a b iha ihb => obtain ⟨x, y, rfl, h1, h2⟩ := h; rw [List.length_append, iha h1, ihb h2]; rfl
  | int _ => obtain ⟨n, rfl, _⟩ := h; rfl
  | bool => obtain ⟨b, rfl⟩ := h; rfl
  | str => obtain ⟨s, rfl, _⟩ := h; rfl
  | sl _ _ _ => obtain ⟨A, n, c, rows, rfl, _⟩ := h; rfl
/-- the fields' shapes, one behind the other from cell o on -/
def shpFs (P : Program) (F : TypeId → Option Sh) : Nat → List Field → Option Sh
  | _, [] => some .nil
  | o, f :: r => if f.offset = o then (F f.type).bind fun l => if P.cellsOf f.type = l.sz then (shpFs P F (o + l.sz) r).bind fun l' => some (l.app l') else none else none
def shp (P : Program) : Nat → TypeId → Option Sh
  | 0, _ => none
  | n + 1, t => match P.underlying t with
    | some (.int k) => some (.int k)
    | some .bool => some .bool
    | some .string => some .str
    | some (.slice e) => (shp P n e).bind fun s => if P.cellsOf e = s.sz then some (.sl s s.sz (P.bytesOf e)) else none
    | some (.struct fs) => (shpFs P (shp P n) 0 fs.toList).bind fun l => if P.cellsOf t = l.sz then some l else none
    | some (.array m e) => (shp P n e).bind fun l => if P.cellsOf e = l.sz then if P.cellsOf t = m * l.sz then some (Sh.rep m l) else none else none
    | _ => none
theorem shpFs_ok {F : TypeId → Option Sh} {cs : List Value} (hF : ∀ t l ws, F t = some l → (∃ n x, DataW.trod enc P W base spare held n t ws = some x ∧ ∀ k ∈ x.1.weights P t, k ≤ reachBytes) → Dp W l ws) (fs : List Field) :
    ∀ (o : Nat) (l : Sh), shpFs P F o fs = some l → cs.length = o + l.sz → (∀ f ∈ fs, ∃ n x, DataW.trod enc P W base spare held n f.type ((cs.drop f.offset).take (P.cellsOf f.type)) = some x ∧ ∀ k ∈ x.1.weights P f.type, k ≤ reachBytes) → Dp W l (cs.drop o) := by
  induction fs with
  | nil =>
    intro o l h hl _
    simp only [shpFs, Option.some.injEq] at h
    subst h
    rw [List.drop_of_length_le (by simp [Sh.sz] at hl; omega)]
    rfl
  | cons f r ih =>
    intro o l h hl ht
    simp only [shpFs] at h
    split at h
    · rename_i ho
      subst ho
      cases h1 : F f.type with
      | none => rw [h1] at h; simp at h
      | some l1 =>
        rw [h1] at h
        simp only [Option.bind_some] at h
        split at h
        · rename_i hc
          cases h2 : shpFs P F (f.offset + l1.sz) r with
          | none => rw [h2] at h; simp at h
          | some l2 =>
            rw [h2] at h
            simp only [Option.bind_some, Option.some.injEq] at h
            subst h
            have a1 := hF _ _ _ h1 (ht f (by simp))
            have a2 := ih _ _ h2 (by rw [hl, Sh.app_sz]; omega) (fun g hg => ht g (by simp [hg]))
            have := a1.app a2
            rw [hc, ← List.drop_drop, List.take_append_drop] at this
            exact this
        · simp at h
    · simp at h
theorem shp_arr {l : Sh} (m : Nat) : ∀ (cs : List Value), cs.length = m * l.sz → (∀ i, i < m → Dp W l ((cs.drop (i * l.sz)).take l.sz)) → Dp W (Sh.rep m l) cs := by
  induction m with
  | zero =>
    intro cs h _
    have : cs = [] := List.eq_nil_of_length_eq_zero (by omega)
    subst this; rfl
  | succ m ih =>
    intro cs h ha
    have h0 := ha 0 (by omega)
    rw [Nat.zero_mul, List.drop_zero] at h0
    have h1 := ih (cs.drop l.sz) (by rw [List.length_drop, h, Nat.succ_mul]; omega) (fun i hi => by
      have := ha (i + 1) (by omega)
      rw [List.drop_drop]
      have e : l.sz + i * l.sz = (i + 1) * l.sz := by rw [Nat.succ_mul]; omega
      rw [e]; exact this)
    have := h0.app h1
    rwa [List.take_append_drop] at this
theorem weights_all {e : TypeId} : ∀ {ds : List (DataW H)} {d : DataW H}, d ∈ ds → ∀ k ∈ d.weights P e, k ∈ DataW.weightsAll P e ds
  | d0 :: r, d, h, k, hk => by
    simp only [DataW.weightsAll, List.mem_append]
    rcases List.mem_cons.1 h with rfl | h
    · exact .inl hk
    · exact .inr (weights_all h k hk)
theorem shp_ok (n : Nat) : ∀ (t : TypeId) (l : Sh) (cs : List Value), shp P n t = some l → (∃ m x, DataW.trod enc P W base spare held m t cs = some x ∧ ∀ k ∈ x.1.weights P t, k ≤ reachBytes) → Dp W l cs := by
  induction n with
  | zero => intro t l cs h; simp [shp] at h
  | succ n ih =>
    intro t l cs h ⟨m, x, hx, hw⟩
    simp only [shp] at h
    split at h
    · rename_i k hk
      simp only [Option.some.injEq] at h; subst h
      obtain ⟨z, rfl, _, hz⟩ := DataW.trod_int hk hx
      exact ⟨z, rfl, hz⟩
    · rename_i hk
      simp only [Option.some.injEq] at h; subst h
      obtain ⟨z, rfl, _⟩ := DataW.trod_bool hk hx
      exact ⟨z, rfl⟩
    · rename_i hk
      simp only [Option.some.injEq] at h; subst h
      obtain ⟨z, rfl, _, hz⟩ := DataW.trod_string hk hx
      exact ⟨z, rfl, hz⟩
    · rename_i e hk
      cases h1 : shp P n e with
      | none => rw [h1] at h; simp at h
      | some s =>
        rw [h1] at h
        simp only [Option.bind_some] at h
        split at h
        · rename_i hc
          simp only [Option.some.injEq] at h; subst h
          rcases DataW.trod_slice hk hx with ⟨rfl, _⟩ | ⟨a, len, cap, elems, rest, m', _, rfl, rfl, _, hl, hm, hel, hget, _⟩
          · exact ⟨none, 0, 0, [], rfl, rfl, by omega, Nat.le_refl _, by omega, Rd.nil, by simp⟩
          · have each : ∀ i, i < len → ∃ row, W.cells? base (a.add (i * P.cellsOf e)) (P.cellsOf e) = some row ∧ Dp W s row := fun i hi => by
              have h1' := hget i hi
              rw [List.getElem?_eq_getElem (by omega)] at h1'
              cases h2 : W.cells? base (a.add (i * P.cellsOf e)) (P.cellsOf e) with
              | none => rw [h2] at h1'; simp at h1'
              | some row =>
                rw [h2] at h1'
                have h3 : DataW.trod enc P W base spare held m' e row = some (elems[i]'(by omega)) := by simpa using h1'
                refine ⟨row, rfl, ih e s row h1 ⟨m', _, h3, fun k hk' => hw k ?_⟩⟩
                simp only [DataW.weights, hk, List.mem_cons, List.mem_append]
                exact .inr (.inl (weights_all (List.mem_map.2 ⟨_, List.getElem_mem _, rfl⟩) k hk'))
            refine ⟨some a, len, cap, (List.range len).map fun i => (W.cells? base (a.add (i * P.cellsOf e)) (P.cellsOf e)).getD [], rfl, by simp, ?_, hl, by unfold maxLen at hm; exact hm, ?_, ?_⟩
            · have h4 := hw ((elems.length + rest.length) * P.bytesOf e) (by simp [DataW.weights, hk])
              have h5 : len * P.bytesOf e ≤ (elems.length + rest.length) * P.bytesOf e := Nat.mul_le_mul_right _ (by omega)
              unfold reachBytes at h4
              omega
            · have hrow : ∀ r ∈ (List.range len).map fun i => (W.cells? base (a.add (i * P.cellsOf e)) (P.cellsOf e)).getD [], r.length = s.sz := fun r hr => by
                obtain ⟨i, hi, rfl⟩ := List.mem_map.1 hr
                obtain ⟨row, h1, h2⟩ := each i (by simpa using hi)
                rw [h1]; exact h2.len
              have hcell : ∀ j u, ((List.range len).map fun i => (W.cells? base (a.add (i * P.cellsOf e)) (P.cellsOf e)).getD []).flatten[j]? = some u → W.cell? (a.add j) = some u := fun j u hu => by
                obtain ⟨k, i, hk, hi, rfl, hku⟩ := flatten_get _ hrow j u hu
                have hk' : k < len := by simpa using hk
                obtain ⟨row, h1, h2⟩ := each k hk'
                simp only [List.getElem_map, List.getElem_range, h1, Option.getD_some] at hku
                have := (cells?_get h1).2 i (by omega)
                rw [add_add, hc] at this
                rw [this]; exact hku
              intro hn
              have h0 := hcell 0 _ (List.getElem?_eq_getElem hn)
              have hb : a.block < W.heap.size := by have := cell_lt h0; rwa [block_add] at this
              exact Rd.of_add hb hcell hn
            · intro r hr
              obtain ⟨i, hi, rfl⟩ := List.mem_map.1 hr
              obtain ⟨row, h1, h2⟩ := each i (by simpa using hi)
              rw [h1]; exact ⟨h2.len, h2⟩
        · simp at h
    · rename_i fs hk
      cases h1 : shpFs P (shp P n) 0 fs.toList with
      | none => rw [h1] at h; simp at h
      | some l' =>
        rw [h1] at h
        simp only [Option.bind_some] at h
        split at h
        · rename_i hc
          simp only [Option.some.injEq] at h; subst h
          obtain ⟨xs, n', _, rfl, hl, hlen, hf⟩ := DataW.trod_struct hk hx
          have := shpFs_ok (F := shp P n) (cs := cs) (fun t l ws h1 h2 => ih t l ws h1 h2) fs.toList 0 l' h1 (by omega) (fun f hfm => by
            obtain ⟨i, hi, rfl⟩ := List.getElem_of_mem hfm
            have hi' : i < fs.size := by simpa using hi
            have h2 := hf i fs[i] (Array.getElem?_eq_getElem hi')
            rw [List.getElem?_eq_getElem (by omega)] at h2
            refine ⟨n', _, by simpa using h2, fun k hk' => hw k ?_⟩
            simp only [DataW.weights, hk]
            exact DataW.weights_mem_each (j := i) (by simp [hi']) (by rw [List.getElem?_map, List.getElem?_eq_getElem (by omega)]; rfl) k hk')
          simpa using this
        · simp at h
    · rename_i m' e hk
      cases h1 : shp P n e with
      | none => rw [h1] at h; simp at h
      | some l' =>
        rw [h1] at h
        simp only [Option.bind_some] at h
        split at h
        · rename_i hc
          split at h
          · rename_i hc2
            simp only [Option.some.injEq] at h; subst h
            obtain ⟨xs, n', _, rfl, hl, hlen, hf⟩ := DataW.trod_array hk hx
            refine shp_arr m' cs (by omega) fun i hi => ?_
            have h2 := hf i hi
            rw [List.getElem?_eq_getElem (by omega), hc] at h2
            refine ih e l' _ h1 ⟨n', _, h2, fun k hk' => hw k ?_⟩
            simp only [DataW.weights, hk]
            exact weights_all (List.mem_map.2 ⟨_, List.getElem_mem _, rfl⟩) k hk'
          · simp at h
        · simp at h
    · simp at h
/-- an argument: one cell, or a struct's or an array's cells -/
theorem opn {T : TypeId} {v : Value} {d : DataW H} {p : List MemPlace} {l : Sh} (n : Nat) (hl : shp P n T = some l) (hw : ∀ k ∈ d.weights P T, k ≤ reachBytes) (h : DataW.Trod enc P W base spare held T v d p) : Dp W l v.cells.toList := by
  obtain ⟨fuel, hf⟩ := h
  exact shp_ok n T l _ hl ⟨fuel, _, hf, hw⟩
theorem opn_agg {T : TypeId} {v : Value} {d : DataW H} {p : List MemPlace} {l : Sh} {r : Reach} (n : Nat) (hs : (∃ fs, P.underlying T = some (.struct fs)) ∨ (∃ m e, P.underlying T = some (.array m e))) (hl : shp P n T = some l) (hw : ∀ k ∈ d.weights P T, k ≤ reachBytes) (hval : Value.okWide P W r b0 T v) (h : DataW.Trod enc P W base spare held T v d p) : ∃ vs : List Value, v = .agg vs.toArray ∧ Dp W l vs := by
  have h1 := opn n hl hw h
  rcases hs with ⟨fs, hs⟩ | ⟨m, e, hs⟩
  · obtain ⟨cs, rfl, _⟩ := okWide_struct hs hval
    exact ⟨cs.toList, by simp, h1⟩
  · simp only [Value.okWide, hs] at hval
    obtain ⟨cs, rfl, _⟩ := hval
    exact ⟨cs.toList, by simp, h1⟩
theorem opn_sl {T E : TypeId} {v : Value} {d : DataW H} {p : List MemPlace} {l : Sh} {r : Reach} (n : Nat) (hT : P.underlying T = some (.slice E)) (hl : shp P n T = some l) (hw : ∀ k ∈ d.weights P T, k ≤ reachBytes) (hval : Value.okWide P W r b0 T v) (h : DataW.Trod enc P W base spare held T v d p) : ∃ A m c, v = .slice A m c ∧ Dp W l [.slice A m c] := by
  have h1 := opn n hl hw h
  obtain ⟨A, m, c, rfl⟩ := okWide_slice hT hval
  exact ⟨A, m, c, rfl, h1⟩
end
end Go.Proofs.YtajkekhnfobgiaaGreatDoor

/- A program as it comes in. -/
namespace Go.Proofs.YtajkekhnfobgiaaGreatDoor
set_option maxRecDepth 20000
open Go.ChangeShapes Go.WideShapes Go.ChangeAt Go.RowKit

theorem choose_listQ {α β : Type} {f : β → List α} {Q : β → Prop} : ∀ (rows : List (List α)), (∀ r ∈ rows, ∃ x, r = f x ∧ Q x) → ∃ xs : List β, rows = xs.map f ∧ ∀ x ∈ xs, Q x
  | [], _ => ⟨[], rfl, fun x hx => by cases hx⟩
  | r :: t, h => by
    obtain ⟨x, rfl, hx⟩ := h r (List.mem_cons_self ..)
    obtain ⟨xs, rfl, hxs⟩ := choose_listQ t fun s hs => h s (List.mem_cons_of_mem _ hs)
    exact ⟨x :: xs, rfl, fun y hy => by
      rcases List.mem_cons.1 hy with rfl | hy
      · exact hx
      · exact hxs y hy⟩
theorem flat_oneQ {α β : Type} (g : α → β) (xs : List α) : (xs.map fun x => [g x]).flatten = xs.map g := by
  induction xs with
  | nil => rfl
  | cons x t ih => simp [ih]
def shIn : Sh := .pr (.int .i64) (.pr (.int .i64) (.pr (.int .i64) (.pr (.int .i64) (.pr (.int .i64) .nil))))
theorem dpq_in {W : World} {cs : List Value} (h : Dp W shIn cs) : ∃ x : In, cs = inV x ∧ True := by
  obtain ⟨_, _, rfl, ⟨a, rfl, -⟩, _, _, rfl, ⟨b, rfl, -⟩, _, _, rfl, ⟨c, rfl, -⟩, _, _, rfl, ⟨d, rfl, -⟩, _, _, rfl, ⟨e, rfl, -⟩, h2⟩ := h
  simp only [Dp] at h2
  subst h2
  exact ⟨⟨a, b, c, d, e⟩, rfl, trivial⟩
theorem dpq_code {W : World} {cs : List Value} (h : Dp W (.sl shIn 5 40) cs) : ∃ (A : Option Addr) (c : Nat) (l : List In), cs = [.slice A l.length c] ∧ Rd W W.heap.size A (l.flatMap inV) ∧ l.length ≤ 140737488355328 := by
  obtain ⟨A, n, c, rows, rfl, hl, hn, hc, hm, hr, hrow⟩ := h
  obtain ⟨xs, rfl, -⟩ := choose_listQ (f := inV) (Q := fun _ => True) rows fun r hr => dpq_in (hrow r hr).2
  have e : xs.length = n := by simpa using hl
  exact ⟨A, c, xs, by rw [e], by rw [List.flatMap_def]; exact hr, by omega⟩
theorem dpq_szs {W : World} {cs : List Value} (h : Dp W (.sl (.int .i64) 1 8) cs) : ∃ (A : Option Addr) (c : Nat) (l : List Int), cs = [.slice A l.length c] ∧ Rd W W.heap.size A (ints l) ∧ l.length ≤ 140737488355328 := by
  obtain ⟨A, n, c, rows, rfl, hl, hn, hc, hm, hr, hrow⟩ := h
  obtain ⟨xs, rfl, -⟩ := choose_listQ (f := fun x => [Value.int .i64 x]) (Q := fun _ => True) rows fun r hr => by
    obtain ⟨_, n, rfl, hw⟩ := hrow r hr
    exact ⟨n, rfl, trivial⟩
  have e : (xs.map fun x => [Value.int .i64 x]).flatten = ints xs := flat_oneQ _ xs
  rw [e] at hr
  have e2 : xs.length = n := by simpa using hl
  exact ⟨A, c, xs, by rw [e2], hr, by omega⟩
theorem dpq_wds {W : World} {cs : List Value} (h : Dp W (.sl (.int .u16) 1 2) cs) : ∃ r : WV, cs = [r.v] ∧ (Rd W W.heap.size r.A (wds r.xs) ∧ r.xs.length ≤ 140737488355328 ∧ ∀ y ∈ r.xs, 0 ≤ y ∧ y ≤ 65535) := by
  obtain ⟨A, n, c, rows, rfl, hl, hn, hc, hm, hr, hrow⟩ := h
  obtain ⟨xs, rfl, hxs⟩ := choose_listQ (f := fun x => [Value.int .u16 x]) (Q := fun y => 0 ≤ y ∧ y ≤ 65535) rows fun r hr => by
    obtain ⟨_, n, rfl, hw⟩ := hrow r hr
    refine ⟨n, rfl, ?_⟩
    simp [Lit.wf, IntKind.min, IntKind.max, IntKind.signed, IntKind.bits] at hw
    omega
  have e : (xs.map fun x => [Value.int .u16 x]).flatten = wds xs := flat_oneQ _ xs
  rw [e] at hr
  have e2 : xs.length = n := by simpa using hl
  exact ⟨⟨A, c, xs⟩, by unfold WV.v; rw [e2], hr, by dsimp only; omega, hxs⟩
theorem dpq_data {W : World} {cs : List Value} (h : Dp W (.sl (.sl (.int .u16) 1 2) 1 24) cs) : ∃ (A : Option Addr) (c : Nat) (l : List WV), cs = [.slice A l.length c] ∧ Rd W W.heap.size A (l.map WV.v) ∧ l.length ≤ 140737488355328 ∧ ∀ r ∈ l, Rd W W.heap.size r.A (wds r.xs) ∧ r.xs.length ≤ 140737488355328 ∧ ∀ y ∈ r.xs, 0 ≤ y ∧ y ≤ 65535 := by
  obtain ⟨A, n, c, rows, rfl, hl, hn, hc, hm, hr, hrow⟩ := h
  obtain ⟨xs, rfl, hxs⟩ := choose_listQ (f := fun r : WV => [r.v]) (Q := fun r => Rd W W.heap.size r.A (wds r.xs) ∧ r.xs.length ≤ 140737488355328 ∧ ∀ y ∈ r.xs, 0 ≤ y ∧ y ≤ 65535) rows fun r hr => dpq_wds (hrow r hr).2
  have e : (xs.map fun r : WV => [r.v]).flatten = xs.map WV.v := flat_oneQ _ xs
  rw [e] at hr
  have e2 : xs.length = n := by simpa using hl
  exact ⟨A, c, xs, by rw [e2], hr, by omega, hxs⟩
section
variable {H : Type} {enc : TypeId × Value → H} {W : World} {base b0 : Nat} {spare : Nat → Bool} {held : Bool} {v : Value} {d : DataW H} {p : List MemPlace} {r : Reach}
theorem opn_prog (hval : Value.okWide Tryz.prog W r b0 26 v) (hw : ∀ k ∈ d.weights Tryz.prog 26, k ≤ reachBytes) (h : DataW.Trod enc Tryz.prog W base spare held 26 v d p) : ∃ y : PV, v = y.v ∧ RwP y W := by
  obtain ⟨vs, rfl, h1⟩ := opn_agg 9 (.inl ⟨_, Tryz.underlying26⟩) (l := .pr (.sl shIn 5 40) (.pr (.sl (.int .i64) 1 8) (.pr (.sl (.sl (.int .u16) 1 2) 1 24) .nil))) (by kernel_rfl) hw hval h
  obtain ⟨_, _, rfl, h2, _, _, rfl, h3, _, _, rfl, h4, h5⟩ := h1
  simp only [Dp] at h5
  subst h5
  obtain ⟨A, c, l, rfl, x1, x2⟩ := dpq_code h2
  obtain ⟨A', c', l', rfl, y1, y2⟩ := dpq_szs h3
  obtain ⟨A'', c'', l'', rfl, t1, t2, t3⟩ := dpq_data h4
  exact ⟨⟨A, c, l, A', c', l', A'', c'', l''⟩, rfl, ⟨x1, y1, t1, fun r hr => (t3 r hr).1⟩, x2, y2, t2, fun r hr => (t3 r hr).2⟩
end
end Go.Proofs.YtajkekhnfobgiaaGreatDoor
