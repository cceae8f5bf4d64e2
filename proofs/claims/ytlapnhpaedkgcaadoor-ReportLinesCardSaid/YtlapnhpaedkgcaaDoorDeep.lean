/- Arguments of any depth, as they come in: structs, arrays, slices of these, strings. -/
import Derived.Test.YtlapnhpaedkgcaaDoorFlat
import Derived.SizedLaws
namespace Go.Proofs.YtlapnhpaedkgcaaDoor
open Go.ChangeShapes Go.WideShapes Go.ChangeAt Go.RowKit

inductive Sh where
  | int (k : IntKind)
  | bool
  | str
  | sl (e : Sh) (size bytes : Nat)
  | nil
  | pr (a : Sh) (b : Sh)
/-- how many cells -/
def Sh.sz : Sh → Nat
  | .nil => 0
  | .pr a b => a.sz + b.sz
  | _ => 1
def Sh.app : Sh → Sh → Sh
  | .nil, s => s
  | .pr a b, s => .pr a (b.app s)
  | x, s => .pr x s
def Sh.rep : Nat → Sh → Sh
  | 0, _ => .nil
  | n + 1, s => s.app (Sh.rep n s)
theorem Sh.app_sz (a b : Sh) : (a.app b).sz = a.sz + b.sz := by
  induction a with
  | nil => simp [Sh.app, Sh.sz]
  | pr x y _ ih => simp only [Sh.app, Sh.sz, ih]; omega
  | _ => simp [Sh.app, Sh.sz]
theorem Sh.rep_sz (n : Nat) (s : Sh) : (Sh.rep n s).sz = n * s.sz := by
  induction n with
  | zero => simp [Sh.rep, Sh.sz]
  | succ n ih => rw [Sh.rep, Sh.app_sz, ih, Nat.succ_mul]; omega
/-- what the cells of a shape read as -/
def Dp (W : World) : Sh → List Value → Prop
  | .int k, cs => ∃ n, cs = [.int k n] ∧ (Lit.int k n).wf = true
  | .bool, cs => ∃ b, cs = [.bool b]
  | .str, cs => ∃ s : ByteArray, cs = [.string s] ∧ s.size ≤ maxLen
  | .sl e size bytes, cs => ∃ (A : Option Addr) (n c : Nat) (rows : List (List Value)), cs = [.slice A n c] ∧ rows.length = n ∧ n * bytes ≤ 140737488351232 ∧ n ≤ c ∧ c ≤ 9223372036854775807 ∧ Rd W W.heap.size A rows.flatten ∧ ∀ r ∈ rows, r.length = size ∧ Dp W e r
  | .nil, cs => cs = []
  | .pr a b, cs => ∃ x y, cs = x ++ y ∧ Dp W a x ∧ Dp W b y
section
variable {H : Type} {enc : TypeId × Value → H} {P : Program} {W : World} {base b0 : Nat} {spare : Nat → Bool} {held : Bool}
theorem Dp.app {a b : Sh} {x y : List Value} (h : Dp W a x) (k : Dp W b y) : Dp W (a.app b) (x ++ y) := by
  induction a generalizing x with
  | nil => simp only [Dp] at h; subst h; exact k
  | pr s t _ ih =>
    obtain ⟨u, v, rfl, h1, h2⟩ := h
    exact ⟨u, v ++ y, by rw [List.append_assoc], h1, ih h2⟩
  | int _ => exact ⟨x, y, rfl, h, k⟩
  | bool => exact ⟨x, y, rfl, h, k⟩
  | str => exact ⟨x, y, rfl, h, k⟩
  | sl _ _ _ => exact ⟨x, y, rfl, h, k⟩
theorem Dp.len {s : Sh} {cs : List Value} (h : Dp W s cs) : cs.length = s.sz := by
  induction s generalizing cs with
  | nil => simp only [Dp] at h; subst h; rfl
  | pr a b iha ihb => obtain ⟨x, y, rfl, h1, h2⟩ := h; rw [List.length_append, iha h1, ihb h2]; rfl
  | int _ => obtain ⟨n, rfl, _⟩ := h; rfl
  | bool => obtain ⟨b, rfl⟩ := h; rfl
  | str => obtain ⟨s, rfl, _⟩ := h; rfl
  | sl _ _ _ => obtain ⟨A, n, c, rows, rfl, _⟩ := h; rfl
/-- the fields' shapes, one behind the other from cell o on -/
def shpFs (P : Program) (F : TypeId → Option Sh) : Nat → List Field → Option Sh
  | _, [] => some .nil
  | o, f :: r => if f.offset = o then (F f.type).bind fun l => if P.cellsOf f.type = l.sz then (shpFs P F (o + l.sz) r).bind fun l' => some (l.app l') else none else none
def shp (P : Program) : Nat → TypeId → Option Sh
  | 0, _ => none
  | n + 1, t => match P.underlying t with
    | some (.int k) => some (.int k)
    | some .bool => some .bool
    | some .string => some .str
    | some (.slice e) => (shp P n e).bind fun s => if P.cellsOf e = s.sz then some (.sl s s.sz (P.bytesOf e)) else none
    | some (.struct fs) => (shpFs P (shp P n) 0 fs.toList).bind fun l => if P.cellsOf t = l.sz then some l else none
    | some (.array m e) => (shp P n e).bind fun l => if P.cellsOf e = l.sz then if P.cellsOf t = m * l.sz then some (Sh.rep m l) else none else none
    | _ => none
theorem shpFs_ok {F : TypeId → Option Sh} {cs : List Value} (hF : ∀ t l ws, F t = some l → (∃ n x, DataW.trod enc P W base spare held n t ws = some x ∧ ∀ k ∈ x.1.weights P t, k ≤ reachBytes) → Dp W l ws) (fs : List Field) :
    ∀ (o : Nat) (l : Sh), shpFs P F o fs = some l → cs.length = o + l.sz → (∀ f ∈ fs, ∃ n x, DataW.trod enc P W base spare held n f.type ((cs.drop f.offset).take (P.cellsOf f.type)) = some x ∧ ∀ k ∈ x.1.weights P f.type, k ≤ reachBytes) → Dp W l (cs.drop o) := by
  induction fs with
  | nil =>
    intro o l h hl _
    simp only [shpFs, Option.some.injEq] at h
    subst h
    rw [List.drop_of_length_le (by simp [Sh.sz] at hl; omega)]
    rfl
  | cons f r ih =>
    intro o l h hl ht
    simp only [shpFs] at h
    split at h
    · rename_i ho
      subst ho
      cases h1 : F f.type with
      | none => rw [h1] at h; simp at h
      | some l1 =>
        rw [h1] at h
        simp only [Option.bind_some] at h
        split at h
        · rename_i hc
          cases h2 : shpFs P F (f.offset + l1.sz) r with
          | none => rw [h2] at h; simp at h
          | some l2 =>
            rw [h2] at h
            simp only [Option.bind_some, Option.some.injEq] at h
            subst h
            have a1 := hF _ _ _ h1 (ht f (by simp))
            have a2 := ih _ _ h2 (by rw [hl, Sh.app_sz]; omega) (fun g hg => ht g (by simp [hg]))
            have := a1.app a2
            rw [hc, ← List.drop_drop, List.take_append_drop] at this
            exact this
        · simp at h
    · simp at h
theorem shp_arr {l : Sh} (m : Nat) : ∀ (cs : List Value), cs.length = m * l.sz → (∀ i, i < m → Dp W l ((cs.drop (i * l.sz)).take l.sz)) → Dp W (Sh.rep m l) cs := by
  induction m with
  | zero =>
    intro cs h _
    have : cs = [] := List.eq_nil_of_length_eq_zero (by omega)
    subst this; rfl
  | succ m ih =>
    intro cs h ha
    have h0 := ha 0 (by omega)
    rw [Nat.zero_mul, List.drop_zero] at h0
    have h1 := ih (cs.drop l.sz) (by rw [List.length_drop, h, Nat.succ_mul]; omega) (fun i hi => by
      have := ha (i + 1) (by omega)
      rw [List.drop_drop]
      have e : l.sz + i * l.sz = (i + 1) * l.sz := by rw [Nat.succ_mul]; omega
      rw [e]; exact this)
    have := h0.app h1
    rwa [List.take_append_drop] at this
theorem weights_all {e : TypeId} : ∀ {ds : List (DataW H)} {d : DataW H}, d ∈ ds → ∀ k ∈ d.weights P e, k ∈ DataW.weightsAll P e ds
  | d0 :: r, d, h, k, hk => by
    simp only [DataW.weightsAll, List.mem_append]
    rcases List.mem_cons.1 h with rfl | h
    · exact .inl hk
    · exact .inr (weights_all h k hk)
theorem shp_ok (n : Nat) : ∀ (t : TypeId) (l : Sh) (cs : List Value), shp P n t = some l → (∃ m x, DataW.trod enc P W base spare held m t cs = some x ∧ ∀ k ∈ x.1.weights P t, k ≤ reachBytes) → Dp W l cs := by
  induction n with
  | zero => intro t l cs h; simp [shp] at h
  | succ n ih =>
    intro t l cs h ⟨m, x, hx, hw⟩
    simp only [shp] at h
    split at h
    · rename_i k hk
      simp only [Option.some.injEq] at h; subst h
      obtain ⟨z, rfl, _, hz⟩ := DataW.trod_int hk hx
      exact ⟨z, rfl, hz⟩
    · rename_i hk
      simp only [Option.some.injEq] at h; subst h
      obtain ⟨z, rfl, _⟩ := DataW.trod_bool hk hx
      exact ⟨z, rfl⟩
    · rename_i hk
      simp only [Option.some.injEq] at h; subst h
      obtain ⟨z, rfl, _, hz⟩ := DataW.trod_string hk hx
      exact ⟨z, rfl, hz⟩
    · rename_i e hk
      cases h1 : shp P n e with
      | none => rw [h1] at h; simp at h
      | some s =>
        rw [h1] at h
        simp only [Option.bind_some] at h
        split at h
        · rename_i hc
          simp only [Option.some.injEq] at h; subst h
          rcases DataW.trod_slice hk hx with ⟨rfl, _⟩ | ⟨a, len, cap, elems, rest, m', _, rfl, rfl, _, hl, hm, hel, hget, _⟩
          · exact ⟨none, 0, 0, [], rfl, rfl, by omega, Nat.le_refl _, by omega, Rd.nil, by simp⟩
          · have each : ∀ i, i < len → ∃ row, W.cells? base (a.add (i * P.cellsOf e)) (P.cellsOf e) = some row ∧ Dp W s row := fun i hi => by
              have h1' := hget i hi
              rw [List.getElem?_eq_getElem (by omega)] at h1'
              cases h2 : W.cells? base (a.add (i * P.cellsOf e)) (P.cellsOf e) with
              | none => rw [h2] at h1'; simp at h1'
              | some row =>
                rw [h2] at h1'
                have h3 : DataW.trod enc P W base spare held m' e row = some (elems[i]'(by omega)) := by simpa using h1'
                refine ⟨row, rfl, ih e s row h1 ⟨m', _, h3, fun k hk' => hw k ?_⟩⟩
                simp only [DataW.weights, hk, List.mem_cons, List.mem_append]
                exact .inr (.inl (weights_all (List.mem_map.2 ⟨_, List.getElem_mem _, rfl⟩) k hk'))
            refine ⟨some a, len, cap, (List.range len).map fun i => (W.cells? base (a.add (i * P.cellsOf e)) (P.cellsOf e)).getD [], rfl, by simp, ?_, hl, by unfold maxLen at hm; exact hm, ?_, ?_⟩
            · have h4 := hw ((elems.length + rest.length) * P.bytesOf e) (by simp [DataW.weights, hk])
              have h5 : len * P.bytesOf e ≤ (elems.length + rest.length) * P.bytesOf e := Nat.mul_le_mul_right _ (by omega)
              unfold reachBytes at h4
              omega
            · have hrow : ∀ r ∈ (List.range len).map fun i => (W.cells? base (a.add (i * P.cellsOf e)) (P.cellsOf e)).getD [], r.length = s.sz := fun r hr => by
                obtain ⟨i, hi, rfl⟩ := List.mem_map.1 hr
                obtain ⟨row, h1, h2⟩ := each i (by simpa using hi)
                rw [h1]; exact h2.len
              have hcell : ∀ j u, ((List.range len).map fun i => (W.cells? base (a.add (i * P.cellsOf e)) (P.cellsOf e)).getD []).flatten[j]? = some u → W.cell? (a.add j) = some u := fun j u hu => by
                obtain ⟨k, i, hk, hi, rfl, hku⟩ := flatten_get _ hrow j u hu
                have hk' : k < len := by simpa using hk
                obtain ⟨row, h1, h2⟩ := each k hk'
                simp only [List.getElem_map, List.getElem_range, h1, Option.getD_some] at hku
                have := (cells?_get h1).2 i (by omega)
                rw [add_add, hc] at this
                rw [this]; exact hku
              intro hn
              have h0 := hcell 0 _ (List.getElem?_eq_getElem hn)
              have hb : a.block < W.heap.size := by have := cell_lt h0; rwa [block_add] at this
              exact Rd.of_add hb hcell hn
            · intro r hr
              obtain ⟨i, hi, rfl⟩ := List.mem_map.1 hr
              obtain ⟨row, h1, h2⟩ := each i (by simpa using hi)
              rw [h1]; exact ⟨h2.len, h2⟩
        · simp at h
    · rename_i fs hk
      cases h1 : shpFs P (shp P n) 0 fs.toList with
      | none => rw [h1] at h; simp at h
      | some l' =>
        rw [h1] at h
        simp only [Option.bind_some] at h
        split at h
        · rename_i hc
          simp only [Option.some.injEq] at h; subst h
          obtain ⟨xs, n', _, rfl, hl, hlen, hf⟩ := DataW.trod_struct hk hx
          have := shpFs_ok (F := shp P n) (cs := cs) (fun t l ws h1 h2 => ih t l ws h1 h2) fs.toList 0 l' h1 (by omega) (fun f hfm => by
            obtain ⟨i, hi, rfl⟩ := List.getElem_of_mem hfm
            have hi' : i < fs.size := by simpa using hi
            have h2 := hf i fs[i] (Array.getElem?_eq_getElem hi')
            rw [List.getElem?_eq_getElem (by omega)] at h2
            refine ⟨n', _, by simpa using h2, fun k hk' => hw k ?_⟩
            simp only [DataW.weights, hk]
            exact DataW.weights_mem_each (j := i) (by simp [hi']) (by rw [List.getElem?_map, List.getElem?_eq_getElem (by omega)]; rfl) k hk')
          simpa using this
        · simp at h
    · rename_i m' e hk
      cases h1 : shp P n e with
      | none => rw [h1] at h; simp at h
      | some l' =>
        rw [h1] at h
        simp only [Option.bind_some] at h
        split at h
        · rename_i hc
          split at h
          · rename_i hc2
            simp only [Option.some.injEq] at h; subst h
            obtain ⟨xs, n', _, rfl, hl, hlen, hf⟩ := DataW.trod_array hk hx
            refine shp_arr m' cs (by omega) fun i hi => ?_
            have h2 := hf i hi
            rw [List.getElem?_eq_getElem (by omega), hc] at h2
            refine ih e l' _ h1 ⟨n', _, h2, fun k hk' => hw k ?_⟩
            simp only [DataW.weights, hk]
            exact weights_all (List.mem_map.2 ⟨_, List.getElem_mem _, rfl⟩) k hk'
          · simp at h
        · simp at h
    · simp at h
/-- an argument: one cell, or a struct's or an array's cells -/
theorem opn {T : TypeId} {v : Value} {d : DataW H} {p : List MemPlace} {l : Sh} (n : Nat) (hl : shp P n T = some l) (hw : ∀ k ∈ d.weights P T, k ≤ reachBytes) (h : DataW.Trod enc P W base spare held T v d p) : Dp W l v.cells.toList := by
  obtain ⟨fuel, hf⟩ := h
  exact shp_ok n T l _ hl ⟨fuel, _, hf, hw⟩
theorem opn_agg {T : TypeId} {v : Value} {d : DataW H} {p : List MemPlace} {l : Sh} {r : Reach} (n : Nat) (hs : (∃ fs, P.underlying T = some (.struct fs)) ∨ (∃ m e, P.underlying T = some (.array m e))) (hl : shp P n T = some l) (hw : ∀ k ∈ d.weights P T, k ≤ reachBytes) (hval : Value.okWide P W r b0 T v) (h : DataW.Trod enc P W base spare held T v d p) : ∃ vs : List Value, v = .agg vs.toArray ∧ Dp W l vs := by
  have h1 := opn n hl hw h
  rcases hs with ⟨fs, hs⟩ | ⟨m, e, hs⟩
  · obtain ⟨cs, rfl, _⟩ := okWide_struct hs hval
    exact ⟨cs.toList, by simp, h1⟩
  · simp only [Value.okWide, hs] at hval
    obtain ⟨cs, rfl, _⟩ := hval
    exact ⟨cs.toList, by simp, h1⟩
theorem opn_sl {T E : TypeId} {v : Value} {d : DataW H} {p : List MemPlace} {l : Sh} {r : Reach} (n : Nat) (hT : P.underlying T = some (.slice E)) (hl : shp P n T = some l) (hw : ∀ k ∈ d.weights P T, k ≤ reachBytes) (hval : Value.okWide P W r b0 T v) (h : DataW.Trod enc P W base spare held T v d p) : ∃ A m c, v = .slice A m c ∧ Dp W l [.slice A m c] := by
  have h1 := opn n hl hw h
  obtain ⟨A, m, c, rfl⟩ := okWide_slice hT hval
  exact ⟨A, m, c, rfl, h1⟩
end
end Go.Proofs.YtlapnhpaedkgcaaDoor
