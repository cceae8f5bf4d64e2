/- Addresses, loads, literals, lengths: what each gives. -/
import Derived.Test.YtlapnhpaedkgcaaDoorEng2
import Derived.Laws.CopyRow
namespace Go.Proofs.YtlapnhpaedkgcaaDoor
open Go.RowKit

/-- the n cells of cs from cell k on are vs -/
inductive Cut : List Value → Nat → Nat → List Value → Prop
  | nil (cs : List Value) : Cut cs 0 0 []
  | cons {cs vs : List Value} {n : Nat} (c : Value) (h : Cut cs 0 n vs) : Cut (c :: cs) 0 (n + 1) (c :: vs)
  | skip {cs vs : List Value} {k n : Nat} (c : Value) (h : Cut cs k n vs) : Cut (c :: cs) (k + 1) n vs
theorem Cut.len {cs vs : List Value} {k n : Nat} (h : Cut cs k n vs) : vs.length = n := by
  induction h <;> simp_all
theorem Cut.get {cs vs : List Value} {k n : Nat} (h : Cut cs k n vs) : ∀ j u, vs[j]? = some u → cs[k + j]? = some u := by
  induction h with
  | nil => intro j u hu; simp at hu
  | cons c h ih =>
    intro j u hu
    cases j with
    | zero => simpa using hu
    | succ j => have := ih j u (by simpa using hu); simpa [Nat.zero_add] using this
  | skip c h ih => intro j u hu; have := ih j u hu; rw [Nat.add_right_comm]; simpa using this
/-- cs with vs laid over it from cell k on is ds -/
inductive Put : List Value → Nat → List Value → List Value → Prop
  | nil (cs : List Value) : Put cs 0 [] cs
  | cons {cs vs ds : List Value} (c v : Value) (h : Put cs 0 vs ds) : Put (c :: cs) 0 (v :: vs) (v :: ds)
  | skip {cs vs ds : List Value} {k : Nat} (c : Value) (h : Put cs k vs ds) : Put (c :: cs) (k + 1) vs (c :: ds)
theorem Put.eq {cs vs ds : List Value} {k : Nat} (h : Put cs k vs ds) : k + vs.length ≤ cs.length ∧ ds = cs.take k ++ vs ++ cs.drop (k + vs.length) := by
  induction h with
  | nil => simp
  | cons c v h ih => obtain ⟨h1, h2⟩ := ih; subst h2; simp at h1 ⊢; omega
  | skip c h ih =>
    obtain ⟨h1, h2⟩ := ih
    refine ⟨by simp; omega, ?_⟩
    subst h2
    rw [Nat.add_right_comm]
    simp
/-- the cells of a value -/
inductive VC : Value → List Value → Prop
  | agg (l : List Value) : VC (.agg l.toArray) l
  | bool (b : Bool) : VC (.bool b) [.bool b]
  | int (k : IntKind) (n : Int) : VC (.int k n) [.int k n]
  | string (s : ByteArray) : VC (.string s) [.string s]
  | pointer (p : Option Addr) : VC (.pointer p) [.pointer p]
  | slice (p : Option Addr) (n c : Nat) : VC (.slice p n c) [.slice p n c]
  | func (f : Fn) (x y : Array Value) : VC (.func f x y) [.func f x y]
  | nilFunc : VC .nilFunc [.nilFunc]
  | map (p : Option Nat) : VC (.map p) [.map p]
  | nilIface : VC .nilIface [.nilIface]
theorem VC.eq {v : Value} {l : List Value} (h : VC v l) : v.cells = l.toArray := by
  cases h <;> rfl
theorem fill_put (cs vs : List Value) (k : Nat) (hl : k + vs.length ≤ cs.length) : (vs.toArray.zipIdx.foldl (fun (c : Array Value) (p : Value × Nat) => c.setIfInBounds (k + p.2) p.1) cs.toArray) = (cs.take k ++ vs ++ cs.drop (k + vs.length)).toArray := by
  suffices H : ∀ (vs : List Value) (m : Nat) (cs : List Value), k + m + vs.length ≤ cs.length → (vs.zipIdx m).foldl (fun (c : Array Value) (p : Value × Nat) => c.setIfInBounds (k + p.2) p.1) cs.toArray = (cs.take (k + m) ++ vs ++ cs.drop (k + m + vs.length)).toArray by
    have := H vs 0 cs (by simpa using hl)
    rw [← Array.foldl_toList]
    simpa using this
  intro vs
  induction vs with
  | nil => intro m cs h; simp
  | cons v r ih =>
    intro m cs h
    simp only [List.zipIdx_cons, List.foldl_cons, List.setIfInBounds_toArray]
    rw [ih (m + 1) (cs.set (k + m) v) (by simp only [List.length_set, List.length_cons] at *; omega)]
    congr 1
    have hk : k + m < cs.length := by simp at h; omega
    rw [List.take_set, List.drop_set_of_lt (by omega), ← Nat.add_assoc, List.take_succ_eq_append_getElem hk, List.set_append_right _ _ (by simp; omega)]
    simp [Nat.min_eq_left (Nat.le_of_lt hk)]
    congr 1
    omega
theorem fill_one {place : Nat → Option (Nat × Nat)} {cs vs ds : List Value} {rest : List (Nat × Value)} {i off : Nat} {v : Value} (hp : place i = some (off, vs.length)) (hv : VC v vs) (h : Put cs off vs ds) : Instr.fill place cs.toArray ((i, v) :: rest) = Instr.fill place ds.toArray rest := by
  obtain ⟨h1, h2⟩ := h.eq
  rw [Instr.fill]
  simp only [hp, hv.eq]
  rw [if_neg (by simp; omega), fill_put cs vs off h1, ← h2]
/-- a literal's parts, one laid over the other -/
inductive Fill (T : List (Nat × TI)) (fs : List (Nat × TypeId)) : List (Nat × Value) → List Value → List Value → Prop
  | nil (cs : List Value) : Fill T fs [] cs cs
  | cons {rest : List (Nat × Value)} {i off : Nat} {t : TypeId} {x : TI} {v : Value} {vs cs ds es : List Value} (hf : fs[i]? = some (off, t)) (ht : tlk T t = some x) (hv : VC v vs) (hl : vs.length = x.sz) (hp : Put cs off vs ds) (h : Fill T fs rest ds es) : Fill T fs ((i, v) :: rest) cs es
/-- the same for arrays and slices, whose elements have s cells -/
inductive FillA (s : Nat) : List (Nat × Value) → List Value → List Value → Prop
  | nil (cs : List Value) : FillA s [] cs cs
  | cons {rest : List (Nat × Value)} {i : Nat} {v : Value} {vs cs ds es : List Value} (hv : VC v vs) (hl : vs.length = s) (hp : Put cs (i * s) vs ds) (h : FillA s rest ds es) : FillA s ((i, v) :: rest) cs es
theorem FillA.fill {s : Nat} {ps : List (Nat × Value)} {cs ds : List Value} (h : FillA s ps cs ds) : Instr.fill (fun i => some (i * s, s)) cs.toArray ps = some ds.toArray := by
  induction h with
  | nil => rfl
  | cons hv hl hp _ ih => rw [fill_one (by rw [hl]) hv hp]; exact ih
def evp (L : List (Nat × Value)) : List (Nat × Operand) → Option (List (Nat × Value))
  | [] => some []
  | (i, x) :: r => match ev L x with
    | some v => match evp L r with
      | some vs => some ((i, v) :: vs)
      | none => none
    | none => none
theorem Sl.evp {N : Nat} {L : List (Nat × Value)} {a : Act} (h : Sl N L a) : ∀ {xs : List (Nat × Operand)} {vs : List (Nat × Value)}, evp L xs = some vs → xs.map (fun (i, x) => (i, a.eval x)) = vs
  | [], vs, he => by simpa [Go.Proofs.YtlapnhpaedkgcaaDoor.evp] using he
  | (i, x) :: r, vs, he => by
    simp only [Go.Proofs.YtlapnhpaedkgcaaDoor.evp] at he
    cases hx : Go.Proofs.YtlapnhpaedkgcaaDoor.ev L x with
    | none => rw [hx] at he; cases he
    | some v =>
      rw [hx] at he
      cases hr : Go.Proofs.YtlapnhpaedkgcaaDoor.evp L r with
      | none => rw [hr] at he; cases he
      | some us =>
        rw [hr] at he
        simp only [Option.some.injEq] at he
        subst he
        simp [h.ev hx, Sl.evp h hr]

section
variable {P : Program} {T : List (Nat × TI)} {N : Nat} {L : List (Nat × Value)} {a : Act} {w w0 : World} {S : Nat → Prop} {M : List Hp} {o : Oper} {x y z : Operand} {v u : Value}

theorem run_fieldPlace {i : TI} {f : Field} {A : Addr} (hT : TOk P f.type i) (hz : i.sz ≠ 0) : Sem.run P (fieldPlace A f) w = .ok (A.add f.offset) w := by
  unfold fieldPlace
  simp [run_sizeOf hT, hz]
theorem r_fieldAddr {t ft : TypeId} {f g n off : Nat} {i j : TI} {fs : List (Nat × TypeId)} (hs : Sl N L a) (ho : o.op = .fieldAddr t x f) (hx : ev L x = some (.pointer (some ⟨g, n, none⟩))) (hT : TabOk P T) (hc : tlk T t = some i) (hd : i.d = .st fs) (hf : fs[f]? = some (off, ft)) (hft : tlk T ft = some j) (hj : Nat.beq j.sz 0 = false) : RunV P a o w (.pointer (some ⟨g, n + off, none⟩)) := by
  replace hx := hs.ev hx
  unfold RunV
  generalize a.eval = ρ at *
  obtain ⟨gs, h1, h2⟩ := (hT _ _ hc).st hd
  subst h2
  rw [List.getElem?_map] at hf
  cases hg : gs.toList[f]? with
  | none => rw [hg] at hf; cases hf
  | some fl =>
    rw [hg] at hf
    simp only [Option.map_some, Option.some.injEq, Prod.mk.injEq] at hf
    obtain ⟨rfl, rfl⟩ := hf
    have hg' : gs[f]? = some fl := by simpa using hg
    have hz : j.sz ≠ 0 := fun e => by rw [e] at hj; cases hj
    unfold execOp
    simp [ho, hx, Instr.fieldAt, run_und h1, hg', Instr.sureAddr, run_fieldPlace (hT _ _ hft) hz, Addr.add_lit]
/-- how many cells a type has -/
def tsz : List (Nat × TI) → Nat → Option Nat
  | [], _ => none
  | (k, ⟨s, _, _, _⟩) :: r, n => bif Nat.beq k n then some s else tsz r n
theorem tsz_ok : ∀ {T : List (Nat × TI)} {n s : Nat}, tsz T n = some s → ∃ j, tlk T n = some j ∧ j.sz = s
  | [], _, _, h => by cases h
  | (k, ⟨s', _, _, _⟩) :: r, n, s, h => by
    simp only [tsz] at h
    simp only [tlk]
    cases hb : Nat.beq k n with
    | true => rw [hb] at h; simp only [cond_true, Option.some.injEq] at h; exact ⟨_, rfl, h⟩
    | false => rw [hb] at h; exact tsz_ok h
theorem run_indexAt {t e : TypeId} {i j : TI} {g off len cap : Nat} {k : Nat} {kk : IntKind} (hT : TabOk P T) (hc : tlk T t = some i) (hd : i.d = .sl e) (he : tlk T e = some j) (hk : k < len) : Sem.run P (Instr.indexAt t (.slice (some ⟨g, off, none⟩) len cap) (.int kk (k : Int))) w = .ok (.pointer (some ⟨g, off + k * j.sz, none⟩)) w := by
  unfold Instr.indexAt
  simp [run_und ((hT _ _ hc).sl hd), asIntOf, run_sizeOf (hT _ _ he), hk, Addr.add_lit]
theorem run_indexAtA {t e : TypeId} {i j : TI} {g off len : Nat} {k : Nat} {kk : IntKind} (hT : TabOk P T) (hc : tlk T t = some i) (hd : i.d = .arr len e) (he : tlk T e = some j) (hk : k < len) : Sem.run P (Instr.indexAt t (.pointer (some ⟨g, off, none⟩)) (.int kk (k : Int))) w = .ok (.pointer (some ⟨g, off + k * j.sz, none⟩)) w := by
  unfold Instr.indexAt
  simp [run_und ((hT _ _ hc).arr hd), asIntOf, run_sizeOf (hT _ _ he), hk, Addr.add_lit, Instr.sureAddr]
end

/-! ### the same, computed -/
def vcF : Value → Option (List Value)
  | .agg cs => some cs.toList
  | .bool b => some [.bool b]
  | .int k n => some [.int k n]
  | .string s => some [.string s]
  | .pointer p => some [.pointer p]
  | .slice p n c => some [.slice p n c]
  | .func f x y => some [.func f x y]
  | .nilFunc => some [.nilFunc]
  | .map p => some [.map p]
  | .nilIface => some [.nilIface]
  | _ => none
theorem vcF_ok {v : Value} {l : List Value} (h : vcF v = some l) : VC v l := by
  cases v <;> simp only [vcF, Option.some.injEq, reduceCtorEq] at h <;> subst h
  case agg cs => exact (show VC (.agg cs.toList.toArray) cs.toList from .agg _)
  all_goals constructor
def cutF : List Value → Nat → Nat → Option (List Value)
  | _, 0, 0 => some []
  | c :: cs, 0, n + 1 => match cutF cs 0 n with
    | some vs => some (c :: vs)
    | none => none
  | _ :: cs, k + 1, n => cutF cs k n
  | _, _, _ => none
theorem cutF_ok : ∀ {cs : List Value} {k n : Nat} {vs : List Value}, cutF cs k n = some vs → Cut cs k n vs
  | cs, 0, 0, vs, h => by simp [cutF] at h; subst h; exact .nil _
  | [], 0, n + 1, vs, h => by simp [cutF] at h
  | c :: cs, 0, n + 1, vs, h => by
    simp only [cutF] at h
    cases hc : cutF cs 0 n with
    | none => rw [hc] at h; cases h
    | some us => rw [hc] at h; simp only [Option.some.injEq] at h; subst h; exact .cons c (cutF_ok hc)
  | [], k + 1, n, vs, h => by simp [cutF] at h
  | c :: cs, k + 1, n, vs, h => by simp only [cutF] at h; exact .skip c (cutF_ok h)
def putF : List Value → Nat → List Value → Option (List Value)
  | cs, 0, [] => some cs
  | _ :: cs, 0, v :: vs => match putF cs 0 vs with
    | some ds => some (v :: ds)
    | none => none
  | c :: cs, k + 1, vs => match putF cs k vs with
    | some ds => some (c :: ds)
    | none => none
  | _, _, _ => none
theorem putF_ok : ∀ {cs : List Value} {k : Nat} {vs ds : List Value}, putF cs k vs = some ds → Put cs k vs ds
  | cs, 0, [], ds, h => by simp [putF] at h; subst h; exact .nil _
  | [], 0, v :: vs, ds, h => by simp [putF] at h
  | c :: cs, 0, v :: vs, ds, h => by
    simp only [putF] at h
    cases hc : putF cs 0 vs with
    | none => rw [hc] at h; cases h
    | some us => rw [hc] at h; simp only [Option.some.injEq] at h; subst h; exact .cons c v (putF_ok hc)
  | [], k + 1, vs, ds, h => by cases vs <;> simp [putF] at h
  | c :: cs, k + 1, vs, ds, h => by
    simp only [putF] at h
    cases hc : putF cs k vs with
    | none => rw [hc] at h; cases h
    | some us => rw [hc] at h; simp only [Option.some.injEq] at h; subst h; exact .skip c (putF_ok hc)
def fillF (T : List (Nat × TI)) (fs : List (Nat × TypeId)) : List (Nat × Value) → List Value → Option (List Value)
  | [], cs => some cs
  | (i, v) :: r, cs => match fs[i]? with
    | some (off, t) => match tlk T t with
      | some x => match vcF v with
        | some vs => bif Nat.beq vs.length x.sz then (match putF cs off vs with
          | some ds => fillF T fs r ds
          | none => none) else none
        | none => none
      | none => none
    | none => none
theorem fillF_ok {T : List (Nat × TI)} {fs : List (Nat × TypeId)} : ∀ {ps : List (Nat × Value)} {cs ds : List Value}, fillF T fs ps cs = some ds → Fill T fs ps cs ds
  | [], cs, ds, h => by simp [fillF] at h; subst h; exact .nil _
  | (i, v) :: r, cs, ds, h => by
    simp only [fillF] at h
    cases h1 : fs[i]? with
    | none => rw [h1] at h; cases h
    | some p =>
      obtain ⟨off, t⟩ := p
      rw [h1] at h
      cases h2 : tlk T t with
      | none => simp only [h2] at h; cases h
      | some x =>
        simp only [h2] at h
        cases h3 : vcF v with
        | none => simp only [h3] at h; cases h
        | some vs =>
          simp only [h3] at h
          cases h4 : Nat.beq vs.length x.sz with
          | false => rw [h4] at h; cases h
          | true =>
            rw [h4] at h
            simp only [cond_true] at h
            cases h5 : putF cs off vs with
            | none => rw [h5] at h; cases h
            | some es => rw [h5] at h; exact .cons h1 h2 (vcF_ok h3) (Nat.eq_of_beq_eq_true h4) (putF_ok h5) (fillF_ok h)
def fillAF (s : Nat) : List (Nat × Value) → List Value → Option (List Value)
  | [], cs => some cs
  | (i, v) :: r, cs => match vcF v with
    | some vs => bif Nat.beq vs.length s then (match putF cs (i * s) vs with
      | some ds => fillAF s r ds
      | none => none) else none
    | none => none
theorem fillAF_ok {s : Nat} : ∀ {ps : List (Nat × Value)} {cs ds : List Value}, fillAF s ps cs = some ds → FillA s ps cs ds
  | [], cs, ds, h => by simp [fillAF] at h; subst h; exact .nil _
  | (i, v) :: r, cs, ds, h => by
    simp only [fillAF] at h
    cases h3 : vcF v with
    | none => simp only [h3] at h; cases h
    | some vs =>
      simp only [h3] at h
      cases h4 : Nat.beq vs.length s with
      | false => rw [h4] at h; cases h
      | true =>
        rw [h4] at h
        simp only [cond_true] at h
        cases h5 : putF cs (i * s) vs with
        | none => rw [h5] at h; cases h
        | some es => rw [h5] at h; exact .cons (vcF_ok h3) (Nat.eq_of_beq_eq_true h4) (putF_ok h5) (fillAF_ok h)
end Go.Proofs.YtlapnhpaedkgcaaDoor
