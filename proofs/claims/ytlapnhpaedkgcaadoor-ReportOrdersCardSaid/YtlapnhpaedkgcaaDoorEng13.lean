/- One lemma for each kind of step: what an operation gives, computed; the same for both kinds of regions. -/
import Derived.Test.YtlapnhpaedkgcaaDoorEng11
namespace Go.Proofs.YtlapnhpaedkgcaaDoor
open Go.RowKit

section
variable (T : List (Nat × TI)) (L : List (Nat × Value))
def pkF (c y z : Operand) : Option Value := match ev L c with
  | some (.bool b) => bif b then ev L y else ev L z
  | _ => none
def faF (t : TypeId) (x : Operand) (f : Nat) : Option Value := match ev L x with
  | some (.pointer (some ⟨g, n, none⟩)) => match tlk T t with
    | some ⟨_, _, _, .st fs⟩ => match fs[f]? with
      | some (off, ft) => match tlk T ft with
        | some ⟨s, _, _, _⟩ => bif Nat.beq s 0 then none else some (.pointer (some ⟨g, n + off, none⟩))
        | none => none
      | none => none
    | _ => none
  | _ => none
def fdF (t : TypeId) (x : Operand) (f : Nat) : Option Value := match ev L x with
  | some (.agg cs) => match tlk T t with
    | some ⟨_, _, _, .st fs⟩ => match fs[f]? with
      | some (off, ft) => match tlk T ft with
        | some ⟨_, _, _, d⟩ => bif d.flat then cs.toList[off]? else none
        | none => none
      | none => none
    | _ => none
  | _ => none
def lnF (c : Call) : Option Value := match c.callee with
  | .builtin .len => match c.args.toList with
    | [x] => match c.argTypes.toList with
      | t :: _ => match tlk T t with
        | some ⟨_, _, _, .sl _⟩ => match ev L x with
          | some (.slice _ n _) => some (.int .i64 (n : Int))
          | _ => none
        | some ⟨_, _, _, .str⟩ => match ev L x with
          | some (.string s) => some (.int .i64 (s.size : Int))
          | _ => none
        | _ => none
      | _ => none
    | _ => none
  | _ => none
def cvF (s t : TypeId) (x : Operand) : Option Value := match ev L x with
  | some (.int _ n) => match tlk T s with
    | some _ => match tlk T t with
      | some ⟨_, _, _, .int k⟩ => some (.int k (k.wrap n))
      | _ => none
    | none => none
  | _ => none
def bdF (t : TypeId) (ps : Array (Nat × Operand)) : Option Value := match tlk T t with
  | some ⟨_, _, z, .st fs⟩ => bif fs.all (fun p => (tlk T p.2).isSome) then match evp L ps.toList with
    | some vs => match vcF z with
      | some zs => match fillF T fs vs zs with
        | some cs => some (.agg cs.toArray)
        | none => none
      | none => none
    | none => none else none
  | some ⟨_, _, z, .arr _ e⟩ => match tlk T e with
    | some ⟨s, _, _, _⟩ => match evp L ps.toList with
      | some vs => match vcF z with
        | some zs => match fillAF s vs zs with
          | some cs => some (.agg cs.toArray)
          | none => none
        | none => none
      | none => none
    | none => none
  | _ => none
def nkF (x : Operand) : Option Value := match ev L x with
  | some (.pointer (some p)) => some (.pointer (some p))
  | some (.func (.func n) p q) => some (.func (.func n) p q)
  | _ => none
def exF (x : Operand) (k : Nat) : Option Value := match ev L x with
  | some (.tuple vs) => vs.toList[k]?
  | _ => none
def mfF (f : Fn) (x y : Array Operand) : Option Value := match evs L x.toList with
  | some vs => match evs L y.toList with
    | some us => some (.func f vs.toArray us.toArray)
    | none => none
  | none => none
def eqF (b : Bool) (t : TypeId) (x y : Operand) : Option Value := match ev L x with
  | some (.bool p) => match ev L y with
    | some (.bool q) => match tlk T t with
      | some ⟨_, _, _, .bool⟩ => bif b then some (.bool (p == q)) else some (.bool (!(p == q)))
      | _ => none
    | _ => none
  | some (.string s) => match ev L y with
    | some (.string u) => bif b then some (.bool (s.toList == u.toList)) else some (.bool (!(s.toList == u.toList)))
    | _ => none
  | some (.slice A _ _) => match ev L y with
    | some (.slice none 0 0) => match tlk T t with
      | some ⟨_, _, _, .sl _⟩ => bif b then some (.bool A.isNone) else some (.bool (!A.isNone))
      | _ => none
    | _ => none
  | _ => none
def valF : Op → Option Value
  | .move x => ev L x
  | .assign x => ev L x
  | .pick c y z => pkF L c y z
  | .fieldAddr t x f => faF T L t x f
  | .field t x f => fdF T L t x f
  | .call c => lnF T L c
  | .convert s t x => cvF T L s t x
  | .build t ps => bdF T L t ps
  | .nilCheck x => nkF L x
  | .extract x k => exF L x k
  | .makeFunc f x y => mfF L f x y
  | .unOp .not _ x => match ev L x with
    | some (.bool b) => some (.bool (!b))
    | _ => none
  | .binOp .eql t x y _ => eqF T L true t x y
  | .binOp .neq t x y _ => eqF T L false t x y
  | _ => none
end
section
variable {P : Program} {T : List (Nat × TI)} {N : Nat} {L : List (Nat × Value)} {a : Act} {w w0 : World} {S : Nat → Prop} {M : List Hp} {o : Oper} {x y z : Operand} {v u : Value}
theorem pk_ok (hs : Sl N L a) (ho : o.op = .pick x y z) (h : pkF L x y z = some v) : RunV P a o w v := by
  unfold pkF at h
  split at h
  · rename_i b hb
    cases b
    · exact r_pickF hs ho hb h
    · exact r_pickT hs ho hb h
  · cases h
theorem fa_ok {t : TypeId} {f : Nat} (hs : Sl N L a) (hT : TabOk P T) (ho : o.op = .fieldAddr t x f) (h : faF T L t x f = some v) : RunV P a o w v := by
  unfold faF at h
  split at h
  · rename_i g n hx
    split at h
    · rename_i fs ht
      split at h
      · rename_i off ft hf
        split at h
        · rename_i s _ _ _ hft
          cases hb : Nat.beq s 0 with
          | true => rw [hb] at h; cases h
          | false =>
            rw [hb] at h
            obtain rfl := Option.some.inj h
            exact r_fieldAddr hs ho hx hT ht rfl hf hft hb
        · cases h
      · cases h
    · cases h
  · cases h
theorem fd_ok {t : TypeId} {f : Nat} (hs : Sl N L a) (hT : TabOk P T) (ho : o.op = .field t x f) (h : fdF T L t x f = some v) : RunV P a o w v := by
  unfold fdF at h
  split at h
  · rename_i cs hx
    split at h
    · rename_i fs ht
      split at h
      · rename_i off ft hf
        split at h
        · rename_i s b z d hft
          cases hb : d.flat with
          | false => rw [hb] at h; cases h
          | true => rw [hb] at h; exact r_field (cs := cs.toList) hs ho (by rw [hx, Array.toArray_toList]) hT ht rfl hf hft hb h
        · cases h
      · cases h
    · cases h
  · cases h
theorem arr1 {α : Type} {a : Array α} {x : α} (h : a.toList = [x]) : a = #[x] := by cases a; simp_all
theorem ln_ok {c : Call} (hs : Sl N L a) (hT : TabOk P T) (ho : o.op = .call c) (h : lnF T L c = some v) : RunV P a o w v := by
  obtain ⟨ce, ar, ty⟩ := c
  unfold lnF at h
  dsimp only at h
  split at h
  · split at h
    · rename_i x hx
      split at h
      · rename_i t r ht
        have ht' : ty[0]? = some t := by cases ty; simp_all
        rw [arr1 hx] at ho
        split at h
        · rename_i e htl
          split at h
          · rename_i A n c hv
            obtain rfl := Option.some.inj h
            exact r_len hs ho hv ht' hT htl rfl
          · cases h
        · rename_i htl
          split at h
          · rename_i s hv
            obtain rfl := Option.some.inj h
            exact r_slen hs ho hv ht' hT htl rfl
          · cases h
        · cases h
      · cases h
    · cases h
  · cases h
theorem cv_ok {s t : TypeId} (hs : Sl N L a) (hT : TabOk P T) (ho : o.op = .convert s t x) (h : cvF T L s t x = some v) : RunV P a o w v := by
  unfold cvF at h
  split at h
  · rename_i k n hx
    split at h
    · rename_i i hi
      split at h
      · rename_i k' hk
        obtain rfl := Option.some.inj h
        exact r_conv hs ho hx hT hi hk rfl
      · cases h
    · cases h
  · cases h
theorem bd_ok {t : TypeId} {ps : Array (Nat × Operand)} (hs : Sl N L a) (hT : TabOk P T) (ho : o.op = .build t ps) (h : bdF T L t ps = some v) : RunV P a o w v := by
  have ho' : o.op = .build t ps.toList.toArray := by rw [ho, Array.toArray_toList]
  unfold bdF at h
  split at h
  · rename_i z fs ht
    cases hb : fs.all (fun p => (tlk T p.2).isSome) with
    | false => rw [hb] at h; cases h
    | true =>
      rw [hb, cond_true] at h
      split at h
      · rename_i vs hv
        split at h
        · rename_i zs hz
          split at h
          · rename_i cs hc
            obtain rfl := Option.some.inj h
            exact r_build hs ho' hT ht rfl hb hv hz hc
          · cases h
        · cases h
      · cases h
  · rename_i z n e ht
    split at h
    · rename_i s _ _ _ he
      split at h
      · rename_i vs hv
        split at h
        · rename_i zs hz
          split at h
          · rename_i cs hc
            obtain rfl := Option.some.inj h
            exact r_buildA hs ho' hT ht rfl he hv hz hc
          · cases h
        · cases h
      · cases h
    · cases h
  · cases h
theorem nk_ok (hs : Sl N L a) (ho : o.op = .nilCheck x) (h : nkF L x = some v) : RunV P a o w v := by
  unfold nkF at h
  split at h
  · rename_i p hx
    obtain rfl := Option.some.inj h
    exact r_nilCheck hs ho hx
  · rename_i n p q hx
    obtain rfl := Option.some.inj h
    exact r_nilCheckF hs ho hx rfl
  · cases h
theorem ex_ok {k : Nat} (hs : Sl N L a) (ho : o.op = .extract x k) (h : exF L x k = some v) : RunV P a o w v := by
  unfold exF at h
  split at h
  · rename_i vs hx
    exact r_extract (vs := vs.toList) hs ho (by rw [hx, Array.toArray_toList]) h
  · cases h
theorem mf_ok {f : Fn} {p q : Array Operand} (hs : Sl N L a) (ho : o.op = .makeFunc f p q) (h : mfF L f p q = some v) : RunV P a o w v := by
  unfold mfF at h
  split at h
  · rename_i vs hx
    split at h
    · rename_i us hy
      obtain rfl := Option.some.inj h
      exact r_makeFunc (xs := p.toList) (ys := q.toList) hs (by rw [ho, Array.toArray_toList, Array.toArray_toList]) hx hy
    · cases h
  · cases h
theorem eqT_ok {t yt : TypeId} (hs : Sl N L a) (hT : TabOk P T) (ho : o.op = .binOp .eql t x y yt) (h : eqF T L true t x y = some v) : RunV P a o w v := by
  unfold eqF at h
  split at h
  · rename_i p hx
    split at h
    · rename_i q hy
      split at h
      · rename_i ht
        obtain rfl := Option.some.inj h
        exact r_eqlB hs ho hx hy hT ht rfl
      · cases h
    · cases h
  · rename_i p hx
    split at h
    · rename_i q hy
      obtain rfl := Option.some.inj h
      exact r_seql hs ho hx hy
    · cases h
  · rename_i A n c hx
    split at h
    · rename_i hy
      split at h
      · rename_i e ht
        obtain rfl := Option.some.inj h
        exact r_eqnil hs ho hx hy hT ht rfl
      · cases h
    · cases h
  · cases h
theorem eqFf_ok {t yt : TypeId} (hs : Sl N L a) (hT : TabOk P T) (ho : o.op = .binOp .neq t x y yt) (h : eqF T L false t x y = some v) : RunV P a o w v := by
  unfold eqF at h
  split at h
  · rename_i p hx
    split at h
    · rename_i q hy
      split at h
      · rename_i ht
        obtain rfl := Option.some.inj h
        exact r_neqB hs ho hx hy hT ht rfl
      · cases h
    · cases h
  · rename_i p hx
    split at h
    · rename_i q hy
      obtain rfl := Option.some.inj h
      exact r_sneq hs ho hx hy
    · cases h
  · rename_i A n c hx
    split at h
    · rename_i hy
      split at h
      · rename_i e ht
        obtain rfl := Option.some.inj h
        exact r_neqnil hs ho hx hy hT ht rfl
      · cases h
    · cases h
  · cases h
/-- what an operation gives that needs no more than the slots -/
theorem r_val (hs : Sl N L a) (hT : TabOk P T) (h : valF T L o.op = some v) : RunV P a o w v := by
  cases ho : o.op <;> rw [ho] at h <;> simp only [valF] at h
  case move => exact r_move hs ho h
  case assign => exact r_assign hs ho h
  case pick => exact pk_ok hs ho h
  case fieldAddr => exact fa_ok hs hT ho h
  case field => exact fd_ok hs hT ho h
  case call => exact ln_ok hs hT ho h
  case convert => exact cv_ok hs hT ho h
  case build => exact bd_ok hs hT ho h
  case nilCheck => exact nk_ok hs ho h
  case extract => exact ex_ok hs ho h
  case makeFunc => exact mf_ok hs ho h
  case unOp b t x =>
    cases b <;> simp only at h
    case not =>
      split at h
      · rename_i b hb
        obtain rfl := Option.some.inj h
        exact r_not hs ho hb
      · cases h
    all_goals cases h
  case binOp b t x y yt =>
    cases b <;> simp only at h
    case eql => exact eqT_ok hs hT ho h
    case neq => exact eqFf_ok hs hT ho h
    all_goals cases h
  all_goals cases h
end

/-! ### comparisons and sums of numbers -/
def kEq : IntKind → IntKind → Bool
  | .i64, .i64 | .u8, .u8 | .u16, .u16 | .u32, .u32 | .u64, .u64 | .i32, .i32 | .i16, .i16 | .i8, .i8 => true
  | _, _ => false
theorem kEq_ok {k k' : IntKind} (h : kEq k k' = true) : k' = k := by
  cases k <;> cases k' <;> first | rfl | cases h
structure Cq where
  p : Prop
  d : Decidable p
def Cq.v (c : Cq) : Bool := @decide c.p c.d
def cqF (b : BinOp) (n m : Int) : Option Cq := match b with
  | .lss => some ⟨n < m, inferInstance⟩
  | .leq => some ⟨n ≤ m, inferInstance⟩
  | .gtr => some ⟨m < n, inferInstance⟩
  | .geq => some ⟨m ≤ n, inferInstance⟩
  | .eql => some ⟨n = m, inferInstance⟩
  | .neq => some ⟨¬ n = m, inferInstance⟩
  | _ => none
def cmpF (L : List (Nat × Value)) : Op → Option Cq
  | .binOp b _ x y _ => match ev L x with
    | some (.int k n) => match ev L y with
      | some (.int k' m) => bif kEq k k' then cqF b n m else none
      | _ => none
    | _ => none
  | _ => none
section
variable {P : Program} {T : List (Nat × TI)} {N : Nat} {L : List (Nat × Value)} {a : Act} {w w0 : World} {S : Nat → Prop} {M : List Hp} {o : Oper} {x y z : Operand} {v u : Value}
theorem cmp_one {b : BinOp} {t yt : TypeId} {k : IntKind} {n m : Int} {p : Prop} {d : Decidable p} (hs : Sl N L a) (ho : o.op = .binOp b t x y yt) (hx : ev L x = some (.int k n)) (hy : ev L y = some (.int k m))
    (h : cqF b n m = some ⟨p, d⟩) : RunV P a o w (.bool (@decide p d)) := by
  unfold cqF at h
  cases b <;> simp only [Option.some.injEq, Cq.mk.injEq, reduceCtorEq] at h
  case lss => obtain ⟨rfl, h⟩ := h; have := eq_of_heq h; subst this; exact r_lss hs ho hx hy
  case leq => obtain ⟨rfl, h⟩ := h; have := eq_of_heq h; subst this; exact r_leq hs ho hx hy
  case gtr => obtain ⟨rfl, h⟩ := h; have := eq_of_heq h; subst this; exact r_gtr hs ho hx hy
  case geq => obtain ⟨rfl, h⟩ := h; have := eq_of_heq h; subst this; exact r_geq hs ho hx hy
  case eql => obtain ⟨rfl, h⟩ := h; have := eq_of_heq h; subst this; exact r_eql hs ho hx hy
  case neq =>
    obtain ⟨rfl, h⟩ := h; have := eq_of_heq h; subst this
    have h1 := r_neq (P := P) (w := w) hs ho hx hy
    rw [show (!decide (n = m)) = decide (¬ n = m) by simp] at h1
    exact h1
theorem cmp_ok {p : Prop} {d : Decidable p} (hs : Sl N L a) (h : cmpF L o.op = some ⟨p, d⟩) : RunV P a o w (.bool (@decide p d)) := by
  cases ho : o.op <;> rw [ho] at h <;> simp only [cmpF] at h
  case binOp b t x y yt =>
    split at h
    · rename_i k n hx
      split at h
      · rename_i k' m hy
        cases hk : kEq k k' with
        | false => rw [hk] at h; cases h
        | true =>
          rw [hk] at h
          have hk' := kEq_ok hk
          subst hk'
          exact cmp_one hs ho hx hy h
      · cases h
    · cases h
  all_goals cases h
theorem r_cT {p : Prop} {d : Decidable p} (hs : Sl N L a) (h : cmpF L o.op = some ⟨p, d⟩) (hp : p) : RunV P a o w (.bool true) := by
  have h1 := cmp_ok (P := P) (w := w) hs h
  rwa [decide_eq_true hp] at h1
theorem r_cF {p : Prop} {d : Decidable p} (hs : Sl N L a) (h : cmpF L o.op = some ⟨p, d⟩) (hp : ¬ p) : RunV P a o w (.bool false) := by
  have h1 := cmp_ok (P := P) (w := w) hs h
  rwa [decide_eq_false hp] at h1
end
/-- a sum, a difference, a product of two ints, as it is if it fits -/
def arF (L : List (Nat × Value)) : Op → Option Int
  | .binOp b _ x y _ => match ev L x with
    | some (.int .i64 n) => match ev L y with
      | some (.int .i64 m) => match b with
        | .add => some (n + m)
        | .sub => some (n - m)
        | .mul => some (n * m)
        | _ => none
      | _ => none
    | _ => none
  | _ => none
def biF' (b : BinOp) (k : IntKind) (n m : Int) : Option Value := match b with
  | .lss => some (.bool (decide (n < m)))
  | .leq => some (.bool (decide (n ≤ m)))
  | .gtr => some (.bool (decide (m < n)))
  | .geq => some (.bool (decide (m ≤ n)))
  | .eql => some (.bool (decide (n = m)))
  | .neq => some (.bool (!decide (n = m)))
  | .add => some (.int k (k.wrap (n + m)))
  | .sub => some (.int k (k.wrap (n - m)))
  | .mul => some (.int k (k.wrap (n * m)))
  | .and => some (.int k (bits .and k n m))
  | .or => some (.int k (bits .or k n m))
  | .xor => some (.int k (bits .xor k n m))
  | _ => none
/-- the rest of what two numbers give -/
def biF (L : List (Nat × Value)) : Op → Option Value
  | .binOp b _ x y _ => match ev L x with
    | some (.int k n) => match ev L y with
      | some (.int k' m) => bif kEq k k' then biF' b k n m else none
      | _ => none
    | _ => none
  | _ => none
section
variable {P : Program} {T : List (Nat × TI)} {N : Nat} {L : List (Nat × Value)} {a : Act} {w w0 : World} {S : Nat → Prop} {M : List Hp} {o : Oper} {x y z : Operand} {v u : Value}
theorem r_ar {e : Int} (hs : Sl N L a) (h : arF L o.op = some e) (hb : -9223372036854775808 ≤ e ∧ e ≤ 9223372036854775807) : RunV P a o w (.int .i64 e) := by
  cases ho : o.op <;> rw [ho] at h <;> simp only [arF] at h
  case binOp b t x y yt =>
    split at h
    · rename_i n hx
      split at h
      · rename_i m hy
        cases b <;> simp only [Option.some.injEq, reduceCtorEq] at h
        case add => subst h; exact r_add64 hs ho hx hy hb
        case sub => subst h; exact r_sub64 hs ho hx hy hb
        case mul => subst h; exact r_mul64 hs ho hx hy hb
      · cases h
    · cases h
  all_goals cases h
theorem r_arH {e : Int} {m : Nat} (hs : Sl N L a) (h : arF L o.op = some e) (he : e = (m : Int)) (hb : (m : Int) ≤ 9223372036854775807) : RunV P a o w (.int .i64 (m : Int)) := by
  have := r_ar (P := P) (w := w) hs h (by omega)
  rwa [he] at this
theorem bi_one {b : BinOp} {t yt : TypeId} {k : IntKind} {n m : Int} (hs : Sl N L a) (ho : o.op = .binOp b t x y yt) (hx : ev L x = some (.int k n)) (hy : ev L y = some (.int k m))
    (h : biF' b k n m = some v) : RunV P a o w v := by
  unfold biF' at h
  cases b <;> simp only [Option.some.injEq, reduceCtorEq] at h
  case lss => subst h; exact r_lss hs ho hx hy
  case leq => subst h; exact r_leq hs ho hx hy
  case gtr => subst h; exact r_gtr hs ho hx hy
  case geq => subst h; exact r_geq hs ho hx hy
  case eql => subst h; exact r_eql hs ho hx hy
  case neq => subst h; exact r_neq hs ho hx hy
  case add => subst h; exact r_add hs ho hx hy
  case sub => subst h; exact r_sub hs ho hx hy
  case mul => subst h; exact r_mul hs ho hx hy
  case and => subst h; exact r_and hs ho hx hy
  case or => subst h; exact r_or hs ho hx hy
  case xor => subst h; exact r_xor hs ho hx hy
theorem r_bi (hs : Sl N L a) (h : biF L o.op = some v) : RunV P a o w v := by
  cases ho : o.op <;> rw [ho] at h <;> simp only [biF] at h
  case binOp b t x y yt =>
    split at h
    · rename_i k n hx
      split at h
      · rename_i k' m hy
        cases hk : kEq k k' with
        | false => rw [hk] at h; cases h
        | true =>
          rw [hk] at h
          have hk' := kEq_ok hk
          subst hk'
          exact bi_one hs ho hx hy h
      · cases h
    · cases h
  all_goals cases h
end

/-! ### elements of slices and arrays -/
def ixo : Nat → Nat → Nat → Option Nat
  | 0, k, 1 => some k
  | 0, k, s => some (k * s)
  | _, _, _ => none
def ixo' (off k : Nat) : Nat → Option Nat
  | 1 => some (off + k)
  | s => some (off + k * s)
def ixF (T : List (Nat × TI)) (L : List (Nat × Value)) : Op → Option (Nat × Nat × Nat × Nat × Int × Nat)
  | .indexAddr t x y => match ev L y with
    | some (.int _ i) => match ev L x with
      | some (.slice (some ⟨g, off, none⟩) len _) => match tlk T t with
        | some ⟨_, _, _, .sl e⟩ => match tsz T e with
          | some s => match litN i with
            | some k => some (g, off, k, s, i, len)
            | none => none
          | none => none
        | _ => none
      | some (.pointer (some ⟨g, off, none⟩)) => match tlk T t with
        | some ⟨_, _, _, .arr len e⟩ => match tsz T e with
          | some s => match litN i with
            | some k => some (g, off, k, s, i, len)
            | none => none
          | none => none
        | _ => none
      | _ => none
    | _ => none
  | _ => none
section
variable {P : Program} {T : List (Nat × TI)} {N : Nat} {L : List (Nat × Value)} {a : Act} {w w0 : World} {S : Nat → Prop} {M : List Hp} {o : Oper} {x y z : Operand} {v u : Value}
theorem ix_ok {g off k s len : Nat} {i : Int} (hs : Sl N L a) (hT : TabOk P T) (h : ixF T L o.op = some (g, off, k, s, i, len)) (hl : i < (len : Int)) : RunV P a o w (.pointer (some ⟨g, off + k * s, none⟩)) := by
  cases ho : o.op <;> rw [ho] at h <;> simp only [ixF] at h
  case indexAddr t x y =>
    split at h
    · rename_i kk i' hy
      split at h
      · rename_i g' off' len' c' hx
        split at h
        · rename_i e ht
          split at h
          · rename_i s' hs'
            split at h
            · rename_i k' hk
              simp only [Option.some.injEq, Prod.mk.injEq] at h
              obtain ⟨rfl, rfl, rfl, rfl, rfl, rfl⟩ := h
              exact r_ixl hs ho hx hy hk hT ht rfl hs' hl
            · cases h
          · cases h
        · cases h
      · rename_i g' off' hx
        split at h
        · rename_i len' e ht
          split at h
          · rename_i s' hs'
            split at h
            · rename_i k' hk
              simp only [Option.some.injEq, Prod.mk.injEq] at h
              obtain ⟨rfl, rfl, rfl, rfl, rfl, rfl⟩ := h
              exact r_ixal hs ho hx hy hk hT ht rfl hs' hl
            · cases h
          · cases h
        · cases h
      · cases h
    · cases h
  all_goals cases h
theorem r_iz {g off k s len q : Nat} {i : Int} (hs : Sl N L a) (hT : TabOk P T) (h : ixF T L o.op = some (g, off, k, s, i, len)) (hq : ixo off k s = some q) (hl : i < (len : Int)) : RunV P a o w (.pointer (some ⟨g, q, none⟩)) := by
  have h1 := ix_ok (P := P) (w := w) hs hT h hl
  unfold ixo at hq
  split at hq
  · obtain rfl := Option.some.inj hq
    rwa [Nat.zero_add, Nat.mul_one] at h1
  · obtain rfl := Option.some.inj hq
    rwa [Nat.zero_add] at h1
  · cases hq
theorem r_iy {g off k s len q : Nat} {i : Int} (hs : Sl N L a) (hT : TabOk P T) (h : ixF T L o.op = some (g, off, k, s, i, len)) (hq : ixo' off k s = some q) (hl : i < (len : Int)) : RunV P a o w (.pointer (some ⟨g, q, none⟩)) := by
  have h1 := ix_ok (P := P) (w := w) hs hT h hl
  unfold ixo' at hq
  split at hq
  · obtain rfl := Option.some.inj hq
    rwa [Nat.mul_one] at h1
  · obtain rfl := Option.some.inj hq
    exact h1
end

theorem Ro.cl0 {S : Nat → Prop} {w0 w : World} {M : List Hp} {b j : Nat} {vs : List Value} {v : Value} (h : Ro w0 b 0 vs) (hm : Mm S w0 M w) (hb : ¬ S b) (hv : vs[j]? = some v) : w.cell? ⟨b, j, none⟩ = some v := by
  have := Ro.cl h hm hb hv
  rwa [Nat.zero_add] at this
theorem mH {α : Type} {x : α} {l : List α} : x ∈ x :: l := List.mem_cons_self ..
theorem mT {α : Type} {x y : α} {l : List α} (h : x ∈ l) : x ∈ y :: l := List.mem_cons_of_mem _ h
/-! ### one step, in either kind of region -/
section
variable {P : Program} {T : List (Nat × TI)} {N : Nat} {L : List (Nat × Value)} {a : Act} {w w0 : World} {S : Nat → Prop} {M : List Hp} {o : Oper} {x y z : Operand} {v u : Value} {ops : Array Oper} {rest : List Oper} {Q : Exit → Act → World → Prop} {Qa : Act → Prop} {K : Act → Prop}
structure One (P : Program) (ops : Array Oper) (S : Nat → Prop) (w0 : World) (M : List Hp) (o : Oper) (a : Act) (K : Act → Prop) : Prop where
  h : (Region.wanted o (yielded ops a.tmps) = true ∧ ∃ v, (∀ w, Mm S w0 M w → RunV P a o w v) ∧ K (a.put o.dst v)) ∨ (Region.wanted o (yielded ops a.tmps) = false ∧ K (a.put o.dst undef))
theorem toL (hm : Mm S w0 M w) (h : One P ops S w0 M o a (fun a' => wpList P ops Q rest a' w)) : wpList P ops Q (o :: rest) a w := by
  rcases h.h with ⟨h1, v, h2, h3⟩ | ⟨h1, h3⟩
  · unfold wpList
    rw [if_pos h1]
    exact .inl (Does.wp ((h2 w hm).does.mono fun v' w' hvw => by rw [hvw.1, hvw.2]; exact h3))
  · unfold wpList
    rw [if_neg (by rw [h1]; exact Bool.false_ne_true)]
    exact h3
theorem toQ (h : One P ops S w0 M o a (fun a' => wpQuiet P ops (fun w' => Mm S w0 M w') Qa rest a')) : wpQuiet P ops (fun w' => Mm S w0 M w') Qa (o :: rest) a := by
  rcases h.h with ⟨h1, v, h2, h3⟩ | ⟨h1, h3⟩
  · unfold wpQuiet
    rw [if_pos h1]
    exact qquiet h2 h3
  · unfold wpQuiet
    rw [if_neg (by rw [h1]; exact Bool.false_ne_true)]
    exact h3
theorem oneV {d : Nat} (hs : Sl N L a) (hg : Wnt ops N L o) (ho : o.dst = some d) (hd : Nat.blt d N = true) (h : ∀ w, Mm S w0 M w → RunV P a o w v) (k : ∀ a, Sl N ((d, v) :: L) a → K a) : One P ops S w0 M o a K :=
  ⟨.inl ⟨hg.yes hs, v, h, by rw [ho]; exact k _ (hs.put v hd)⟩⟩
theorem oneN {d j e : Nat} {b c : Bool} (hs : Sl N L a) (hg : o.guard = some (j, b)) (hj : (ops[j]?).bind (·.dst) = some e) (he : Nat.blt e N = true) (hv : lk L e = some (.bool c)) (hbc : (c == b) = false) (ho : o.dst = some d) (hd : Nat.blt d N = true) (k : ∀ a, Sl N ((d, undef) :: L) a → K a) : One P ops S w0 M o a K := by
  refine ⟨.inr ⟨?_, by rw [ho]; exact k _ (hs.put undef hd)⟩⟩
  simp only [Region.wanted, hg, yielded_of hs hj he hv]
  simpa using hbc
theorem oneU {d j e : Nat} {b : Bool} (hs : Sl N L a) (hg : o.guard = some (j, b)) (hj : (ops[j]?).bind (·.dst) = some e) (he : Nat.blt e N = true) (hv : lk L e = some undef) (ho : o.dst = some d) (hd : Nat.blt d N = true) (k : ∀ a, Sl N ((d, undef) :: L) a → K a) : One P ops S w0 M o a K := by
  refine ⟨.inr ⟨?_, by rw [ho]; exact k _ (hs.put undef hd)⟩⟩
  simp [Region.wanted, hg, yielded_un hs hj he hv]
end
end Go.Proofs.YtlapnhpaedkgcaaDoor
