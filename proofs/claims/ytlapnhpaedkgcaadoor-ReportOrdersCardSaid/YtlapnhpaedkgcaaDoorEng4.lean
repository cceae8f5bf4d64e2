/- Loads, literals, lengths; allocations, stores, appends, calls. -/
import Derived.Test.YtlapnhpaedkgcaaDoorEng3
namespace Go.Proofs.YtlapnhpaedkgcaaDoor
open Go.RowKit

/-- cells of memory that nobody changes, in a row -/
def Ro (w : World) (b n : Nat) (vs : List Value) : Prop := ∀ j u, vs[j]? = some u → w.cell? ⟨b, n + j, none⟩ = some u
theorem Rd.ro {w : World} {B : Nat} {A : Option Addr} {xs : List Value} (h : Rd w B A xs) (hn : 0 < xs.length) : ∃ b off, A = some ⟨b, off, none⟩ ∧ b < B ∧ Ro w b off xs := h hn
theorem Ro.rd {w : World} {b n : Nat} {vs : List Value} (h : Ro w b n vs) (hb : b < w.heap.size) : Rd w w.heap.size (some ⟨b, n, none⟩) vs := fun _ => ⟨b, n, rfl, hb, h⟩
theorem Ro.flat {α : Type} {w : World} {b off s : Nat} {f : α → List Value} (hs : ∀ a, (f a).length = s) {l : List α} (h : Ro w b off (l.flatMap f)) {k : Nat} (hk : k < l.length) : Ro w b (off + k * s) (f l[k]) := fun j u hu => by
  have hj : j < s := by
    rcases Nat.lt_or_ge j s with h1 | h1
    · exact h1
    · rw [List.getElem?_eq_none (by rw [hs]; exact h1)] at hu; cases hu
  have := flat_get f s hs l k j hk hj
  rw [Nat.add_assoc]
  exact h _ _ (by rw [this, hu])
theorem Ro.cl {S : Nat → Prop} {w0 w : World} {M : List Hp} {b n j : Nat} {vs : List Value} {v : Value} (h : Ro w0 b n vs) (hm : Mm S w0 M w) (hb : ¬ S b) (hv : vs[j]? = some v) : w.cell? ⟨b, n + j, none⟩ = some v := hm.fr.cl (h j v hv) hb
theorem Ro.ro {S : Nat → Prop} {w0 w : World} {M : List Hp} {b n : Nat} {vs : List Value} (h : Ro w0 b n vs) (hm : Mm S w0 M w) (hb : ¬ S b) : Ro w b n vs := fun j v hv => hm.fr.cl (h j v hv) hb
theorem Mm.cl {S : Nat → Prop} {w0 w : World} {M : List Hp} {g n : Nat} {t : TypeId} {cs : List Value} {v : Value} (hm : Mm S w0 M w) (hM : (⟨some g, t, cs⟩ : Hp) ∈ M) (hv : cs[n]? = some v) : w.cell? ⟨g, n, none⟩ = some v := (hm.at_ hM n).trans hv
theorem Mm.ro {S : Nat → Prop} {w0 w : World} {M : List Hp} {g k n : Nat} {t : TypeId} {cs vs : List Value} (hm : Mm S w0 M w) (hM : (⟨some g, t, cs⟩ : Hp) ∈ M) (hv : Cut cs k n vs) : Ro w g k vs := fun j v h => (hm.at_ hM _).trans (hv.get j v h)

def slv (A : Option Nat) (n c : Nat) : Value := .slice (A.map fun g => ⟨g, 0, none⟩) n c
/-- a slice of the walk's own: n elements of s cells, room for c; its first cells are xs, all its block's cells cs -/
structure Row (A : Option Nat) (n c s : Nat) (xs cs : List Value) : Prop where
  nil : A = none → n = 0 ∧ c = 0
  le : n ≤ c
  cm : c ≤ maxLen
  len : cs.length = c * s
  xl : xs.length = n * s
  pre : cs.take (n * s) = xs
theorem Row.empty (s : Nat) : Row none 0 0 s [] [] := ⟨fun _ => ⟨rfl, rfl⟩, Nat.le_refl _, Nat.zero_le _, by simp, by simp, by simp⟩
theorem Row.get {A : Option Nat} {n c s : Nat} {xs cs : List Value} (h : Row A n c s xs cs) {j : Nat} {u : Value} (hj : xs[j]? = some u) : cs[j]? = some u := by
  rw [← h.pre, List.getElem?_take] at hj
  split at hj
  · exact hj
  · cases hj
theorem Row.some_ {A : Option Nat} {n c s : Nat} {xs cs : List Value} (h : Row A n c s xs cs) (hn : 0 < n) : ∃ g, A = some g := by
  cases A with
  | none => have := (h.nil rfl).1; omega
  | some g => exact ⟨g, rfl⟩
theorem Row.pfx {A : Option Nat} {n c s : Nat} {xs cs : List Value} (h : Row A n c s xs cs) : xs <+: cs := h.pre ▸ List.take_prefix _ _
theorem Row.set {A : Option Nat} {n c s : Nat} {xs cs : List Value} (h : Row A n c s xs cs) (j : Nat) (u : Value) : Row A n c s (xs.set j u) (cs.set j u) :=
  ⟨h.nil, h.le, h.cm, by rw [List.length_set]; exact h.len, by rw [List.length_set]; exact h.xl, by rw [← h.pre, List.take_set]⟩
theorem Row.own {w : World} {A : Option Nat} {n c s base : Nat} {e : TypeId} {xs cs : List Value} (h : Row A n c s xs cs) (hs : (⟨A, e, cs⟩ : Hp).sat w) (hb : ∀ g, A = some g → base ≤ g) : w.ownsRow base e s (slv A n c) n xs := by
  refine ⟨h.xl, ?_⟩
  cases A with
  | none => obtain ⟨rfl, rfl⟩ := h.nil rfl; exact .inl ⟨rfl, rfl⟩
  | some g => exact .inr ⟨g, c, cs.toArray, rfl, hb g rfl, hs, h.le, h.cm, by simpa using h.len, by simpa using h.pre⟩
theorem Row.of_own {w : World} {n s base : Nat} {e : TypeId} {xs : List Value} {v : Value} (h : w.ownsRow base e s v n xs) : ∃ A c cs, v = slv A n c ∧ Row A n c s xs cs ∧ (⟨A, e, cs⟩ : Hp).sat w ∧ ∀ g, A = some g → v.ownBlock = some g ∧ base ≤ g := by
  obtain ⟨h1, h2⟩ := h
  rcases h2 with ⟨rfl, rfl⟩ | ⟨g, cap, cur, rfl, hb, hh, hc, hm, hz, ht⟩
  · have : xs = [] := by simpa using h1
    subst this
    exact ⟨none, 0, [], rfl, Row.empty s, rfl, fun g hg => by cases hg⟩
  · exact ⟨some g, cap, cur.toList, rfl, ⟨(fun e => by cases e), hc, hm, by simpa using hz, h1, ht⟩, by simpa [Hp.sat, Blk] using hh, (fun g' hg => by cases hg; exact ⟨rfl, hb⟩)⟩
theorem Mm.rd_row {S : Nat → Prop} {w0 w : World} {M : List Hp} (hm : Mm S w0 M w) {A : Option Nat} {n c s : Nat} {t : TypeId} {xs cs : List Value} (hM : (⟨A, t, cs⟩ : Hp) ∈ M) (hr : Row A n c s xs cs) : Rd w w.heap.size (A.map fun g => ⟨g, 0, none⟩) xs := by
  cases A with
  | none =>
    have h1 := hr.xl
    rw [(hr.nil rfl).1, Nat.zero_mul] at h1
    intro h; omega
  | some g => exact hm.rd hM hr.pfx

section
variable {P : Program} {T : List (Nat × TI)} {N : Nat} {L : List (Nat × Value)} {a : Act} {w w0 : World} {S : Nat → Prop} {M M' : List Hp} {o : Oper} {x y z : Operand} {v u : Value} {K : Value → World → Prop}

def litN : Int → Option Nat
  | .ofNat n => some n
  | _ => none
theorem litN_ok {i : Int} {k : Nat} (h : litN i = some k) : i = (k : Int) := by
  cases i with
  | ofNat n => simp only [litN, Option.some.injEq] at h; subst h; rfl
  | negSucc n => simp [litN] at h
/-! #### addresses of elements -/
theorem r_ix {t e : TypeId} {i : TI} {g off len cap k s : Nat} {kk : IntKind} (hs : Sl N L a) (ho : o.op = .indexAddr t x y) (hx : ev L x = some (.slice (some ⟨g, off, none⟩) len cap)) (hy : ev L y = some (.int kk (k : Int))) (hT : TabOk P T) (hc : tlk T t = some i) (hd : i.d = .sl e) (he : tsz T e = some s) (hk : k < len) : RunV P a o w (.pointer (some ⟨g, off + k * s, none⟩)) := by
  replace hx := hs.ev hx; replace hy := hs.ev hy
  obtain ⟨j, hj, hjs⟩ := tsz_ok he
  subst hjs
  unfold RunV execOp
  simp [ho, hx, hy, run_indexAt hT hc hd hj hk]
theorem r_ix1 {t e : TypeId} {i : TI} {g off len cap k s : Nat} {kk : IntKind} (hs : Sl N L a) (ho : o.op = .indexAddr t x y) (hx : ev L x = some (.slice (some ⟨g, off, none⟩) len cap)) (hy : ev L y = some (.int kk (k : Int))) (hT : TabOk P T) (hc : tlk T t = some i) (hd : i.d = .sl e) (he : tsz T e = some s) (h1 : Nat.beq s 1 = true) (hk : k < len) : RunV P a o w (.pointer (some ⟨g, off + k, none⟩)) := by
  replace hx := hs.ev hx; replace hy := hs.ev hy
  obtain ⟨j, hj, hjs⟩ := tsz_ok he
  subst hjs
  replace h1 := Nat.eq_of_beq_eq_true h1
  unfold RunV execOp
  simp [ho, hx, hy, run_indexAt hT hc hd hj hk, h1]
theorem r_ix0 {t e : TypeId} {i : TI} {g len cap k s : Nat} {kk : IntKind} (hs : Sl N L a) (ho : o.op = .indexAddr t x y) (hx : ev L x = some (.slice (some ⟨g, 0, none⟩) len cap)) (hy : ev L y = some (.int kk (k : Int))) (hT : TabOk P T) (hc : tlk T t = some i) (hd : i.d = .sl e) (he : tsz T e = some s) (hk : k < len) : RunV P a o w (.pointer (some ⟨g, k * s, none⟩)) := by
  replace hx := hs.ev hx; replace hy := hs.ev hy
  obtain ⟨j, hj, hjs⟩ := tsz_ok he
  subst hjs
  unfold RunV execOp
  simp [ho, hx, hy, run_indexAt hT hc hd hj hk]
theorem r_ix01 {t e : TypeId} {i : TI} {g len cap k s : Nat} {kk : IntKind} (hs : Sl N L a) (ho : o.op = .indexAddr t x y) (hx : ev L x = some (.slice (some ⟨g, 0, none⟩) len cap)) (hy : ev L y = some (.int kk (k : Int))) (hT : TabOk P T) (hc : tlk T t = some i) (hd : i.d = .sl e) (he : tsz T e = some s) (h1 : Nat.beq s 1 = true) (hk : k < len) : RunV P a o w (.pointer (some ⟨g, k, none⟩)) := by
  replace hx := hs.ev hx; replace hy := hs.ev hy
  obtain ⟨j, hj, hjs⟩ := tsz_ok he
  subst hjs
  replace h1 := Nat.eq_of_beq_eq_true h1
  unfold RunV execOp
  simp [ho, hx, hy, run_indexAt hT hc hd hj hk, h1]
theorem r_ixa {t e : TypeId} {i : TI} {g off len k s : Nat} {kk : IntKind} (hs : Sl N L a) (ho : o.op = .indexAddr t x y) (hx : ev L x = some (.pointer (some ⟨g, off, none⟩))) (hy : ev L y = some (.int kk (k : Int))) (hT : TabOk P T) (hc : tlk T t = some i) (hd : i.d = .arr len e) (he : tsz T e = some s) (hk : k < len) : RunV P a o w (.pointer (some ⟨g, off + k * s, none⟩)) := by
  replace hx := hs.ev hx; replace hy := hs.ev hy
  obtain ⟨j, hj, hjs⟩ := tsz_ok he
  subst hjs
  unfold RunV execOp
  simp [ho, hx, hy, run_indexAtA hT hc hd hj hk]
theorem r_ixa1 {t e : TypeId} {i : TI} {g off len k s : Nat} {kk : IntKind} (hs : Sl N L a) (ho : o.op = .indexAddr t x y) (hx : ev L x = some (.pointer (some ⟨g, off, none⟩))) (hy : ev L y = some (.int kk (k : Int))) (hT : TabOk P T) (hc : tlk T t = some i) (hd : i.d = .arr len e) (he : tsz T e = some s) (h1 : Nat.beq s 1 = true) (hk : k < len) : RunV P a o w (.pointer (some ⟨g, off + k, none⟩)) := by
  replace hx := hs.ev hx; replace hy := hs.ev hy
  obtain ⟨j, hj, hjs⟩ := tsz_ok he
  subst hjs
  replace h1 := Nat.eq_of_beq_eq_true h1
  unfold RunV execOp
  simp [ho, hx, hy, run_indexAtA hT hc hd hj hk, h1]
theorem r_ixl {t e : TypeId} {i : TI} {g off len cap k s : Nat} {kk : IntKind} (hs : Sl N L a) (ho : o.op = .indexAddr t x y) (hx : ev L x = some (.slice (some ⟨g, off, none⟩) len cap)) {ii : Int} (hy : ev L y = some (.int kk ii)) (hii : litN ii = some k) (hT : TabOk P T) (hc : tlk T t = some i) (hd : i.d = .sl e) (he : tsz T e = some s) (hk : ii < (len : Int)) : RunV P a o w (.pointer (some ⟨g, off + k * s, none⟩)) := r_ix hs ho hx (by rw [← litN_ok hii]; exact hy) hT hc hd he (by have e := litN_ok hii; omega)
theorem r_ix1l {t e : TypeId} {i : TI} {g off len cap k s : Nat} {kk : IntKind} (hs : Sl N L a) (ho : o.op = .indexAddr t x y) (hx : ev L x = some (.slice (some ⟨g, off, none⟩) len cap)) {ii : Int} (hy : ev L y = some (.int kk ii)) (hii : litN ii = some k) (hT : TabOk P T) (hc : tlk T t = some i) (hd : i.d = .sl e) (he : tsz T e = some s) (h1 : Nat.beq s 1 = true) (hk : ii < (len : Int)) : RunV P a o w (.pointer (some ⟨g, off + k, none⟩)) := r_ix1 hs ho hx (by rw [← litN_ok hii]; exact hy) hT hc hd he h1 (by have e := litN_ok hii; omega)
theorem r_ix0l {t e : TypeId} {i : TI} {g len cap k s : Nat} {kk : IntKind} (hs : Sl N L a) (ho : o.op = .indexAddr t x y) (hx : ev L x = some (.slice (some ⟨g, 0, none⟩) len cap)) {ii : Int} (hy : ev L y = some (.int kk ii)) (hii : litN ii = some k) (hT : TabOk P T) (hc : tlk T t = some i) (hd : i.d = .sl e) (he : tsz T e = some s) (hk : ii < (len : Int)) : RunV P a o w (.pointer (some ⟨g, k * s, none⟩)) := r_ix0 hs ho hx (by rw [← litN_ok hii]; exact hy) hT hc hd he (by have e := litN_ok hii; omega)
theorem r_ix01l {t e : TypeId} {i : TI} {g len cap k s : Nat} {kk : IntKind} (hs : Sl N L a) (ho : o.op = .indexAddr t x y) (hx : ev L x = some (.slice (some ⟨g, 0, none⟩) len cap)) {ii : Int} (hy : ev L y = some (.int kk ii)) (hii : litN ii = some k) (hT : TabOk P T) (hc : tlk T t = some i) (hd : i.d = .sl e) (he : tsz T e = some s) (h1 : Nat.beq s 1 = true) (hk : ii < (len : Int)) : RunV P a o w (.pointer (some ⟨g, k, none⟩)) := r_ix01 hs ho hx (by rw [← litN_ok hii]; exact hy) hT hc hd he h1 (by have e := litN_ok hii; omega)
theorem r_ixal {t e : TypeId} {i : TI} {g off len k s : Nat} {kk : IntKind} (hs : Sl N L a) (ho : o.op = .indexAddr t x y) (hx : ev L x = some (.pointer (some ⟨g, off, none⟩))) {ii : Int} (hy : ev L y = some (.int kk ii)) (hii : litN ii = some k) (hT : TabOk P T) (hc : tlk T t = some i) (hd : i.d = .arr len e) (he : tsz T e = some s) (hk : ii < (len : Int)) : RunV P a o w (.pointer (some ⟨g, off + k * s, none⟩)) := r_ixa hs ho hx (by rw [← litN_ok hii]; exact hy) hT hc hd he (by have e := litN_ok hii; omega)
theorem r_ixa1l {t e : TypeId} {i : TI} {g off len k s : Nat} {kk : IntKind} (hs : Sl N L a) (ho : o.op = .indexAddr t x y) (hx : ev L x = some (.pointer (some ⟨g, off, none⟩))) {ii : Int} (hy : ev L y = some (.int kk ii)) (hii : litN ii = some k) (hT : TabOk P T) (hc : tlk T t = some i) (hd : i.d = .arr len e) (he : tsz T e = some s) (h1 : Nat.beq s 1 = true) (hk : ii < (len : Int)) : RunV P a o w (.pointer (some ⟨g, off + k, none⟩)) := r_ixa1 hs ho hx (by rw [← litN_ok hii]; exact hy) hT hc hd he h1 (by have e := litN_ok hii; omega)

/-! #### loads -/
theorem r_load {t : TypeId} {i : TI} {p : Addr} (hs : Sl N L a) (ho : o.op = .load t x) (hx : ev L x = some (.pointer (some p))) (hT : TabOk P T) (hc : tlk T t = some i) (hf : i.d.flat = true) (hw : w.cell? p = some v) : RunV P a o w v := by
  replace hx := hs.ev hx
  unfold RunV execOp
  simp [ho, hx, Instr.loadAt, loadVar, Instr.sureAddr, run_isAgg (hT _ _ hc), hf, hw]
theorem r_loadA {t : TypeId} {i : TI} {b n : Nat} {vs : List Value} (hs : Sl N L a) (ho : o.op = .load t x) (hx : ev L x = some (.pointer (some ⟨b, n, none⟩))) (hT : TabOk P T) (hc : tlk T t = some i) (hf : i.d.flat = false) (hw : Ro w b n vs) (hl : vs.length = i.sz) : RunV P a o w (.agg vs.toArray) := by
  replace hx := hs.ev hx
  have h := run_loadCells_list (P := P) w ⟨b, n, none⟩ vs (fun j u hu => by rw [add_lit]; exact hw j u hu)
  rw [hl] at h
  unfold RunV execOp
  simp [ho, hx, Instr.loadAt, loadVar, Instr.sureAddr, run_isAgg (hT _ _ hc), hf, run_sizeOf (hT _ _ hc), h]

/-! #### parts, lengths, functions -/
theorem r_extract {k : Nat} {vs : List Value} (hs : Sl N L a) (ho : o.op = .extract x k) (hx : ev L x = some (.tuple vs.toArray)) (hv : vs[k]? = some v) : RunV P a o w v := by
  replace hx := hs.ev hx
  have hv' : vs.toArray[k]? = some v := by simpa using hv
  unfold RunV execOp
  simp [ho, hx, Instr.extract, hv]
theorem r_field {t ft : TypeId} {f off : Nat} {i j : TI} {fs : List (Nat × TypeId)} {cs : List Value} (hs : Sl N L a) (ho : o.op = .field t x f) (hx : ev L x = some (.agg cs.toArray)) (hT : TabOk P T) (hc : tlk T t = some i) (hd : i.d = .st fs) (hf : fs[f]? = some (off, ft)) (hft : tlk T ft = some j) (hj : j.d.flat = true) (hv : cs[off]? = some v) : RunV P a o w v := by
  replace hx := hs.ev hx
  obtain ⟨gs, h1, h2⟩ := (hT _ _ hc).st hd
  subst h2
  rw [List.getElem?_map] at hf
  cases hg : gs.toList[f]? with
  | none => rw [hg] at hf; cases hf
  | some fl =>
    rw [hg] at hf
    simp only [Option.map_some, Option.some.injEq, Prod.mk.injEq] at hf
    obtain ⟨rfl, rfl⟩ := hf
    have hg' : gs[f]? = some fl := by simpa using hg
    unfold RunV execOp
    simp [ho, hx, Instr.field, run_und h1, hg', asAgg, part, run_isAgg (hT _ _ hft), hj, hv]
theorem r_len {ts : Array TypeId} {t e : TypeId} {i : TI} {A : Option Addr} {n c : Nat} (hs : Sl N L a) (ho : o.op = .call { callee := .builtin .len, args := #[x], argTypes := ts }) (hx : ev L x = some (.slice A n c)) (hts : ts[0]? = some t) (hT : TabOk P T) (hc : tlk T t = some i) (hd : i.d = .sl e) : RunV P a o w (.int .i64 (n : Int)) := by
  replace hx := hs.ev hx
  unfold RunV execOp resolve invoke builtin
  simp [ho, hx, Builtin.len_, hts, run_und ((hT _ _ hc).sl hd), goInt]
theorem TOk.str {t : TypeId} {i : TI} (h : TOk P t i) (hd : i.d = .str) : P.underlying t = some .string := by
  obtain ⟨d, h1, h2⟩ := h.und
  rw [hd] at h2
  cases d <;> simp [tdOf] at h2
  exact h1
theorem r_slen {ts : Array TypeId} {t : TypeId} {i : TI} {s : ByteArray} (hs : Sl N L a) (ho : o.op = .call { callee := .builtin .len, args := #[x], argTypes := ts }) (hx : ev L x = some (.string s)) (hts : ts[0]? = some t) (hT : TabOk P T) (hc : tlk T t = some i) (hd : i.d = .str) : RunV P a o w (.int .i64 (s.size : Int)) := by
  replace hx := hs.ev hx
  unfold RunV execOp resolve invoke builtin
  simp [ho, hx, Builtin.len_, hts, run_und ((hT _ _ hc).str hd), goInt]
theorem r_makeFunc {fn : Fn} {xs ys : List Operand} {vs us : List Value} (hs : Sl N L a) (ho : o.op = .makeFunc fn xs.toArray ys.toArray) (hx : evs L xs = some vs) (hy : evs L ys = some us) : RunV P a o w (.func fn vs.toArray us.toArray) := by
  replace hx := hs.evs hx; replace hy := hs.evs hy
  subst hx; subst hy
  unfold RunV execOp
  simp [ho, Instr.makeFunc]
theorem r_nilCheck {p : Addr} (hs : Sl N L a) (ho : o.op = .nilCheck x) (hx : ev L x = some (.pointer (some p))) : RunV P a o w (.pointer (some p)) := by
  replace hx := hs.ev hx
  unfold RunV execOp
  simp [ho, hx]
theorem r_nilCheckF {f : Fn} {p q : Array Value} {n : FuncId} (hs : Sl N L a) (ho : o.op = .nilCheck x) (hx : ev L x = some (.func f p q)) (hf : f = .func n) : RunV P a o w (.func f p q) := by
  replace hx := hs.ev hx
  subst hf
  unfold RunV execOp
  simp [ho, hx]
/-- where the fields lie -/
def placesOf (T : List (Nat × TI)) (fs : List (Nat × TypeId)) : List (Nat × Nat) := fs.map fun p => (p.1, ((tlk T p.2).map (·.sz)).getD 0)
theorem run_places (hT : TabOk P T) : ∀ (l : List Field), (l.map fun f => (f.offset, f.type)).all (fun p => (tlk T p.2).isSome) = true →
    Sem.run P (l.mapM fun f => do pure (f.offset, ← sizeOf f.type)) w = .ok (placesOf T (l.map fun f => (f.offset, f.type))) w
  | [], _ => by simp [placesOf]
  | f :: r, h => by
    simp only [List.map_cons, List.all_cons, Bool.and_eq_true] at h
    obtain ⟨h1, h2⟩ := h
    obtain ⟨j, hj⟩ := Option.isSome_iff_exists.1 h1
    have ih := run_places hT r h2
    simp only [List.mapM_cons, Sem.run_bind, run_sizeOf (hT _ _ hj), Result.andThen_ok, Sem.run_pure, ih]
    simp [placesOf, hj]
theorem Fill.fill {fs : List (Nat × TypeId)} {ps : List (Nat × Value)} {cs ds : List Value} (h : Fill T fs ps cs ds) : Instr.fill (fun k => (placesOf T fs)[k]?) cs.toArray ps = some ds.toArray := by
  induction h with
  | nil => rfl
  | cons hf ht hv hl hp _ ih => rw [fill_one (by simp [placesOf, hf, ht, hl]) hv hp]; exact ih
/-- a struct literal -/
theorem r_build {t : TypeId} {i : TI} {fs : List (Nat × TypeId)} {ps : List (Nat × Operand)} {vs : List (Nat × Value)} {zs cs : List Value} (hs : Sl N L a) (ho : o.op = .build t ps.toArray) (hT : TabOk P T) (hc : tlk T t = some i) (hd : i.d = .st fs) (hall : fs.all (fun p => (tlk T p.2).isSome) = true) (hp : evp L ps = some vs) (hz : vcF i.z = some zs) (hf : fillF T fs vs zs = some cs) : RunV P a o w (.agg cs.toArray) := by
  replace hz := vcF_ok hz
  replace hf := fillF_ok hf
  replace hp := hs.evp hp
  obtain ⟨gs, h1, h2⟩ := (hT _ _ hc).st hd
  obtain ⟨l⟩ := gs
  subst h2
  have hpl := run_places (w := w) hT l hall
  have hfl := hf.fill
  unfold RunV execOp
  simp only [ho, Instr.build, Sem.run_bind, run_zero (hT _ _ hc), run_und h1, Result.andThen_ok, hz.eq, List.mapM_toArray, Sem.run_map, hpl]
  simp only [List.map_toArray, hp, List.getElem?_toArray, hfl]
  simp
/-- an array literal -/
theorem r_buildA {t e : TypeId} {n : Nat} {i j : TI} {ps : List (Nat × Operand)} {vs : List (Nat × Value)} {zs cs : List Value} (hs : Sl N L a) (ho : o.op = .build t ps.toArray) (hT : TabOk P T) (hc : tlk T t = some i) (hd : i.d = .arr n e) (he : tlk T e = some j) (hp : evp L ps = some vs) (hz : vcF i.z = some zs) (hf : fillAF j.sz vs zs = some cs) : RunV P a o w (.agg cs.toArray) := by
  replace hz := vcF_ok hz
  replace hf := fillAF_ok hf
  replace hp := hs.evp hp
  have hfl := hf.fill
  unfold RunV execOp
  simp only [ho, Instr.build, Sem.run_bind, run_zero (hT _ _ hc), run_und ((hT _ _ hc).arr hd), run_sizeOf (hT _ _ he), Result.andThen_ok, hz.eq]
  simp only [List.map_toArray, hp, hfl]
  simp

/-! #### what changes the world -/
/-- the operation, or the call that it is, gives a value and a world of which K holds -/
def Does (P : Program) (a : Act) (o : Oper) (w : World) (K : Value → World → Prop) : Prop :=
  match (execOp a.eval o).run P w with
  | .ok (.value v) w' => K v w'
  | .ok .skip w' => K undef w'
  | .ok (.enter f args) w' => Calls P f args w' (fun e w'' => ∃ v, e = .returned v ∧ K v w'')
  | _ => False
theorem RunV.does (h : RunV P a o w v) : Does P a o w (fun v' w' => v' = v ∧ w' = w) := by
  unfold Does; rw [show (execOp a.eval o).run P w = _ from h]; exact ⟨rfl, rfl⟩
theorem Does.wp {next : Act → World → Prop} {Q : Exit → Act → World → Prop} (h : Does P a o w (fun v w' => next (a.put o.dst v) w')) : o.wp P a w next Q := by
  unfold Does at h
  unfold Oper.wp
  generalize (execOp a.eval o).run P w = r at *
  cases r with
  | ok n w' =>
    cases n <;> simp only [Oper.upon] at h ⊢ <;> first | exact h | exact h.elim | skip
    exact h.mono fun e w'' ⟨v, he, hk⟩ => by subst he; exact hk
  | halt x w' => exact h.elim
theorem Does.mono {K' : Value → World → Prop} (h : Does P a o w K) (hk : ∀ v w', K v w' → K' v w') : Does P a o w K' := by
  unfold Does at *
  generalize (execOp a.eval o).run P w = r at *
  cases r with
  | ok n w' =>
    cases n <;> first | exact hk _ _ h | exact h.elim | skip
    exact Calls.mono h fun e w'' ⟨v, he, h'⟩ => ⟨v, he, hk _ _ h'⟩
  | halt x w' => exact h.elim
end
end Go.Proofs.YtlapnhpaedkgcaaDoor
