/- The steps of a walk: one operation, a test, a loop, the end. -/
import Derived.Test.YtlapnhpaedkgcaaDoorEng5
namespace Go.Proofs.YtlapnhpaedkgcaaDoor
open Go.RowKit

section
variable {P : Program} {T : List (Nat × TI)} {N : Nat} {L L' : List (Nat × Value)} {a : Act} {w w0 : World} {S : Nat → Prop} {M M' : List Hp} {o : Oper} {x y z : Operand} {v u : Value} {K : Value → World → Prop} {Q : Exit → Act → World → Prop} {ops : Array Oper} {rest : List Oper}

theorem st {d : Nat} (hs : Sl N L a) (hg : o.guard = none) (ho : o.dst = some d) (hd : Nat.blt d N = true) (h : Does P a o w K) (k : ∀ v w', K v w' → ∀ a, Sl N ((d, v) :: L) a → wpList P ops Q rest a w') : wpList P ops Q (o :: rest) a w :=
  wpList_plain hg fun K' hK => Does.wp (h.mono fun v w' hk => hK _ _ (by rw [ho]; exact k v w' hk _ (hs.put v hd)))
theorem stn (hs : Sl N L a) (hg : o.guard = none) (ho : o.dst = none) (h : Does P a o w K) (k : ∀ v w', K v w' → ∀ a, Sl N L a → wpList P ops Q rest a w') : wpList P ops Q (o :: rest) a w :=
  wpList_plain hg fun K' hK => Does.wp (h.mono fun v w' hk => hK _ _ (by rw [ho]; exact k v w' hk _ hs))
/-- the same for an operation that only yields a value -/
theorem sv {d : Nat} (hs : Sl N L a) (hg : o.guard = none) (ho : o.dst = some d) (hd : Nat.blt d N = true) (h : RunV P a o w v) (k : ∀ a, Sl N ((d, v) :: L) a → wpList P ops Q rest a w) : wpList P ops Q (o :: rest) a w :=
  st hs hg ho hd h.does fun _ _ ⟨hv, hw⟩ a h' => by subst hv; subst hw; exact k a h'
/-- guarded: its guard's value -/
theorem yielded_of {j d : Nat} {b : Bool} (hs : Sl N L a) (hj : (ops[j]?).bind (·.dst) = some d) (hd : Nat.blt d N = true) (hv : lk L d = some (.bool b)) : yielded ops a.tmps j = some b := by
  have h := hs.sl d _ hv
  have hd' : d < a.tmps.size := by rw [hs.sz]; simpa using hd
  have h1 : a.tmps[d]? = some (.bool b) := by
    rw [Array.getD_eq_getD_getElem?, Array.getElem?_eq_getElem hd'] at h
    rw [Array.getElem?_eq_getElem hd']
    simpa using h
  unfold yielded
  simp [hj, h1]
theorem yielded_un {j d : Nat} (hs : Sl N L a) (hj : (ops[j]?).bind (·.dst) = some d) (hd : Nat.blt d N = true) (hv : lk L d = some undef) : yielded ops a.tmps j = none := by
  have h := hs.sl d _ hv
  have hd' : d < a.tmps.size := by rw [hs.sz]; simpa using hd
  have h1 : a.tmps[d]? = some undef := by
    rw [Array.getD_eq_getD_getElem?, Array.getElem?_eq_getElem hd'] at h
    rw [Array.getElem?_eq_getElem hd']
    simpa using h
  unfold yielded
  simp [hj, h1]
  rfl
theorem sty {d j e : Nat} {b : Bool} (hs : Sl N L a) (hg : o.guard = some (j, b)) (hj : (ops[j]?).bind (·.dst) = some e) (he : Nat.blt e N = true) (hv : lk L e = some (.bool b)) (ho : o.dst = some d) (hd : Nat.blt d N = true) (h : Does P a o w K) (k : ∀ v w', K v w' → ∀ a, Sl N ((d, v) :: L) a → wpList P ops Q rest a w') : wpList P ops Q (o :: rest) a w :=
  wpList_step fun K' hK => by
    rw [if_pos (by simp [Region.wanted, hg, yielded_of hs hj he hv])]
    exact Does.wp (h.mono fun v w' hk => hK _ _ (by rw [ho]; exact k v w' hk _ (hs.put v hd)))
theorem svy {d j e : Nat} {b : Bool} (hs : Sl N L a) (hg : o.guard = some (j, b)) (hj : (ops[j]?).bind (·.dst) = some e) (he : Nat.blt e N = true) (hv : lk L e = some (.bool b)) (ho : o.dst = some d) (hd : Nat.blt d N = true) (h : RunV P a o w v) (k : ∀ a, Sl N ((d, v) :: L) a → wpList P ops Q rest a w) : wpList P ops Q (o :: rest) a w :=
  sty hs hg hj he hv ho hd h.does fun _ _ ⟨hv, hw⟩ a h' => by subst hv; subst hw; exact k a h'
/-- not wanted -/
theorem sno {d j e : Nat} {b c : Bool} (hs : Sl N L a) (hg : o.guard = some (j, b)) (hj : (ops[j]?).bind (·.dst) = some e) (he : Nat.blt e N = true) (hv : lk L e = some (.bool c)) (hbc : (c == b) = false) (ho : o.dst = some d) (hd : Nat.blt d N = true) (k : ∀ a, Sl N ((d, undef) :: L) a → wpList P ops Q rest a w) : wpList P ops Q (o :: rest) a w :=
  wpList_step fun K' hK => by
    rw [if_neg (by simp only [Region.wanted, hg, yielded_of hs hj he hv]; simpa using hbc)]
    exact hK _ _ (by rw [ho]; exact k _ (hs.put undef hd))
theorem snu {d j e : Nat} {b : Bool} (hs : Sl N L a) (hg : o.guard = some (j, b)) (hj : (ops[j]?).bind (·.dst) = some e) (he : Nat.blt e N = true) (hv : lk L e = some undef) (ho : o.dst = some d) (hd : Nat.blt d N = true) (k : ∀ a, Sl N ((d, undef) :: L) a → wpList P ops Q rest a w) : wpList P ops Q (o :: rest) a w :=
  wpList_step fun K' hK => by
    rw [if_neg (by simp [Region.wanted, hg, yielded_un hs hj he hv])]
    exact hK _ _ (by rw [ho]; exact k _ (hs.put undef hd))

/-- the operation is wanted: it has no guard, or its guard says so -/
inductive Wnt (ops : Array Oper) (N : Nat) (L : List (Nat × Value)) (o : Oper) : Prop
  | none (h : o.guard = none) : Wnt ops N L o
  | some {j e : Nat} {b : Bool} (h : o.guard = some (j, b)) (hj : (ops[j]?).bind (·.dst) = Option.some e) (he : Nat.blt e N = true) (hv : lk L e = Option.some (.bool b)) : Wnt ops N L o
theorem Wnt.yes (hs : Sl N L a) (h : Wnt ops N L o) : Region.wanted o (yielded ops a.tmps) = true := by
  cases h with
  | none h => simp [Region.wanted, h]
  | some h hj he hv => simp [Region.wanted, h, yielded_of hs hj he hv]
theorem dv {d : Nat} (hs : Sl N L a) (hg : Wnt ops N L o) (ho : o.dst = some d) (hd : Nat.blt d N = true) (h : Does P a o w K) (k : ∀ v w', K v w' → ∀ a, Sl N ((d, v) :: L) a → wpList P ops Q rest a w') : wpList P ops Q (o :: rest) a w :=
  wpList_step fun K' hK => by
    rw [if_pos (hg.yes hs)]
    exact Does.wp (h.mono fun v w' hk => hK _ _ (by rw [ho]; exact k v w' hk _ (hs.put v hd)))
theorem wv {d : Nat} (hs : Sl N L a) (hg : Wnt ops N L o) (ho : o.dst = some d) (hd : Nat.blt d N = true) (h : RunV P a o w v) (k : ∀ a, Sl N ((d, v) :: L) a → wpList P ops Q rest a w) : wpList P ops Q (o :: rest) a w :=
  dv hs hg ho hd h.does fun _ _ ⟨hv, hw⟩ a h' => by subst hv; subst hw; exact k a h'

/-! #### control -/
theorem cIf {c : Operand} {A B : Code} {b : Bool} (hs : Sl N L a) (hc : ev L c = some (.bool b)) (ht : b = true → A.wp P Q a w) (hf : b = false → B.wp P Q a w) : (Code.cond c A B).wp P Q a w :=
  wp_cond_split (hs.ev hc) ht hf
theorem cTrue {c : Operand} {A B : Code} {b : Bool} (hs : Sl N L a) (hc : ev L c = some (.bool b)) (hb : b = true) (ht : A.wp P Q a w) : (Code.cond c A B).wp P Q a w :=
  cIf hs hc (fun _ => ht) fun h => by rw [hb] at h; cases h
theorem cFalse {c : Operand} {A B : Code} {b : Bool} (hs : Sl N L a) (hc : ev L c = some (.bool b)) (hb : b = false) (hf : B.wp P Q a w) : (Code.cond c A B).wp P Q a w :=
  cIf hs hc (fun h => by rw [hb] at h; cases h) fun _ => hf
theorem cCond {c : Operand} {A B : Code} (h : (Code.cond c A B).wp P Q a w) : (Code.cond c A B).wp P Q a w := h
/-- two pieces with what is known between them -/
theorem cCut {A B : Code} (R : Act → World → Prop) (h : A.wp P (Exit.then R Q) a w) (k : ∀ a w, R a w → B.wp P Q a w) : (Code.seq A B).wp P Q a w :=
  wp_seq (wp_mono h fun e a w q => by cases e <;> first | exact q | exact k a w q)
/-- a loop, by what holds at its head of some x, and a number that every round lowers -/
theorem cLoop {X : Type} {c : Code} (I : X → Act → World → Prop) (m : X → Nat) (x0 : X) (h0 : I x0 a w) (hr : ∀ x a w, I x a w → c.wp P (Exit.then (fun a' w' => ∃ x', m x' < m x ∧ I x' a' w') Q) a w) : (Code.loop c).wp P Q a w := by
  refine wp_loop_ghost (fun n a w => ∃ x, m x = n ∧ I x a w) (m x0) ⟨x0, rfl, h0⟩ fun n a w ⟨x, hx, hI⟩ => ?_
  refine wp_mono (hr x a w hI) fun e a' w' q => ?_
  cases e <;> first | exact q | skip
  obtain ⟨x', h1, h2⟩ := q
  exact ⟨m x', by rw [← hx]; exact h1, x', rfl, h2⟩

/-! #### how a walk goes from one piece to the next: each by its shape alone -/
/-- what stands at an exit: behind a name -/
def Goes (Q : Exit → Act → World → Prop) (e : Exit) (a : Act) (w : World) : Prop := Q e a w
theorem lCons (h : wpList P ops Q (o :: rest) a w) : wpList P ops Q (o :: rest) a w := h
theorem lNilThen {n : Act → World → Prop} (h : n a w) : wpList P ops (Exit.then n Q) [] a w := h
theorem lNilBlock {i : Nat} (h : wpList P ops Q [] a w) : wpList P ops (Exit.inBlock i Q) [] a w := h
theorem lNil (h : Goes Q .normal a w) : wpList P ops Q [] a w := h
theorem cExit {i : Nat} (h : Goes Q (.exit i) a w) : (Code.exit i).wp P Q a w := wp_exit h
theorem cRet (h : Goes Q .ret a w) : Code.ret.wp P Q a w := wp_ret h
theorem cSkip (h : Goes Q .normal a w) : Code.skip.wp P Q a w := wp_skip h
theorem gThen {n : Act → World → Prop} (h : n a w) : Goes (Exit.then n Q) .normal a w := h
theorem gBlock {i : Nat} (h : Goes Q .normal a w) : Goes (Exit.inBlock i Q) .normal a w := h
theorem eThen {n : Act → World → Prop} {i : Nat} (h : Goes Q (.exit i) a w) : Goes (Exit.then n Q) (.exit i) a w := h
theorem eBlockHit {i : Nat} (h : Goes Q .normal a w) : Goes (Exit.inBlock i Q) (.exit i) a w := by
  show (if i = i then Q .normal a w else Q (.exit i) a w)
  rw [if_pos rfl]; exact h
theorem eBlock {i j : Nat} (hij : Nat.beq i j = false) (h : Goes Q (.exit i) a w) : Goes (Exit.inBlock j Q) (.exit i) a w := by
  show (if i = j then Q .normal a w else Q (.exit i) a w)
  rw [if_neg (fun e => by subst e; simp at hij)]; exact h
theorem rThen {n : Act → World → Prop} (h : Goes Q .ret a w) : Goes (Exit.then n Q) .ret a w := h
theorem rBlock {i : Nat} (h : Goes Q .ret a w) : Goes (Exit.inBlock i Q) .ret a w := h

/-! #### beginning and end -/
def slotsOf : Nat → List Value → List (Nat × Value)
  | _, [] => []
  | n, v :: r => (n, v) :: slotsOf (n + 1) r
theorem lk_slotsOf : ∀ (vs : List Value) (n k : Nat) (v : Value), lk (slotsOf n vs) k = some v → n ≤ k ∧ vs[k - n]? = some v
  | [], n, k, v, h => by cases h
  | u :: r, n, k, v, h => by
    simp only [slotsOf, lk] at h
    cases hb : Nat.beq n k with
    | true =>
      rw [hb] at h
      have : n = k := Nat.eq_of_beq_eq_true hb
      subst this
      simpa using h
    | false =>
      rw [hb] at h
      have h1 : n ≠ k := fun e => by subst e; simp at hb
      obtain ⟨h2, h3⟩ := lk_slotsOf r (n + 1) k v h
      refine ⟨by omega, ?_⟩
      have e : k - n = (k - (n + 1)) + 1 := by omega
      rw [e]; simpa using h3
theorem Sl.enter {vs : List Value} (hN : vs.length ≤ N) : Sl N (slotsOf 0 vs) { tmps := vs.toArray ++ Array.replicate (N - vs.length) undef, defers := [] } := by
  refine ⟨rfl, by simp; omega, fun k v hk => ?_⟩
  obtain ⟨_, h⟩ := lk_slotsOf vs 0 k v hk
  have hlt : k < vs.length := by
    rcases Nat.lt_or_ge k vs.length with h1 | h1
    · exact h1
    · rw [List.getElem?_eq_none (by simpa using h1)] at h; cases h
  rw [Array.getD_eq_getD_getElem?, Array.getElem?_append_left (by simpa using hlt)]
  simp at h ⊢
  rw [h]; rfl
theorem enter {f : FuncId} {fn : Func} {c : Code} {vs : List Value} {R : Ending → World → Prop} (hf : P.funcs[f]? = some fn) (hb : fn.body = some c) (hn : fn.ntmps = N) (hN : Nat.ble vs.length N = true)
    (h : ∀ a, Sl N (slotsOf 0 vs) a → c.wp P (bodyPost P fn R) a w) : Calls P f vs.toArray w R := by
  subst hn
  exact calls_of_wp hf hb (by rw [List.size_toArray]; exact h _ (Sl.enter (by simpa using hN)))
theorem enterR {f : FuncId} {fn : Func} {c : Code} {vs : List Value} (hf : P.funcs[f]? = some fn) (hb : fn.body = some c) (hn : fn.ntmps = N) (hN : Nat.ble vs.length N = true)
    (h : ∀ a, Sl N (slotsOf 0 vs) a → Mm (fun _ => False) w [] w → c.wp P (bodyPost P fn (fun e w' => ∃ v, e = .returned v ∧ K v w')) a w) : Ret P f vs w K :=
  .mk <| enter hf hb hn hN fun a hs => h a hs (Mm.nil _ _)
theorem gRet1 {fn : Func} {t : Nat} (hs : Sl N L a) (hf : fn.results = #[.tmp t]) (hv : lk L t = some v) (h : K v w) : Goes (bodyPost P fn (fun e w' => ∃ v, e = .returned v ∧ K v w')) .ret a w :=
  ⟨hs.nd, v, by rw [results_tmp hf, hs.sl t v hv], v, rfl, h⟩
theorem ret1 {fn : Func} {t : Nat} {R : Ending → World → Prop} (hs : Sl N L a) (hf : fn.results = #[.tmp t]) (hv : lk L t = some v) (h : R (.returned v) w) : bodyPost P fn R .ret a w :=
  ⟨hs.nd, v, by rw [results_tmp hf, hs.sl t v hv], h⟩
/-- a result: a slot, or a cell of memory -/
inductive ResIs (T : List (Nat × TI)) (L : List (Nat × Value)) (w : World) : ResultVar → Value → Prop
  | tmp {t : Nat} {v : Value} (h : lk L t = some v) : ResIs T L w (.tmp t) v
  | cell {t : Nat} {ty : TypeId} {i : TI} {p : Addr} {v : Value} (h : lk L t = some (.pointer (some p))) (hc : tlk T ty = some i) (hf : i.d.flat = true) (hw : w.cell? p = some v) : ResIs T L w (.cell t ty) v
  | cells {t : Nat} {ty : TypeId} {i : TI} {b n : Nat} {vs : List Value} (h : lk L t = some (.pointer (some ⟨b, n, none⟩))) (hc : tlk T ty = some i) (hf : i.d.flat = false) (hl : vs.length = i.sz) (hw : Ro w b n vs) : ResIs T L w (.cell t ty) (.agg vs.toArray)
inductive AllRes (T : List (Nat × TI)) (L : List (Nat × Value)) (w : World) : List ResultVar → List Value → Prop
  | nil : AllRes T L w [] []
  | cons {r : ResultVar} {v : Value} {rs : List ResultVar} {vs : List Value} (h : ResIs T L w r v) (t : AllRes T L w rs vs) : AllRes T L w (r :: rs) (v :: vs)
theorem ResIs.run {r : ResultVar} (hT : TabOk P T) (hs : Sl N L a) (h : ResIs T L w r v) : Sem.run P (match r with | .tmp t => (pure (a.tmps.getD t undef) : Sem Value) | .cell b t => do loadVar t (← asAddr (a.tmps.getD b undef))) w = .ok v w := by
  cases h with
  | tmp h => simp only [hs.sl _ _ h, Sem.run_pure]
  | cell h hc hf hw => simp [hs.sl _ _ h, asAddr, loadVar, run_isAgg (hT _ _ hc), hf, hw]
  | cells h hc hf hl hw =>
    rename_i b n vs
    have h' := run_loadCells_list (P := P) w ⟨b, n, none⟩ vs (fun j u hu => by rw [add_lit]; exact hw j u hu)
    rw [hl] at h'
    simp [hs.sl _ _ h, asAddr, loadVar, run_isAgg (hT _ _ hc), hf, run_sizeOf (hT _ _ hc), h']
theorem AllRes.run {rs : List ResultVar} {vs : List Value} (hT : TabOk P T) (hs : Sl N L a) (h : AllRes T L w rs vs) : Sem.run P (rs.mapM fun r => match r with | .tmp t => (pure (a.tmps.getD t undef) : Sem Value) | .cell b t => do loadVar t (← asAddr (a.tmps.getD b undef))) w = .ok vs w := by
  induction h with
  | nil => simp
  | cons h _ ih =>
    have h1 := h.run hT hs
    simp only [List.mapM_cons, Sem.run_bind]
    rw [h1]
    simp only [Result.andThen_ok]
    rw [ih]
    simp
def resV : List Value → Value
  | [v] => v
  | vs => .tuple vs.toArray
theorem retN {fn : Func} {rs : List ResultVar} {vs : List Value} {R : Ending → World → Prop} (hT : TabOk P T) (hs : Sl N L a) (hf : fn.results = rs.toArray) (hv : AllRes T L w rs vs) (h : R (.returned (resV vs)) w) : bodyPost P fn R .ret a w := by
  refine ⟨hs.nd, _, ?_, h⟩
  have h1 := hv.run hT hs
  unfold results
  simp only [hf, Sem.run_bind, List.mapM_toArray, Sem.run_map]
  erw [h1]
  simp only [Result.andThen_ok, Sem.run_pure, List.size_toArray]
  cases vs with
  | nil => rfl
  | cons v r => cases r <;> rfl
theorem gRetN {fn : Func} {rs : List ResultVar} {vs : List Value} (hT : TabOk P T) (hs : Sl N L a) (hf : fn.results = rs.toArray) (hv : AllRes T L w rs vs) (h : K (resV vs) w) : Goes (bodyPost P fn (fun e w' => ∃ v, e = .returned v ∧ K v w')) .ret a w := retN hT hs hf hv ⟨_, rfl, h⟩
/-- the end of a function's text without 'return' -/
theorem retEnd {fn : Func} {rs : List ResultVar} {vs : List Value} {R : Ending → World → Prop} (hT : TabOk P T) (hs : Sl N L a) (hf : fn.results = rs.toArray) (hv : AllRes T L w rs vs) (h : R (.returned (resV vs)) w) : bodyPost P fn R .normal a w := retN hT hs hf hv h
end
end Go.Proofs.YtlapnhpaedkgcaaDoor
