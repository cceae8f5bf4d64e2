/- Allocations, stores, appends, calls; the steps of a walk. -/
import Derived.Test.YtlapnhpaedkgcaaDoorEng4
namespace Go.Proofs.YtlapnhpaedkgcaaDoor
open Go.RowKit

section
variable {P : Program} {T : List (Nat × TI)} {N : Nat} {L : List (Nat × Value)} {a : Act} {w w0 : World} {S : Nat → Prop} {M M' : List Hp} {o : Oper} {x y z : Operand} {v u : Value} {K : Value → World → Prop}

theorem d_alloc {e : TypeId} {i : TI} {cs : List Value} (ho : o.op = .alloc e) (hT : TabOk P T) (hc : tlk T e = some i) (hz : vcF i.z = some cs) (hm : Mm S w0 M w) :
    Does P a o w (fun v w' => ∃ g, v = .pointer (some ⟨g, 0, none⟩) ∧ w.heap.size ≤ g ∧ Mm S w0 (⟨some g, e, cs⟩ :: M) w') := by
  replace hz := vcF_ok hz
  unfold Does execOp
  simp [ho, Instr.alloc, run_zero (hT _ _ hc), newVar, newRow, hz.eq]
  exact hm.alloc e cs
theorem d_box {e : TypeId} {cs : List Value} (hs : Sl N L a) (ho : o.op = .box e x) (hx : ev L x = some v) (hz : vcF v = some cs) (hm : Mm S w0 M w) :
    Does P a o w (fun v w' => ∃ g, v = .pointer (some ⟨g, 0, none⟩) ∧ w.heap.size ≤ g ∧ Mm S w0 (⟨some g, e, cs⟩ :: M) w') := by
  replace hz := vcF_ok hz
  replace hx := hs.ev hx
  unfold Does execOp
  simp [ho, hx, Instr.box, newVar, newRow, hz.eq]
  exact hm.alloc e cs
def zrep : Nat → List Value → List Value
  | 0, _ => []
  | n + 1, z => z ++ zrep n z
theorem zrep_eq (n : Nat) (z : List Value) : (Array.range (n * z.length)).map (fun k => z.toArray[k % z.toArray.size]!) = (zrep n z).toArray := by
  induction n with
  | zero => simp [zrep, Array.range]
  | succ n ih =>
    rcases Nat.eq_zero_or_pos z.length with h0 | h0
    · have : z = [] := List.eq_nil_of_length_eq_zero h0
      subst this
      have e : ∀ m, zrep m [] = [] := fun m => by induction m <;> simp_all [zrep]
      simp [e, Array.range]
    · have hz : (zrep n z).length = n * z.length := by
        have := congrArg Array.size ih
        simpa using this.symm
      apply Array.ext
      · simp [zrep, hz, Nat.succ_mul, Nat.add_comm]
      · intro k h1 h2
        have hk : k < (n + 1) * z.length := by simpa using h1
        simp only [Array.getElem_map, Array.getElem_range, zrep, List.getElem_toArray]
        by_cases hlt : k < z.length
        · rw [List.getElem_append_left hlt]
          simp [Nat.mod_eq_of_lt hlt, hlt]
        · rw [List.getElem_append_right (by omega)]
          have hk' : k - z.length < n * z.length := by rw [Nat.succ_mul] at hk; omega
          have e := congrArg (fun (A : Array Value) => A[k - z.length]?) ih
          simp only [Array.getElem?_map, List.getElem?_toArray] at e
          rw [List.getElem?_eq_getElem (by rw [hz]; exact hk')] at e
          rw [Array.getElem?_range, if_pos hk'] at e
          simp only [Option.map_some, Option.some.injEq] at e
          rw [← e]
          congr 1
          rw [Nat.mod_eq_sub_mod (by simpa using Nat.le_of_not_lt hlt)]
          simp
/-- a slice literal -/
theorem d_buildSlice {t e : TypeId} {n : Nat} {i j : TI} {ps : List (Nat × Operand)} {vs : List (Nat × Value)} {zs cs : List Value} (hs : Sl N L a) (ho : o.op = .buildSlice t n ps.toArray) (hT : TabOk P T) (hc : tlk T t = some i) (hd : i.d = .sl e) (he : tlk T e = some j) (hn : Nat.blt (n * j.sz) 16777216 = true) (h0 : Nat.beq (n * j.sz) 0 = false) (hp : evp L ps = some vs) (hz : vcF j.z = some zs) (hzl : zs.length = j.sz) (hf : fillAF j.sz vs (zrep n zs) = some cs) (hm : Mm S w0 M w) :
    Does P a o w (fun v w' => ∃ g, v = .slice (some ⟨g, 0, none⟩) n n ∧ w.heap.size ≤ g ∧ Mm S w0 (⟨some g, e, cs⟩ :: M) w') := by
  replace hz := vcF_ok hz
  replace hf := fillAF_ok hf
  replace hp := hs.evp hp
  have hfl := hf.fill
  have hn' : ¬ n * j.sz > 2 ^ 24 := by have : n * j.sz < 16777216 := by simpa using hn
                                       omega
  have h0' : ¬ n * j.sz = 0 := fun e => by rw [e] at h0; cases h0
  have hzr := zrep_eq n zs
  rw [hzl] at hzr
  unfold Does execOp
  simp only [ho, Instr.buildSlice, Sem.run_bind, run_und ((hT _ _ hc).sl hd), run_sizeOf (hT _ _ he), Result.andThen_ok, if_neg hn', if_neg h0', Sem.run_pure, run_zero (hT _ _ he), hz.eq, hzr]
  simp only [List.map_toArray, hp, hfl]
  simp [newRow]
  exact hm.alloc e cs
theorem d_makeSlice {t e : TypeId} {n : Nat} {kk kl : IntKind} {i j : TI} {zs : List Value} (hs : Sl N L a) (ho : o.op = .makeSlice t x y) (hx : ev L x = some (.int kk (n : Int))) (hy : ev L y = some (.int kl (n : Int))) (hT : TabOk P T) (hc : tlk T t = some i) (hd : i.d = .sl e) (he : tlk T e = some j) (hz : vcF j.z = some zs) (hzl : zs.length = j.sz) (hn : n ≤ 1048576) (hsz : Nat.ble j.by_ 1048576 = true) (hm : Mm S w0 M w) :
    Does P a o w (fun v w' => ∃ g, v = .slice (some ⟨g, 0, none⟩) n n ∧ w.heap.size ≤ g ∧ Mm S w0 (⟨some g, e, zrep n zs⟩ :: M) w') := by
  replace hz := vcF_ok hz
  replace hx := hs.ev hx; replace hy := hs.ev hy
  obtain ⟨i0, h1, h2, h3, h4⟩ := (hT _ _ he).info
  have hb : j.by_ ≤ 1048576 := by simpa using hsz
  have hmul : j.by_ * n ≤ 1048576 * 1048576 := Nat.mul_le_mul hb hn
  have := run_make w t e i0 j.z ((hT _ _ hc).sl hd) h1 h2 kk kl n n (by omega) (by omega) (by rw [h4]; rw [← Int.natCast_mul]; exact Int.ofNat_le.2 (show j.by_ * n ≤ 281474976710656 by omega)) (by omega)
  have e1 : madeCells j.z.cells (n * i0.size) = (zrep n zs).toArray := by
    rw [h3, hz.eq, ← hzl, ← zrep_eq]
    rfl
  simp only [Int.toNat_natCast] at this
  rw [e1] at this
  unfold Does execOp
  simp only [ho, hx, hy, Sem.run_bind, this, Result.andThen_ok]
  exact ⟨_, rfl, Nat.le_refl _, hm.alloc e _⟩

/-! #### stores -/
theorem setRow_fr {g : Nat} {A : Array Value} : Fr (fun k => (some g : Option Nat) = some k) w (w.setRow g A) := by
  refine ⟨rfl, rfl, rfl, by simp [World.setRow], fun k hk hne => ?_⟩
  have : ¬ g = k := fun e => hne (by rw [e])
  simp [World.setRow, Array.getElem?_modify, this]
theorem setRow_sat {g : Nat} {t : TypeId} {cs ds : List Value} (h : (⟨some g, t, cs⟩ : Hp).sat w) : (⟨some g, t, ds⟩ : Hp).sat (w.setRow g ds.toArray) := by
  have h' : w.heap[g]? = some (.cells cs.toArray t (0, 0)) := h
  show (w.setRow g ds.toArray).heap[g]? = _
  exact setRow_heap w g _ _ t _ h'
theorem Mm.store (hm : Mm S w0 M w) {g : Nat} {t : TypeId} {cs ds : List Value} (hr : Rep M ⟨some g, t, cs⟩ ⟨some g, t, ds⟩ M') : Mm S w0 M' (w.setRow g ds.toArray) :=
  hm.turn hr setRow_fr (setRow_sat (hm.me _ hr.mem)) fun _ hk => .inl hk
theorem run_store_hp {g n : Nat} {t ty : TypeId} {i : TI} {cs ds vs : List Value} (hT : TabOk P T) (hc : tlk T ty = some i) (hl : vs.length = i.sz) (hz : VC v vs) (h1 : vs.all (·.oneCell') = true) (hp : Put cs n vs ds) (hs : (⟨some g, t, cs⟩ : Hp).sat w) :
    Sem.run P (Instr.storeAt ty (.pointer (some ⟨g, n, none⟩)) v) w = .ok () (w.setRow g ds.toArray) := by
  obtain ⟨h2, rfl⟩ := hp.eq
  have := run_storeCells_at (P := P) g n t vs 0 cs.toArray w hs (by simpa using h2) (fun u hu => List.all_eq_true.1 h1 u hu)
  simp only [Nat.add_zero] at this
  simp [Instr.storeAt, Instr.sureAddr, storeVar, run_sizeOf (hT _ _ hc), hz.eq, hl, this]
/-- a store: cells at a place that is given by a number -/
theorem d_store {g n : Nat} {t ty : TypeId} {i : TI} {cs ds vs : List Value} (hs : Sl N L a) (ho : o.op = .store ty x y) (hx : ev L x = some (.pointer (some ⟨g, n, none⟩))) (hy : ev L y = some v) (hT : TabOk P T) (hc : tlk T ty = some i) (hz : vcF v = some vs) (hl : vs.length = i.sz) (h1 : vs.all (·.oneCell') = true) (hm : Mm S w0 M w) (hr : Rep M ⟨some g, t, cs⟩ ⟨some g, t, ds⟩ M') (hp : putF cs n vs = some ds) :
    Does P a o w (fun _ w' => Mm S w0 M' w') := by
  replace hz := vcF_ok hz
  replace hp := putF_ok hp
  replace hx := hs.ev hx; replace hy := hs.ev hy
  unfold Does execOp
  simp only [ho, hx, hy, Sem.run_bind, run_store_hp hT hc hl hz h1 hp (hm.me _ hr.mem), Result.andThen_ok]
  exact hm.store hr
theorem Put.one {cs : List Value} {n : Nat} {v : Value} (hn : n < cs.length) : Put cs n [v] (cs.set n v) := by
  induction cs generalizing n with
  | nil => simp at hn
  | cons c r ih =>
    cases n with
    | zero => exact .cons c v (.nil r)
    | succ n => exact .skip c (ih (by simpa using hn))
theorem putF_nil (cs : List Value) : putF cs 0 [] = some cs := by cases cs <;> rfl
theorem putF_one {cs : List Value} {n : Nat} {v : Value} (hn : n < cs.length) : putF cs n [v] = some (cs.set n v) := by
  induction cs generalizing n with
  | nil => simp at hn
  | cons c r ih =>
    cases n with
    | zero => simp [putF, putF_nil]
    | succ n => simp only [putF, ih (show n < r.length by simpa using hn), List.set_cons_succ]
/-- a store of one cell, wherever -/
theorem d_store1 {g n : Nat} {t ty : TypeId} {i : TI} {cs : List Value} (hs : Sl N L a) (ho : o.op = .store ty x y) (hx : ev L x = some (.pointer (some ⟨g, n, none⟩))) (hy : ev L y = some v) (hT : TabOk P T) (hc : tlk T ty = some i) (hz : vcF v = some [v]) (hl : Nat.beq i.sz 1 = true) (h1 : v.oneCell' = true) (hm : Mm S w0 M w) (hr : Rep M ⟨some g, t, cs⟩ ⟨some g, t, cs.set n v⟩ M') (hn : n < cs.length) :
    Does P a o w (fun _ w' => Mm S w0 M' w') :=
  d_store hs ho hx hy hT hc hz (by rw [Nat.eq_of_beq_eq_true hl]; rfl) (by simp [h1]) hm hr (putF_one hn)

/-! #### append -/
theorem d_append {t e : TypeId} {i j : TI} {A : Option Nat} {A2 : Option Addr} {n c m c2 g2 o2 : Nat} {xs cs news : List Value} {ts : Array TypeId} (hs : Sl N L a) (ho : o.op = .call { callee := .builtin .append, args := #[x, y], argTypes := ts }) (hx : ev L x = some (slv A n c)) (hy : ev L y = some (.slice A2 m c2)) (hA2 : A2 = some ⟨g2, o2, none⟩) (hts : ts = #[t, t]) (hT : TabOk P T) (hc : tlk T t = some i) (hd : i.d = .sl e) (he : tlk T e = some j) (hsz : Nat.blt 0 j.sz = true) (hzl : j.z.cells.size = j.sz)
    (hm : Mm S w0 M w) (hM : (⟨A, e, cs⟩ : Hp) ∈ M) (hr : Row A n c j.sz xs cs) (hl : news.length = m * j.sz) (hnew : Ro w g2 o2 news) (h1 : news.all (·.oneCell') = true) (hb : (n + m) * j.by_ ≤ 140737488355328) (h63 : n + m ≤ 140737488355328) :
    Does P a o w (fun v w' => ∃ A' c' cs', v = slv A' (n + m) c' ∧ Row A' (n + m) c' j.sz (xs ++ news) cs' ∧ ∀ M', Rep M ⟨A, e, cs⟩ ⟨A', e, cs'⟩ M' → Mm S w0 M' w') := by
  replace hx := hs.ev hx; replace hy := hs.ev hy
  subst hA2; subst hts
  obtain ⟨i0, q1, q2, q3, q4⟩ := (hT _ _ he).info
  have hsz' : 0 < j.sz := by simpa using hsz
  have hown := hr.own (w := w) (base := 0) (hm.me _ hM) (fun g _ => Nat.zero_le _)
  obtain ⟨v', w', hrun, k1, k2, k3, k4⟩ := run_append_own_at (P := P) w 0 t o.type e i0 j.z j.sz j.by_ ((hT _ _ hc).sl hd) q1 q2 q3 q4 hzl hsz' _ n xs hown ⟨g2, o2, none⟩ m c2 news hl
    (fun k u hu => by rw [add_lit]; exact hnew k u hu) (fun u hu => List.all_eq_true.1 h1 u hu) (by unfold maxLen; omega) hb (Nat.zero_le _)
  obtain ⟨A', c', cs', rfl, hrow, hsat, hg'⟩ := Row.of_own k1
  unfold Does execOp resolve invoke builtin
  simp only [ho, Sem.run_bind, Sem.run_pure, Result.andThen_ok, List.map_toArray, List.map_cons, List.map_nil, hx, hy, hrun]
  have hob : (slv A n c).ownBlock = A := by cases A <;> rfl
  rw [hob] at k2 k4
  refine ⟨A', c', cs', rfl, hrow, fun M' hR => hm.turn hR ⟨k2.os, k2.tape, k2.output, k2.size, fun k hk hne => k2.block k hk (fun e => hne e.symm)⟩ hsat fun g hg => ?_⟩
  have h5 := (hg' g hg).1
  have hob' : (slv A' (n + m) c').ownBlock = A' := by cases A' <;> rfl
  rw [hob'] at k4
  rcases k4 with h6 | h6
  · left; show A = some g; rw [← h6]; exact hg
  · right; have h7 : A' = some g := hg
    rw [h7] at h6; cases h6; exact Nat.le_refl _

/-! #### calls -/
structure plain (P : Program) (f : FuncId) : Prop where
  h : (P.funcs[f]?).map (fun fn => !(fn.name == "runtime.NumGoroutine") && fn.body.isSome) = some true
/-- what a call gives -/
structure Ret (P : Program) (f : FuncId) (vs : List Value) (w : World) (K : Value → World → Prop) : Prop where
  c : Calls P f vs.toArray w (fun e w' => ∃ v, e = .returned v ∧ K v w')
theorem Ret.mono {f : FuncId} {vs : List Value} {K' : Value → World → Prop} (h : Ret P f vs w K) (hk : ∀ v w', K v w' → K' v w') : Ret P f vs w K' := .mk <| Calls.mono h.c fun _ _ ⟨v, he, hv⟩ => ⟨v, he, hk _ _ hv⟩
theorem d_callC {fo : Operand} {xs : List Operand} {vs caps : List Value} {ts : Array TypeId} {f : FuncId} (hs : Sl N L a) (ho : o.op = .call { callee := .value fo, args := xs.toArray, argTypes := ts }) (hf : ev L fo = some (.func (.func f) #[] caps.toArray)) (hx : evs L xs = some vs) (hp : plain P f)
    (hc : Ret P f (vs ++ caps) w K) : Does P a o w K := by
  replace hf := hs.ev hf; replace hx := hs.evs hx
  replace hp := hp.h
  rw [Option.map_eq_some_iff] at hp
  obtain ⟨fn, h1, h2⟩ := hp
  simp only [Bool.and_eq_true, Bool.not_eq_true'] at h2
  have h3 : fn.body.isNone = false := by cases hb : fn.body <;> simp_all
  unfold Does execOp resolve Deferred.ofValue
  simp only [ho, hf, Sem.run_bind, Sem.run_pure, Result.andThen_ok, List.map_toArray, hx]
  unfold invoke callFunc
  simp only [Sem.run_bind, run_program, Result.andThen_ok, h1, h2.1, h3, Bool.false_eq_true, if_false, Sem.run_pure, List.append_toArray]
  exact hc.c
theorem d_call {fo : Operand} {xs : List Operand} {vs : List Value} {ts : Array TypeId} {f : FuncId} (hs : Sl N L a) (ho : o.op = .call { callee := .value fo, args := xs.toArray, argTypes := ts }) (hf : ev L fo = some (.func (.func f) #[] #[])) (hx : evs L xs = some vs) (hp : plain P f)
    (hc : Ret P f vs w K) : Does P a o w K := d_callC (caps := []) hs ho hf hx hp (by rw [List.append_nil]; exact hc)
end
end Go.Proofs.YtlapnhpaedkgcaaDoor
