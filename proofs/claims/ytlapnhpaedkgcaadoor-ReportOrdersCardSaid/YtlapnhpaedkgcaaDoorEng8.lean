/- Regions that draw their order: those that only read, in the order of the text; others, whatever comes up. -/
import Derived.Test.YtlapnhpaedkgcaaDoorEng7
import Derived.Deep.Quiet
namespace Go.Proofs.YtlapnhpaedkgcaaDoor
open Go.RowKit

/-- an operation that makes no memory and writes none (a call of a Go function may) -/
def quietOp : Op → Bool
  | .alloc _ | .box .. | .buildSlice .. | .store .. | .makeMap .. | .makeChan .. | .makeSlice .. | .mapUpdate .. | .insert .. | .mapEntry .. | .entryStore .. | .go _ | .defer _ | .panic _ | .send .. | .recv .. | .select .. | .range .. | .next .. | .entry _ => false
  | .call { callee := .builtin .append, .. } | .call { callee := .builtin .copy, .. } | .call { callee := .builtin .delete, .. } | .call { callee := .builtin .clear, .. } => false
  | _ => true
section
variable {P : Program} {T : List (Nat × TI)} {N : Nat} {L : List (Nat × Value)} {a : Act} {w w0 : World} {S : Nat → Prop} {M : List Hp} {o : Oper} {x y z : Operand} {v u : Value} {ops : Array Oper} {rest : List Oper} {Q : Exit → Act → World → Prop} {C : World → Prop} {Qa : Act → Prop}

theorem cQuiet {id : Nat} {l : List Oper} (hm : Mm S w0 M w) (hq : l.all (fun o => quietOp o.op) = true) (hf : P.follows .mixedOrders = true) (hB : Region.lexB .any l.toArray = true)
    (h : wpQuiet P l.toArray (fun w' => Mm S w0 M w') (fun a' => ∀ w', Mm S w0 M w' → Goes Q .normal a' w') l a) : (Code.region id l.toArray true).wp P Q a w :=
  (fun _ => wp_region_quiet (C := fun w' => Mm S w0 M w') hf hB hm.drew (show wpQuiet P l.toArray _ _ l.toArray.toList a from h)) hq
theorem qNil (h : ∀ w', Mm S w0 M w' → Goes Q .normal a w') : wpQuiet P ops C (fun a' => ∀ w', Mm S w0 M w' → Goes Q .normal a' w') [] a := h
theorem qCons (h : wpQuiet P ops C Qa (o :: rest) a) : wpQuiet P ops C Qa (o :: rest) a := h
theorem qquiet (h : ∀ w, C w → RunV P a o w v) (k : Qa (a.put o.dst v)) : o.quiet P a C Qa :=
  ⟨v, fun w hw => by unfold Oper.quietAt; rw [show (execOp a.eval o).run P w = _ from h w hw]; exact ⟨rfl, rfl⟩, k⟩
/-- a call that gives one value, whatever the world of the class -/
theorem qquietC {fo : Operand} {xs : List Operand} {vs caps : List Value} {ts : Array TypeId} {f : FuncId} (hs : Sl N L a) (ho : o.op = .call { callee := .value fo, args := xs.toArray, argTypes := ts }) (hf : ev L fo = some (.func (.func f) #[] caps.toArray)) (hx : evs L xs = some vs) (hp : plain P f)
    (hc : ∀ w, C w → Ret P f (vs ++ caps) w (fun v' w' => v' = v ∧ C w')) (k : Qa (a.put o.dst v)) : o.quiet P a C Qa := by
  replace hf := hs.ev hf; replace hx := hs.evs hx
  replace hp := hp.h
  rw [Option.map_eq_some_iff] at hp
  obtain ⟨fn, h1, h2⟩ := hp
  simp only [Bool.and_eq_true, Bool.not_eq_true'] at h2
  have h3 : fn.body.isNone = false := by cases hb : fn.body <;> simp_all
  refine ⟨v, fun w hw => ?_, k⟩
  have h4 : Calls P f (vs ++ caps).toArray w (fun e w'' => e = .returned v ∧ C w'') := by
    have h5 := hc w hw
    replace h5 := h5.c
    exact Calls.mono h5 fun e w' ⟨v', he, hv, hC⟩ => by subst hv; exact ⟨he, hC⟩
  unfold Oper.quietAt execOp resolve Deferred.ofValue
  simp only [ho, hf, Sem.run_bind, Sem.run_pure, Result.andThen_ok, List.map_toArray, hx]
  unfold invoke callFunc
  simp only [Sem.run_bind, run_program, Result.andThen_ok, h1, h2.1, h3, Bool.false_eq_true, if_false, Sem.run_pure, List.append_toArray]
  exact ⟨rfl, h4⟩
theorem qv {d : Nat} (hs : Sl N L a) (hg : o.guard = none) (ho : o.dst = some d) (hd : Nat.blt d N = true) (h : ∀ w, C w → RunV P a o w v) (k : ∀ a, Sl N ((d, v) :: L) a → wpQuiet P ops C Qa rest a) : wpQuiet P ops C Qa (o :: rest) a := by
  unfold wpQuiet
  rw [if_pos (by simp [Region.wanted, hg])]
  exact qquiet h (by rw [ho]; exact k _ (hs.put v hd))
theorem qvn (hs : Sl N L a) (hg : o.guard = none) (ho : o.dst = none) (h : ∀ w, C w → RunV P a o w v) (k : wpQuiet P ops C Qa rest a) : wpQuiet P ops C Qa (o :: rest) a := by
  unfold wpQuiet
  rw [if_pos (by simp [Region.wanted, hg])]
  exact qquiet h (by rw [ho]; exact (fun _ => k) hs)
theorem qw {d : Nat} (hs : Sl N L a) (hg : Wnt ops N L o) (ho : o.dst = some d) (hd : Nat.blt d N = true) (h : ∀ w, C w → RunV P a o w v) (k : ∀ a, Sl N ((d, v) :: L) a → wpQuiet P ops C Qa rest a) : wpQuiet P ops C Qa (o :: rest) a := by
  unfold wpQuiet
  rw [if_pos (hg.yes hs)]
  exact qquiet h (by rw [ho]; exact k _ (hs.put v hd))
theorem qvy {d j e : Nat} {b : Bool} (hs : Sl N L a) (hg : o.guard = some (j, b)) (hj : (ops[j]?).bind (·.dst) = some e) (he : Nat.blt e N = true) (hv : lk L e = some (.bool b)) (ho : o.dst = some d) (hd : Nat.blt d N = true) (h : ∀ w, C w → RunV P a o w v) (k : ∀ a, Sl N ((d, v) :: L) a → wpQuiet P ops C Qa rest a) : wpQuiet P ops C Qa (o :: rest) a := by
  unfold wpQuiet
  rw [if_pos (by simp [Region.wanted, hg, yielded_of hs hj he hv])]
  exact qquiet h (by rw [ho]; exact k _ (hs.put v hd))
theorem qno {d j e : Nat} {b c : Bool} (hs : Sl N L a) (hg : o.guard = some (j, b)) (hj : (ops[j]?).bind (·.dst) = some e) (he : Nat.blt e N = true) (hv : lk L e = some (.bool c)) (hbc : (c == b) = false) (ho : o.dst = some d) (hd : Nat.blt d N = true) (k : ∀ a, Sl N ((d, undef) :: L) a → wpQuiet P ops C Qa rest a) : wpQuiet P ops C Qa (o :: rest) a := by
  unfold wpQuiet
  rw [if_neg (by simp only [Region.wanted, hg, yielded_of hs hj he hv]; simpa using hbc)]
  rw [ho]; exact k _ (hs.put undef hd)
theorem qnu {d j e : Nat} {b : Bool} (hs : Sl N L a) (hg : o.guard = some (j, b)) (hj : (ops[j]?).bind (·.dst) = some e) (he : Nat.blt e N = true) (hv : lk L e = some undef) (ho : o.dst = some d) (hd : Nat.blt d N = true) (k : ∀ a, Sl N ((d, undef) :: L) a → wpQuiet P ops C Qa rest a) : wpQuiet P ops C Qa (o :: rest) a := by
  unfold wpQuiet
  rw [if_neg (by simp [Region.wanted, hg, yielded_un hs hj he hv])]
  rw [ho]; exact k _ (hs.put undef hd)
theorem qwcall {d : Nat} {fo : Operand} {xs : List Operand} {vs : List Value} {ts : Array TypeId} {f : FuncId} (hs : Sl N L a) (hg : Wnt ops N L o) (ho' : o.dst = some d) (hd : Nat.blt d N = true) (ho : o.op = .call { callee := .value fo, args := xs.toArray, argTypes := ts }) (hf : ev L fo = some (.func (.func f) #[] #[])) (hx : evs L xs = some vs) (hp : plain P f)
    (hc : ∀ w, C w → Ret P f vs w (fun v' w' => v' = v ∧ C w')) (k : ∀ a, Sl N ((d, v) :: L) a → wpQuiet P ops C Qa rest a) : wpQuiet P ops C Qa (o :: rest) a := by
  unfold wpQuiet
  rw [if_pos (hg.yes hs)]
  exact qquietC (caps := []) hs ho hf hx hp (by rw [List.append_nil]; exact hc) (by rw [ho']; exact k _ (hs.put v hd))
theorem qcall {d : Nat} {fo : Operand} {xs : List Operand} {vs : List Value} {ts : Array TypeId} {f : FuncId} (hs : Sl N L a) (hg : o.guard = none) (ho' : o.dst = some d) (hd : Nat.blt d N = true) (ho : o.op = .call { callee := .value fo, args := xs.toArray, argTypes := ts }) (hf : ev L fo = some (.func (.func f) #[] #[])) (hx : evs L xs = some vs) (hp : plain P f)
    (hc : ∀ w, C w → Ret P f vs w (fun v' w' => v' = v ∧ C w')) (k : ∀ a, Sl N ((d, v) :: L) a → wpQuiet P ops C Qa rest a) : wpQuiet P ops C Qa (o :: rest) a := by
  unfold wpQuiet
  rw [if_pos (by simp [Region.wanted, hg])]
  exact qquietC (caps := []) hs ho hf hx hp (by rw [List.append_nil]; exact hc) (by rw [ho']; exact k _ (hs.put v hd))
theorem Sl.shadow {e : Nat} (hs : Sl N L a) (hv : lk L e = some v) : Sl N ((e, v) :: L) a := by
  refine ⟨hs.nd, hs.sz, fun k u hk => hs.sl k u ?_⟩
  simp only [lk] at hk
  cases hb : Nat.beq e k with
  | true =>
    rw [hb] at hk
    have : e = k := Nat.eq_of_beq_eq_true hb
    subst this
    simp only [cond_true, Option.some.injEq] at hk
    subst hk; exact hv
  | false => rw [hb] at hk; exact hk
/-- a guard whose value is not known: both ways -/
theorem sgs {j e : Nat} {b c : Bool} (hs : Sl N L a) (hg : o.guard = some (j, b)) (hj : (ops[j]?).bind (·.dst) = some e) (hv : lk L e = some (.bool c)) (ht : c = true → Sl N ((e, .bool true) :: L) a → wpList P ops Q (o :: rest) a w) (hf : c = false → Sl N ((e, .bool false) :: L) a → wpList P ops Q (o :: rest) a w) : wpList P ops Q (o :: rest) a w := by
  cases c
  · exact (fun _ _ => hf rfl (hs.shadow hv)) hg hj
  · exact (fun _ _ => ht rfl (hs.shadow hv)) hg hj
theorem qgs {j e : Nat} {b c : Bool} (hs : Sl N L a) (hg : o.guard = some (j, b)) (hj : (ops[j]?).bind (·.dst) = some e) (hv : lk L e = some (.bool c)) (ht : c = true → Sl N ((e, .bool true) :: L) a → wpQuiet P ops C Qa (o :: rest) a) (hf : c = false → Sl N ((e, .bool false) :: L) a → wpQuiet P ops C Qa (o :: rest) a) : wpQuiet P ops C Qa (o :: rest) a := by
  cases c
  · exact (fun _ _ => hf rfl (hs.shadow hv)) hg hj
  · exact (fun _ _ => ht rfl (hs.shadow hv)) hg hj
/-! #### what kind of operation: by its shape alone -/
theorem kMove {d : Option Tmp} {x : Operand} {ty : TypeId} {p : String} {f : Array Edge} {g : Option (Nat × Bool)} (h : RunV P a ⟨d, .move x, ty, p, f, g⟩ w v) : RunV P a ⟨d, .move x, ty, p, f, g⟩ w v := h
theorem kAssign {d : Option Tmp} {x : Operand} {ty : TypeId} {p : String} {f : Array Edge} {g : Option (Nat × Bool)} (h : RunV P a ⟨d, .assign x, ty, p, f, g⟩ w v) : RunV P a ⟨d, .assign x, ty, p, f, g⟩ w v := h
theorem kLoad {d : Option Tmp} {t : TypeId} {x : Operand} {ty : TypeId} {p : String} {f : Array Edge} {g : Option (Nat × Bool)} (h : RunV P a ⟨d, .load t x, ty, p, f, g⟩ w v) : RunV P a ⟨d, .load t x, ty, p, f, g⟩ w v := h
theorem kField {d : Option Tmp} {t : TypeId} {x : Operand} {n : Nat} {ty : TypeId} {p : String} {f : Array Edge} {g : Option (Nat × Bool)} (h : RunV P a ⟨d, .fieldAddr t x n, ty, p, f, g⟩ w v) : RunV P a ⟨d, .fieldAddr t x n, ty, p, f, g⟩ w v := h
theorem kIx {d : Option Tmp} {t : TypeId} {x y : Operand} {ty : TypeId} {p : String} {f : Array Edge} {g : Option (Nat × Bool)} (h : RunV P a ⟨d, .indexAddr t x y, ty, p, f, g⟩ w v) : RunV P a ⟨d, .indexAddr t x y, ty, p, f, g⟩ w v := h
theorem kBin {d : Option Tmp} {b : BinOp} {t u : TypeId} {x y : Operand} {ty : TypeId} {p : String} {f : Array Edge} {g : Option (Nat × Bool)} (h : RunV P a ⟨d, .binOp b t x y u, ty, p, f, g⟩ w v) : RunV P a ⟨d, .binOp b t x y u, ty, p, f, g⟩ w v := h
theorem kUn {d : Option Tmp} {b : UnOp} {t : TypeId} {x : Operand} {ty : TypeId} {p : String} {f : Array Edge} {g : Option (Nat × Bool)} (h : RunV P a ⟨d, .unOp b t x, ty, p, f, g⟩ w v) : RunV P a ⟨d, .unOp b t x, ty, p, f, g⟩ w v := h
theorem kCall {d : Option Tmp} {c : Call} {ty : TypeId} {p : String} {f : Array Edge} {g : Option (Nat × Bool)} (h : RunV P a ⟨d, .call c, ty, p, f, g⟩ w v) : RunV P a ⟨d, .call c, ty, p, f, g⟩ w v := h
theorem kPick {d : Option Tmp} {x y z : Operand} {ty : TypeId} {p : String} {f : Array Edge} {g : Option (Nat × Bool)} (h : RunV P a ⟨d, .pick x y z, ty, p, f, g⟩ w v) : RunV P a ⟨d, .pick x y z, ty, p, f, g⟩ w v := h
theorem kBuild {d : Option Tmp} {t : TypeId} {q : Array (Nat × Operand)} {ty : TypeId} {p : String} {f : Array Edge} {g : Option (Nat × Bool)} (h : RunV P a ⟨d, .build t q, ty, p, f, g⟩ w v) : RunV P a ⟨d, .build t q, ty, p, f, g⟩ w v := h
theorem kConv {d : Option Tmp} {t u : TypeId} {x : Operand} {ty : TypeId} {p : String} {f : Array Edge} {g : Option (Nat × Bool)} (h : RunV P a ⟨d, .convert t u x, ty, p, f, g⟩ w v) : RunV P a ⟨d, .convert t u x, ty, p, f, g⟩ w v := h
theorem kFunc {d : Option Tmp} {m : Fn} {q s : Array Operand} {ty : TypeId} {p : String} {f : Array Edge} {g : Option (Nat × Bool)} (h : RunV P a ⟨d, .makeFunc m q s, ty, p, f, g⟩ w v) : RunV P a ⟨d, .makeFunc m q s, ty, p, f, g⟩ w v := h
theorem kExt {d : Option Tmp} {x : Operand} {n : Nat} {ty : TypeId} {p : String} {f : Array Edge} {g : Option (Nat × Bool)} (h : RunV P a ⟨d, .extract x n, ty, p, f, g⟩ w v) : RunV P a ⟨d, .extract x n, ty, p, f, g⟩ w v := h
theorem kNil {d : Option Tmp} {x : Operand} {ty : TypeId} {p : String} {f : Array Edge} {g : Option (Nat × Bool)} (h : RunV P a ⟨d, .nilCheck x, ty, p, f, g⟩ w v) : RunV P a ⟨d, .nilCheck x, ty, p, f, g⟩ w v := h
theorem kFld {d : Option Tmp} {t : TypeId} {x : Operand} {n : Nat} {ty : TypeId} {p : String} {f : Array Edge} {g : Option (Nat × Bool)} (h : RunV P a ⟨d, .field t x n, ty, p, f, g⟩ w v) : RunV P a ⟨d, .field t x n, ty, p, f, g⟩ w v := h
theorem kIdx {d : Option Tmp} {t : TypeId} {x y : Operand} {ty : TypeId} {p : String} {f : Array Edge} {g : Option (Nat × Bool)} (h : RunV P a ⟨d, .index t x y, ty, p, f, g⟩ w v) : RunV P a ⟨d, .index t x y, ty, p, f, g⟩ w v := h
theorem kSlice {d : Option Tmp} {t : TypeId} {x : Operand} {l h1 m : Option Operand} {ty : TypeId} {p : String} {f : Array Edge} {g : Option (Nat × Bool)} (h : RunV P a ⟨d, .slice t x l h1 m, ty, p, f, g⟩ w v) : RunV P a ⟨d, .slice t x l h1 m, ty, p, f, g⟩ w v := h
end
end Go.Proofs.YtlapnhpaedkgcaaDoor
