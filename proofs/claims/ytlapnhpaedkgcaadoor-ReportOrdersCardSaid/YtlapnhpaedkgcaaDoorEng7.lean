/- More operations. -/
import Derived.Test.YtlapnhpaedkgcaaDoorEng6
import Derived.Laws.BytesString
namespace Go.Proofs.YtlapnhpaedkgcaaDoor
open Go.RowKit

section
variable {P : Program} {T : List (Nat × TI)} {N : Nat} {L : List (Nat × Value)} {a : Act} {w w0 : World} {S : Nat → Prop} {M : List Hp} {o : Oper} {x y z : Operand} {v u : Value}

theorem r_loadO {t t' : TypeId} {i : TI} {b n k : Nat} {cs vs : List Value} (hs : Sl N L a) (ho : o.op = .load t x) (hx : ev L x = some (.pointer (some ⟨b, n, none⟩))) (hT : TabOk P T) (hc : tlk T t = some i) (hf : i.d.flat = false) (hk : i.sz = k) (hm : Mm S w0 M w) (hM : (⟨some b, t', cs⟩ : Hp) ∈ M) (hv : cutF cs n k = some vs) : RunV P a o w (.agg vs.toArray) :=
  r_loadA hs ho hx hT hc hf (hm.ro hM (cutF_ok hv)) (by rw [hk]; exact (cutF_ok hv).len)
theorem r_pickT (hs : Sl N L a) (ho : o.op = .pick x y z) (hx : ev L x = some (.bool true)) (hy : ev L y = some v) : RunV P a o w v := by
  replace hx := hs.ev hx; replace hy := hs.ev hy
  unfold RunV execOp
  simp [ho, hx, hy, asBool]
theorem r_pickF (hs : Sl N L a) (ho : o.op = .pick x y z) (hx : ev L x = some (.bool false)) (hz : ev L z = some v) : RunV P a o w v := by
  replace hx := hs.ev hx; replace hz := hs.ev hz
  unfold RunV execOp
  simp [ho, hx, hz, asBool]
theorem r_quo64 {t yt : TypeId} {n m : Int} (hs : Sl N L a) (ho : o.op = .binOp .quo t x y yt) (hx : ev L x = some (.int .i64 n)) (hy : ev L y = some (.int .i64 m)) (hn : 0 ≤ n ∧ n ≤ 9223372036854775807) (hm : 0 < m) : RunV P a o w (.int .i64 (n / m)) := by
  have h := r_quo (P := P) (w := w) hs ho hx hy (by omega)
  rwa [ediv_wrap64 hn.1 hn.2 hm] at h
theorem r_rem64 {t yt : TypeId} {k : IntKind} {n m : Int} (hs : Sl N L a) (ho : o.op = .binOp .rem t x y yt) (hx : ev L x = some (.int k n)) (hy : ev L y = some (.int k m)) (hn : 0 ≤ n) (hm : 0 < m) : RunV P a o w (.int k (n % m)) := by
  have h := r_rem (P := P) (w := w) hs ho hx hy (by omega)
  rwa [Int.tmod_eq_emod_of_nonneg hn] at h
theorem r_neg64 {t : TypeId} {n : Int} (hs : Sl N L a) (ho : o.op = .unOp .neg t x) (hx : ev L x = some (.int .i64 n)) (hb : -9223372036854775807 ≤ n ∧ n ≤ 9223372036854775807) : RunV P a o w (.int .i64 (-n)) := by
  have h := r_neg (P := P) (w := w) hs ho hx
  rwa [show IntKind.i64.wrap (0 - n) = -n by simp [IntKind.wrap, IntKind.bits, IntKind.signed]; omega] at h
theorem run_eqB {t : TypeId} {b c : Bool} (h : P.underlying t = some .bool) : Sem.run P (Op.equal t (.bool b) (.bool c)) w = .ok (b == c) w := by
  unfold Op.equal Op.maxDepth Op.equalIn
  simp [run_und h]
theorem r_eqlB {t yt : TypeId} {i : TI} {b c : Bool} (hs : Sl N L a) (ho : o.op = .binOp .eql t x y yt) (hx : ev L x = some (.bool b)) (hy : ev L y = some (.bool c)) (hT : TabOk P T) (hc : tlk T t = some i) (hd : i.d = .bool) : RunV P a o w (.bool (b == c)) := by
  replace hx := hs.ev hx; replace hy := hs.ev hy
  have := run_eqB (w := w) (b := b) (c := c) ((hT _ _ hc).bool hd)
  unfold RunV execOp
  simp [ho, hx, hy, binOp, this, eqGuard]
theorem r_neqB {t yt : TypeId} {i : TI} {b c : Bool} (hs : Sl N L a) (ho : o.op = .binOp .neq t x y yt) (hx : ev L x = some (.bool b)) (hy : ev L y = some (.bool c)) (hT : TabOk P T) (hc : tlk T t = some i) (hd : i.d = .bool) : RunV P a o w (.bool (!(b == c))) := by
  replace hx := hs.ev hx; replace hy := hs.ev hy
  have := run_eqB (w := w) (b := b) (c := c) ((hT _ _ hc).bool hd)
  unfold RunV execOp
  simp [ho, hx, hy, binOp, this, eqGuard]
theorem run_eqnil {t e : TypeId} {A : Option Addr} {n c : Nat} (h : P.underlying t = some (.slice e)) : Sem.run P (Op.equal t (.slice A n c) (.slice none 0 0)) w = .ok A.isNone w := by
  unfold Op.equal Op.maxDepth Op.equalIn
  cases A <;> simp [run_und h]
theorem r_eqnil {t e yt : TypeId} {i : TI} {A : Option Addr} {n c : Nat} (hs : Sl N L a) (ho : o.op = .binOp .eql t x y yt) (hx : ev L x = some (.slice A n c)) (hy : ev L y = some (.slice none 0 0)) (hT : TabOk P T) (hc : tlk T t = some i) (hd : i.d = .sl e) : RunV P a o w (.bool A.isNone) := by
  replace hx := hs.ev hx; replace hy := hs.ev hy
  have := run_eqnil (w := w) (A := A) (n := n) (c := c) ((hT _ _ hc).sl hd)
  unfold RunV execOp
  simp [ho, hx, hy, binOp, this, eqGuard]
theorem r_neqnil {t e yt : TypeId} {i : TI} {A : Option Addr} {n c : Nat} (hs : Sl N L a) (ho : o.op = .binOp .neq t x y yt) (hx : ev L x = some (.slice A n c)) (hy : ev L y = some (.slice none 0 0)) (hT : TabOk P T) (hc : tlk T t = some i) (hd : i.d = .sl e) : RunV P a o w (.bool (!A.isNone)) := by
  replace hx := hs.ev hx; replace hy := hs.ev hy
  have := run_eqnil (w := w) (A := A) (n := n) (c := c) ((hT _ _ hc).sl hd)
  unfold RunV execOp
  simp [ho, hx, hy, binOp, this, eqGuard]
/-! #### strings -/
/-- bytes -/
def bys (xs : List Int) : List Value := xs.map (Value.int .u8)
def IsB (xs : List Int) : Prop := ∀ x ∈ xs, 0 ≤ x ∧ x ≤ 255
def bst (ns : List Int) : ByteArray := ns.foldl (fun r n => r.push (UInt8.ofNat n.toNat)) ByteArray.empty
theorem bst_list (ns : List Int) : (bst ns).data.toList = ns.map fun n => UInt8.ofNat n.toNat := by
  suffices H : ∀ (ns : List Int) (r : ByteArray), (ns.foldl (fun r n => r.push (UInt8.ofNat n.toNat)) r).data.toList = r.data.toList ++ ns.map fun n => UInt8.ofNat n.toNat by
    have := H ns ByteArray.empty
    simpa [bst] using this
  intro ns
  induction ns with
  | nil => intro r; simp
  | cons n ns ih => intro r; rw [List.foldl_cons, ih]; simp [ByteArray.push]
theorem bst_inj {xs ys : List Int} (hx : IsB xs) (hy : IsB ys) (h : (bst xs).data.toList = (bst ys).data.toList) : xs = ys := by
  rw [bst_list, bst_list] at h
  induction xs generalizing ys with
  | nil => cases ys <;> simp_all
  | cons x xs ih =>
    cases ys with
    | nil => simp at h
    | cons y ys =>
      simp only [List.map_cons, List.cons.injEq] at h
      obtain ⟨h1, h2⟩ := h
      have a1 := hx x (List.mem_cons_self ..)
      have a2 := hy y (List.mem_cons_self ..)
      have e := congrArg UInt8.toNat h1
      simp only [UInt8.toNat_ofNat'] at e
      have : x = y := by omega
      rw [this, ih (fun z hz => hx z (List.mem_cons_of_mem _ hz)) (fun z hz => hy z (List.mem_cons_of_mem _ hz)) h2]
theorem bst_eq {xs ys : List Int} (hx : IsB xs) (hy : IsB ys) : ((bst xs).toList == (bst ys).toList) = decide (xs = ys) := by
  rw [Bool.eq_iff_iff]
  simp only [beq_iff_eq, decide_eq_true_eq]
  constructor
  · intro h
    refine bst_inj hx hy ?_
    rw [ByteArray.toList_eq, ByteArray.toList_eq] at h
    exact h
  · intro h; rw [h]
theorem r_b2s {t t' e : TypeId} {i j k : TI} {A : Option Addr} {n c B : Nat} {xs : List Int} (hs : Sl N L a) (ho : o.op = .convert t t' x) (hx : ev L x = some (.slice A n c)) (hT : TabOk P T) (hc : tlk T t = some i) (hd : i.d = .sl e) (he : tlk T e = some j) (hj : j.d = .int .u8) (hc' : tlk T t' = some k) (hk : k.d = .str) (hr : Rd w B A (bys xs)) (hl : xs.length = n) : RunV P a o w (.string (bst xs)) := by
  replace hx := hs.ev hx
  have h1 := run_convert_bytes_string (P := P) w t t' e A n c ((hT _ _ hc).sl hd) ((hT _ _ he).int hj) ((hT _ _ hc').str hk)
  have h2 : (Conv.bytesToString (.slice A n c)).run P w = .ok (.string (bst xs)) w := by
    cases A with
    | none =>
      have : xs = [] := by
        cases xs with
        | nil => rfl
        | cons x r => obtain ⟨b, off, e, _⟩ := hr (by simp [bys]); cases e
      subst this
      unfold Conv.bytesToString
      simp [bst]
    | some p =>
      refine run_bytesToString w p n c xs ?_
      by_cases h0 : 0 < xs.length
      · obtain ⟨b, off, e, _, hcell⟩ := hr (by simpa [bys] using h0)
        cases e
        have := run_loadCells_list (P := P) w ⟨b, off, none⟩ (bys xs) (fun j u hu => by rw [add_lit]; exact hcell j u hu)
        rw [show (bys xs).length = n by simp [bys, hl]] at this
        exact this
      · have : xs = [] := List.eq_nil_of_length_eq_zero (by omega)
        subst this
        have : n = 0 := by simpa using hl.symm
        subst this
        simp [loadCells, loadCellsFrom]
  rw [h2] at h1
  unfold RunV execOp
  simp [ho, hx, h1]
theorem r_seql {t yt : TypeId} {s u : ByteArray} (hs : Sl N L a) (ho : o.op = .binOp .eql t x y yt) (hx : ev L x = some (.string s)) (hy : ev L y = some (.string u)) : RunV P a o w (.bool (s.toList == u.toList)) := by
  replace hx := hs.ev hx; replace hy := hs.ev hy
  unfold RunV execOp
  simp [ho, hx, hy, binOp, Op.stringOp, eqGuard]
theorem r_sneq {t yt : TypeId} {s u : ByteArray} (hs : Sl N L a) (ho : o.op = .binOp .neq t x y yt) (hx : ev L x = some (.string s)) (hy : ev L y = some (.string u)) : RunV P a o w (.bool (!(s.toList == u.toList))) := by
  replace hx := hs.ev hx; replace hy := hs.ev hy
  unfold RunV execOp
  simp [ho, hx, hy, binOp, Op.stringOp, eqGuard]
end
end Go.Proofs.YtlapnhpaedkgcaaDoor
