/- Text of numbers; strings put together, read, compared. -/
import Derived.Test.YtlapnhpaedkgcaaDoorRpa
import Derived.Laws.Strings
import Derived.Lib.ItoaLen
namespace Go.Proofs.YtlapnhpaedkgcaaDoor
open Go.RowKit

abbrev TabW (w : World) : Prop := Lib.TabIs Tryd.prog w "internal/strconv.uint64pow10" .u64 Lib.pow10Tab
theorem TabW.pu {w w' : World} (h : TabW w) (hf : Pu w w') : TabW w' := by
  unfold TabW Lib.TabIs World.var? at *
  cases hg : Tryd.prog.globalNamed "internal/strconv.uint64pow10" with
  | none => rw [hg] at h; cases h
  | some g =>
    rw [hg] at h
    simp only [Option.bind_some] at h ⊢
    have hlt : g < w.heap.size := by
      rcases Nat.lt_or_ge g w.heap.size with h' | h'
      · exact h'
      · rw [Array.getElem?_eq_none h'] at h; cases h
    rw [hf.block g hlt (fun t => t)]
    exact h
theorem Fr.grow (w : World) (k : Nat) (os : Array Obj) : Pu w (Go.Sort.grow (w.drewN k) os) :=
  ⟨rfl, rfl, rfl, by show w.heap.size ≤ (w.heap ++ os).size; rw [Array.size_append]; omega, fun i hi _ => by
    show (w.heap ++ os)[i]? = w.heap[i]?
    rw [Array.getElem?_append_left hi]⟩
/-- a number as text; 0 in place of one that is too great -/
def numL (n : Int) : List UInt8 := Lib.itoa (if n < -1099511627776 ∨ 1099511627776 < n then 0 else n)
theorem numL_len (n : Int) : (numL n).length ≤ 21 := by
  unfold numL
  exact Lib.itoa_length_le _ (by split <;> omega) (by split <;> omega)
theorem dig_ne (u : Nat) : ∀ c ∈ Lib.decDigits u, c ≠ 10 := by
  induction u using Nat.strongRecOn with
  | _ u ih =>
    intro c hc
    have hd : ∀ k : Nat, k < 10 → UInt8.ofNat (48 + k) ≠ 10 := by decide
    rw [Lib.decDigits] at hc
    split at hc
    · rename_i h
      rw [List.mem_singleton] at hc
      subst hc
      exact hd u h
    · rcases List.mem_append.1 hc with hc | hc
      · exact ih _ (by omega) c hc
      · rw [List.mem_singleton] at hc
        subst hc
        exact hd _ (by omega)
theorem numL_ne (n : Int) : ∀ c ∈ numL n, c ≠ 10 := by
  unfold numL Lib.itoa
  generalize (if n < -1099511627776 ∨ 1099511627776 < n then 0 else n) = m
  intro c hc
  split at hc
  · rcases List.mem_cons.1 hc with rfl | hc
    · decide
    · exact dig_ne _ c hc
  · exact dig_ne _ c hc
def txv (l : List UInt8) : Value := .string ⟨l.toArray⟩
theorem itoa_c (n : Int) (w : World) (h0 : -9223372036854775808 ≤ n) (h1 : n ≤ 9223372036854775807) (ht : TabW w) : Ret Tryd.prog 18 [.int .i64 n] w (fun u w' => u = txv (Lib.itoa n) ∧ Pu w w') :=
  ⟨Calls.mono (Tryd.strconv_Itoa n h0 h1 w ht) fun _ _ ⟨h, k, os, e⟩ => ⟨_, h, rfl, e ▸ Fr.grow w k os⟩⟩
theorem num_c (n : Int) (w : World) (ht : TabW w) : Ret Tryd.prog 15 [.int .i64 n] w (fun u w' => u = txv (numL n) ∧ Pu w w') := by
  unfold numL
  by_cases h1 : n < -1099511627776
  · rw [if_pos (.inl h1)]
    have hi := fun w'' (hf : Pu w w'') => itoa_c 0 w'' (by omega) (by omega) (ht.pu hf)
    refine enterR Tryd.func15 rfl rfl rfl fun a hs hm => ?_
    repeat (first | ((with_reducible refine toL hm ?_); (first | refine oneV hs gw_ rfl rfl (by intro w hm; exact kv_) ?_ | refine oneN hs rfl rfl rfl rfl rfl rfl rfl ?_ | refine oneU hs rfl rfl rfl rfl rfl rfl ?_); clear hs a; intro a hs) | ((with_reducible apply lCons); first | (refine dv hs gw_ rfl rfl da_ ?_; clear hs hm a; rintro _ w ⟨g, rfl, -, hm⟩ a hs) | (refine stn hs rfl rfl ds_ ?_; clear hs hm a; rintro - w hm a hs) | (refine dv hs gw_ rfl rfl (d_call hs rfl rfl rfl (pl 18 rfl) (hi _ hm.fr)) ?_; clear hs a; rintro _ w ⟨rfl, hf⟩ a hs; replace hm := hm.pu hf; clear hf)) | (with_reducible first | apply lNilThen | apply lNilBlock | apply lNil | apply wp_seq | apply wp_region_lit | apply wp_block | apply cExit | apply cRet | apply cSkip | apply gThen | apply gBlock | apply eThen | apply eBlockHit | refine eBlock rfl ?_ | apply rThen | apply rBlock) | ((with_reducible apply cCond); first | refine cTrue hs rfl bd_ ?_ | refine cFalse hs rfl bd_ ?_))
    exact gRet1 hs rfl rfl ⟨rfl, hm.fr⟩
  by_cases h2 : 1099511627776 < n
  · rw [if_pos (.inr h2)]
    have hi := fun w'' (hf : Pu w w'') => itoa_c 0 w'' (by omega) (by omega) (ht.pu hf)
    refine enterR Tryd.func15 rfl rfl rfl fun a hs hm => ?_
    repeat (first | ((with_reducible refine toL hm ?_); (first | refine oneV hs gw_ rfl rfl (by intro w hm; exact kv_) ?_ | refine oneN hs rfl rfl rfl rfl rfl rfl rfl ?_ | refine oneU hs rfl rfl rfl rfl rfl rfl ?_); clear hs a; intro a hs) | ((with_reducible apply lCons); first | (refine dv hs gw_ rfl rfl da_ ?_; clear hs hm a; rintro _ w ⟨g, rfl, -, hm⟩ a hs) | (refine stn hs rfl rfl ds_ ?_; clear hs hm a; rintro - w hm a hs) | (refine dv hs gw_ rfl rfl (d_call hs rfl rfl rfl (pl 18 rfl) (hi _ hm.fr)) ?_; clear hs a; rintro _ w ⟨rfl, hf⟩ a hs; replace hm := hm.pu hf; clear hf)) | (with_reducible first | apply lNilThen | apply lNilBlock | apply lNil | apply wp_seq | apply wp_region_lit | apply wp_block | apply cExit | apply cRet | apply cSkip | apply gThen | apply gBlock | apply eThen | apply eBlockHit | refine eBlock rfl ?_ | apply rThen | apply rBlock) | ((with_reducible apply cCond); first | refine cTrue hs rfl bd_ ?_ | refine cFalse hs rfl bd_ ?_))
    exact gRet1 hs rfl rfl ⟨rfl, hm.fr⟩
  · rw [if_neg (by omega)]
    have hi := fun w'' (hf : Pu w w'') => itoa_c n w'' (by omega) (by omega) (ht.pu hf)
    refine enterR Tryd.func15 rfl rfl rfl fun a hs hm => ?_
    repeat (first | ((with_reducible refine toL hm ?_); (first | refine oneV hs gw_ rfl rfl (by intro w hm; exact kv_) ?_ | refine oneN hs rfl rfl rfl rfl rfl rfl rfl ?_ | refine oneU hs rfl rfl rfl rfl rfl rfl ?_); clear hs a; intro a hs) | ((with_reducible apply lCons); first | (refine dv hs gw_ rfl rfl da_ ?_; clear hs hm a; rintro _ w ⟨g, rfl, -, hm⟩ a hs) | (refine stn hs rfl rfl ds_ ?_; clear hs hm a; rintro - w hm a hs) | (refine dv hs gw_ rfl rfl (d_call hs rfl rfl rfl (pl 18 rfl) (hi _ hm.fr)) ?_; clear hs a; rintro _ w ⟨rfl, hf⟩ a hs; replace hm := hm.pu hf; clear hf)) | (with_reducible first | apply lNilThen | apply lNilBlock | apply lNil | apply wp_seq | apply wp_region_lit | apply wp_block | apply cExit | apply cRet | apply cSkip | apply gThen | apply gBlock | apply eThen | apply eBlockHit | refine eBlock rfl ?_ | apply rThen | apply rBlock) | ((with_reducible apply cCond); first | refine cTrue hs rfl bd_ ?_ | refine cFalse hs rfl bd_ ?_))
    exact gRet1 hs rfl rfl ⟨rfl, hm.fr⟩
section
variable {P : Program} {N : Nat} {L : List (Nat × Value)} {a : Act} {w : World} {o : Oper} {x y : Operand} {T : List (Nat × TI)}
theorem txv_add (l m : List UInt8) : (⟨l.toArray⟩ ++ ⟨m.toArray⟩ : ByteArray) = ⟨(l ++ m).toArray⟩ := by
  apply ByteArray.ext
  simp [ByteArray.data_append]
theorem r_sadd {t yt : TypeId} {l m : List UInt8} (hs : Sl N L a) (ho : o.op = .binOp .add t x y yt) (hx : ev L x = some (txv l)) (hy : ev L y = some (txv m)) (hl : l.length + m.length ≤ 9223372036854775807) : RunV P a o w (txv (l ++ m)) := by
  replace hx := hs.ev hx; replace hy := hs.ev hy
  unfold txv at *
  rw [← txv_add]
  have h1 : ∀ l : List UInt8, ByteArray.size ⟨l.toArray⟩ = l.length := fun l => by simp [ByteArray.size]
  unfold RunV execOp
  have h2 : ¬ (9223372036854775807 < ((ByteArray.size ⟨l.toArray⟩ : Nat) : Int) + ((ByteArray.size ⟨m.toArray⟩ : Nat) : Int)) := by
    rw [h1, h1]; omega
  simp only [ho, hx, hy, binOp, Op.stringOp]
  simp [h2, eqGuard]
theorem r_sidx {t : TypeId} {i : TI} {l : List UInt8} {k : Nat} {c : UInt8} (hs : Sl N L a) (ho : o.op = .index t x y) (hx : ev L x = some (txv l)) (hy : ev L y = some (.int .i64 (k : Int))) (hT : TabOk P T) (hc : tlk T t = some i) (hd : i.d = .str) (hk : l[k]? = some c) : RunV P a o w (.int .u8 (c.toNat : Int)) := by
  replace hx := hs.ev hx; replace hy := hs.ev hy
  unfold txv at hx
  have h1 : (⟨l.toArray⟩ : ByteArray)[k]? = some c := by
    rw [← hk]
    have : (⟨l.toArray⟩ : ByteArray).size = l.length := by simp [ByteArray.size]
    by_cases h : k < l.length
    · rw [List.getElem?_eq_getElem h, getElem?_pos _ k (by rw [this]; exact h)]
      simp [ByteArray.getElem_eq_getElem_data]
    · rw [List.getElem?_eq_none (by omega), getElem?_neg _ k (by rw [this]; exact h)]
  unfold RunV execOp
  simp [ho, hx, hy, Instr.index, asIntOf, run_und ((hT _ _ hc).str hd), h1]
theorem txv_eql (l m : List UInt8) : ((⟨l.toArray⟩ : ByteArray).toList == (⟨m.toArray⟩ : ByteArray).toList) = decide (l = m) := by
  rw [ByteArray.toList_mk, ByteArray.toList_mk]
  by_cases h : l = m
  · subst h; simp
  · simp [h]
end
end Go.Proofs.YtlapnhpaedkgcaaDoor
