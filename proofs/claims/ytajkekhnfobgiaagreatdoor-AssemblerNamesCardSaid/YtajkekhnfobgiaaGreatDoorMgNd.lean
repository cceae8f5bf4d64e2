/- Texts put together: Asm. -/
import Derived.Lib.SlTrimSet
import Derived.Test.YtajkekhnfobgiaaGreatDoorMgNc
/- Reading a program's text: what a line, a word, a whole text means. -/
namespace Go.Proofs.YtajkekhnfobgiaaGreatDoor
set_option maxRecDepth 20000
open Go.RowKit

abbrev Tx := List UInt8
def digB (c : UInt8) : Bool := decide (48 ≤ c.toNat ∧ c.toNat ≤ 57)
def lowB (c : UInt8) : Bool := decide (97 ≤ c.toNat ∧ c.toNat ≤ 122)
def alnB (c : UInt8) : Bool := lowB c || digB c
def valL (n : Nat) (s : Tx) : Nat := s.foldl (fun n c => n * 10 + (c.toNat - 48)) n
def decB (s : Tx) : Bool := !s.isEmpty && s.all digB && (decide (s.length ≤ 1) || !(s.head? == some 48))
/-- a word as a number; 65536: too great -/
def decF (s : Tx) : Option Int := if decB s then some ((min (valL 0 s) 65536 : Nat) : Int) else none
/-- a word is a label -/
def nmB (s : Tx) : Bool := (s.head?.map lowB).getD false && s.all alnB && decide (s.length ≤ 8)
theorem valL_cons (c : UInt8) (t : Tx) (n : Nat) : valL n (c :: t) = valL (n * 10 + (c.toNat - 48)) t := by
  unfold valL
  rw [List.foldl_cons]
theorem valL_nil (n : Nat) : valL n [] = n := List.foldl_nil
theorem valL_lin : ∀ (s : Tx) (n : Nat), valL n s = n * 10 ^ s.length + valL 0 s
  | [], n => by rw [List.length_nil, Nat.pow_zero, Nat.mul_one, valL_nil, valL_nil, Nat.add_zero]
  | c :: t, n => by
    rw [List.length_cons, valL_cons, valL_cons]
    rw [valL_lin t (n * 10 + (c.toNat - 48)), valL_lin t (0 * 10 + (c.toNat - 48)), Nat.pow_succ]
    generalize 10 ^ t.length = p
    rw [Nat.zero_mul, Nat.zero_add, Nat.add_mul, Nat.add_assoc, Nat.mul_assoc, Nat.mul_comm p 10]
theorem valL_lt : ∀ s : Tx, s.all digB = true → valL 0 s < 10 ^ s.length
  | [], _ => by rw [valL_nil]; exact Nat.zero_lt_one
  | c :: t, h => by
    rw [List.all_cons, Bool.and_eq_true] at h
    have h1 := valL_lt t h.2
    have h2 := of_decide_eq_true h.1
    rw [List.length_cons, valL_cons, valL_lin, Nat.pow_succ]
    have : (0 * 10 + (c.toNat - 48)) * 10 ^ t.length ≤ 9 * 10 ^ t.length := Nat.mul_le_mul_right _ (by omega)
    omega
theorem valL_big {s : Tx} (h : decB s = true) (hl : 5 < s.length) : 65536 ≤ valL 0 s := by
  unfold decB at h
  rw [Bool.and_eq_true, Bool.and_eq_true] at h
  cases s with
  | nil => cases hl
  | cons c t =>
    have h1 := h.2
    have h2 := h.1.2
    rw [List.all_cons, Bool.and_eq_true] at h2
    have h3 := of_decide_eq_true h2.1
    have h4 : c ≠ 48 := by
      rintro rfl
      rw [List.head?_cons] at h1
      simp at h1
      rw [h1] at hl
      simp at hl
    have h5 : c.toNat ≠ 48 := fun e => h4 (UInt8.toNat_inj.1 e)
    rw [valL_cons, valL_lin]
    rw [List.length_cons] at hl
    have h6 : 10 ^ 5 ≤ 10 ^ t.length := Nat.pow_le_pow_right (by omega) (by omega)
    have : 1 * 10 ^ t.length ≤ (0 * 10 + (c.toNat - 48)) * 10 ^ t.length := Nat.mul_le_mul_right _ (by omega)
    omega
theorem decF_le {s : Tx} {n : Int} (h : decF s = some n) : 0 ≤ n ∧ n ≤ 65536 := by
  unfold decF at h
  split at h
  · cases h; omega
  · cases h
theorem decFrom_val : ∀ (s : Tx) (n : Nat), s.all digB = true → Lib.decFrom n s = some (valL n s)
  | [], n, _ => by rw [valL_nil]; rfl
  | c :: t, n, h => by
    rw [List.all_cons, Bool.and_eq_true] at h
    have h2 := of_decide_eq_true h.1
    unfold Lib.decFrom Lib.digitVal
    rw [if_pos h2, valL_cons]
    exact decFrom_val t _ h.2
theorem atoi_val {s : Tx} (h : decB s = true) : Lib.atoi s = some (valL 0 s : Int) := by
  unfold decB at h
  rw [Bool.and_eq_true, Bool.and_eq_true] at h
  cases s with
  | nil => simp at h
  | cons c t =>
    have h2 := h.1.2
    have h3 := h2
    rw [List.all_cons, Bool.and_eq_true] at h2
    have h4 := of_decide_eq_true h2.1
    have h5 : (c == 45) = false := beq_eq_false_iff_ne.2 (by rintro rfl; simp at h4)
    have h6 : (c == 43) = false := beq_eq_false_iff_ne.2 (by rintro rfl; simp at h4)
    unfold Lib.atoi Lib.decNat
    dsimp only
    rw [h5, h6]
    simp [decFrom_val _ _ h3]

/-- what has been read so far -/
structure RdS where
  code : List In
  ss : List Int
  ws : List (List Int)
  lab : List (Tx × Nat)
  js : List (Nat × Nat × Tx)
  last : Bool
/-- all words as numbers -/
def decA : List Tx → Option (List Int)
  | [] => some []
  | s :: t => match decF s with
    | none => none
    | some n => match decA t with
      | none => none
      | some l => some (n :: l)
/-- a line of a region: the new state, or an error -/
def regF (r : RdS) (words : List Tx) : RdS × Int :=
  match decA words with
  | none => (r, 2)
  | some [] => (r, 2)
  | some (n :: l) =>
    if r.code ≠ [] ∨ r.lab ≠ [] then (r, 2)
    else if (n :: l).any (fun x => decide (65535 < x)) = true ∨ n < 1 ∨ 32 < n ∨ n < (l.length : Int) ∨ 4 ≤ r.ss.length then (r, 6)
    else ({ r with ss := r.ss ++ [n], ws := r.ws ++ [l] }, 0)
/-- one word, behind a prefix: the number, whether it is too great, the words that are left -/
def tkF (pre : Tx) (most : Int) : List Tx → Option (Int × Bool × List Tx)
  | [] => none
  | w :: t => if pre.isPrefixOf w then match decF (w.drop pre.length) with
    | none => none
    | some n => some (n, decide (most < n), t)
    else none
def tkR (u : Bool) (pre : Tx) (most : Int) (ws : List Tx) : Option (Int × Bool × List Tx) := if u then tkF pre most ws else some (0, false, ws)
def mostF (op : Int) (ns : Nat) : Int := if op = 15 then (ns : Int) - 1 else if op = 23 then 15 else 65535
/-- the last word: number, whether too great, label, the words left -/
def lstF (op : Int) (u : Bool) (ns : Nat) (ws : List Tx) : Option (Int × Bool × Tx × List Tx) :=
  if !u then some (0, false, [], ws)
  else if jumpB op then match ws with
    | [] => none
    | w :: t => if nmB w then some (0, false, w, t) else none
  else match tkF [] (mostF op ns) ws with
    | none => none
    | some (n, f, t) => some (n, f, [], t)
/-- the words behind an operation: instruction, whether some number is too great, label -/
def opsF (op : Int) (ns : Nat) (ws : List Tx) : Option (In × Bool × Tx) :=
  match tkR (usesF op).1 [114] 7 ws with
  | none => none
  | some (a, f1, w1) => match tkR (usesF op).2.1 [114] 7 w1 with
    | none => none
    | some (b, f2, w2) => match tkR (usesF op).2.2.1 [114] 7 w2 with
      | none => none
      | some (c, f3, w3) => match lstF op (usesF op).2.2.2 ns w3 with
        | none => none
        | some (m, f4, l, w4) => if w4 = [] then some (⟨op, a, b, c, m⟩, f1 || f2 || f3 || f4, l) else none
def insF (r : RdS) (op : Int) (ws : List Tx) (k : Nat) : RdS × Int :=
  match opsF op r.ss.length ws with
  | none => (r, 2)
  | some (i, f, l) => if f = true ∨ 64 ≤ r.code.length then (r, 6)
    else ({ r with code := r.code ++ [i], js := if l = [] then r.js else r.js ++ [(r.code.length, k, l)] }, 0)
/-- the label of a line -/
def labF (s : Tx) : Option Tx := if [58].isSuffixOf s && nmB (s.take (s.length - 1)) then some (s.take (s.length - 1)) else none
def idxF (w : Tx) : List Tx → Nat → Option Nat
  | [], _ => none
  | x :: t, k => if x = w then some k else idxF w t (k + 1)
def rgN : Tx := [114, 101, 103, 105, 111, 110]
/-- one line -/
def rdF (r : RdS) (s : Tx) (k : Nat) : RdS × Int :=
  match labF s with
  | some n => if r.lab.any (fun x => decide (x.1 = n)) then ({ r with last := false }, 2) else ({ r with lab := (n, r.code.length) :: r.lab, last := true }, 0)
  | none =>
    if (spl 32 s).headD [] = rgN then regF { r with last := false } (spl 32 s).tail
    else match idxF ((spl 32 s).headD []) nmL 0 with
      | none => ({ r with last := false }, 2)
      | some op => insF { r with last := false } (op : Int) (spl 32 s).tail k
/-- lines, from line k on: the state, or the line and the error -/
def rdA (r : RdS) : List Tx → Nat → RdS × Nat × Int
  | [], k => (r, k, 0)
  | s :: t, k => match rdF r s k with
    | (r', e) => if e = 0 then rdA r' t (k + 1) else (r', k, e)
def atL (lab : List (Tx × Nat)) (n : Tx) : Option Nat := (lab.find? (fun x => decide (x.1 = n))).map (·.2)
/-- labels found: the code, or the line of a label that is not there -/
def jsF (lab : List (Tx × Nat)) : List In → List (Nat × Nat × Tx) → List In × Option Nat
  | code, [] => (code, none)
  | code, (at_, ln, n) :: t => match atL lab n with
    | none => (code, some ln)
    | some k => jsF lab (code.modify at_ fun i => { i with m := (k : Int) }) t
structure PrM where
  code : List In
  ss : List Int
  ws : List (List Int)
def r0F : RdS := ⟨[], [], [], [], [], false⟩
/-- what a text means: the program, a number, the error -/
def parF (s : Tx) : PrM × Int × Int :=
  if 4096 < s.length then (⟨[], [], []⟩, -1, 3)
  else match rdA r0F (spl 10 s).dropLast 0 with
    | (r, k, e) => if e ≠ 0 then (⟨[], [], []⟩, (k : Int), e)
      else if (spl 10 s).getLastD [] ≠ [] then (⟨[], [], []⟩, ((spl 10 s).length : Int) - 1, 2)
      else match jsF r.lab r.code r.js with
        | (_, some ln) => (⟨[], [], []⟩, (ln : Int), 12)
        | (code, none) => if r.ss = [] ∨ code = [] ∨ r.last = true then (⟨[], [], []⟩, -1, 2)
          else (⟨code, r.ss, r.ws⟩, ((spl 10 s).length : Int) - 1, 0)
/-- the example: region 2 7, li r0 1, l1:, jmp l1 -/
def exT : Tx := [114, 101, 103, 105, 111, 110, 32, 50, 32, 55, 10, 108, 105, 32, 114, 48, 32, 49, 10, 108, 49, 58, 10, 106, 109, 112, 32, 108, 49, 10]
theorem ex_par : parF exT = (⟨[⟨1, 0, 0, 0, 1⟩, ⟨18, 0, 0, 0, 1⟩], [2], [[7]]⟩, 4, 0) := by kernel_rfl
end Go.Proofs.YtajkekhnfobgiaaGreatDoor
