/- Texts put together: Asm, Atk, Atl. -/
import Derived.Lib.SlTrimSet
import Derived.Test.YtajkekhnfobgiaaGreatDoorMgPc
/- Reading a program's text: what a line, a word, a whole text means. -/
namespace Go.Proofs.YtajkekhnfobgiaaGreatDoor
set_option maxRecDepth 20000
open Go.RowKit

abbrev Tx := List UInt8
def digB (c : UInt8) : Bool := decide (48 ≤ c.toNat ∧ c.toNat ≤ 57)
def lowB (c : UInt8) : Bool := decide (97 ≤ c.toNat ∧ c.toNat ≤ 122)
def alnB (c : UInt8) : Bool := lowB c || digB c
def valL (n : Nat) (s : Tx) : Nat := s.foldl (fun n c => n * 10 + (c.toNat - 48)) n
def decB (s : Tx) : Bool := !s.isEmpty && s.all digB && (decide (s.length ≤ 1) || !(s.head? == some 48))
/-- a word as a number; 65536: too great -/
def decF (s : Tx) : Option Int := if decB s then some ((min (valL 0 s) 65536 : Nat) : Int) else none
/-- a word is a label -/
def nmB (s : Tx) : Bool := (s.head?.map lowB).getD false && s.all alnB && decide (s.length ≤ 8)
theorem valL_cons (c : UInt8) (t : Tx) (n : Nat) : valL n (c :: t) = valL (n * 10 + (c.toNat - 48)) t := by
  unfold valL
  rw [List.foldl_cons]
theorem valL_nil (n : Nat) : valL n [] = n := List.foldl_nil
theorem valL_lin : ∀ (s : Tx) (n : Nat), valL n s = n * 10 ^ s.length + valL 0 s
  | [], n => by rw [List.length_nil, Nat.pow_zero, Nat.mul_one, valL_nil, valL_nil, Nat.add_zero]
  | c :: t, n => by
    rw [List.length_cons, valL_cons, valL_cons]
    rw [valL_lin t (n * 10 + (c.toNat - 48)), valL_lin t (0 * 10 + (c.toNat - 48)), Nat.pow_succ]
    generalize 10 ^ t.length = p
    rw [Nat.zero_mul, Nat.zero_add, Nat.add_mul, Nat.add_assoc, Nat.mul_assoc, Nat.mul_comm p 10]
theorem valL_lt : ∀ s : Tx, s.all digB = true → valL 0 s < 10 ^ s.length
  | [], _ => by rw [valL_nil]; exact Nat.zero_lt_one
  | c :: t, h => by
    rw [List.all_cons, Bool.and_eq_true] at h
    have h1 := valL_lt t h.2
    have h2 := of_decide_eq_true h.1
    rw [List.length_cons, valL_cons, valL_lin, Nat.pow_succ]
    have : (0 * 10 + (c.toNat - 48)) * 10 ^ t.length ≤ 9 * 10 ^ t.length := Nat.mul_le_mul_right _ (by omega)
    omega
theorem valL_big {s : Tx} (h : decB s = true) (hl : 5 < s.length) : 65536 ≤ valL 0 s := by
  unfold decB at h
  rw [Bool.and_eq_true, Bool.and_eq_true] at h
  cases s with
  | nil => cases hl
  | cons c t =>
    have h1 := h.2
    have h2 := h.1.2
    rw [List.all_cons, Bool.and_eq_true] at h2
    have h3 := of_decide_eq_true h2.1
    have h4 : c ≠ 48 := by
      rintro rfl
      rw [List.head?_cons] at h1
      simp at h1
      rw [h1] at hl
      simp at hl
    have h5 : c.toNat ≠ 48 := fun e => h4 (UInt8.toNat_inj.1 e)
    rw [valL_cons, valL_lin]
    rw [List.length_cons] at hl
    have h6 : 10 ^ 5 ≤ 10 ^ t.length := Nat.pow_le_pow_right (by omega) (by omega)
    have : 1 * 10 ^ t.length ≤ (0 * 10 + (c.toNat - 48)) * 10 ^ t.length := Nat.mul_le_mul_right _ (by omega)
    omega
theorem decF_le {s : Tx} {n : Int} (h : decF s = some n) : 0 ≤ n ∧ n ≤ 65536 := by
  unfold decF at h
  split at h
  · cases h; omega
  · cases h
theorem decFrom_val : ∀ (s : Tx) (n : Nat), s.all digB = true → Lib.decFrom n s = some (valL n s)
  | [], n, _ => by rw [valL_nil]; rfl
  | c :: t, n, h => by
    rw [List.all_cons, Bool.and_eq_true] at h
    have h2 := of_decide_eq_true h.1
    unfold Lib.decFrom Lib.digitVal
    rw [if_pos h2, valL_cons]
    exact decFrom_val t _ h.2
theorem atoi_val {s : Tx} (h : decB s = true) : Lib.atoi s = some (valL 0 s : Int) := by
  unfold decB at h
  rw [Bool.and_eq_true, Bool.and_eq_true] at h
  cases s with
  | nil => simp at h
  | cons c t =>
    have h2 := h.1.2
    have h3 := h2
    rw [List.all_cons, Bool.and_eq_true] at h2
    have h4 := of_decide_eq_true h2.1
    have h5 : (c == 45) = false := beq_eq_false_iff_ne.2 (by rintro rfl; simp at h4)
    have h6 : (c == 43) = false := beq_eq_false_iff_ne.2 (by rintro rfl; simp at h4)
    unfold Lib.atoi Lib.decNat
    dsimp only
    rw [h5, h6]
    simp [decFrom_val _ _ h3]

/-- what has been read so far -/
structure RdS where
  code : List In
  ss : List Int
  ws : List (List Int)
  lab : List (Tx × Nat)
  js : List (Nat × Nat × Tx)
  last : Bool
/-- all words as numbers -/
def decA : List Tx → Option (List Int)
  | [] => some []
  | s :: t => match decF s with
    | none => none
    | some n => match decA t with
      | none => none
      | some l => some (n :: l)
/-- a line of a region: the new state, or an error -/
def regF (r : RdS) (words : List Tx) : RdS × Int :=
  match decA words with
  | none => (r, 2)
  | some [] => (r, 2)
  | some (n :: l) =>
    if r.code ≠ [] ∨ r.lab ≠ [] then (r, 2)
    else if (n :: l).any (fun x => decide (65535 < x)) = true ∨ n < 1 ∨ 32 < n ∨ n < (l.length : Int) ∨ 4 ≤ r.ss.length then (r, 6)
    else ({ r with ss := r.ss ++ [n], ws := r.ws ++ [l] }, 0)
/-- one word, behind a prefix: the number, whether it is too great, the words that are left -/
def tkF (pre : Tx) (most : Int) : List Tx → Option (Int × Bool × List Tx)
  | [] => none
  | w :: t => if pre.isPrefixOf w then match decF (w.drop pre.length) with
    | none => none
    | some n => some (n, decide (most < n), t)
    else none
def tkR (u : Bool) (pre : Tx) (most : Int) (ws : List Tx) : Option (Int × Bool × List Tx) := if u then tkF pre most ws else some (0, false, ws)
def mostF (op : Int) (ns : Nat) : Int := if op = 15 then (ns : Int) - 1 else if op = 23 then 15 else 65535
/-- the last word: number, whether too great, label, the words left -/
def lstF (op : Int) (u : Bool) (ns : Nat) (ws : List Tx) : Option (Int × Bool × Tx × List Tx) :=
  if !u then some (0, false, [], ws)
  else if jumpB op then match ws with
    | [] => none
    | w :: t => if nmB w then some (0, false, w, t) else none
  else match tkF [] (mostF op ns) ws with
    | none => none
    | some (n, f, t) => some (n, f, [], t)
/-- the words behind an operation: instruction, whether some number is too great, label -/
def opsF (op : Int) (ns : Nat) (ws : List Tx) : Option (In × Bool × Tx) :=
  match tkR (usesF op).1 [114] 7 ws with
  | none => none
  | some (a, f1, w1) => match tkR (usesF op).2.1 [114] 7 w1 with
    | none => none
    | some (b, f2, w2) => match tkR (usesF op).2.2.1 [114] 7 w2 with
      | none => none
      | some (c, f3, w3) => match lstF op (usesF op).2.2.2 ns w3 with
        | none => none
        | some (m, f4, l, w4) => if w4 = [] then some (⟨op, a, b, c, m⟩, f1 || f2 || f3 || f4, l) else none
def insF (r : RdS) (op : Int) (ws : List Tx) (k : Nat) : RdS × Int :=
  match opsF op r.ss.length ws with
  | none => (r, 2)
  | some (i, f, l) => if f = true ∨ 64 ≤ r.code.length then (r, 6)
    else ({ r with code := r.code ++ [i], js := if l = [] then r.js else r.js ++ [(r.code.length, k, l)] }, 0)
/-- the label of a line -/
def labF (s : Tx) : Option Tx := if [58].isSuffixOf s && nmB (s.take (s.length - 1)) then some (s.take (s.length - 1)) else none
def idxF (w : Tx) : List Tx → Nat → Option Nat
  | [], _ => none
  | x :: t, k => if x = w then some k else idxF w t (k + 1)
def rgN : Tx := [114, 101, 103, 105, 111, 110]
/-- one line -/
def rdF (r : RdS) (s : Tx) (k : Nat) : RdS × Int :=
  match labF s with
  | some n => if r.lab.any (fun x => decide (x.1 = n)) then ({ r with last := false }, 2) else ({ r with lab := (n, r.code.length) :: r.lab, last := true }, 0)
  | none =>
    if (spl 32 s).headD [] = rgN then regF { r with last := false } (spl 32 s).tail
    else match idxF ((spl 32 s).headD []) nmL 0 with
      | none => ({ r with last := false }, 2)
      | some op => insF { r with last := false } (op : Int) (spl 32 s).tail k
/-- lines, from line k on: the state, or the line and the error -/
def rdA (r : RdS) : List Tx → Nat → RdS × Nat × Int
  | [], k => (r, k, 0)
  | s :: t, k => match rdF r s k with
    | (r', e) => if e = 0 then rdA r' t (k + 1) else (r', k, e)
def atL (lab : List (Tx × Nat)) (n : Tx) : Option Nat := (lab.find? (fun x => decide (x.1 = n))).map (·.2)
/-- labels found: the code, or the line of a label that is not there -/
def jsF (lab : List (Tx × Nat)) : List In → List (Nat × Nat × Tx) → List In × Option Nat
  | code, [] => (code, none)
  | code, (at_, ln, n) :: t => match atL lab n with
    | none => (code, some ln)
    | some k => jsF lab (code.modify at_ fun i => { i with m := (k : Int) }) t
structure PrM where
  code : List In
  ss : List Int
  ws : List (List Int)
def r0F : RdS := ⟨[], [], [], [], [], false⟩
/-- what a text means: the program, a number, the error -/
def parF (s : Tx) : PrM × Int × Int :=
  if 4096 < s.length then (⟨[], [], []⟩, -1, 3)
  else match rdA r0F (spl 10 s).dropLast 0 with
    | (r, k, e) => if e ≠ 0 then (⟨[], [], []⟩, (k : Int), e)
      else if (spl 10 s).getLastD [] ≠ [] then (⟨[], [], []⟩, ((spl 10 s).length : Int) - 1, 2)
      else match jsF r.lab r.code r.js with
        | (_, some ln) => (⟨[], [], []⟩, (ln : Int), 12)
        | (code, none) => if r.ss = [] ∨ code = [] ∨ r.last = true then (⟨[], [], []⟩, -1, 2)
          else (⟨code, r.ss, r.ws⟩, ((spl 10 s).length : Int) - 1, 0)
/-- the example: region 2 7, li r0 1, l1:, jmp l1 -/
def exT : Tx := [114, 101, 103, 105, 111, 110, 32, 50, 32, 55, 10, 108, 105, 32, 114, 48, 32, 49, 10, 108, 49, 58, 10, 106, 109, 112, 32, 108, 49, 10]
theorem ex_par : parF exT = (⟨[⟨1, 0, 0, 0, 1⟩, ⟨18, 0, 0, 0, 1⟩], [2], [[7]]⟩, 4, 0) := by kernel_rfl
end Go.Proofs.YtajkekhnfobgiaaGreatDoor

/- The reference's Print. -/
namespace Go.Proofs.YtajkekhnfobgiaaGreatDoor
set_option maxRecDepth 20000
open Go.RowKit

/-- the words of an instruction's registers, each behind a blank -/
def f1L (i : In) : Tx := (regW (usesF i.op).1 i.a).flatMap fun x => 32 :: x
def f2L (i : In) : Tx := (regW (usesF i.op).2.1 i.b).flatMap fun x => 32 :: x
def f3L (i : In) : Tx := (regW (usesF i.op).2.2.1 i.c).flatMap fun x => 32 :: x
def pjL (i : In) : Nat → Tx
  | 0 => []
  | 1 => f1L i
  | 2 => f1L i ++ f2L i
  | _ => f1L i ++ f2L i ++ f3L i
def f4L (i : In) : Tx := (lastW (jumpB i.op) (usesF i.op).2.2.2 i.m).flatMap fun x => 32 :: x
theorem join_wd (w : Tx) (ws : List Tx) : Lib.join (w :: ws) [32] = w ++ ws.flatMap fun x => 32 :: x := by
  rw [Lib.join_cons]
  unfold Lib.joinTail
  rw [List.flatMap_def]
  rfl
theorem lineL_eq (i : In) : lineL i = nameL i.op ++ pjL i 3 ++ f4L i := by
  have h : wordsL i = nameL i.op :: (regW (usesF i.op).1 i.a ++ (regW (usesF i.op).2.1 i.b ++ (regW (usesF i.op).2.2.1 i.c ++ lastW (jumpB i.op) (usesF i.op).2.2.2 i.m))) := by
    unfold wordsL wk
    simp only [List.append_assoc, List.cons_append, List.nil_append]
  unfold lineL
  rw [h, join_wd]
  show _ = nameL i.op ++ (f1L i ++ f2L i ++ f3L i) ++ f4L i
  unfold f1L f2L f3L f4L
  simp only [List.flatMap_append, List.append_assoc]
theorem f_yes (v : Int) : ((regW true v).flatMap fun x => (32 : UInt8) :: x) = [32, 114] ++ Lib.itoa v := by simp [regW]
theorem f_no (v : Int) : ((regW false v).flatMap fun x => (32 : UInt8) :: x) = [] := rfl
theorem pjL_le (i : In) (h : InI i) (j : Nat) : (pjL i j).length ≤ 200 := by
  have h1 := lineL_len h
  rw [lineL_eq] at h1
  simp only [List.length_append] at h1
  have h2 : (pjL i 3).length = (f1L i).length + (f2L i).length + (f3L i).length := by
    show (f1L i ++ f2L i ++ f3L i).length = _
    simp only [List.length_append]
  match j with
  | 0 => exact Nat.zero_le _
  | 1 => show (f1L i).length ≤ _; omega
  | 2 => show (f1L i ++ f2L i).length ≤ _; rw [List.length_append]; omega
  | n + 3 => show (f1L i ++ f2L i ++ f3L i).length ≤ _; rw [List.length_append, List.length_append]; omega
theorem zrep_b : ∀ n : Nat, zrep n [.bool false] = List.replicate n (.bool false)
  | 0 => rfl
  | n + 1 => by rw [List.replicate_succ, ← zrep_b n]; rfl
def tBs (code : List In) (n k : Nat) : List Value := (List.range n).map fun j : Nat => .bool (tgB (code.take k) (j : Int))
theorem tBs_0 (code : List In) (n : Nat) : List.replicate n (.bool false) = tBs code n 0 := by
  unfold tBs
  apply List.ext_getElem
  · simp
  · intro j h1 h2
    simp [tgB]
theorem tBs_at (code : List In) {n j : Nat} (h : j < n) : (tBs code n n)[j]? = some (.bool (tgB (code.take n) (j : Int))) := by
  unfold tBs
  rw [List.getElem?_map, List.getElem?_range h]
  rfl
theorem tBs_len (code : List In) (n k : Nat) : (tBs code n k).length = n := by unfold tBs; simp
theorem tBs_no (code : List In) {n k : Nat} (hk : k < code.length) (h : jumpB (code[k]).op = false) : tBs code n (k + 1) = tBs code n k := by
  unfold tBs
  refine List.map_congr_left fun j _ => ?_
  rw [tgB_take code k hk, h, Bool.false_and, Bool.or_false]
theorem tBs_yes (code : List In) {n k m : Nat} (hk : k < code.length) (h : jumpB (code[k]).op = true) (hm : (code[k]).m = (m : Int)) : (tBs code n k).set m (.bool true) = tBs code n (k + 1) := by
  unfold tBs
  apply List.ext_getElem
  · simp
  · intro j h1 h2
    rw [List.getElem_set, List.getElem_map, List.getElem_map, List.getElem_range, tgB_take code k hk, h, hm, Bool.true_and]
    split
    · rename_i e
      rw [e, decide_eq_true rfl, Bool.or_true]
    · rename_i e
      rw [decide_eq_false (fun e2 => e (by omega)), Bool.or_false]
end Go.Proofs.YtajkekhnfobgiaaGreatDoor

/- The reference's Print: the walk. -/
namespace Go.Proofs.YtajkekhnfobgiaaGreatDoor
set_option maxRecDepth 20000
open Go.RowKit



set_option maxHeartbeats 16000000 in
theorem rprint_c (p : PV) (wB : World) (hp : p.ok wB) (hsm : p.sm) (ht : TW wB) : Ret Tryz.prog 14 [p.v] wB (fun u w' => (GoodP p → u = .tuple #[txv (textP p), .int .i64 0]) ∧ (¬ GoodP p → u = .tuple #[txv [], .int .i64 1]) ∧ Pu wB w') := by
  by_cases hG : GoodP p
  case neg =>
    refine enterR Tryz.func14 rfl rfl rfl fun a hs hm => ?_
    unfold PV.v at hs
    repeat (first | ((with_reducible refine toL hm ?_); (first | refine oneV hs gw_ rfl rfl (by intro w hm; (first | exact kvR_ | exact kb2_ | exact r_sadd hs rfl rfl rfl (by first | omega | (simp only [List.length_cons, List.length_nil]; omega) | (simp only [List.length_append, List.length_cons, List.length_nil]; omega)))) ?_ | refine oN_ ?_); clear hs a; intro a hs) | ((with_reducible apply lCons); first | (refine dv hs gw_ rfl rfl (by first | exact da_ | exact d_makeSlice hs rfl rfl rfl tab rfl rfl rfl rfl rfl (by omega) rfl hm) ?_; clear hs hm a; rintro _ w ⟨g, rfl, -, hm⟩ a hs) | (refine stn hs rfl rfl ds_ ?_; clear hs hm a; rintro - w hm a hs) ) | refine sx_ ?_ | refine cx_ ?_)
    refine st hs rfl rfl rfl (d_call hs rfl rfl rfl (pl 39 rfl) ((good_c p _ (hp.pu hm.fr) hsm))) ?_; clear hs a; rintro _ w1 ⟨e, rfl, he, hf⟩ a hs
    replace hm := hm.pu hf
    clear hf
    obtain rfl : e = false := Bool.eq_false_iff.2 fun e0 => hG (he.1 e0)
    repeat (first | ((with_reducible refine toL hm ?_); (first | refine oneV hs gw_ rfl rfl (by intro w hm; (first | exact kvR_ | exact kb2_ | exact r_sadd hs rfl rfl rfl (by first | omega | (simp only [List.length_cons, List.length_nil]; omega) | (simp only [List.length_append, List.length_cons, List.length_nil]; omega)))) ?_ | refine oN_ ?_); clear hs a; intro a hs) | ((with_reducible apply lCons); first | (refine dv hs gw_ rfl rfl (by first | exact da_ | exact d_makeSlice hs rfl rfl rfl tab rfl rfl rfl rfl rfl (by omega) rfl hm) ?_; clear hs hm a; rintro _ w ⟨g, rfl, -, hm⟩ a hs) | (refine stn hs rfl rfl ds_ ?_; clear hs hm a; rintro - w hm a hs) ) | refine sx_ ?_ | refine cx_ ?_)
    exact gRetN tab hs rfl (.cons (.tmp rfl) (.cons (.tmp rfl) .nil)) ⟨fun h => absurd h hG, fun _ => rfl, hm.fr⟩
  have hgs := hG.gs hsm
  have hrl := fun k hk => rgsL_len hG hsm k hk
  have hcl := fun k hk => cdsL_len hG k hk
  have hin := fun k (hk : k < p.code.length) => (hG.inv _ (List.getElem_mem hk)).1
  have z1 := hG.sz.one
  have z2 := hG.sz.four
  have z3 := hG.wl
  have z4 := hG.c1
  have z5 := hG.c2
  refine enterR Tryz.func14 rfl rfl rfl fun a hs hm => ?_
  unfold PV.v at hs
  repeat (first | ((with_reducible refine toL hm ?_); (first | refine oneV hs gw_ rfl rfl (by intro w hm; (first | exact kvR_ | exact kb2_ | exact r_sadd hs rfl rfl rfl (by first | omega | (simp only [List.length_cons, List.length_nil]; omega) | (simp only [List.length_append, List.length_cons, List.length_nil]; omega)))) ?_ | refine oN_ ?_); clear hs a; intro a hs) | ((with_reducible apply lCons); first | (refine dv hs gw_ rfl rfl (by first | exact da_ | exact d_makeSlice hs rfl rfl rfl tab rfl rfl rfl rfl rfl (by omega) rfl hm) ?_; clear hs hm a; rintro _ w ⟨g, rfl, -, hm⟩ a hs) | (refine stn hs rfl rfl ds_ ?_; clear hs hm a; rintro - w hm a hs) ) | refine sx_ ?_ | refine cx_ ?_)
  refine st hs rfl rfl rfl (d_call hs rfl rfl rfl (pl 39 rfl) ((good_c p _ (hp.pu hm.fr) hsm))) ?_; clear hs a; rintro _ w1 ⟨e, rfl, he, hf⟩ a hs
  replace hm := hm.pu hf
  clear hf
  obtain rfl := he.2 hG
  obtain ⟨g1, en_⟩ := hs.pt 1 (by exact rfl); subst en_
  have hF0 := hm.fr
  have hp1 := hp.pu hF0
  have ht1 := ht.pu hF0
  have rg := hm.ro (k := 0) (n := 3) (g := g1) mem_ (cutF_ok rfl)
  clear hm hp ht
  have hm := Mm.nil (fun _ => False) w1
  obtain ⟨cA, cc, code, sA, sc, ss, dA, dc, ws⟩ := p
  obtain ⟨pc, ps, pd, px⟩ := hp1
  dsimp only at *
  obtain ⟨b1, o1, rfl, hb1, rc⟩ := pc.ro (by rw [flat_len inV 5 inV_len]; omega)
  obtain ⟨b2, o2, rfl, hb2, rs⟩ := ps.ro (by rw [ints_len]; omega)
  obtain ⟨b3, o3, rfl, hb3, rd⟩ := pd.ro (by rw [List.length_map]; omega)
  replace rg : Ro w1 g1 0 [.slice (some ⟨b1, o1, none⟩) code.length cc, .slice (some ⟨b2, o2, none⟩) ss.length sc, .slice (some ⟨b3, o3, none⟩) ws.length dc] := rg
  repeat (first | ((with_reducible refine toL hm ?_); (first | refine oneV hs gw_ rfl rfl (by intro w hm; (first | exact kvR_ | exact kb2_ | exact r_sadd hs rfl rfl rfl (by first | omega | (simp only [List.length_cons, List.length_nil]; omega) | (simp only [List.length_append, List.length_cons, List.length_nil]; omega)))) ?_ | refine oN_ ?_); clear hs a; intro a hs) | ((with_reducible apply lCons); first | (refine dv hs gw_ rfl rfl (by first | exact da_ | exact d_makeSlice hs rfl rfl rfl tab rfl rfl rfl rfl rfl (by omega) rfl hm) ?_; clear hs hm a; rintro _ w ⟨g, rfl, -, hm⟩ a hs) | (refine stn hs rfl rfl ds_ ?_; clear hs hm a; rintro - w hm a hs) ) | refine sx_ ?_ | refine cx_ ?_)
  refine cLoop (X := Nat) (fun k a w' => Sl Tryz.f14.ntmps [(1, .pointer (some ⟨g1, 0, none⟩)), (4, txv (rgsL ss ws k)), (21, .slice (some ⟨b2, o2, none⟩) ss.length sc), (22, .int .i64 (ss.length : Int)), (23, .int .i64 (k : Int))] a ∧ Pu w1 w' ∧ k ≤ ss.length) (fun k => ss.length - k) 0 ⟨hs.sub (Has.all ⟨rfl, rfl, rfl, rfl, rfl, trivial⟩), hm.fr, Nat.zero_le _⟩ ?_
  clear hs hm a
  rintro k a w' ⟨hs, hF, hk⟩
  have hm := Mm.nil (fun _ => False) w'
  have q1 := rg.pu_ hF
  have q2 := rs.pu_ hF
  have q3 := rd.pu_ hF
  by_cases hlt : k < ss.length
  · have e1 := ints_some (xs := ss) (k := k) hlt
    have hlw : k < ws.length := by omega
    obtain ⟨sk, hsk⟩ : ∃ z, ss[k] = z := ⟨_, rfl⟩
    obtain ⟨⟨rA, rc_, rx⟩, hr⟩ : ∃ z, ws[k] = z := ⟨_, rfl⟩
    have hskb := hgs.s k hlt
    have hxb := hgs.x k hlw
    have hrx := px ws[k] (List.getElem_mem hlw)
    have e2 : (ws.map WV.v)[k]? = some (.slice rA rx.length rc_) := by rw [List.getElem?_map, List.getElem?_eq_getElem hlw, hr]; rfl
    have hnx := rgsL_succ ss ws k
    rw [List.getD_eq_getElem?_getD, List.getElem?_eq_getElem hlt, List.getD_eq_getElem?_getD, List.getElem?_eq_getElem hlw, Option.getD_some, Option.getD_some] at hnx
    have hl0 := hrl k (by omega)
    dsimp only at hskb hxb hrx
    rw [hsk] at e1 hskb hnx
    rw [hr] at hxb hrx hnx
    dsimp only at hxb hrx hnx
    have hi := fun w'' (hf : Pu w1 w'') => itoa_c sk w'' (by omega) (by omega) (ht1.pu hf)
    have hil := itL_len (n := sk) (by omega)
    have hth := rgH_len (n := sk) (by omega)
    repeat (first | ((with_reducible refine toL hm ?_); (first | refine oneV hs gw_ rfl rfl (by intro w hm; (first | exact kvR_ | exact kb2_ | exact r_sadd hs rfl rfl rfl (by first | omega | (simp only [List.length_cons, List.length_nil]; omega) | (simp only [List.length_append, List.length_cons, List.length_nil]; omega)))) ?_ | refine oN_ ?_); clear hs a; intro a hs) | ((with_reducible apply lCons); first | (refine dv hs gw_ rfl rfl (by first | exact da_ | exact d_makeSlice hs rfl rfl rfl tab rfl rfl rfl rfl rfl (by omega) rfl hm) ?_; clear hs hm a; rintro _ w ⟨g, rfl, -, hm⟩ a hs) | (refine stn hs rfl rfl ds_ ?_; clear hs hm a; rintro - w hm a hs) | (refine dv hs gw_ rfl rfl (d_call hs rfl rfl rfl (pl 34 rfl) (hi _ (hF.pu hm.fr))) ?_; clear hs a; rintro _ w ⟨rfl, hf⟩ a hs; replace hm := hm.pu hf; clear hf)) | refine sx_ ?_ | refine cx_ ?_)
    have hF2 := hF.pu hm.fr
    clear hF q1 q2 q3 hm
    rename World => w2
    have hs2 : Sl Tryz.f14.ntmps [(1, .pointer (some ⟨g1, 0, none⟩)), (4, txv (rgsL ss ws k ++ rgH sk ++ (rx.take 0).flatMap wdL)), (21, .slice (some ⟨b2, o2, none⟩) ss.length sc), (22, .int .i64 (ss.length : Int)), (23, .int .i64 (k : Int)), (37, .slice rA rx.length rc_), (38, .int .i64 (rx.length : Int)), (39, .int .i64 ((0 : Nat) : Int))] a := by
      rw [List.take_zero, List.flatMap_nil, List.append_nil]
      exact hs.sub (Has.all ⟨rfl, rfl, rfl, rfl, rfl, rfl, rfl, rfl, trivial⟩)
    refine cLoop (X := Nat) (fun j a w' => Sl Tryz.f14.ntmps [(1, .pointer (some ⟨g1, 0, none⟩)), (4, txv (rgsL ss ws k ++ rgH sk ++ (rx.take j).flatMap wdL)), (21, .slice (some ⟨b2, o2, none⟩) ss.length sc), (22, .int .i64 (ss.length : Int)), (23, .int .i64 (k : Int)), (37, .slice rA rx.length rc_), (38, .int .i64 (rx.length : Int)), (39, .int .i64 (j : Int))] a ∧ Pu w1 w' ∧ j ≤ rx.length) (fun j => rx.length - j) 0 ⟨hs2, hF2, Nat.zero_le _⟩ ?_
    clear hs hs2 a hF2
    rintro j a w4 ⟨hs, hF, hj⟩
    have hm := Mm.nil (fun _ => False) w4
    have htk := wds_le (rx.take j) (fun y hy => hxb.2 y (List.mem_of_mem_take hy))
    rw [List.length_take] at htk
    have hSl : (rgsL ss ws k ++ rgH sk ++ (rx.take j).flatMap wdL).length ≤ 100000 := by
      rw [List.length_append, List.length_append]
      omega
    by_cases hlj : j < rx.length
    · obtain ⟨b5, o5, rfl, hb5, r5⟩ := hrx.ro (by unfold wds; rw [List.length_map]; omega)
      have q5 := r5.pu_ hF
      obtain ⟨yv, hyv⟩ : ∃ z, rx[j] = z := ⟨_, rfl⟩
      have hyb := hxb.2 rx[j] (List.getElem_mem hlj)
      rw [hyv] at hyb
      have e5 : (wds rx)[j]? = some (.int .u16 yv) := by unfold wds; rw [List.getElem?_map, List.getElem?_eq_getElem hlj, hyv]; rfl
      have hiy := fun w'' (hf : Pu w1 w'') => itoa_c yv w'' (by omega) (by omega) (ht1.pu hf)
      have hyl := itL_len (n := yv) (by omega)
      have e6 : rgsL ss ws k ++ rgH sk ++ (rx.take (j + 1)).flatMap wdL = rgsL ss ws k ++ rgH sk ++ (rx.take j).flatMap wdL ++ ([32] ++ Lib.itoa yv) := by rw [List.take_succ_eq_append_getElem hlj, List.flatMap_append, hyv, List.append_assoc, List.append_assoc, List.append_assoc]; simp [wdL]
      generalize rgsL ss ws k ++ rgH sk ++ (rx.take j).flatMap wdL = S at hs hSl e6
      repeat (first | ((with_reducible refine toL hm ?_); (first | refine oneV hs gw_ rfl rfl (by intro w hm; (first | exact kvR_ | exact kb2_ | exact r_sadd hs rfl rfl rfl (by first | omega | (simp only [List.length_cons, List.length_nil]; omega) | (simp only [List.length_append, List.length_cons, List.length_nil]; omega)))) ?_ | refine oN_ ?_); clear hs a; intro a hs) | ((with_reducible apply lCons); first | (refine dv hs gw_ rfl rfl (by first | exact da_ | exact d_makeSlice hs rfl rfl rfl tab rfl rfl rfl rfl rfl (by omega) rfl hm) ?_; clear hs hm a; rintro _ w ⟨g, rfl, -, hm⟩ a hs) | (refine stn hs rfl rfl ds_ ?_; clear hs hm a; rintro - w hm a hs) ) | refine sx_ ?_ | refine cx_ ?_)
      rw [wrap_idP (v := yv) (by omega)] at hs
      repeat (first | ((with_reducible refine toL hm ?_); (first | refine oneV hs gw_ rfl rfl (by intro w hm; (first | exact kvR_ | exact kb2_ | exact r_sadd hs rfl rfl rfl (by first | omega | (simp only [List.length_cons, List.length_nil]; omega) | (simp only [List.length_append, List.length_cons, List.length_nil]; omega)))) ?_ | refine oN_ ?_); clear hs a; intro a hs) | ((with_reducible apply lCons); first | (refine dv hs gw_ rfl rfl (by first | exact da_ | exact d_makeSlice hs rfl rfl rfl tab rfl rfl rfl rfl rfl (by omega) rfl hm) ?_; clear hs hm a; rintro _ w ⟨g, rfl, -, hm⟩ a hs) | (refine stn hs rfl rfl ds_ ?_; clear hs hm a; rintro - w hm a hs) | (refine dv hs gw_ rfl rfl (d_call hs rfl rfl rfl (pl 34 rfl) (hiy _ (hF.pu hm.fr))) ?_; clear hs a; rintro _ w ⟨rfl, hf⟩ a hs; replace hm := hm.pu hf; clear hf)) | refine sx_ ?_ | refine cx_ ?_)
      rw [← e6] at hs
      refine ⟨j + 1, by omega, hs.sub (Has.all ⟨rfl, rfl, rfl, rfl, rfl, rfl, rfl, rfl, trivial⟩), hF.pu hm.fr, by omega⟩
    · rw [List.take_of_length_le (by omega)] at hs hSl
      have e6 : rgsL ss ws (k + 1) = rgsL ss ws k ++ rgH sk ++ rx.flatMap wdL ++ [10] := by
        rw [hnx]
        unfold rgL
        simp only [List.append_assoc]
      generalize rgsL ss ws k ++ rgH sk ++ rx.flatMap wdL = S at hs hSl e6
      repeat (first | ((with_reducible refine toL hm ?_); (first | refine oneV hs gw_ rfl rfl (by intro w hm; (first | exact kvR_ | exact kb2_ | exact r_sadd hs rfl rfl rfl (by first | omega | (simp only [List.length_cons, List.length_nil]; omega) | (simp only [List.length_append, List.length_cons, List.length_nil]; omega)))) ?_ | refine oN_ ?_); clear hs a; intro a hs) | ((with_reducible apply lCons); first | (refine dv hs gw_ rfl rfl (by first | exact da_ | exact d_makeSlice hs rfl rfl rfl tab rfl rfl rfl rfl rfl (by omega) rfl hm) ?_; clear hs hm a; rintro _ w ⟨g, rfl, -, hm⟩ a hs) | (refine stn hs rfl rfl ds_ ?_; clear hs hm a; rintro - w hm a hs) ) | refine sx_ ?_ | refine cx_ ?_)
      rw [← e6] at hs
      refine ⟨k + 1, by omega, hs.sub (Has.all ⟨rfl, rfl, rfl, rfl, rfl, trivial⟩), hF.pu hm.fr, by omega⟩
  have hkn : k = ss.length := by omega
  subst hkn
  have z6 : ss.length ≤ 4 := z2
  have hTl : (rgsL ss ws ss.length).length ≤ 4000 := by have := hrl ss.length (Nat.le_refl _); omega
  unfold textP
  dsimp only
  generalize rgsL ss ws ss.length = T1 at hs hTl ⊢
  have q4 := rc.pu_ hF
  repeat (first | ((with_reducible refine toL hm ?_); (first | refine oneV hs gw_ rfl rfl (by intro w hm; (first | exact kvR_ | exact kb2_ | exact r_sadd hs rfl rfl rfl (by first | omega | (simp only [List.length_cons, List.length_nil]; omega) | (simp only [List.length_append, List.length_cons, List.length_nil]; omega)))) ?_ | refine oN_ ?_); clear hs a; intro a hs) | ((with_reducible apply lCons); first | (refine dv hs gw_ rfl rfl (by first | exact da_ | exact d_makeSlice hs rfl rfl rfl tab rfl rfl rfl rfl rfl (by omega) rfl hm) ?_; clear hs hm a; rintro _ w ⟨g, rfl, -, hm⟩ a hs) | (refine stn hs rfl rfl ds_ ?_; clear hs hm a; rintro - w hm a hs) ) | refine sx_ ?_ | refine cx_ ?_)
  obtain ⟨g9, en_⟩ := hs.ps 9 (by exact rfl); subst en_
  obtain ⟨wC, hwC⟩ : ∃ u : World, u = w' := ⟨w', rfl⟩
  subst hwC
  rw [zrep_b, tBs_0 code] at hm
  refine cLoop (X := Nat) (fun k a w' => Sl Tryz.f14.ntmps [(1, .pointer (some ⟨g1, 0, none⟩)), (4, txv T1), (9, .slice (some ⟨g9, 0, none⟩) code.length code.length), (58, .slice (some ⟨b1, o1, none⟩) code.length cc), (59, .int .i64 (code.length : Int)), (60, .int .i64 (k : Int))] a ∧ Mm (fun _ => False) wC [⟨some g9, 4, tBs code code.length k⟩] w' ∧ k ≤ code.length) (fun k => code.length - k) 0 ⟨hs.sub (Has.all ⟨rfl, rfl, rfl, rfl, rfl, rfl, trivial⟩), hm, Nat.zero_le _⟩ ?_
  clear hs hm a
  rintro k a w' ⟨hs, hm, hk⟩
  by_cases hlt : k < code.length
  · obtain ⟨x, hx⟩ : ∃ z, code[k] = z := ⟨_, rfl⟩
    have hrk := q4.flat inV_len hlt
    have hvl := hG.inv _ (List.getElem_mem hlt)
    have hno := tBs_no code (n := code.length) hlt
    have hye := fun m => tBs_yes code (n := code.length) (m := m) hlt
    rw [hx] at hrk hvl hno hye
    obtain ⟨xo, xa, xb, xc, xm⟩ := x
    unfold inV at hrk
    dsimp only at hrk hno hye hvl
    have hjm := fun w => jump_c xo w
    cases hjb : jumpB xo
    · rw [hjb] at hjm
      rw [← hno hjb] at hm
      repeat (first | ((with_reducible refine toL hm ?_); (first | refine oneV hs gw_ rfl rfl (by intro w hm; (first | exact kvR_ | exact kb2_ | exact r_sadd hs rfl rfl rfl (by first | omega | (simp only [List.length_cons, List.length_nil]; omega) | (simp only [List.length_append, List.length_cons, List.length_nil]; omega)))) ?_ | refine oN_ ?_); clear hs a; intro a hs) | ((with_reducible apply lCons); first | (refine dv hs gw_ rfl rfl (by first | exact da_ | exact d_makeSlice hs rfl rfl rfl tab rfl rfl rfl rfl rfl (by omega) rfl hm) ?_; clear hs hm a; rintro _ w ⟨g, rfl, -, hm⟩ a hs) | (refine stn hs rfl rfl ds_ ?_; clear hs hm a; rintro - w hm a hs) | (refine dv hs gw_ rfl rfl (d_call hs rfl rfl rfl (pl 31 rfl) (hjm _)) ?_; clear hs a; rintro _ w ⟨rfl, hf⟩ a hs; replace hm := hm.pu hf; clear hf)) | refine sx_ ?_ | refine cx_ ?_)
      exact ⟨k + 1, by omega, hs.sub (Has.all ⟨rfl, rfl, rfl, rfl, rfl, rfl, trivial⟩), hm.sub sub_, hlt⟩
    · rw [hjb] at hjm
      have h1 := hvl.2.1 hjb
      have h2 := hvl.1.1.m
      dsimp only at h1 h2
      obtain ⟨m, rfl⟩ : ∃ m : Nat, xm = (m : Int) := ⟨xm.toNat, by omega⟩
      have hml : m < code.length := by omega
      have hmc : m < (tBs code code.length k).length := by rw [tBs_len]; exact hml
      repeat (first | ((with_reducible refine toL hm ?_); (first | refine oneV hs gw_ rfl rfl (by intro w hm; (first | exact kvR_ | exact kb2_ | exact r_sadd hs rfl rfl rfl (by first | omega | (simp only [List.length_cons, List.length_nil]; omega) | (simp only [List.length_append, List.length_cons, List.length_nil]; omega)))) ?_ | refine oN_ ?_); clear hs a; intro a hs) | ((with_reducible apply lCons); first | (refine dv hs gw_ rfl rfl (by first | exact da_ | exact d_makeSlice hs rfl rfl rfl tab rfl rfl rfl rfl rfl (by omega) rfl hm) ?_; clear hs hm a; rintro _ w ⟨g, rfl, -, hm⟩ a hs) | (refine stn hs rfl rfl ds_ ?_; clear hs hm a; rintro - w hm a hs) | (refine dv hs gw_ rfl rfl (d_call hs rfl rfl rfl (pl 31 rfl) (hjm _)) ?_; clear hs a; rintro _ w ⟨rfl, hf⟩ a hs; replace hm := hm.pu hf; clear hf)) | refine sx_ ?_ | refine cx_ ?_)
      have hm9 : Mm (fun _ => False) wC [⟨some g9, 4, (tBs code code.length k).set m (.bool true)⟩] _ := hm.sub sub_
      rw [hye m hjb rfl] at hm9
      exact ⟨k + 1, by omega, hs.sub (Has.all ⟨rfl, rfl, rfl, rfl, rfl, rfl, trivial⟩), hm9, hlt⟩
  obtain rfl : k = code.length := by omega
  have hb9 : Blk w' g9 4 (tBs code code.length code.length).toArray := hm.me ⟨some g9, 4, tBs code code.length code.length⟩ (List.mem_cons_self ..)
  have r9 : Ro w' g9 0 (tBs code code.length code.length) := blk_ro hb9
  have hPD := hF.pu hm.fr
  have p1 := q1.pu_ hm.fr
  have p4 := q4.pu_ hm.fr
  clear hm q1 q2 q3 q4
  obtain ⟨wD, hwD⟩ : ∃ u : World, u = w' := ⟨w', rfl⟩
  subst hwD
  have hm := Mm.nil (fun _ => False) wD
  have htD := ht1.pu hPD
  repeat (first | ((with_reducible refine toL hm ?_); (first | refine oneV hs gw_ rfl rfl (by intro w hm; (first | exact kvR_ | exact kb2_ | exact r_sadd hs rfl rfl rfl (by first | omega | (simp only [List.length_cons, List.length_nil]; omega) | (simp only [List.length_append, List.length_cons, List.length_nil]; omega)))) ?_ | refine oN_ ?_); clear hs a; intro a hs) | ((with_reducible apply lCons); first | (refine dv hs gw_ rfl rfl (by first | exact da_ | exact d_makeSlice hs rfl rfl rfl tab rfl rfl rfl rfl rfl (by omega) rfl hm) ?_; clear hs hm a; rintro _ w ⟨g, rfl, -, hm⟩ a hs) | (refine stn hs rfl rfl ds_ ?_; clear hs hm a; rintro - w hm a hs) ) | refine sx_ ?_ | refine cx_ ?_)
  have hs2 : Sl Tryz.f14.ntmps [(1, .pointer (some ⟨g1, 0, none⟩)), (4, txv (T1 ++ cdsL code 0)), (9, .slice (some ⟨g9, 0, none⟩) code.length code.length), (73, .slice (some ⟨b1, o1, none⟩) code.length cc), (74, .int .i64 (code.length : Int)), (75, .int .i64 ((0 : Nat) : Int))] a := by
    rw [show T1 ++ cdsL code 0 = T1 from List.append_nil _]
    exact hs.sub (Has.all ⟨rfl, rfl, rfl, rfl, rfl, rfl, trivial⟩)
  refine cLoop (X := Nat) (fun k a w' => Sl Tryz.f14.ntmps [(1, .pointer (some ⟨g1, 0, none⟩)), (4, txv (T1 ++ cdsL code k)), (9, .slice (some ⟨g9, 0, none⟩) code.length code.length), (73, .slice (some ⟨b1, o1, none⟩) code.length cc), (74, .int .i64 (code.length : Int)), (75, .int .i64 (k : Int))] a ∧ Pu wD w' ∧ k ≤ code.length) (fun k => code.length - k) 0 ⟨hs2, hm.fr, Nat.zero_le _⟩ ?_
  clear hs hs2 hm a hk hlt
  rintro k a w' ⟨hs, hP, hk⟩
  have hm := Mm.nil (fun _ => False) w'
  have s1 := p1.pu_ hP
  have s4 := p4.pu_ hP
  have s9 := r9.pu_ hP
  by_cases hlt : k < code.length
  · obtain ⟨x, hx⟩ : ∃ z, code[k] = z := ⟨_, rfl⟩
    have hrk := s4.flat inV_len hlt
    have hvl := hin k hlt
    have htg := tBs_at code hlt
    rw [List.take_length] at htg
    have hcs := cdsL_succ code k
    rw [List.getD_eq_getElem?_getD, List.getElem?_eq_getElem hlt, Option.getD_some] at hcs
    have hcl0 := hcl k hk
    rw [hx] at hrk hvl hcs
    have hiv := hvl.1
    unfold cdL at hcs
    obtain ⟨xo, xa, xb, xc, xm⟩ := x
    unfold inV at hrk
    dsimp only at hrk hcs hiv
    have hini := hvl.ini
    have hixa : 0 ≤ xa ∧ xa ≤ 65535 := by have := hiv.a; dsimp only at this; omega
    have hixb : 0 ≤ xb ∧ xb ≤ 65535 := by have := hiv.b; dsimp only at this; omega
    have hixc : 0 ≤ xc ∧ xc ≤ 65535 := by have := hiv.c; dsimp only at this; omega
    have hixm : 0 ≤ xm ∧ xm ≤ 65535 := by have := hiv.m; dsimp only at this; omega
    have hla := itL_len (n := xa) (by omega)
    have hlb := itL_len (n := xb) (by omega)
    have hlc := itL_len (n := xc) (by omega)
    have hlm := itL_len (n := xm) (by omega)
    have hus := fun w => uses_c xo w
    have hjm := fun w => jump_c xo w
    have hnm := fun w'' (hf : Pu w' w'') => rname_c xo w'' (htD.pu (hP.pu hf))
    have hnl := nameL_len xo
    have hik := fun w'' (hf : Pu w' w'') => itoa_c (k : Int) w'' (by omega) (by omega) (htD.pu (hP.pu hf))
    have hil := itL_len (n := (k : Int)) (by omega)
    have hf4 : f4L ⟨xo, xa, xb, xc, xm⟩ = (lastW (jumpB xo) (usesF xo).2.2.2 xm).flatMap fun x => 32 :: x := rfl
    have hp0 : pjL ⟨xo, xa, xb, xc, xm⟩ (0 + 1) = pjL ⟨xo, xa, xb, xc, xm⟩ 0 ++ (regW (usesF xo).1 xa).flatMap fun x => 32 :: x := rfl
    have hp1 : pjL ⟨xo, xa, xb, xc, xm⟩ (1 + 1) = pjL ⟨xo, xa, xb, xc, xm⟩ 1 ++ (regW (usesF xo).2.1 xb).flatMap fun x => 32 :: x := rfl
    have hp2 : pjL ⟨xo, xa, xb, xc, xm⟩ (2 + 1) = pjL ⟨xo, xa, xb, xc, xm⟩ 2 ++ (regW (usesF xo).2.2.1 xc).flatMap fun x => 32 :: x := rfl
    obtain ⟨⟨u1, u2, u3, u4⟩, hu⟩ : ∃ u, usesF xo = u := ⟨_, rfl⟩
    obtain ⟨jb, hjb⟩ : ∃ b, jumpB xo = b := ⟨_, rfl⟩
    rw [hu] at hus hf4 hp0 hp1 hp2
    rw [hjb] at hjm hf4
    unfold u4V at hus
    dsimp only at hus hf4 hp0 hp1 hp2
    have hScl : (T1 ++ cdsL code k).length ≤ 50000 := by rw [List.length_append]; omega
    rw [← List.append_assoc] at hcs
    obtain ⟨tg, htg2⟩ : ∃ b, tgB code (k : Int) = b := ⟨_, rfl⟩
    rw [htg2] at htg hcs
    cases tg
    · repeat (first | ((with_reducible refine toL hm ?_); (first | refine oneV hs gw_ rfl rfl (by intro w hm; (first | exact kvR_ | exact kb2_ | exact r_sadd hs rfl rfl rfl (by first | omega | (simp only [List.length_cons, List.length_nil]; omega) | (simp only [List.length_append, List.length_cons, List.length_nil]; omega)))) ?_ | refine oN_ ?_); clear hs a; intro a hs) | ((with_reducible apply lCons); first | (refine dv hs gw_ rfl rfl (by first | exact da_ | exact d_makeSlice hs rfl rfl rfl tab rfl rfl rfl rfl rfl (by omega) rfl hm) ?_; clear hs hm a; rintro _ w ⟨g, rfl, -, hm⟩ a hs) | (refine stn hs rfl rfl ds_ ?_; clear hs hm a; rintro - w hm a hs) | (refine dv hs gw_ rfl rfl (d_call hs rfl rfl rfl (pl 16 rfl) (hnm _ hm.fr)) ?_; clear hs a; rintro _ w ⟨rfl, hf⟩ a hs; replace hm := hm.pu hf; clear hf) | (refine dv hs gw_ rfl rfl (d_call hs rfl rfl rfl (pl 40 rfl) (hus _)) ?_; clear hs a; rintro _ w ⟨rfl, hf⟩ a hs; replace hm := hm.pu hf; clear hf)) | refine sx_ ?_ | refine cx_ ?_)
      obtain ⟨g13, en_⟩ := hs.pt 13 (by exact rfl); subst en_
      obtain ⟨g14, en_⟩ := hs.pt 14 (by exact rfl); subst en_
      obtain ⟨g104, en_⟩ := hs.ps 104 (by exact rfl); subst en_
      have x1 := hm.ro (k := 0) (n := 5) (g := g13) mem_ (cutF_ok rfl)
      have x2 := hm.ro (k := 0) (n := 4) (g := g14) mem_ (cutF_ok rfl)
      have x3 := hm.ro (k := 0) (n := 3) (g := g104) mem_ (cutF_ok rfl)
      have hPE := hP.pu hm.fr
      clear hm hP s1 s4 s9 hrk
      rename World => wE
      obtain ⟨S, hS⟩ : ∃ z, (T1 ++ cdsL code k) ++ nameL xo = z := ⟨_, rfl⟩
      rw [hS] at hs
      have hSl : S.length ≤ 100000 := by
        rw [← hS]
        simp only [List.length_append]
        omega
      have hfin : ∀ Z, f4L ⟨xo, xa, xb, xc, xm⟩ = Z → T1 ++ cdsL code (k + 1) = S ++ pjL ⟨xo, xa, xb, xc, xm⟩ 3 ++ Z ++ [10] := fun Z hZ => by
        rw [hcs, ← hS, lineL_eq, hZ]
        simp only [List.append_assoc, List.nil_append, if_false, Bool.false_eq_true]
      clear hS
      have htE := htD.pu hPE
      have hit := fun (v : Int) (hv : 0 ≤ v ∧ v ≤ 65535) w'' (hf : Pu wE w'') => itoa_c v w'' (by omega) (by omega) (htE.pu hf)
      have hs3 : Sl Tryz.f14.ntmps [(1, .pointer (some ⟨g1, 0, none⟩)), (4, txv (S ++ pjL ⟨xo, xa, xb, xc, xm⟩ 0)), (9, .slice (some ⟨g9, 0, none⟩) code.length code.length), (13, .pointer (some ⟨g13, 0, none⟩)), (14, .pointer (some ⟨g14, 0, none⟩)), (73, .slice (some ⟨b1, o1, none⟩) code.length cc), (74, .int .i64 (code.length : Int)), (75, .int .i64 (k : Int)), (104, .slice (some ⟨g104, 0, none⟩) 3 3), (105, .int .i64 3), (106, .int .i64 ((0 : Nat) : Int))] a := by
        rw [show S ++ pjL ⟨xo, xa, xb, xc, xm⟩ 0 = S from List.append_nil _]
        exact hs.sub (Has.all ⟨rfl, rfl, rfl, rfl, rfl, rfl, rfl, rfl, rfl, rfl, rfl, trivial⟩)
      refine cLoop (X := Nat) (fun j a w' => Sl Tryz.f14.ntmps [(1, .pointer (some ⟨g1, 0, none⟩)), (4, txv (S ++ pjL ⟨xo, xa, xb, xc, xm⟩ j)), (9, .slice (some ⟨g9, 0, none⟩) code.length code.length), (13, .pointer (some ⟨g13, 0, none⟩)), (14, .pointer (some ⟨g14, 0, none⟩)), (73, .slice (some ⟨b1, o1, none⟩) code.length cc), (74, .int .i64 (code.length : Int)), (75, .int .i64 (k : Int)), (104, .slice (some ⟨g104, 0, none⟩) 3 3), (105, .int .i64 3), (106, .int .i64 (j : Int))] a ∧ Pu wE w' ∧ j ≤ 3) (fun j => 3 - j) 0 ⟨hs3, Fr.refl _ _, Nat.zero_le _⟩ ?_
      clear hs hs3 a
      rintro j a w6 ⟨hs, hQ, hj⟩
      have hm := Mm.nil (fun _ => False) w6
      replace x1 := x1.pu_ hQ
      replace x2 := x2.pu_ hQ
      replace x3 := x3.pu_ hQ
      have hpl := pjL_le _ hini j
      obtain ⟨R, hR⟩ : ∃ z, S ++ pjL ⟨xo, xa, xb, xc, xm⟩ j = z := ⟨_, rfl⟩
      have hRl : R.length ≤ 110000 := by
        rw [← hR, List.length_append]
        omega
      rw [hR] at hs
      by_cases hj0 : j = 0
      · subst hj0
        cases u1
        · repeat (first | ((with_reducible refine toL hm ?_); (first | refine oneV hs gw_ rfl rfl (by intro w hm; (first | exact kvR_ | exact kb2_ | exact r_sadd hs rfl rfl rfl (by first | omega | (simp only [List.length_cons, List.length_nil]; omega) | (simp only [List.length_append, List.length_cons, List.length_nil]; omega)))) ?_ | refine oN_ ?_); clear hs a; intro a hs) | ((with_reducible apply lCons); first | (refine dv hs gw_ rfl rfl (by first | exact da_ | exact d_makeSlice hs rfl rfl rfl tab rfl rfl rfl rfl rfl (by omega) rfl hm) ?_; clear hs hm a; rintro _ w ⟨g, rfl, -, hm⟩ a hs) | (refine stn hs rfl rfl ds_ ?_; clear hs hm a; rintro - w hm a hs) ) | refine sx_ ?_ | refine cx_ ?_)
          refine ⟨0 + 1, by omega, ?_⟩
          rw [show S ++ pjL ⟨xo, xa, xb, xc, xm⟩ (0 + 1) = R from (by rw [hp0, f_no, List.append_nil, hR])]
          exact ⟨hs.sub (Has.all ⟨rfl, rfl, rfl, rfl, rfl, rfl, rfl, rfl, rfl, rfl, rfl, trivial⟩), hQ.pu hm.fr, by omega⟩
        · repeat (first | ((with_reducible refine toL hm ?_); (first | refine oneV hs gw_ rfl rfl (by intro w hm; (first | exact kvR_ | exact kb2_ | exact r_sadd hs rfl rfl rfl (by first | omega | (simp only [List.length_cons, List.length_nil]; omega) | (simp only [List.length_append, List.length_cons, List.length_nil]; omega)))) ?_ | refine oN_ ?_); clear hs a; intro a hs) | ((with_reducible apply lCons); first | (refine dv hs gw_ rfl rfl (by first | exact da_ | exact d_makeSlice hs rfl rfl rfl tab rfl rfl rfl rfl rfl (by omega) rfl hm) ?_; clear hs hm a; rintro _ w ⟨g, rfl, -, hm⟩ a hs) | (refine stn hs rfl rfl ds_ ?_; clear hs hm a; rintro - w hm a hs) | (refine dv hs gw_ rfl rfl (d_call hs rfl rfl rfl (pl 34 rfl) (hit xa hixa _ (hQ.pu hm.fr))) ?_; clear hs a; rintro _ w ⟨rfl, hf⟩ a hs; replace hm := hm.pu hf; clear hf)) | refine sx_ ?_ | refine cx_ ?_)
          refine ⟨0 + 1, by omega, ?_⟩
          rw [show S ++ pjL ⟨xo, xa, xb, xc, xm⟩ (0 + 1) = R ++ ([32, 114] ++ Lib.itoa xa) from (by rw [hp0, f_yes, ← List.append_assoc, hR])]
          exact ⟨hs.sub (Has.all ⟨rfl, rfl, rfl, rfl, rfl, rfl, rfl, rfl, rfl, rfl, rfl, trivial⟩), hQ.pu hm.fr, by omega⟩
      by_cases hj1 : j = 1
      · subst hj1
        cases u2
        · repeat (first | ((with_reducible refine toL hm ?_); (first | refine oneV hs gw_ rfl rfl (by intro w hm; (first | exact kvR_ | exact kb2_ | exact r_sadd hs rfl rfl rfl (by first | omega | (simp only [List.length_cons, List.length_nil]; omega) | (simp only [List.length_append, List.length_cons, List.length_nil]; omega)))) ?_ | refine oN_ ?_); clear hs a; intro a hs) | ((with_reducible apply lCons); first | (refine dv hs gw_ rfl rfl (by first | exact da_ | exact d_makeSlice hs rfl rfl rfl tab rfl rfl rfl rfl rfl (by omega) rfl hm) ?_; clear hs hm a; rintro _ w ⟨g, rfl, -, hm⟩ a hs) | (refine stn hs rfl rfl ds_ ?_; clear hs hm a; rintro - w hm a hs) ) | refine sx_ ?_ | refine cx_ ?_)
          refine ⟨1 + 1, by omega, ?_⟩
          rw [show S ++ pjL ⟨xo, xa, xb, xc, xm⟩ (1 + 1) = R from (by rw [hp1, f_no, List.append_nil, hR])]
          exact ⟨hs.sub (Has.all ⟨rfl, rfl, rfl, rfl, rfl, rfl, rfl, rfl, rfl, rfl, rfl, trivial⟩), hQ.pu hm.fr, by omega⟩
        · repeat (first | ((with_reducible refine toL hm ?_); (first | refine oneV hs gw_ rfl rfl (by intro w hm; (first | exact kvR_ | exact kb2_ | exact r_sadd hs rfl rfl rfl (by first | omega | (simp only [List.length_cons, List.length_nil]; omega) | (simp only [List.length_append, List.length_cons, List.length_nil]; omega)))) ?_ | refine oN_ ?_); clear hs a; intro a hs) | ((with_reducible apply lCons); first | (refine dv hs gw_ rfl rfl (by first | exact da_ | exact d_makeSlice hs rfl rfl rfl tab rfl rfl rfl rfl rfl (by omega) rfl hm) ?_; clear hs hm a; rintro _ w ⟨g, rfl, -, hm⟩ a hs) | (refine stn hs rfl rfl ds_ ?_; clear hs hm a; rintro - w hm a hs) | (refine dv hs gw_ rfl rfl (d_call hs rfl rfl rfl (pl 34 rfl) (hit xb hixb _ (hQ.pu hm.fr))) ?_; clear hs a; rintro _ w ⟨rfl, hf⟩ a hs; replace hm := hm.pu hf; clear hf)) | refine sx_ ?_ | refine cx_ ?_)
          refine ⟨1 + 1, by omega, ?_⟩
          rw [show S ++ pjL ⟨xo, xa, xb, xc, xm⟩ (1 + 1) = R ++ ([32, 114] ++ Lib.itoa xb) from (by rw [hp1, f_yes, ← List.append_assoc, hR])]
          exact ⟨hs.sub (Has.all ⟨rfl, rfl, rfl, rfl, rfl, rfl, rfl, rfl, rfl, rfl, rfl, trivial⟩), hQ.pu hm.fr, by omega⟩
      by_cases hj2 : j = 2
      · subst hj2
        cases u3
        · repeat (first | ((with_reducible refine toL hm ?_); (first | refine oneV hs gw_ rfl rfl (by intro w hm; (first | exact kvR_ | exact kb2_ | exact r_sadd hs rfl rfl rfl (by first | omega | (simp only [List.length_cons, List.length_nil]; omega) | (simp only [List.length_append, List.length_cons, List.length_nil]; omega)))) ?_ | refine oN_ ?_); clear hs a; intro a hs) | ((with_reducible apply lCons); first | (refine dv hs gw_ rfl rfl (by first | exact da_ | exact d_makeSlice hs rfl rfl rfl tab rfl rfl rfl rfl rfl (by omega) rfl hm) ?_; clear hs hm a; rintro _ w ⟨g, rfl, -, hm⟩ a hs) | (refine stn hs rfl rfl ds_ ?_; clear hs hm a; rintro - w hm a hs) ) | refine sx_ ?_ | refine cx_ ?_)
          refine ⟨2 + 1, by omega, ?_⟩
          rw [show S ++ pjL ⟨xo, xa, xb, xc, xm⟩ (2 + 1) = R from (by rw [hp2, f_no, List.append_nil, hR])]
          exact ⟨hs.sub (Has.all ⟨rfl, rfl, rfl, rfl, rfl, rfl, rfl, rfl, rfl, rfl, rfl, trivial⟩), hQ.pu hm.fr, by omega⟩
        · repeat (first | ((with_reducible refine toL hm ?_); (first | refine oneV hs gw_ rfl rfl (by intro w hm; (first | exact kvR_ | exact kb2_ | exact r_sadd hs rfl rfl rfl (by first | omega | (simp only [List.length_cons, List.length_nil]; omega) | (simp only [List.length_append, List.length_cons, List.length_nil]; omega)))) ?_ | refine oN_ ?_); clear hs a; intro a hs) | ((with_reducible apply lCons); first | (refine dv hs gw_ rfl rfl (by first | exact da_ | exact d_makeSlice hs rfl rfl rfl tab rfl rfl rfl rfl rfl (by omega) rfl hm) ?_; clear hs hm a; rintro _ w ⟨g, rfl, -, hm⟩ a hs) | (refine stn hs rfl rfl ds_ ?_; clear hs hm a; rintro - w hm a hs) | (refine dv hs gw_ rfl rfl (d_call hs rfl rfl rfl (pl 34 rfl) (hit xc hixc _ (hQ.pu hm.fr))) ?_; clear hs a; rintro _ w ⟨rfl, hf⟩ a hs; replace hm := hm.pu hf; clear hf)) | refine sx_ ?_ | refine cx_ ?_)
          refine ⟨2 + 1, by omega, ?_⟩
          rw [show S ++ pjL ⟨xo, xa, xb, xc, xm⟩ (2 + 1) = R ++ ([32, 114] ++ Lib.itoa xc) from (by rw [hp2, f_yes, ← List.append_assoc, hR])]
          exact ⟨hs.sub (Has.all ⟨rfl, rfl, rfl, rfl, rfl, rfl, rfl, rfl, rfl, rfl, rfl, trivial⟩), hQ.pu hm.fr, by omega⟩
      obtain rfl : j = 3 := by omega
      rw [hR] at hfin
      cases jb
      · cases u4
        · have hZ := hfin [] (by rw [hf4]; rfl)
          rw [List.append_nil] at hZ
          repeat (first | ((with_reducible refine toL hm ?_); (first | refine oneV hs gw_ rfl rfl (by intro w hm; (first | exact kvR_ | exact kb2_ | exact r_sadd hs rfl rfl rfl (by first | omega | (simp only [List.length_cons, List.length_nil]; omega) | (simp only [List.length_append, List.length_cons, List.length_nil]; omega)))) ?_ | refine oN_ ?_); clear hs a; intro a hs) | ((with_reducible apply lCons); first | (refine dv hs gw_ rfl rfl (by first | exact da_ | exact d_makeSlice hs rfl rfl rfl tab rfl rfl rfl rfl rfl (by omega) rfl hm) ?_; clear hs hm a; rintro _ w ⟨g, rfl, -, hm⟩ a hs) | (refine stn hs rfl rfl ds_ ?_; clear hs hm a; rintro - w hm a hs) | (refine dv hs gw_ rfl rfl (d_call hs rfl rfl rfl (pl 31 rfl) (hjm _)) ?_; clear hs a; rintro _ w ⟨rfl, hf⟩ a hs; replace hm := hm.pu hf; clear hf)) | refine sx_ ?_ | refine cx_ ?_)
          refine ⟨k + 1, by omega, ?_⟩
          rw [hZ]
          exact ⟨hs.sub (Has.all ⟨rfl, rfl, rfl, rfl, rfl, rfl, trivial⟩), hPE.pu (hQ.pu hm.fr), by omega⟩
        · have hZ := hfin ([32] ++ Lib.itoa xm) (by rw [hf4]; exact List.append_nil _)
          repeat (first | ((with_reducible refine toL hm ?_); (first | refine oneV hs gw_ rfl rfl (by intro w hm; (first | exact kvR_ | exact kb2_ | exact r_sadd hs rfl rfl rfl (by first | omega | (simp only [List.length_cons, List.length_nil]; omega) | (simp only [List.length_append, List.length_cons, List.length_nil]; omega)))) ?_ | refine oN_ ?_); clear hs a; intro a hs) | ((with_reducible apply lCons); first | (refine dv hs gw_ rfl rfl (by first | exact da_ | exact d_makeSlice hs rfl rfl rfl tab rfl rfl rfl rfl rfl (by omega) rfl hm) ?_; clear hs hm a; rintro _ w ⟨g, rfl, -, hm⟩ a hs) | (refine stn hs rfl rfl ds_ ?_; clear hs hm a; rintro - w hm a hs) | (refine dv hs gw_ rfl rfl (d_call hs rfl rfl rfl (pl 31 rfl) (hjm _)) ?_; clear hs a; rintro _ w ⟨rfl, hf⟩ a hs; replace hm := hm.pu hf; clear hf) | (refine dv hs gw_ rfl rfl (d_call hs rfl rfl rfl (pl 34 rfl) (hit xm hixm _ (hQ.pu hm.fr))) ?_; clear hs a; rintro _ w ⟨rfl, hf⟩ a hs; replace hm := hm.pu hf; clear hf)) | refine sx_ ?_ | refine cx_ ?_)
          refine ⟨k + 1, by omega, ?_⟩
          rw [hZ]
          exact ⟨hs.sub (Has.all ⟨rfl, rfl, rfl, rfl, rfl, rfl, trivial⟩), hPE.pu (hQ.pu hm.fr), by omega⟩
      · have hZ := hfin ([32, 108] ++ Lib.itoa xm) (by rw [hf4]; exact List.append_nil _)
        repeat (first | ((with_reducible refine toL hm ?_); (first | refine oneV hs gw_ rfl rfl (by intro w hm; (first | exact kvR_ | exact kb2_ | exact r_sadd hs rfl rfl rfl (by first | omega | (simp only [List.length_cons, List.length_nil]; omega) | (simp only [List.length_append, List.length_cons, List.length_nil]; omega)))) ?_ | refine oN_ ?_); clear hs a; intro a hs) | ((with_reducible apply lCons); first | (refine dv hs gw_ rfl rfl (by first | exact da_ | exact d_makeSlice hs rfl rfl rfl tab rfl rfl rfl rfl rfl (by omega) rfl hm) ?_; clear hs hm a; rintro _ w ⟨g, rfl, -, hm⟩ a hs) | (refine stn hs rfl rfl ds_ ?_; clear hs hm a; rintro - w hm a hs) | (refine dv hs gw_ rfl rfl (d_call hs rfl rfl rfl (pl 31 rfl) (hjm _)) ?_; clear hs a; rintro _ w ⟨rfl, hf⟩ a hs; replace hm := hm.pu hf; clear hf) | (refine dv hs gw_ rfl rfl (d_call hs rfl rfl rfl (pl 34 rfl) (hit xm hixm _ (hQ.pu hm.fr))) ?_; clear hs a; rintro _ w ⟨rfl, hf⟩ a hs; replace hm := hm.pu hf; clear hf)) | refine sx_ ?_ | refine cx_ ?_)
        refine ⟨k + 1, by omega, ?_⟩
        rw [hZ]
        exact ⟨hs.sub (Has.all ⟨rfl, rfl, rfl, rfl, rfl, rfl, trivial⟩), hPE.pu (hQ.pu hm.fr), by omega⟩
    · repeat (first | ((with_reducible refine toL hm ?_); (first | refine oneV hs gw_ rfl rfl (by intro w hm; (first | exact kvR_ | exact kb2_ | exact r_sadd hs rfl rfl rfl (by first | omega | (simp only [List.length_cons, List.length_nil]; omega) | (simp only [List.length_append, List.length_cons, List.length_nil]; omega)))) ?_ | refine oN_ ?_); clear hs a; intro a hs) | ((with_reducible apply lCons); first | (refine dv hs gw_ rfl rfl (by first | exact da_ | exact d_makeSlice hs rfl rfl rfl tab rfl rfl rfl rfl rfl (by omega) rfl hm) ?_; clear hs hm a; rintro _ w ⟨g, rfl, -, hm⟩ a hs) | (refine stn hs rfl rfl ds_ ?_; clear hs hm a; rintro - w hm a hs) | (refine dv hs gw_ rfl rfl (d_call hs rfl rfl rfl (pl 34 rfl) (hik _ hm.fr)) ?_; clear hs a; rintro _ w ⟨rfl, hf⟩ a hs; replace hm := hm.pu hf; clear hf) | (refine dv hs gw_ rfl rfl (d_call hs rfl rfl rfl (pl 16 rfl) (hnm _ hm.fr)) ?_; clear hs a; rintro _ w ⟨rfl, hf⟩ a hs; replace hm := hm.pu hf; clear hf) | (refine dv hs gw_ rfl rfl (d_call hs rfl rfl rfl (pl 40 rfl) (hus _)) ?_; clear hs a; rintro _ w ⟨rfl, hf⟩ a hs; replace hm := hm.pu hf; clear hf)) | refine sx_ ?_ | refine cx_ ?_)
      obtain ⟨g13, en_⟩ := hs.pt 13 (by exact rfl); subst en_
      obtain ⟨g14, en_⟩ := hs.pt 14 (by exact rfl); subst en_
      obtain ⟨g104, en_⟩ := hs.ps 104 (by exact rfl); subst en_
      have x1 := hm.ro (k := 0) (n := 5) (g := g13) mem_ (cutF_ok rfl)
      have x2 := hm.ro (k := 0) (n := 4) (g := g14) mem_ (cutF_ok rfl)
      have x3 := hm.ro (k := 0) (n := 3) (g := g104) mem_ (cutF_ok rfl)
      have hPE := hP.pu hm.fr
      clear hm hP s1 s4 s9 hrk
      rename World => wE
      obtain ⟨S, hS⟩ : ∃ z, (T1 ++ cdsL code k ++ ([108] ++ Lib.itoa (k : Int) ++ [58, 10])) ++ nameL xo = z := ⟨_, rfl⟩
      rw [hS] at hs
      have hSl : S.length ≤ 100000 := by
        rw [← hS]
        simp only [List.length_append, List.length_cons, List.length_nil]
        omega
      have hfin : ∀ Z, f4L ⟨xo, xa, xb, xc, xm⟩ = Z → T1 ++ cdsL code (k + 1) = S ++ pjL ⟨xo, xa, xb, xc, xm⟩ 3 ++ Z ++ [10] := fun Z hZ => by
        rw [hcs, ← hS, lineL_eq, hZ]
        simp only [List.append_assoc, lbL, List.cons_append, List.nil_append, if_true]
      clear hS
      have htE := htD.pu hPE
      have hit := fun (v : Int) (hv : 0 ≤ v ∧ v ≤ 65535) w'' (hf : Pu wE w'') => itoa_c v w'' (by omega) (by omega) (htE.pu hf)
      have hs3 : Sl Tryz.f14.ntmps [(1, .pointer (some ⟨g1, 0, none⟩)), (4, txv (S ++ pjL ⟨xo, xa, xb, xc, xm⟩ 0)), (9, .slice (some ⟨g9, 0, none⟩) code.length code.length), (13, .pointer (some ⟨g13, 0, none⟩)), (14, .pointer (some ⟨g14, 0, none⟩)), (73, .slice (some ⟨b1, o1, none⟩) code.length cc), (74, .int .i64 (code.length : Int)), (75, .int .i64 (k : Int)), (104, .slice (some ⟨g104, 0, none⟩) 3 3), (105, .int .i64 3), (106, .int .i64 ((0 : Nat) : Int))] a := by
        rw [show S ++ pjL ⟨xo, xa, xb, xc, xm⟩ 0 = S from List.append_nil _]
        exact hs.sub (Has.all ⟨rfl, rfl, rfl, rfl, rfl, rfl, rfl, rfl, rfl, rfl, rfl, trivial⟩)
      refine cLoop (X := Nat) (fun j a w' => Sl Tryz.f14.ntmps [(1, .pointer (some ⟨g1, 0, none⟩)), (4, txv (S ++ pjL ⟨xo, xa, xb, xc, xm⟩ j)), (9, .slice (some ⟨g9, 0, none⟩) code.length code.length), (13, .pointer (some ⟨g13, 0, none⟩)), (14, .pointer (some ⟨g14, 0, none⟩)), (73, .slice (some ⟨b1, o1, none⟩) code.length cc), (74, .int .i64 (code.length : Int)), (75, .int .i64 (k : Int)), (104, .slice (some ⟨g104, 0, none⟩) 3 3), (105, .int .i64 3), (106, .int .i64 (j : Int))] a ∧ Pu wE w' ∧ j ≤ 3) (fun j => 3 - j) 0 ⟨hs3, Fr.refl _ _, Nat.zero_le _⟩ ?_
      clear hs hs3 a
      rintro j a w6 ⟨hs, hQ, hj⟩
      have hm := Mm.nil (fun _ => False) w6
      replace x1 := x1.pu_ hQ
      replace x2 := x2.pu_ hQ
      replace x3 := x3.pu_ hQ
      have hpl := pjL_le _ hini j
      obtain ⟨R, hR⟩ : ∃ z, S ++ pjL ⟨xo, xa, xb, xc, xm⟩ j = z := ⟨_, rfl⟩
      have hRl : R.length ≤ 110000 := by
        rw [← hR, List.length_append]
        omega
      rw [hR] at hs
      by_cases hj0 : j = 0
      · subst hj0
        cases u1
        · repeat (first | ((with_reducible refine toL hm ?_); (first | refine oneV hs gw_ rfl rfl (by intro w hm; (first | exact kvR_ | exact kb2_ | exact r_sadd hs rfl rfl rfl (by first | omega | (simp only [List.length_cons, List.length_nil]; omega) | (simp only [List.length_append, List.length_cons, List.length_nil]; omega)))) ?_ | refine oN_ ?_); clear hs a; intro a hs) | ((with_reducible apply lCons); first | (refine dv hs gw_ rfl rfl (by first | exact da_ | exact d_makeSlice hs rfl rfl rfl tab rfl rfl rfl rfl rfl (by omega) rfl hm) ?_; clear hs hm a; rintro _ w ⟨g, rfl, -, hm⟩ a hs) | (refine stn hs rfl rfl ds_ ?_; clear hs hm a; rintro - w hm a hs) ) | refine sx_ ?_ | refine cx_ ?_)
          refine ⟨0 + 1, by omega, ?_⟩
          rw [show S ++ pjL ⟨xo, xa, xb, xc, xm⟩ (0 + 1) = R from (by rw [hp0, f_no, List.append_nil, hR])]
          exact ⟨hs.sub (Has.all ⟨rfl, rfl, rfl, rfl, rfl, rfl, rfl, rfl, rfl, rfl, rfl, trivial⟩), hQ.pu hm.fr, by omega⟩
        · repeat (first | ((with_reducible refine toL hm ?_); (first | refine oneV hs gw_ rfl rfl (by intro w hm; (first | exact kvR_ | exact kb2_ | exact r_sadd hs rfl rfl rfl (by first | omega | (simp only [List.length_cons, List.length_nil]; omega) | (simp only [List.length_append, List.length_cons, List.length_nil]; omega)))) ?_ | refine oN_ ?_); clear hs a; intro a hs) | ((with_reducible apply lCons); first | (refine dv hs gw_ rfl rfl (by first | exact da_ | exact d_makeSlice hs rfl rfl rfl tab rfl rfl rfl rfl rfl (by omega) rfl hm) ?_; clear hs hm a; rintro _ w ⟨g, rfl, -, hm⟩ a hs) | (refine stn hs rfl rfl ds_ ?_; clear hs hm a; rintro - w hm a hs) | (refine dv hs gw_ rfl rfl (d_call hs rfl rfl rfl (pl 34 rfl) (hit xa hixa _ (hQ.pu hm.fr))) ?_; clear hs a; rintro _ w ⟨rfl, hf⟩ a hs; replace hm := hm.pu hf; clear hf)) | refine sx_ ?_ | refine cx_ ?_)
          refine ⟨0 + 1, by omega, ?_⟩
          rw [show S ++ pjL ⟨xo, xa, xb, xc, xm⟩ (0 + 1) = R ++ ([32, 114] ++ Lib.itoa xa) from (by rw [hp0, f_yes, ← List.append_assoc, hR])]
          exact ⟨hs.sub (Has.all ⟨rfl, rfl, rfl, rfl, rfl, rfl, rfl, rfl, rfl, rfl, rfl, trivial⟩), hQ.pu hm.fr, by omega⟩
      by_cases hj1 : j = 1
      · subst hj1
        cases u2
        · repeat (first | ((with_reducible refine toL hm ?_); (first | refine oneV hs gw_ rfl rfl (by intro w hm; (first | exact kvR_ | exact kb2_ | exact r_sadd hs rfl rfl rfl (by first | omega | (simp only [List.length_cons, List.length_nil]; omega) | (simp only [List.length_append, List.length_cons, List.length_nil]; omega)))) ?_ | refine oN_ ?_); clear hs a; intro a hs) | ((with_reducible apply lCons); first | (refine dv hs gw_ rfl rfl (by first | exact da_ | exact d_makeSlice hs rfl rfl rfl tab rfl rfl rfl rfl rfl (by omega) rfl hm) ?_; clear hs hm a; rintro _ w ⟨g, rfl, -, hm⟩ a hs) | (refine stn hs rfl rfl ds_ ?_; clear hs hm a; rintro - w hm a hs) ) | refine sx_ ?_ | refine cx_ ?_)
          refine ⟨1 + 1, by omega, ?_⟩
          rw [show S ++ pjL ⟨xo, xa, xb, xc, xm⟩ (1 + 1) = R from (by rw [hp1, f_no, List.append_nil, hR])]
          exact ⟨hs.sub (Has.all ⟨rfl, rfl, rfl, rfl, rfl, rfl, rfl, rfl, rfl, rfl, rfl, trivial⟩), hQ.pu hm.fr, by omega⟩
        · repeat (first | ((with_reducible refine toL hm ?_); (first | refine oneV hs gw_ rfl rfl (by intro w hm; (first | exact kvR_ | exact kb2_ | exact r_sadd hs rfl rfl rfl (by first | omega | (simp only [List.length_cons, List.length_nil]; omega) | (simp only [List.length_append, List.length_cons, List.length_nil]; omega)))) ?_ | refine oN_ ?_); clear hs a; intro a hs) | ((with_reducible apply lCons); first | (refine dv hs gw_ rfl rfl (by first | exact da_ | exact d_makeSlice hs rfl rfl rfl tab rfl rfl rfl rfl rfl (by omega) rfl hm) ?_; clear hs hm a; rintro _ w ⟨g, rfl, -, hm⟩ a hs) | (refine stn hs rfl rfl ds_ ?_; clear hs hm a; rintro - w hm a hs) | (refine dv hs gw_ rfl rfl (d_call hs rfl rfl rfl (pl 34 rfl) (hit xb hixb _ (hQ.pu hm.fr))) ?_; clear hs a; rintro _ w ⟨rfl, hf⟩ a hs; replace hm := hm.pu hf; clear hf)) | refine sx_ ?_ | refine cx_ ?_)
          refine ⟨1 + 1, by omega, ?_⟩
          rw [show S ++ pjL ⟨xo, xa, xb, xc, xm⟩ (1 + 1) = R ++ ([32, 114] ++ Lib.itoa xb) from (by rw [hp1, f_yes, ← List.append_assoc, hR])]
          exact ⟨hs.sub (Has.all ⟨rfl, rfl, rfl, rfl, rfl, rfl, rfl, rfl, rfl, rfl, rfl, trivial⟩), hQ.pu hm.fr, by omega⟩
      by_cases hj2 : j = 2
      · subst hj2
        cases u3
        · repeat (first | ((with_reducible refine toL hm ?_); (first | refine oneV hs gw_ rfl rfl (by intro w hm; (first | exact kvR_ | exact kb2_ | exact r_sadd hs rfl rfl rfl (by first | omega | (simp only [List.length_cons, List.length_nil]; omega) | (simp only [List.length_append, List.length_cons, List.length_nil]; omega)))) ?_ | refine oN_ ?_); clear hs a; intro a hs) | ((with_reducible apply lCons); first | (refine dv hs gw_ rfl rfl (by first | exact da_ | exact d_makeSlice hs rfl rfl rfl tab rfl rfl rfl rfl rfl (by omega) rfl hm) ?_; clear hs hm a; rintro _ w ⟨g, rfl, -, hm⟩ a hs) | (refine stn hs rfl rfl ds_ ?_; clear hs hm a; rintro - w hm a hs) ) | refine sx_ ?_ | refine cx_ ?_)
          refine ⟨2 + 1, by omega, ?_⟩
          rw [show S ++ pjL ⟨xo, xa, xb, xc, xm⟩ (2 + 1) = R from (by rw [hp2, f_no, List.append_nil, hR])]
          exact ⟨hs.sub (Has.all ⟨rfl, rfl, rfl, rfl, rfl, rfl, rfl, rfl, rfl, rfl, rfl, trivial⟩), hQ.pu hm.fr, by omega⟩
        · repeat (first | ((with_reducible refine toL hm ?_); (first | refine oneV hs gw_ rfl rfl (by intro w hm; (first | exact kvR_ | exact kb2_ | exact r_sadd hs rfl rfl rfl (by first | omega | (simp only [List.length_cons, List.length_nil]; omega) | (simp only [List.length_append, List.length_cons, List.length_nil]; omega)))) ?_ | refine oN_ ?_); clear hs a; intro a hs) | ((with_reducible apply lCons); first | (refine dv hs gw_ rfl rfl (by first | exact da_ | exact d_makeSlice hs rfl rfl rfl tab rfl rfl rfl rfl rfl (by omega) rfl hm) ?_; clear hs hm a; rintro _ w ⟨g, rfl, -, hm⟩ a hs) | (refine stn hs rfl rfl ds_ ?_; clear hs hm a; rintro - w hm a hs) | (refine dv hs gw_ rfl rfl (d_call hs rfl rfl rfl (pl 34 rfl) (hit xc hixc _ (hQ.pu hm.fr))) ?_; clear hs a; rintro _ w ⟨rfl, hf⟩ a hs; replace hm := hm.pu hf; clear hf)) | refine sx_ ?_ | refine cx_ ?_)
          refine ⟨2 + 1, by omega, ?_⟩
          rw [show S ++ pjL ⟨xo, xa, xb, xc, xm⟩ (2 + 1) = R ++ ([32, 114] ++ Lib.itoa xc) from (by rw [hp2, f_yes, ← List.append_assoc, hR])]
          exact ⟨hs.sub (Has.all ⟨rfl, rfl, rfl, rfl, rfl, rfl, rfl, rfl, rfl, rfl, rfl, trivial⟩), hQ.pu hm.fr, by omega⟩
      obtain rfl : j = 3 := by omega
      rw [hR] at hfin
      cases jb
      · cases u4
        · have hZ := hfin [] (by rw [hf4]; rfl)
          rw [List.append_nil] at hZ
          repeat (first | ((with_reducible refine toL hm ?_); (first | refine oneV hs gw_ rfl rfl (by intro w hm; (first | exact kvR_ | exact kb2_ | exact r_sadd hs rfl rfl rfl (by first | omega | (simp only [List.length_cons, List.length_nil]; omega) | (simp only [List.length_append, List.length_cons, List.length_nil]; omega)))) ?_ | refine oN_ ?_); clear hs a; intro a hs) | ((with_reducible apply lCons); first | (refine dv hs gw_ rfl rfl (by first | exact da_ | exact d_makeSlice hs rfl rfl rfl tab rfl rfl rfl rfl rfl (by omega) rfl hm) ?_; clear hs hm a; rintro _ w ⟨g, rfl, -, hm⟩ a hs) | (refine stn hs rfl rfl ds_ ?_; clear hs hm a; rintro - w hm a hs) | (refine dv hs gw_ rfl rfl (d_call hs rfl rfl rfl (pl 31 rfl) (hjm _)) ?_; clear hs a; rintro _ w ⟨rfl, hf⟩ a hs; replace hm := hm.pu hf; clear hf)) | refine sx_ ?_ | refine cx_ ?_)
          refine ⟨k + 1, by omega, ?_⟩
          rw [hZ]
          exact ⟨hs.sub (Has.all ⟨rfl, rfl, rfl, rfl, rfl, rfl, trivial⟩), hPE.pu (hQ.pu hm.fr), by omega⟩
        · have hZ := hfin ([32] ++ Lib.itoa xm) (by rw [hf4]; exact List.append_nil _)
          repeat (first | ((with_reducible refine toL hm ?_); (first | refine oneV hs gw_ rfl rfl (by intro w hm; (first | exact kvR_ | exact kb2_ | exact r_sadd hs rfl rfl rfl (by first | omega | (simp only [List.length_cons, List.length_nil]; omega) | (simp only [List.length_append, List.length_cons, List.length_nil]; omega)))) ?_ | refine oN_ ?_); clear hs a; intro a hs) | ((with_reducible apply lCons); first | (refine dv hs gw_ rfl rfl (by first | exact da_ | exact d_makeSlice hs rfl rfl rfl tab rfl rfl rfl rfl rfl (by omega) rfl hm) ?_; clear hs hm a; rintro _ w ⟨g, rfl, -, hm⟩ a hs) | (refine stn hs rfl rfl ds_ ?_; clear hs hm a; rintro - w hm a hs) | (refine dv hs gw_ rfl rfl (d_call hs rfl rfl rfl (pl 31 rfl) (hjm _)) ?_; clear hs a; rintro _ w ⟨rfl, hf⟩ a hs; replace hm := hm.pu hf; clear hf) | (refine dv hs gw_ rfl rfl (d_call hs rfl rfl rfl (pl 34 rfl) (hit xm hixm _ (hQ.pu hm.fr))) ?_; clear hs a; rintro _ w ⟨rfl, hf⟩ a hs; replace hm := hm.pu hf; clear hf)) | refine sx_ ?_ | refine cx_ ?_)
          refine ⟨k + 1, by omega, ?_⟩
          rw [hZ]
          exact ⟨hs.sub (Has.all ⟨rfl, rfl, rfl, rfl, rfl, rfl, trivial⟩), hPE.pu (hQ.pu hm.fr), by omega⟩
      · have hZ := hfin ([32, 108] ++ Lib.itoa xm) (by rw [hf4]; exact List.append_nil _)
        repeat (first | ((with_reducible refine toL hm ?_); (first | refine oneV hs gw_ rfl rfl (by intro w hm; (first | exact kvR_ | exact kb2_ | exact r_sadd hs rfl rfl rfl (by first | omega | (simp only [List.length_cons, List.length_nil]; omega) | (simp only [List.length_append, List.length_cons, List.length_nil]; omega)))) ?_ | refine oN_ ?_); clear hs a; intro a hs) | ((with_reducible apply lCons); first | (refine dv hs gw_ rfl rfl (by first | exact da_ | exact d_makeSlice hs rfl rfl rfl tab rfl rfl rfl rfl rfl (by omega) rfl hm) ?_; clear hs hm a; rintro _ w ⟨g, rfl, -, hm⟩ a hs) | (refine stn hs rfl rfl ds_ ?_; clear hs hm a; rintro - w hm a hs) | (refine dv hs gw_ rfl rfl (d_call hs rfl rfl rfl (pl 31 rfl) (hjm _)) ?_; clear hs a; rintro _ w ⟨rfl, hf⟩ a hs; replace hm := hm.pu hf; clear hf) | (refine dv hs gw_ rfl rfl (d_call hs rfl rfl rfl (pl 34 rfl) (hit xm hixm _ (hQ.pu hm.fr))) ?_; clear hs a; rintro _ w ⟨rfl, hf⟩ a hs; replace hm := hm.pu hf; clear hf)) | refine sx_ ?_ | refine cx_ ?_)
        refine ⟨k + 1, by omega, ?_⟩
        rw [hZ]
        exact ⟨hs.sub (Has.all ⟨rfl, rfl, rfl, rfl, rfl, rfl, trivial⟩), hPE.pu (hQ.pu hm.fr), by omega⟩
  obtain rfl : k = code.length := by omega
  repeat (first | ((with_reducible refine toL hm ?_); (first | refine oneV hs gw_ rfl rfl (by intro w hm; (first | exact kvR_ | exact kb2_ | exact r_sadd hs rfl rfl rfl (by first | omega | (simp only [List.length_cons, List.length_nil]; omega) | (simp only [List.length_append, List.length_cons, List.length_nil]; omega)))) ?_ | refine oN_ ?_); clear hs a; intro a hs) | ((with_reducible apply lCons); first | (refine dv hs gw_ rfl rfl (by first | exact da_ | exact d_makeSlice hs rfl rfl rfl tab rfl rfl rfl rfl rfl (by omega) rfl hm) ?_; clear hs hm a; rintro _ w ⟨g, rfl, -, hm⟩ a hs) | (refine stn hs rfl rfl ds_ ?_; clear hs hm a; rintro - w hm a hs) ) | refine sx_ ?_ | refine cx_ ?_)
  exact gRetN tab hs rfl (.cons (.tmp rfl) (.cons (.tmp rfl) .nil)) ⟨fun _ => rfl, fun h => absurd hG h, hF0.pu (hPD.pu (hP.pu hm.fr))⟩
end Go.Proofs.YtajkekhnfobgiaaGreatDoor
