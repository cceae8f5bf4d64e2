/- Texts put together: Ate, Atf, Atg, Atk, Atl, Atp, Atq, Atr, Atrv, Atx. -/
import Derived.Test.YtajkekhnfobgiaaGreatDoorMgRd
/- A program is read back from its text, whatever its labels are called: instructions, labels, jumps. -/
namespace Go.Proofs.YtajkekhnfobgiaaGreatDoor
set_option maxRecDepth 20000
open Go.RowKit

theorem uses_jump {op : Int} (h : jumpB op = true) : (usesF op).2.2.2 = true := by
  have h1 := (jumpB_iff op).1 h
  rcases (by omega : op = 18 ∨ op = 19 ∨ op = 20 ∨ op = 21) with rfl | rfl | rfl | rfl <;> rfl
/-- a jump whose target is not yet known -/
def z0 (i : In) : In := if jumpB i.op then { i with m := 0 } else i
def lstN (nm : Nat → Tx) (i : In) : List Tx := if jumpB i.op then [nm i.m.toNat] else if (usesF i.op).2.2.2 then [Lib.itoa i.m] else []
def regsN (i : In) : List Tx := regW (usesF i.op).1 i.a ++ (regW (usesF i.op).2.1 i.b ++ (regW (usesF i.op).2.2.1 i.c))
def wordsN (nm : Nat → Tx) (i : In) : List Tx := nameL i.op :: (regsN i ++ lstN nm i)
def lineN (nm : Nat → Tx) (i : In) : Tx := Lib.join (wordsN nm i) [32]
theorem tkR_reg {u : Bool} {v : Int} (h : 0 ≤ v ∧ v < 8 ∧ (u = false → v = 0)) (rest : List Tx) : tkR u [114] 7 (regW u v ++ rest) = some (v, false, rest) := by
  unfold tkR regW
  cases u
  · rw [h.2.2 rfl]; rfl
  · show tkF [114] 7 ((114 :: Lib.itoa v) :: rest) = _
    unfold tkF
    have h1 : [114].isPrefixOf (114 :: Lib.itoa v) = true := by rw [List.isPrefixOf]; rfl
    dsimp only
    rw [h1, if_pos rfl]
    show (match decF (Lib.itoa v) with | none => none | some n => some (n, decide (7 < n), rest)) = _
    rw [decF_itoa (by omega)]
    dsimp only
    rw [decide_eq_false (by omega)]
theorem lstF_N {nm : Nat → Tx} {i : In} {n ns : Nat} (h : InG i n ns) (hnm : jumpB i.op = true → nmB (nm i.m.toNat) = true) : lstF i.op (usesF i.op).2.2.2 ns (lstN nm i) = some ((z0 i).m, false, if jumpB i.op then nm i.m.toNat else [], []) := by
  have hv := h.1.1
  unfold lstF lstN z0
  cases hj : jumpB i.op
  · cases hu : (usesF i.op).2.2.2
    · have := hv.m.2.2 hu
      rw [Bool.not_false, if_pos rfl, if_neg (by decide), if_neg (by decide), if_neg (by decide), if_neg (by decide), this]
    · rw [Bool.not_true, if_neg (by decide), if_neg (by decide), if_neg (by decide), if_pos rfl, if_neg (by decide), if_neg (by decide)]
      have hm : decide (mostF i.op ns < i.m) = false := decide_eq_false (by
        unfold mostF
        have h1 := hv.m
        split
        · rename_i e; have := h.2.2 e; omega
        · split
          · rename_i e; have := hv.sys e; omega
          · omega)
      have ht : tkF [] (mostF i.op ns) [Lib.itoa i.m] = some (i.m, false, []) := by
        unfold tkF
        dsimp only
        rw [show ([] : Tx).isPrefixOf (Lib.itoa i.m) = true by cases Lib.itoa i.m <;> rfl, if_pos rfl]
        show (match decF (Lib.itoa i.m) with | none => none | some n => some (n, decide (mostF i.op ns < n), [])) = _
        rw [decF_itoa (by have := hv.m; omega)]
        dsimp only
        rw [hm]
      rw [ht]
  · rw [uses_jump hj, Bool.not_true, if_neg (by decide), if_pos rfl, if_pos rfl, if_pos rfl, if_pos rfl]
    dsimp only
    rw [hnm hj, if_pos rfl]
theorem opsF_N {nm : Nat → Tx} {i : In} {n ns : Nat} (h : InG i n ns) (hnm : jumpB i.op = true → nmB (nm i.m.toNat) = true) : opsF i.op ns (regsN i ++ lstN nm i) = some (z0 i, false, if jumpB i.op then nm i.m.toNat else []) := by
  have hv := h.1.1
  unfold opsF regsN
  rw [List.append_assoc, List.append_assoc, tkR_reg hv.a]
  dsimp only
  rw [tkR_reg hv.b]
  dsimp only
  rw [tkR_reg hv.c]
  dsimp only
  rw [lstF_N h hnm]
  dsimp only
  rw [if_pos rfl]
  have : z0 i = ⟨i.op, i.a, i.b, i.c, (z0 i).m⟩ := by unfold z0; split <;> rfl
  rw [← this]
  rfl
theorem name_idx : ∀ k : Nat, k < 25 → idxF (nameL (k : Int)) nmL 0 = some k ∧ nameL (k : Int) ≠ rgN := by decide
theorem nmB_aln {l : Tx} (h : nmB l = true) : l.all alnB = true := by
  unfold nmB at h
  rw [Bool.and_eq_true, Bool.and_eq_true] at h
  exact h.1.2
theorem nmB_ne {l : Tx} (h : nmB l = true) : l ≠ [] := by rintro rfl; cases h
theorem wordsN_aln {nm : Nat → Tx} {i : In} (h : In0 i) (hnm : jumpB i.op = true → nmB (nm i.m.toNat) = true) : ∀ x ∈ wordsN nm i, x.all alnB = true := by
  intro x hx
  unfold wordsN regsN at hx
  simp only [List.mem_append, List.mem_cons] at hx
  rcases hx with rfl | (hx | hx | hx) | hx
  · exact name_aln _
  · exact regW_aln _ h.a x hx
  · exact regW_aln _ h.b x hx
  · exact regW_aln _ h.c x hx
  · unfold lstN at hx
    split at hx
    · rename_i hj
      rcases List.mem_singleton.1 hx with rfl
      exact nmB_aln (hnm hj)
    · split at hx
      · rcases List.mem_singleton.1 hx with rfl
        exact itoa_aln h.m
      · exact absurd hx List.not_mem_nil
theorem lineN_cln {nm : Nat → Tx} {i : In} (h : In0 i) (hnm : jumpB i.op = true → nmB (nm i.m.toNat) = true) : ClnL (lineN nm i) :=
  cln_join (by intro c hc; rcases List.mem_singleton.1 hc with rfl; decide) _ fun x hx => .of_aln (wordsN_aln h hnm x hx)
theorem lineN_spl {nm : Nat → Tx} {i : In} (h : In0 i) (hnm : jumpB i.op = true → nmB (nm i.m.toNat) = true) : spl 32 (lineN nm i) = wordsN nm i := by
  have hw := wordsN_aln h hnm
  unfold lineN
  unfold wordsN at hw ⊢
  rw [join_words]
  exact spl_words 32 _ _ (no32_aln (hw _ (List.mem_cons_self ..))) fun x hx => no32_aln (hw x (List.mem_cons_of_mem _ hx))
theorem rd_instr {nm : Nat → Tx} {r : RdS} {i : In} {n : Nat} {k : Nat} (h : InG i n r.ss.length) (hnm : jumpB i.op = true → nmB (nm i.m.toNat) = true) (hl : r.code.length < 64) :
    rdF r (lineN nm i) k = ({ r with code := r.code ++ [z0 i], js := if jumpB i.op then r.js ++ [(r.code.length, k, nm i.m.toNat)] else r.js, last := false }, 0) := by
  have h0 := h.1.in0
  obtain ⟨o, ho⟩ : ∃ o : Nat, i.op = (o : Int) := ⟨i.op.toNat, by have := h.1.1.op; omega⟩
  have ho25 : o < 25 := by have := h.1.1.op; omega
  obtain ⟨n1, n2⟩ := name_idx o ho25
  rw [← ho] at n1 n2
  unfold rdF
  rw [labF_none fun c hc => (lineN_cln h0 hnm c hc).2, lineN_spl h0 hnm]
  unfold wordsN
  dsimp only
  rw [List.headD_cons, if_neg n2, List.tail_cons, n1]
  dsimp only
  unfold insF
  rw [← ho]
  dsimp only
  rw [opsF_N h hnm]
  dsimp only
  rw [if_neg (by rintro (h1 | h1); cases h1; omega)]
  cases hj : jumpB i.op
  · simp
  · have := nmB_ne (hnm hj)
    simp [this]
theorem rd_label {nmk : Tx} {r : RdS} {k : Nat} (h : nmB nmk = true) (hno : atL r.lab nmk = none) : rdF r (nmk ++ [58]) k = ({ r with lab := (nmk, r.code.length) :: r.lab, last := true }, 0) := by
  have hL : labF (nmk ++ [58]) = some nmk := by
    unfold labF
    have h1 : [58].isSuffixOf (nmk ++ [58]) = true := by rw [List.isSuffixOf_iff_suffix]; exact ⟨nmk, rfl⟩
    have h2 : (nmk ++ [58]).take ((nmk ++ [58]).length - 1) = nmk := by rw [List.length_append, List.length_singleton, Nat.add_sub_cancel, List.take_left' rfl]
    rw [h1, h2, h]; rfl
  unfold rdF
  rw [hL]
  dsimp only
  rw [if_neg (by rw [any_atL, hno]; decide)]
/-! all lines of the code -/
def cLn (nm : Nat → Tx) (code : List In) (k : Nat) : List Tx := (if tgB code (k : Int) = true then [nm k ++ [58]] else []) ++ [lineN nm (code.getD k ⟨0, 0, 0, 0, 0⟩)]
def cLns (nm : Nat → Tx) (code : List In) (k : Nat) : List Tx := (List.range k).flatMap (cLn nm code)
theorem cLns_succ (nm : Nat → Tx) (code : List In) (k : Nat) : cLns nm code (k + 1) = cLns nm code k ++ cLn nm code k := by
  unfold cLns
  rw [List.range_succ, List.flatMap_append]; simp
def labsN (nm : Nat → Tx) (code : List In) : Nat → List (Tx × Nat)
  | 0 => []
  | k + 1 => (if tgB code (k : Int) = true then [(nm k, k)] else []) ++ labsN nm code k
def jsN (nm : Nat → Tx) (code : List In) (nr : Nat) (k : Nat) : List (Nat × Nat × Tx) := if jumpB (code.getD k ⟨0, 0, 0, 0, 0⟩).op then [(k, nr + k + tcnt code (k + 1), nm (code.getD k ⟨0, 0, 0, 0, 0⟩).m.toNat)] else []
def jssN (nm : Nat → Tx) (code : List In) (nr : Nat) (k : Nat) : List (Nat × Nat × Tx) := (List.range k).flatMap (jsN nm code nr)
theorem jssN_succ (nm : Nat → Tx) (code : List In) (nr k : Nat) : jssN nm code nr (k + 1) = jssN nm code nr k ++ jsN nm code nr k := by
  unfold jssN
  rw [List.range_succ, List.flatMap_append]; simp
structure NmOk (nm : Nat → Tx) : Prop where
  ok : ∀ k, k < 64 → nmB (nm k) = true
  inj : ∀ j k, j < 64 → k < 64 → nm j = nm k → j = k
theorem labs_at {nm : Nat → Tx} (hnm : NmOk nm) (code : List In) : ∀ (k m : Nat), k ≤ 64 → m < 64 → atL (labsN nm code k) (nm m) = if m < k ∧ tgB code (m : Int) = true then some m else none
  | 0, m, _, _ => by
    rw [if_neg (fun h => absurd h.1 (Nat.not_lt_zero _))]; rfl
  | k + 1, m, hk, hm => by
    have ih := labs_at hnm code k m (by omega) hm
    unfold labsN
    cases ht : tgB code (k : Int)
    · rw [if_neg (by decide), List.nil_append, ih]
      by_cases e : m = k
      · subst e
        rw [if_neg (fun h => absurd h.1 (Nat.lt_irrefl _)), if_neg (fun h => by rw [ht] at h; cases h.2)]
      · by_cases h : m < k ∧ tgB code (m : Int) = true
        · rw [if_pos h, if_pos ⟨by omega, h.2⟩]
        · rw [if_neg h, if_neg (fun h2 => h ⟨by omega, h2.2⟩)]
    · rw [if_pos rfl, List.singleton_append, atL_cons]
      by_cases e : m = k
      · subst e
        rw [if_pos rfl, if_pos ⟨Nat.lt_succ_self _, ht⟩]
      · rw [if_neg (fun h => e (hnm.inj _ _ (by omega) hm h).symm), ih]
        by_cases h : m < k ∧ tgB code (m : Int) = true
        · rw [if_pos h, if_pos ⟨by omega, h.2⟩]
        · rw [if_neg h, if_neg (fun h2 => h ⟨by omega, h2.2⟩)]
theorem rd_code {nm : Nat → Tx} (hnm : NmOk nm) {p : PV} (h : GoodP p) (xss : List (List Int)) : ∀ k, k ≤ p.code.length →
    rdA ⟨[], p.ss, xss, [], [], false⟩ (cLns nm p.code k) p.ss.length = (⟨(p.code.take k).map z0, p.ss, xss, labsN nm p.code k, jssN nm p.code p.ss.length k, false⟩, p.ss.length + k + tcnt p.code k, 0)
  | 0, _ => rfl
  | k + 1, hk => by
    have ih := rd_code hnm h xss k (by omega)
    have h2 := h.c2
    have hlt : k < p.code.length := by omega
    have hin := h.inv _ (List.getElem_mem hlt)
    have hget : p.code.getD k ⟨0, 0, 0, 0, 0⟩ = p.code[k] := by rw [List.getD_eq_getElem?_getD, List.getElem?_eq_getElem hlt, Option.getD_some]
    have hnj : jumpB (p.code[k]).op = true → nmB (nm (p.code[k]).m.toNat) = true := fun hj => hnm.ok _ (by have := hin.2.1 hj; have := hin.1.1.m; omega)
    have hlk : (((p.code.take k).map z0)).length = k := by rw [List.length_map, List.length_take]; omega
    have htk : (p.code.take (k + 1)).map z0 = (p.code.take k).map z0 ++ [z0 p.code[k]] := by rw [List.take_succ_eq_append_getElem hlt, List.map_append]; rfl
    have hjs : ∀ (e : Nat), e = p.ss.length + k + tcnt p.code (k + 1) → (if jumpB (p.code[k]).op then jssN nm p.code p.ss.length k ++ [(k, e, nm (p.code[k]).m.toNat)] else jssN nm p.code p.ss.length k) = jssN nm p.code p.ss.length (k + 1) := fun e he => by
      rw [jssN_succ, he]
      unfold jsN
      rw [hget]
      cases jumpB (p.code[k]).op
      · rw [if_neg (by decide), if_neg (by decide), List.append_nil]
      · rw [if_pos rfl, if_pos rfl]
    rw [cLns_succ, rdA_app _ _ _ _ _ _ ih]
    unfold cLn
    rw [hget]
    have hts := tcnt_succ p.code k
    cases ht : tgB p.code (k : Int)
    · rw [ht, if_neg (by decide), Nat.add_zero] at hts
      rw [if_neg (by decide), List.nil_append]
      have hrd := rd_instr (nm := nm) (r := ⟨(p.code.take k).map z0, p.ss, xss, labsN nm p.code k, jssN nm p.code p.ss.length k, false⟩) (k := p.ss.length + k + tcnt p.code k) hin hnj (by rw [hlk]; omega)
      rw [rdA_one hrd]
      dsimp only
      rw [hlk, hjs _ (by rw [hts]; rfl), ← htk]
      have hla : labsN nm p.code (k + 1) = labsN nm p.code k := by
        show (if tgB p.code (k : Int) = true then [(nm k, k)] else []) ++ _ = _
        rw [ht, if_neg (by decide), List.nil_append]
      rw [hla, hts]
      congr 2
      omega
    · rw [ht, if_pos rfl] at hts
      rw [if_pos rfl]
      have hno : atL (labsN nm p.code k) (nm k) = none := by rw [labs_at hnm p.code k k (by omega) (by omega), if_neg (fun h => absurd h.1 (Nat.lt_irrefl _))]
      have hrl := rd_label (nmk := nm k) (r := ⟨(p.code.take k).map z0, p.ss, xss, labsN nm p.code k, jssN nm p.code p.ss.length k, false⟩) (k := p.ss.length + k + tcnt p.code k) (hnm.ok k (by omega)) hno
      have hrd := rd_instr (nm := nm) (r := ⟨(p.code.take k).map z0, p.ss, xss, (nm k, ((p.code.take k).map z0).length) :: labsN nm p.code k, jssN nm p.code p.ss.length k, true⟩) (k := p.ss.length + k + tcnt p.code k + 1) hin hnj (by rw [hlk]; omega)
      rw [rdA_app _ _ _ _ _ _ (rdA_one hrl), rdA_one hrd]
      dsimp only
      rw [hlk, hjs _ (by rw [hts]; omega), ← htk]
      have hla : labsN nm p.code (k + 1) = (nm k, k) :: labsN nm p.code k := by
        show (if tgB p.code (k : Int) = true then [(nm k, k)] else []) ++ _ = _
        rw [ht, if_pos rfl]; rfl
      rw [hla, hts]
      congr 2
      omega
theorem modify_mid {α : Type} (f : α → α) : ∀ (a : List α) (b : α) (c : List α), (a ++ b :: c).modify a.length f = a ++ f b :: c
  | [], _, _ => rfl
  | x :: t, b, c => by
    rw [List.cons_append, List.length_cons, List.modify_succ_cons, modify_mid f t b c]
    rfl
/-- the code while labels are found -/
def mixN (code : List In) (k : Nat) : List In := code.take k ++ (code.drop k).map z0
theorem mix_step {code : List In} {k : Nat} (hk : k < code.length) : (mixN code k).modify k (fun i => { i with m := (code[k]).m }) = mixN code (k + 1) ∧ (jumpB (code[k]).op = false → mixN code k = mixN code (k + 1)) := by
  unfold mixN
  rw [List.take_succ_eq_append_getElem hk, List.drop_eq_getElem_cons hk, List.map_cons]
  have hl : (code.take k).length = k := by rw [List.length_take]; omega
  constructor
  · have hmm := modify_mid (fun i : In => { i with m := (code[k]).m }) (code.take k) (z0 code[k]) ((code.drop (k + 1)).map z0)
    rw [hl] at hmm
    rw [hmm, List.append_assoc]
    have : ({ z0 code[k] with m := (code[k]).m } : In) = code[k] := by unfold z0; split <;> rfl
    rw [this]
    rfl
  · intro hj
    have : z0 code[k] = code[k] := by unfold z0; rw [hj, if_neg (by decide)]
    rw [this, List.append_assoc]
    rfl
theorem jsF_N {nm : Nat → Tx} (hnm : NmOk nm) {p : PV} (h : GoodP p) (nr : Nat) : ∀ (d k : Nat), k + d = p.code.length → jsF (labsN nm p.code p.code.length) (mixN p.code k) ((List.range' k d).flatMap (jsN nm p.code nr)) = (p.code, none)
  | 0, k, hk => by
    unfold mixN
    rw [List.take_of_length_le (by omega), List.drop_of_length_le (by omega)]
    show (p.code ++ [], none) = _
    rw [List.append_nil]
  | d + 1, k, hk => by
    have hlt : k < p.code.length := by omega
    have ih := jsF_N hnm h nr d (k + 1) (by omega)
    obtain ⟨m1, m2⟩ := mix_step hlt
    have hget : p.code.getD k ⟨0, 0, 0, 0, 0⟩ = p.code[k] := by rw [List.getD_eq_getElem?_getD, List.getElem?_eq_getElem hlt, Option.getD_some]
    have hin := h.inv _ (List.getElem_mem hlt)
    have h2 := h.c2
    rw [List.range'_succ, List.flatMap_cons]
    unfold jsN
    rw [hget]
    cases hj : jumpB (p.code[k]).op
    · rw [if_neg (by decide), List.nil_append, m2 hj]
      exact ih
    · rw [if_pos rfl, List.singleton_append]
      unfold jsF
      have hm1 := hin.2.1 hj
      have hm0 := hin.1.1.m.1
      have htg : tgB p.code (((p.code[k]).m.toNat : Nat) : Int) = true := by
        unfold tgB
        refine List.any_eq_true.2 ⟨p.code[k], List.getElem_mem hlt, ?_⟩
        rw [hj, Bool.true_and]
        exact decide_eq_true (by omega)
      rw [labs_at hnm p.code _ _ (by omega) (by omega), if_pos ⟨by omega, htg⟩]
      dsimp only
      have e : (((p.code[k]).m.toNat : Nat) : Int) = (p.code[k]).m := by omega
      rw [e, m1]
      exact ih
/-- all lines of a program -/
def linesN (nm : Nat → Tx) (p : PV) : List Tx := rLns p p.ss.length ++ cLns nm p.code p.code.length
theorem lines_no10 {nm : Nat → Tx} (hnm : NmOk nm) {p : PV} (h : GoodP p) (hs : p.sm) : ∀ x ∈ linesN nm p, (10 : UInt8) ∉ x := by
  intro x hx
  unfold linesN at hx
  rcases List.mem_append.1 hx with hx | hx
  · unfold rLns at hx
    obtain ⟨j, hj, rfl⟩ := List.mem_map.1 hx
    have hj := List.mem_range.1 hj
    have hjw : j < p.ws.length := by rw [h.wl]; exact hj
    have hg := h.gs hs
    have hsk := hg.s j hj
    have hxk := hg.x j hjw
    rw [List.getD_eq_getElem?_getD, List.getElem?_eq_getElem hj, List.getD_eq_getElem?_getD, List.getElem?_eq_getElem hjw, Option.getD_some, Option.getD_some]
    exact no_of_cln (rgLn_cln (by omega) fun y hy => (hxk.2 y hy).1)
  · unfold cLns at hx
    obtain ⟨j, hj, hx⟩ := List.mem_flatMap.1 hx
    have hj := List.mem_range.1 hj
    have hin := h.inv _ (List.getElem_mem hj)
    have h2 := h.c2
    unfold cLn at hx
    rcases List.mem_append.1 hx with hx | hx
    · split at hx
      · rcases List.mem_singleton.1 hx with rfl
        intro hc
        rcases List.mem_append.1 hc with hc | hc
        · exact (aln_ne (List.all_eq_true.1 (nmB_aln (hnm.ok j (by omega))) 10 hc)).1 rfl
        · exact absurd (List.mem_singleton.1 hc) (by decide)
      · exact absurd hx List.not_mem_nil
    · rcases List.mem_singleton.1 hx with rfl
      rw [List.getD_eq_getElem?_getD, List.getElem?_eq_getElem hj, Option.getD_some]
      exact no_of_cln (lineN_cln hin.1.in0 fun hjb => hnm.ok _ (by have := hin.2.1 hjb; have := hin.1.1.m; omega))
theorem par_N {nm : Nat → Tx} (hnm : NmOk nm) {p : PV} (h : GoodP p) (hs : p.sm) (hlen : ((linesN nm p).flatMap fun x => x ++ [10]).length ≤ 4096) :
    parF ((linesN nm p).flatMap fun x => x ++ [10]) = (⟨p.code, p.ss, p.ws.map WV.xs⟩, ((linesN nm p).length : Int), 0) := by
  have hsp := spl_lines (linesN nm p) (lines_no10 hnm h hs)
  have hrd : rdA r0F (linesN nm p) 0 = (⟨p.code.map z0, p.ss, p.ws.map WV.xs, labsN nm p.code p.code.length, jssN nm p.code p.ss.length p.code.length, false⟩, p.ss.length + p.code.length + tcnt p.code p.code.length, 0) := by
    have h1 := rd_regions h hs p.ss.length (Nat.le_refl _)
    rw [List.take_length, List.take_of_length_le (by rw [List.length_map, h.wl]; exact Nat.le_refl _)] at h1
    have h2 := rd_code hnm h (p.ws.map WV.xs) p.code.length (Nat.le_refl _)
    rw [List.take_length] at h2
    unfold linesN
    rw [rdA_app _ _ _ _ _ _ h1]
    exact h2
  have hjs : jsF (labsN nm p.code p.code.length) (p.code.map z0) (jssN nm p.code p.ss.length p.code.length) = (p.code, none) := by
    have := jsF_N hnm h p.ss.length p.code.length 0 (by omega)
    unfold jssN
    rw [List.range_eq_range']
    exact this
  have h1 := h.sz.one
  have h2 := h.c1
  unfold parF
  rw [if_neg (by omega), hsp, List.dropLast_concat, hrd]
  dsimp only
  rw [if_neg (fun h => h rfl), if_neg (by rw [List.getLastD_concat]; exact fun h => h rfl), hjs]
  dsimp only
  rw [if_neg]
  · congr 1
    rw [List.length_append, List.length_singleton]
    congr 1
    omega
  · rintro (e | e | e)
    · rw [e] at h1; cases h1
    · rw [e] at h2; cases h2
    · cases e
end Go.Proofs.YtajkekhnfobgiaaGreatDoor

/- The text of a program is its lines; it is short, and is read back. -/
namespace Go.Proofs.YtajkekhnfobgiaaGreatDoor
set_option maxRecDepth 20000
open Go.RowKit

def lnm (k : Nat) : Tx := 108 :: Lib.itoa (k : Int)
theorem lnm_ok : NmOk lnm := ⟨fun k hk => List.all_eq_true.1 (show (List.range 64).all (fun k => nmB (lnm k)) = true by kernel_rfl) k (List.mem_range.2 hk), fun j k _ _ e => itoa_inj (List.cons.inj e).2⟩
theorem lineL_N {i : In} (h : 0 ≤ i.m) : lineL i = lineN lnm i := by
  unfold lineL lineN
  congr 1
  unfold wordsL wk wordsN regsN
  have : lastW (jumpB i.op) (usesF i.op).2.2.2 i.m = lstN lnm i := by
    unfold lastW lstN lnm
    rw [show ((i.m.toNat : Nat) : Int) = i.m by omega]
  rw [this]
  simp [List.append_assoc]
theorem rgs_lines (p : PV) (k : Nat) : rgsL p.ss p.ws k = (rLns p k).flatMap fun x => x ++ [10] := by
  unfold rgsL rLns
  rw [List.flatMap_map]
  rfl
theorem cds_lines {p : PV} (h : GoodP p) (k : Nat) (hk : k ≤ p.code.length) : cdsL p.code k = (cLns lnm p.code k).flatMap fun x => x ++ [10] := by
  induction k with
  | zero => rfl
  | succ k ih =>
    rw [cdsL_succ, cLns_succ, List.flatMap_append, ih (by omega)]
    congr 1
    have hlt : k < p.code.length := by omega
    have hget : p.code.getD k ⟨0, 0, 0, 0, 0⟩ = p.code[k] := by rw [List.getD_eq_getElem?_getD, List.getElem?_eq_getElem hlt, Option.getD_some]
    unfold cdL cLn
    rw [hget, lineL_N (h.inv _ (List.getElem_mem hlt)).1.1.m.1]
    cases tgB p.code (k : Int)
    · rw [if_neg (by decide), if_neg (by decide)]
      simp
    · rw [if_pos rfl, if_pos rfl]
      unfold lbL lnm
      simp
theorem text_lines {p : PV} (h : GoodP p) : textP p = (linesN lnm p).flatMap fun x => x ++ [10] := by
  unfold textP linesN
  rw [List.flatMap_append, rgs_lines, cds_lines h _ (Nat.le_refl _)]
theorem flat_le {α : Type} {f : α → Tx} {B : Nat} : ∀ l : List α, (∀ x ∈ l, (f x).length ≤ B) → (l.flatMap f).length ≤ l.length * B
  | [], _ => Nat.zero_le _
  | x :: t, h => by
    have h1 := flat_le t fun y hy => h y (List.mem_cons_of_mem _ hy)
    have h2 := h x (List.mem_cons_self ..)
    rw [List.flatMap_cons, List.length_append, List.length_cons, Nat.succ_mul]; omega
theorem nmB_len8 {l : Tx} (h : nmB l = true) : l.length ≤ 8 := nmB_len h
theorem regW_le {u : Bool} {v : Int} (h : 0 ≤ v ∧ v < 8) : ((regW u v).flatMap fun x => (32 : UInt8) :: x).length ≤ 3 := by
  unfold regW
  cases u
  · exact Nat.zero_le _
  · have := itoa_le 0 h.1 (by show v < ((10 : Nat) : Int); omega)
    rw [if_pos rfl, List.flatMap_cons, List.flatMap_nil, List.append_nil, List.length_cons, List.length_cons]; omega
theorem lineN_le {nm : Nat → Tx} {i : In} {n ns : Nat} (h : InG i n ns) (hnm : jumpB i.op = true → nmB (nm i.m.toNat) = true) : (lineN nm i).length ≤ 21 := by
  have hv := h.1.1
  unfold lineN wordsN regsN
  rw [join_words, List.length_append, List.flatMap_append, List.length_append, List.flatMap_append, List.length_append, List.flatMap_append, List.length_append]
  have n0 := nameL_len i.op
  have a1 := regW_le (u := (usesF i.op).1) (v := i.a) ⟨hv.a.1, hv.a.2.1⟩
  have a2 := regW_le (u := (usesF i.op).2.1) (v := i.b) ⟨hv.b.1, hv.b.2.1⟩
  have a3 := regW_le (u := (usesF i.op).2.2.1) (v := i.c) ⟨hv.c.1, hv.c.2.1⟩
  have a4 : ((lstN nm i).flatMap fun x => (32 : UInt8) :: x).length ≤ 9 := by
    unfold lstN
    split
    · rename_i hj
      have := nmB_len8 (hnm hj)
      rw [List.flatMap_cons, List.flatMap_nil, List.append_nil, List.length_cons]; omega
    · split
      · have := itoa_le 4 hv.m.1 (by show i.m < ((100000 : Nat) : Int); have := hv.m.2.1; omega)
        rw [List.flatMap_cons, List.flatMap_nil, List.append_nil, List.length_cons]; omega
      · exact Nat.zero_le _
  omega
theorem rgLn_le {n : Int} {xs : List Int} (h : 1 ≤ n ∧ n ≤ 32) (hx : ∀ y ∈ xs, 0 ≤ y ∧ y ≤ 65535) (hl : xs.length ≤ 32) : (rgLn n xs).length ≤ 201 := by
  unfold rgLn rgH
  have h1 := itoa_le 1 (n := n) (by omega) (by show n < ((100 : Nat) : Int); omega)
  have h2 := flat_le (f := wdL) (B := 6) xs fun y hy => by
    have := itoa_le 4 (hx y hy).1 (by show y < ((100000 : Nat) : Int); have := (hx y hy).2; omega)
    unfold wdL
    rw [List.length_cons]; omega
  rw [List.length_append, List.length_append]
  show 7 + _ + _ ≤ 201
  omega
theorem len_N {nm : Nat → Tx} (hnm : NmOk nm) {p : PV} (h : GoodP p) (hs : p.sm) : ((linesN nm p).flatMap fun x => x ++ [10]).length ≤ 4096 := by
  unfold linesN
  rw [List.flatMap_append, List.length_append]
  have h4 := h.sz.four
  have h64 := h.c2
  have a1 : ((rLns p p.ss.length).flatMap fun x => x ++ [10]).length ≤ p.ss.length * 202 := by
    unfold rLns
    rw [List.flatMap_map]
    have := flat_le (f := fun j => rgLn (p.ss.getD j 0) (p.ws.getD j ⟨none, 0, []⟩).xs ++ [10]) (B := 202) (List.range p.ss.length) fun j hj => by
      have hj := List.mem_range.1 hj
      have hjw : j < p.ws.length := by rw [h.wl]; exact hj
      have hg := h.gs hs
      have hsk := hg.s j hj
      have hxk := hg.x j hjw
      rw [List.getD_eq_getElem?_getD, List.getElem?_eq_getElem hj, List.getD_eq_getElem?_getD, List.getElem?_eq_getElem hjw, Option.getD_some, Option.getD_some, List.length_append, List.length_singleton]
      have := rgLn_le hsk hxk.2 hxk.1
      omega
    rw [List.length_range] at this
    exact this
  have a2 : ((cLns nm p.code p.code.length).flatMap fun x => x ++ [10]).length ≤ p.code.length * 32 := by
    unfold cLns
    rw [List.flatMap_assoc]
    have := flat_le (f := fun j => (cLn nm p.code j).flatMap fun x => x ++ [10]) (B := 32) (List.range p.code.length) fun j hj => by
      have hj := List.mem_range.1 hj
      have hin := h.inv _ (List.getElem_mem hj)
      have hget : p.code.getD j ⟨0, 0, 0, 0, 0⟩ = p.code[j] := by rw [List.getD_eq_getElem?_getD, List.getElem?_eq_getElem hj, Option.getD_some]
      have hl := lineN_le hin (nm := nm) fun hjb => hnm.ok _ (by have := hin.2.1 hjb; have := hin.1.1.m; omega)
      have h8 := nmB_len8 (hnm.ok j (by omega))
      unfold cLn
      rw [hget, List.flatMap_append, List.length_append]
      have b2 : (([lineN nm p.code[j]] : List Tx).flatMap fun x => x ++ [10]).length ≤ 22 := by
        rw [List.flatMap_cons, List.flatMap_nil, List.append_nil, List.length_append, List.length_singleton]; omega
      have b1 : (((if tgB p.code (j : Int) = true then [nm j ++ [58]] else []) : List Tx).flatMap fun x => x ++ [10]).length ≤ 10 := by
        split
        · rw [List.flatMap_cons, List.flatMap_nil, List.append_nil, List.length_append, List.length_append, List.length_singleton, List.length_singleton]; omega
        · exact Nat.zero_le _
      omega
    rw [List.length_range] at this
    exact this
  omega
theorem cnt_lines : ∀ L : List Tx, (∀ x ∈ L, (10 : UInt8) ∉ x) → (L.flatMap fun x => x ++ [10]).count 10 = L.length
  | [], _ => rfl
  | x :: t, h => by
    rw [List.flatMap_cons, List.count_append, List.count_append, cnt_lines t fun y hy => h y (List.mem_cons_of_mem _ hy), List.count_eq_zero.2 (h x (List.mem_cons_self ..)), List.length_cons]
    show 0 + 1 + t.length = t.length + 1
    omega
/-- a program is read back from its text -/
theorem par_text {p : PV} (h : GoodP p) (hs : p.sm) : parF (textP p) = ((⟨p.code, p.ss, p.ws.map WV.xs⟩ : PrM), (((textP p).count 10 : Nat) : Int), (0 : Int)) := by
  have h1 := par_N lnm_ok h hs (len_N lnm_ok h hs)
  rw [text_lines h, h1, cnt_lines _ (lines_no10 lnm_ok h hs)]
theorem text_eq {p q : PV} (hp : GoodP p) (hps : p.sm) (hq : GoodP q) (hqs : q.sm) : textP p = textP q ↔ p.code = q.code ∧ p.ss = q.ss ∧ p.ws.map WV.xs = q.ws.map WV.xs := by
  constructor
  · intro e
    have h1 := par_text hp hps
    rw [e, par_text hq hqs] at h1
    have h2 := (Prod.mk.inj h1).1
    have h3 := PrM.mk.inj h2
    exact ⟨h3.1.symm, h3.2.1.symm, h3.2.2.symm⟩
  · rintro ⟨h1, h2, h3⟩
    unfold textP
    rw [h1, h2]
    congr 1
    unfold rgsL
    congr 1
    funext j
    have : (p.ws.getD j ⟨none, 0, []⟩).xs = (q.ws.getD j ⟨none, 0, []⟩).xs := by
      have e1 : ∀ l : List WV, (l.getD j ⟨none, 0, []⟩).xs = (l.map WV.xs).getD j [] := fun l => by
        rw [List.getD_eq_getElem?_getD, List.getD_eq_getElem?_getD, List.getElem?_map]
        cases l[j]? <;> rfl
      rw [e1, e1, h3]
    rw [this]
end Go.Proofs.YtajkekhnfobgiaaGreatDoor

/- Whether two programs are equal, by the reference. -/
namespace Go.Proofs.YtajkekhnfobgiaaGreatDoor
set_option maxRecDepth 20000
open Go.RowKit
theorem ovXAtg0_ {G H : Prop} (k : H) (s : H → G := by intro k; (with_reducible refine toL hm ?_); first | exact oneV hs gw_ rfl rfl (by intro w hm; (first | exact kvR_ | exact r_neqSt (fl := [(true, 0, 3), (true, 1, 3), (true, 2, 3), (true, 3, 3), (true, 4, 3)]) hs rfl rfl rfl tab (by kernel_rfl) (by kernel_rfl) (by kernel_rfl) (by kernel_rfl) rfl)) k | exact oneN hs rfl rfl rfl rfl rfl rfl rfl k | exact oneU hs rfl rfl rfl rfl rfl rfl k) : G := s k
theorem oqXAtg1_ {G H : Prop} (k : H) (s : H → G := by intro k; (with_reducible first | refine toL hm ?_ | refine toQ ?_); first | exact oneV hs gw_ rfl rfl (by intro w hm; (first | exact kvR_ | exact r_neqSt (fl := [(true, 0, 3), (true, 1, 3), (true, 2, 3), (true, 3, 3), (true, 4, 3)]) hs rfl rfl rfl tab (by kernel_rfl) (by kernel_rfl) (by kernel_rfl) (by kernel_rfl) rfl)) k | exact oneN hs rfl rfl rfl rfl rfl rfl rfl k | exact oneU hs rfl rfl rfl rfl rfl rfl k) : G := s k

theorem WS_eq {a b : List WV} (hl : a.length = b.length) (h : ∀ k (h1 : k < a.length) (h2 : k < b.length), (a[k]).xs = (b[k]).xs) : a.map WV.xs = b.map WV.xs := by
  apply List.ext_getElem
  · rw [List.length_map, List.length_map, hl]
  · intro k h1 h2
    rw [List.getElem_map, List.getElem_map]
    exact h k (by rwa [List.length_map] at h1) (by rwa [List.length_map] at h2)
theorem in_ext {x y : In} : x = y ↔ x.op = y.op ∧ x.a = y.a ∧ x.b = y.b ∧ x.c = y.c ∧ x.m = y.m := by
  constructor
  · rintro rfl; exact ⟨rfl, rfl, rfl, rfl, rfl⟩
  · obtain ⟨a, b, c, d, e⟩ := x
    obtain ⟨a', b', c', d', e'⟩ := y
    rintro ⟨h1, h2, h3, h4, h5⟩
    dsimp only at *
    subst h1 h2 h3 h4 h5
    rfl
/-- two programs are equal -/
def SameP (p q : PV) : Prop := p.code = q.code ∧ p.ss = q.ss ∧ p.ws.map WV.xs = q.ws.map WV.xs


set_option maxHeartbeats 16000000 in
theorem same_c (p q : PV) (wB : World) (hp : p.ok wB) (hq : q.ok wB) (hps : p.sm) (hqs : q.sm) : Ret Tryz.prog 22 [p.v, q.v] wB (fun u w' => ∃ b : Bool, u = .bool b ∧ (b = true ↔ SameP p q) ∧ Pu wB w') := by
  obtain ⟨cA, cc, code, sA, sc, ss, dA, dc, ws⟩ := p
  obtain ⟨cA2, cc2, code2, sA2, sc2, ss2, dA2, dc2, ws2⟩ := q
  obtain ⟨pc, ps, pd, px⟩ := hp
  obtain ⟨qc, qs, qd, qx⟩ := hq
  obtain ⟨m1, m2, m3, m4⟩ := hps
  obtain ⟨n1, n2, n3, n4⟩ := hqs
  unfold SameP
  dsimp only at *
  refine enterR Tryz.func22 rfl rfl rfl fun a hs hm => ?_
  unfold PV.v at hs
  dsimp only at hs
  repeat (first | (refine ovXAtg0_ ?_; clear hs a; intro a hs) | ((with_reducible apply lCons); first | (refine dv hs gw_ rfl rfl da_ ?_; clear hs hm a; rintro _ w ⟨g, rfl, -, hm⟩ a hs) | (refine stn hs rfl rfl ds_ ?_; clear hs hm a; rintro - w hm a hs)) | refine sc_ ?_)
  obtain ⟨g2, en_⟩ := hs.pt 2 (by exact rfl); subst en_
  obtain ⟨g3, en_⟩ := hs.pt 3 (by exact rfl); subst en_
  have hF0 := hm.fr
  have rg2 : Ro _ g2 0 [.slice cA code.length cc, .slice sA ss.length sc, .slice dA ws.length dc] := hm.ro (k := 0) (n := 3) mem_ (cutF_ok rfl)
  have rg3 : Ro _ g3 0 [.slice cA2 code2.length cc2, .slice sA2 ss2.length sc2, .slice dA2 ws2.length dc2] := hm.ro (k := 0) (n := 3) mem_ (cutF_ok rfl)
  have c0 := hF0.rd' pc
  have s0 := hF0.rd' ps
  have d0 := hF0.rd' pd
  have x0 := fun r hr => hF0.rd' (px r hr)
  have c1 := hF0.rd' qc
  have s1 := hF0.rd' qs
  have d1 := hF0.rd' qd
  have x1 := fun r hr => hF0.rd' (qx r hr)
  clear hm pc ps pd px qc qs qd qx
  have hm := Mm.nil (fun _ => False) w
  by_cases l1 : code.length = code2.length
  case neg =>
    have f1 : decide ((code.length : Int) = (code2.length : Int)) = false := decide_eq_false (by omega)
    repeat (first | (refine oqXAtg1_ ?_; clear hs a; intro a hs) | ((with_reducible apply lCons); first | (refine dv hs gw_ rfl rfl da_ ?_; clear hs hm a; rintro _ w ⟨g, rfl, -, hm⟩ a hs) | (refine stn hs rfl rfl ds_ ?_; clear hs hm a; rintro - w hm a hs)) | ((with_reducible apply qNil); clear hm; intro w hm) | refine cQ_ ?_ | refine sc_ ?_)
    rw [f1] at hs
    repeat (first | (refine oqXAtg1_ ?_; clear hs a; intro a hs) | ((with_reducible apply lCons); first | (refine dv hs gw_ rfl rfl da_ ?_; clear hs hm a; rintro _ w ⟨g, rfl, -, hm⟩ a hs) | (refine stn hs rfl rfl ds_ ?_; clear hs hm a; rintro - w hm a hs)) | ((with_reducible apply qNil); clear hm; intro w hm) | refine cQ_ ?_ | refine sc_ ?_)
    exact gRet1 hs rfl rfl ⟨_, rfl, ⟨(fun e => by cases e), (fun e => absurd (congrArg List.length e.1) l1)⟩, hF0.pu hm.fr⟩
  have t1 : decide ((code.length : Int) = (code2.length : Int)) = true := decide_eq_true (by omega)
  by_cases l2 : ss.length = ss2.length
  case neg =>
    repeat (first | (refine oqXAtg1_ ?_; clear hs a; intro a hs) | ((with_reducible apply lCons); first | (refine dv hs gw_ rfl rfl da_ ?_; clear hs hm a; rintro _ w ⟨g, rfl, -, hm⟩ a hs) | (refine stn hs rfl rfl ds_ ?_; clear hs hm a; rintro - w hm a hs)) | ((with_reducible apply qNil); clear hm; intro w hm) | refine cQ_ ?_ | refine sc_ ?_)
    rw [t1] at hs
    repeat (first | (refine oqXAtg1_ ?_; clear hs a; intro a hs) | ((with_reducible apply lCons); first | (refine dv hs gw_ rfl rfl da_ ?_; clear hs hm a; rintro _ w ⟨g, rfl, -, hm⟩ a hs) | (refine stn hs rfl rfl ds_ ?_; clear hs hm a; rintro - w hm a hs)) | ((with_reducible apply qNil); clear hm; intro w hm) | refine cQ_ ?_ | refine sc_ ?_)
    exact gRet1 hs rfl rfl ⟨_, rfl, ⟨(fun e => by cases e), (fun e => absurd (congrArg List.length e.2.1) l2)⟩, hF0.pu hm.fr⟩
  by_cases l3 : ws.length = ws2.length
  case neg =>
    repeat (first | (refine oqXAtg1_ ?_; clear hs a; intro a hs) | ((with_reducible apply lCons); first | (refine dv hs gw_ rfl rfl da_ ?_; clear hs hm a; rintro _ w ⟨g, rfl, -, hm⟩ a hs) | (refine stn hs rfl rfl ds_ ?_; clear hs hm a; rintro - w hm a hs)) | ((with_reducible apply qNil); clear hm; intro w hm) | refine cQ_ ?_ | refine sc_ ?_)
    rw [t1] at hs
    repeat (first | (refine oqXAtg1_ ?_; clear hs a; intro a hs) | ((with_reducible apply lCons); first | (refine dv hs gw_ rfl rfl da_ ?_; clear hs hm a; rintro _ w ⟨g, rfl, -, hm⟩ a hs) | (refine stn hs rfl rfl ds_ ?_; clear hs hm a; rintro - w hm a hs)) | ((with_reducible apply qNil); clear hm; intro w hm) | refine cQ_ ?_ | refine sc_ ?_)
    exact gRet1 hs rfl rfl ⟨_, rfl, ⟨(fun e => by cases e), (fun e => absurd (by have := congrArg List.length e.2.2; rwa [List.length_map, List.length_map] at this) l3)⟩, hF0.pu hm.fr⟩
  repeat (first | (refine oqXAtg1_ ?_; clear hs a; intro a hs) | ((with_reducible apply lCons); first | (refine dv hs gw_ rfl rfl da_ ?_; clear hs hm a; rintro _ w ⟨g, rfl, -, hm⟩ a hs) | (refine stn hs rfl rfl ds_ ?_; clear hs hm a; rintro - w hm a hs)) | ((with_reducible apply qNil); clear hm; intro w hm) | refine cQ_ ?_ | refine sc_ ?_)
  rw [t1] at hs
  repeat (first | (refine oqXAtg1_ ?_; clear hs a; intro a hs) | ((with_reducible apply lCons); first | (refine dv hs gw_ rfl rfl da_ ?_; clear hs hm a; rintro _ w ⟨g, rfl, -, hm⟩ a hs) | (refine stn hs rfl rfl ds_ ?_; clear hs hm a; rintro - w hm a hs)) | ((with_reducible apply qNil); clear hm; intro w hm) | refine cQ_ ?_ | refine sc_ ?_)
  obtain ⟨wS, hwS⟩ : ∃ u : World, u = w := ⟨w, rfl⟩
  subst hwS
  refine cLoop (X := Nat) (fun k a w' => Sl Tryz.f22.ntmps [(2, .pointer (some ⟨g2, 0, none⟩)), (3, .pointer (some ⟨g3, 0, none⟩)), (36, .int .i64 (code.length : Int)), (37, .int .i64 (k : Int))] a ∧ Pu wS w' ∧ k ≤ code.length ∧ ∀ j (h1 : j < code.length) (h2 : j < code2.length), j < k → code[j] = code2[j]) (fun k => code.length - k) 0 ⟨hs.sub (Has.all ⟨rfl, rfl, rfl, rfl, trivial⟩), hm.fr, Nat.zero_le _, fun j _ _ h => absurd h (Nat.not_lt_zero _)⟩ ?_
  clear hs hm a
  rintro k a w' ⟨hs, hF, hk, hg⟩
  have hm := Mm.nil (fun _ => False) w'
  have q2 := rg2.pu_ hF
  have q3 := rg3.pu_ hF
  by_cases hlt : k < code.length
  · obtain ⟨b1, o1, rfl, hb1, r1⟩ := (hF.rd' c0).ro (by rw [flat_len inV 5 inV_len]; omega)
    obtain ⟨b2, o2, rfl, hb2, r2⟩ := (hF.rd' c1).ro (by rw [flat_len inV 5 inV_len]; omega)
    have k1 := r1.flat inV_len hlt
    have k2 := r2.flat inV_len (show k < code2.length by omega)
    obtain ⟨x, hx⟩ : ∃ z, code[k] = z := ⟨_, rfl⟩
    obtain ⟨y, hy⟩ : ∃ z, code2[k]'(by omega) = z := ⟨_, rfl⟩
    rw [hx] at k1
    rw [hy] at k2
    have hxy := @in_ext x y
    obtain ⟨xo, xa, xb, xc, xm⟩ := x
    obtain ⟨yo, ya, yb, yc, ym⟩ := y
    unfold inV at k1 k2
    dsimp only at k1 k2 hxy
    repeat (first | (refine oqXAtg1_ ?_; clear hs a; intro a hs) | ((with_reducible apply lCons); first | (refine dv hs gw_ rfl rfl da_ ?_; clear hs hm a; rintro _ w ⟨g, rfl, -, hm⟩ a hs) | (refine stn hs rfl rfl ds_ ?_; clear hs hm a; rintro - w hm a hs)) | ((with_reducible apply qNil); clear hm; intro w hm) | refine cQ_ ?_ | refine sc_ ?_)
    obtain ⟨bq, hbq⟩ : ∃ z, (xo == yo && (xa == ya && (xb == yb && (xc == yc && (xm == ym && true))))) = z := ⟨_, rfl⟩
    have hiff : bq = true ↔ (⟨xo, xa, xb, xc, xm⟩ : In) = ⟨yo, ya, yb, yc, ym⟩ := by
      rw [← hbq, hxy]
      simp
    rw [hbq] at hs
    cases bq
    · repeat (first | (refine oqXAtg1_ ?_; clear hs a; intro a hs) | ((with_reducible apply lCons); first | (refine dv hs gw_ rfl rfl da_ ?_; clear hs hm a; rintro _ w ⟨g, rfl, -, hm⟩ a hs) | (refine stn hs rfl rfl ds_ ?_; clear hs hm a; rintro - w hm a hs)) | ((with_reducible apply qNil); clear hm; intro w hm) | refine cQ_ ?_ | refine sc_ ?_)
      refine gRet1 hs rfl rfl ⟨_, rfl, ⟨(fun e => by cases e), (fun e => ?_)⟩, hF0.pu (hF.pu hm.fr)⟩
      exfalso
      have h1 : code[k] = code2[k]'(by omega) := by simp only [e.1]
      rw [hx, hy] at h1
      exact absurd (hiff.2 h1) (by decide)
    · repeat (first | (refine oqXAtg1_ ?_; clear hs a; intro a hs) | ((with_reducible apply lCons); first | (refine dv hs gw_ rfl rfl da_ ?_; clear hs hm a; rintro _ w ⟨g, rfl, -, hm⟩ a hs) | (refine stn hs rfl rfl ds_ ?_; clear hs hm a; rintro - w hm a hs)) | ((with_reducible apply qNil); clear hm; intro w hm) | refine cQ_ ?_ | refine sc_ ?_)
      refine ⟨k + 1, by omega, hs.sub (Has.all ⟨rfl, rfl, rfl, rfl, trivial⟩), hF.pu hm.fr, by omega, fun j h1 h2 hj => ?_⟩
      by_cases e : j = k
      · subst e
        rw [hx, hy]
        exact hiff.1 rfl
      · exact hg j h1 h2 (by omega)
  have hcode : code = code2 := List.ext_getElem l1 fun j h1 h2 => hg j h1 h2 (by omega)
  clear hg
  repeat (first | (refine oqXAtg1_ ?_; clear hs a; intro a hs) | ((with_reducible apply lCons); first | (refine dv hs gw_ rfl rfl da_ ?_; clear hs hm a; rintro _ w ⟨g, rfl, -, hm⟩ a hs) | (refine stn hs rfl rfl ds_ ?_; clear hs hm a; rintro - w hm a hs)) | ((with_reducible apply qNil); clear hm; intro w hm) | refine cQ_ ?_ | refine sc_ ?_)
  refine cLoop (X := Nat) (fun k a w' => Sl Tryz.f22.ntmps [(2, .pointer (some ⟨g2, 0, none⟩)), (3, .pointer (some ⟨g3, 0, none⟩)), (54, .int .i64 (ss.length : Int)), (55, .int .i64 (k : Int))] a ∧ Pu wS w' ∧ k ≤ ss.length ∧ ∀ j (h1 : j < ss.length) (h2 : j < ss2.length), j < k → ss[j] = ss2[j]) (fun k => ss.length - k) 0 ⟨hs.sub (Has.all ⟨rfl, rfl, rfl, rfl, trivial⟩), hF.pu hm.fr, Nat.zero_le _, fun j _ _ h => absurd h (Nat.not_lt_zero _)⟩ ?_
  clear hs hm a hF q2 q3
  rintro k a w' ⟨hs, hF, hk, hg⟩
  have hm := Mm.nil (fun _ => False) w'
  have q2 := rg2.pu_ hF
  have q3 := rg3.pu_ hF
  by_cases hlt : k < ss.length
  · obtain ⟨b1, o1, rfl, hb1, r1⟩ := (hF.rd' s0).ro (by rw [ints_len]; omega)
    obtain ⟨b2, o2, rfl, hb2, r2⟩ := (hF.rd' s1).ro (by rw [ints_len]; omega)
    have k1 := ints_some (xs := ss) (k := k) hlt
    have k2 := ints_some (xs := ss2) (k := k) (by omega)
    obtain ⟨x, hx⟩ : ∃ z, ss[k] = z := ⟨_, rfl⟩
    obtain ⟨y, hy⟩ : ∃ z, ss2[k]'(by omega) = z := ⟨_, rfl⟩
    rw [hx] at k1
    rw [hy] at k2
    by_cases hxy : x = y
    · repeat (first | (refine oqXAtg1_ ?_; clear hs a; intro a hs) | ((with_reducible apply lCons); first | (refine dv hs gw_ rfl rfl da_ ?_; clear hs hm a; rintro _ w ⟨g, rfl, -, hm⟩ a hs) | (refine stn hs rfl rfl ds_ ?_; clear hs hm a; rintro - w hm a hs)) | ((with_reducible apply qNil); clear hm; intro w hm) | refine cQ_ ?_ | refine sc_ ?_)
      refine ⟨k + 1, by omega, hs.sub (Has.all ⟨rfl, rfl, rfl, rfl, trivial⟩), hF.pu hm.fr, by omega, fun j h1 h2 hj => ?_⟩
      by_cases e : j = k
      · subst e
        rw [hx, hy]
        exact hxy
      · exact hg j h1 h2 (by omega)
    · repeat (first | (refine oqXAtg1_ ?_; clear hs a; intro a hs) | ((with_reducible apply lCons); first | (refine dv hs gw_ rfl rfl da_ ?_; clear hs hm a; rintro _ w ⟨g, rfl, -, hm⟩ a hs) | (refine stn hs rfl rfl ds_ ?_; clear hs hm a; rintro - w hm a hs)) | ((with_reducible apply qNil); clear hm; intro w hm) | refine cQ_ ?_ | refine sc_ ?_)
      refine gRet1 hs rfl rfl ⟨_, rfl, ⟨(fun e => by cases e), (fun e => ?_)⟩, hF0.pu (hF.pu hm.fr)⟩
      exfalso
      have h1 : ss[k] = ss2[k]'(by omega) := by simp only [e.2.1]
      rw [hx, hy] at h1
      exact hxy h1
  have hss : ss = ss2 := List.ext_getElem l2 fun j h1 h2 => hg j h1 h2 (by omega)
  clear hg
  repeat (first | (refine oqXAtg1_ ?_; clear hs a; intro a hs) | ((with_reducible apply lCons); first | (refine dv hs gw_ rfl rfl da_ ?_; clear hs hm a; rintro _ w ⟨g, rfl, -, hm⟩ a hs) | (refine stn hs rfl rfl ds_ ?_; clear hs hm a; rintro - w hm a hs)) | ((with_reducible apply qNil); clear hm; intro w hm) | refine cQ_ ?_ | refine sc_ ?_)
  refine cLoop (X := Nat) (fun k a w' => Sl Tryz.f22.ntmps [(2, .pointer (some ⟨g2, 0, none⟩)), (3, .pointer (some ⟨g3, 0, none⟩)), (72, .int .i64 (ws.length : Int)), (73, .int .i64 (k : Int))] a ∧ Pu wS w' ∧ k ≤ ws.length ∧ ∀ j (h1 : j < ws.length) (h2 : j < ws2.length), j < k → (ws[j]).xs = (ws2[j]).xs) (fun k => ws.length - k) 0 ⟨hs.sub (Has.all ⟨rfl, rfl, rfl, rfl, trivial⟩), hF.pu hm.fr, Nat.zero_le _, fun j _ _ h => absurd h (Nat.not_lt_zero _)⟩ ?_
  clear hs hm a hF q2 q3
  rintro k a w' ⟨hs, hF, hk, hg⟩
  have hm := Mm.nil (fun _ => False) w'
  have q2 := rg2.pu_ hF
  have q3 := rg3.pu_ hF
  by_cases hlt : k < ws.length
  case neg =>
    have hws : ws.map WV.xs = ws2.map WV.xs := WS_eq l3 fun j h1 h2 => hg j h1 h2 (by omega)
    repeat (first | (refine oqXAtg1_ ?_; clear hs a; intro a hs) | ((with_reducible apply lCons); first | (refine dv hs gw_ rfl rfl da_ ?_; clear hs hm a; rintro _ w ⟨g, rfl, -, hm⟩ a hs) | (refine stn hs rfl rfl ds_ ?_; clear hs hm a; rintro - w hm a hs)) | ((with_reducible apply qNil); clear hm; intro w hm) | refine cQ_ ?_ | refine sc_ ?_)
    exact gRet1 hs rfl rfl ⟨_, rfl, ⟨(fun _ => ⟨hcode, hss, hws⟩), (fun _ => rfl)⟩, hF0.pu (hF.pu hm.fr)⟩
  obtain ⟨b1, o1, rfl, hb1, r1⟩ := d0.ro (by rw [List.length_map]; omega)
  obtain ⟨b2, o2, rfl, hb2, r2⟩ := d1.ro (by rw [List.length_map]; omega)
  have r1' := r1.pu_ hF
  have r2' := r2.pu_ hF
  have h1m := m4 ws[k] (List.getElem_mem hlt)
  have h2m := n4 (ws2[k]'(by omega)) (List.getElem_mem _)
  have hx1 := x0 ws[k] (List.getElem_mem hlt)
  have hx2 := x1 (ws2[k]'(by omega)) (List.getElem_mem _)
  have k1 : (ws.map WV.v)[k]? = some (ws[k]).v := by rw [List.getElem?_map, List.getElem?_eq_getElem hlt]; rfl
  have k2 : (ws2.map WV.v)[k]? = some (ws2[k]'(by omega)).v := by rw [List.getElem?_map, List.getElem?_eq_getElem (show k < ws2.length by omega)]; rfl
  obtain ⟨x, hx⟩ : ∃ z, ws[k] = z := ⟨_, rfl⟩
  obtain ⟨y, hy⟩ : ∃ z, ws2[k]'(by omega) = z := ⟨_, rfl⟩
  rw [hx] at k1 h1m hx1
  rw [hy] at k2 h2m hx2
  obtain ⟨xA, xcp, xs⟩ := x
  obtain ⟨yA, ycp, ys⟩ := y
  unfold WV.v at k1 k2
  dsimp only at k1 k2 h1m h2m hx1 hx2
  by_cases hlen : xs.length = ys.length
  case neg =>
    repeat (first | (refine oqXAtg1_ ?_; clear hs a; intro a hs) | ((with_reducible apply lCons); first | (refine dv hs gw_ rfl rfl da_ ?_; clear hs hm a; rintro _ w ⟨g, rfl, -, hm⟩ a hs) | (refine stn hs rfl rfl ds_ ?_; clear hs hm a; rintro - w hm a hs)) | ((with_reducible apply qNil); clear hm; intro w hm) | refine cQ_ ?_ | refine sc_ ?_)
    refine gRet1 hs rfl rfl ⟨_, rfl, ⟨(fun e => by cases e), (fun e => ?_)⟩, hF0.pu (hF.pu hm.fr)⟩
    exfalso
    have h1 : (ws.map WV.xs)[k]? = (ws2.map WV.xs)[k]? := by rw [e.2.2]
    rw [List.getElem?_map, List.getElem?_map, List.getElem?_eq_getElem hlt, List.getElem?_eq_getElem (show k < ws2.length by omega), hx, hy] at h1
    exact hlen (congrArg List.length (Option.some.inj h1))
  repeat (first | (refine oqXAtg1_ ?_; clear hs a; intro a hs) | ((with_reducible apply lCons); first | (refine dv hs gw_ rfl rfl da_ ?_; clear hs hm a; rintro _ w ⟨g, rfl, -, hm⟩ a hs) | (refine stn hs rfl rfl ds_ ?_; clear hs hm a; rintro - w hm a hs)) | ((with_reducible apply qNil); clear hm; intro w hm) | refine cQ_ ?_ | refine sc_ ?_)
  refine cLoop (X := Nat) (fun j a w' => Sl Tryz.f22.ntmps [(2, .pointer (some ⟨g2, 0, none⟩)), (3, .pointer (some ⟨g3, 0, none⟩)), (72, .int .i64 (ws.length : Int)), (73, .int .i64 (k : Int)), (7, .int .i64 (k : Int)), (94, .int .i64 (xs.length : Int)), (95, .int .i64 (j : Int))] a ∧ Pu wS w' ∧ j ≤ xs.length ∧ ∀ i (h1 : i < xs.length) (h2 : i < ys.length), i < j → xs[i] = ys[i]) (fun j => xs.length - j) 0 ⟨hs.sub (Has.all ⟨rfl, rfl, rfl, rfl, rfl, rfl, rfl, trivial⟩), hF.pu hm.fr, Nat.zero_le _, fun j _ _ h => absurd h (Nat.not_lt_zero _)⟩ ?_
  clear hs hm a hF q2 q3 r1' r2'
  rintro j a w' ⟨hs, hF, hj, hgj⟩
  have hm := Mm.nil (fun _ => False) w'
  have q2 := rg2.pu_ hF
  have q3 := rg3.pu_ hF
  have r1' := r1.pu_ hF
  have r2' := r2.pu_ hF
  by_cases hlj : j < xs.length
  · obtain ⟨b3, o3, rfl, hb3, r3⟩ := (hF.rd' hx1).ro (by unfold wds; rw [List.length_map]; omega)
    obtain ⟨b4, o4, rfl, hb4, r4⟩ := (hF.rd' hx2).ro (by unfold wds; rw [List.length_map]; omega)
    obtain ⟨u, hu⟩ : ∃ z, xs[j] = z := ⟨_, rfl⟩
    obtain ⟨v, hv⟩ : ∃ z, ys[j]'(by omega) = z := ⟨_, rfl⟩
    have k3 : (wds xs)[j]? = some (.int .u16 u) := by unfold wds; rw [List.getElem?_map, List.getElem?_eq_getElem hlj, hu]; rfl
    have k4 : (wds ys)[j]? = some (.int .u16 v) := by unfold wds; rw [List.getElem?_map, List.getElem?_eq_getElem (show j < ys.length by omega), hv]; rfl
    by_cases huv : u = v
    · repeat (first | (refine oqXAtg1_ ?_; clear hs a; intro a hs) | ((with_reducible apply lCons); first | (refine dv hs gw_ rfl rfl da_ ?_; clear hs hm a; rintro _ w ⟨g, rfl, -, hm⟩ a hs) | (refine stn hs rfl rfl ds_ ?_; clear hs hm a; rintro - w hm a hs)) | ((with_reducible apply qNil); clear hm; intro w hm) | refine cQ_ ?_ | refine sc_ ?_)
      refine ⟨j + 1, by omega, hs.sub (Has.all ⟨rfl, rfl, rfl, rfl, rfl, rfl, rfl, trivial⟩), hF.pu hm.fr, by omega, fun i h1 h2 hi => ?_⟩
      by_cases e : i = j
      · subst e
        rw [hu, hv]
        exact huv
      · exact hgj i h1 h2 (by omega)
    · repeat (first | (refine oqXAtg1_ ?_; clear hs a; intro a hs) | ((with_reducible apply lCons); first | (refine dv hs gw_ rfl rfl da_ ?_; clear hs hm a; rintro _ w ⟨g, rfl, -, hm⟩ a hs) | (refine stn hs rfl rfl ds_ ?_; clear hs hm a; rintro - w hm a hs)) | ((with_reducible apply qNil); clear hm; intro w hm) | refine cQ_ ?_ | refine sc_ ?_)
      refine gRet1 hs rfl rfl ⟨_, rfl, ⟨(fun e => by cases e), (fun e => ?_)⟩, hF0.pu (hF.pu hm.fr)⟩
      exfalso
      have h1 : (ws.map WV.xs)[k]? = (ws2.map WV.xs)[k]? := by rw [e.2.2]
      rw [List.getElem?_map, List.getElem?_map, List.getElem?_eq_getElem hlt, List.getElem?_eq_getElem (show k < ws2.length by omega), hx, hy] at h1
      have h2 : xs = ys := Option.some.inj h1
      have h3 : xs[j] = ys[j]'(by omega) := by simp only [h2]
      rw [hu, hv] at h3
      exact huv h3
  · have hxy : xs = ys := List.ext_getElem hlen fun i h1 h2 => hgj i h1 h2 (by omega)
    repeat (first | (refine oqXAtg1_ ?_; clear hs a; intro a hs) | ((with_reducible apply lCons); first | (refine dv hs gw_ rfl rfl da_ ?_; clear hs hm a; rintro _ w ⟨g, rfl, -, hm⟩ a hs) | (refine stn hs rfl rfl ds_ ?_; clear hs hm a; rintro - w hm a hs)) | ((with_reducible apply qNil); clear hm; intro w hm) | refine cQ_ ?_ | refine sc_ ?_)
    refine ⟨k + 1, by omega, hs.sub (Has.all ⟨rfl, rfl, rfl, rfl, trivial⟩), hF.pu hm.fr, by omega, fun i h1 h2 hi => ?_⟩
    by_cases e : i = k
    · subst e
      rw [hx, hy]
      exact hxy
    · exact hg i h1 h2 (by omega)
end Go.Proofs.YtajkekhnfobgiaaGreatDoor

/- The reference's Print. -/
namespace Go.Proofs.YtajkekhnfobgiaaGreatDoor
set_option maxRecDepth 20000
open Go.RowKit

/-- the words of an instruction's registers, each behind a blank -/
def f1L (i : In) : Tx := (regW (usesF i.op).1 i.a).flatMap fun x => 32 :: x
def f2L (i : In) : Tx := (regW (usesF i.op).2.1 i.b).flatMap fun x => 32 :: x
def f3L (i : In) : Tx := (regW (usesF i.op).2.2.1 i.c).flatMap fun x => 32 :: x
def pjL (i : In) : Nat → Tx
  | 0 => []
  | 1 => f1L i
  | 2 => f1L i ++ f2L i
  | _ => f1L i ++ f2L i ++ f3L i
def f4L (i : In) : Tx := (lastW (jumpB i.op) (usesF i.op).2.2.2 i.m).flatMap fun x => 32 :: x
theorem join_wd (w : Tx) (ws : List Tx) : Lib.join (w :: ws) [32] = w ++ ws.flatMap fun x => 32 :: x := by
  rw [Lib.join_cons]
  unfold Lib.joinTail
  rw [List.flatMap_def]
  rfl
theorem lineL_eq (i : In) : lineL i = nameL i.op ++ pjL i 3 ++ f4L i := by
  have h : wordsL i = nameL i.op :: (regW (usesF i.op).1 i.a ++ (regW (usesF i.op).2.1 i.b ++ (regW (usesF i.op).2.2.1 i.c ++ lastW (jumpB i.op) (usesF i.op).2.2.2 i.m))) := by
    unfold wordsL wk
    simp only [List.append_assoc, List.cons_append, List.nil_append]
  unfold lineL
  rw [h, join_wd]
  show _ = nameL i.op ++ (f1L i ++ f2L i ++ f3L i) ++ f4L i
  unfold f1L f2L f3L f4L
  simp only [List.flatMap_append, List.append_assoc]
theorem f_yes (v : Int) : ((regW true v).flatMap fun x => (32 : UInt8) :: x) = [32, 114] ++ Lib.itoa v := by simp [regW]
theorem f_no (v : Int) : ((regW false v).flatMap fun x => (32 : UInt8) :: x) = [] := rfl
theorem pjL_le (i : In) (h : InI i) (j : Nat) : (pjL i j).length ≤ 200 := by
  have h1 := lineL_len h
  rw [lineL_eq] at h1
  simp only [List.length_append] at h1
  have h2 : (pjL i 3).length = (f1L i).length + (f2L i).length + (f3L i).length := by
    show (f1L i ++ f2L i ++ f3L i).length = _
    simp only [List.length_append]
  match j with
  | 0 => exact Nat.zero_le _
  | 1 => show (f1L i).length ≤ _; omega
  | 2 => show (f1L i ++ f2L i).length ≤ _; rw [List.length_append]; omega
  | n + 3 => show (f1L i ++ f2L i ++ f3L i).length ≤ _; rw [List.length_append, List.length_append]; omega
theorem zrep_b : ∀ n : Nat, zrep n [.bool false] = List.replicate n (.bool false)
  | 0 => rfl
  | n + 1 => by rw [List.replicate_succ, ← zrep_b n]; rfl
def tBs (code : List In) (n k : Nat) : List Value := (List.range n).map fun j : Nat => .bool (tgB (code.take k) (j : Int))
theorem tBs_0 (code : List In) (n : Nat) : List.replicate n (.bool false) = tBs code n 0 := by
  unfold tBs
  apply List.ext_getElem
  · simp
  · intro j h1 h2
    simp [tgB]
theorem tBs_at (code : List In) {n j : Nat} (h : j < n) : (tBs code n n)[j]? = some (.bool (tgB (code.take n) (j : Int))) := by
  unfold tBs
  rw [List.getElem?_map, List.getElem?_range h]
  rfl
theorem tBs_len (code : List In) (n k : Nat) : (tBs code n k).length = n := by unfold tBs; simp
theorem tBs_no (code : List In) {n k : Nat} (hk : k < code.length) (h : jumpB (code[k]).op = false) : tBs code n (k + 1) = tBs code n k := by
  unfold tBs
  refine List.map_congr_left fun j _ => ?_
  rw [tgB_take code k hk, h, Bool.false_and, Bool.or_false]
theorem tBs_yes (code : List In) {n k m : Nat} (hk : k < code.length) (h : jumpB (code[k]).op = true) (hm : (code[k]).m = (m : Int)) : (tBs code n k).set m (.bool true) = tBs code n (k + 1) := by
  unfold tBs
  apply List.ext_getElem
  · simp
  · intro j h1 h2
    rw [List.getElem_set, List.getElem_map, List.getElem_map, List.getElem_range, tgB_take code k hk, h, hm, Bool.true_and]
    split
    · rename_i e
      rw [e, decide_eq_true rfl, Bool.or_true]
    · rename_i e
      rw [decide_eq_false (fun e2 => e (by omega)), Bool.or_false]
end Go.Proofs.YtajkekhnfobgiaaGreatDoor

/- The reference's Print: the walk. -/
namespace Go.Proofs.YtajkekhnfobgiaaGreatDoor
set_option maxRecDepth 20000
open Go.RowKit
theorem ovXAtl0_ {G H : Prop} (k : H) (s : H → G := by intro k; (with_reducible refine toL hm ?_); first | exact oneV hs gw_ rfl rfl (by intro w hm; (first | exact kvR_ | exact kb2_ | exact r_sadd hs rfl rfl rfl (by first | omega | (simp only [List.length_cons, List.length_nil]; omega) | (simp only [List.length_append, List.length_cons, List.length_nil]; omega)))) k | exact oneN hs rfl rfl rfl rfl rfl rfl rfl k | exact oneU hs rfl rfl rfl rfl rfl rfl k) : G := s k



set_option maxHeartbeats 16000000 in
theorem rprint_c (p : PV) (wB : World) (hp : p.ok wB) (hsm : p.sm) (ht : TW wB) : Ret Tryz.prog 14 [p.v] wB (fun u w' => (GoodP p → u = .tuple #[txv (textP p), .int .i64 0]) ∧ (¬ GoodP p → u = .tuple #[txv [], .int .i64 1]) ∧ Pu wB w') := by
  by_cases hG : GoodP p
  case neg =>
    refine enterR Tryz.func14 rfl rfl rfl fun a hs hm => ?_
    unfold PV.v at hs
    repeat (first | (refine ovXAtl0_ ?_; clear hs a; intro a hs) | ((with_reducible apply lCons); first | (refine dv hs gw_ rfl rfl (by first | exact da_ | exact d_makeSlice hs rfl rfl rfl tab rfl rfl rfl rfl rfl (by omega) rfl hm) ?_; clear hs hm a; rintro _ w ⟨g, rfl, -, hm⟩ a hs) | (refine stn hs rfl rfl ds_ ?_; clear hs hm a; rintro - w hm a hs)) | refine sc_ ?_)
    refine st hs rfl rfl rfl (d_call hs rfl rfl rfl (pl 39 rfl) ((good_c p _ (hp.pu hm.fr) hsm))) ?_; clear hs a; rintro _ w1 ⟨e, rfl, he, hf⟩ a hs
    replace hm := hm.pu hf
    clear hf
    obtain rfl : e = false := Bool.eq_false_iff.2 fun e0 => hG (he.1 e0)
    repeat (first | (refine ovXAtl0_ ?_; clear hs a; intro a hs) | ((with_reducible apply lCons); first | (refine dv hs gw_ rfl rfl (by first | exact da_ | exact d_makeSlice hs rfl rfl rfl tab rfl rfl rfl rfl rfl (by omega) rfl hm) ?_; clear hs hm a; rintro _ w ⟨g, rfl, -, hm⟩ a hs) | (refine stn hs rfl rfl ds_ ?_; clear hs hm a; rintro - w hm a hs)) | refine sc_ ?_)
    exact gRetN tab hs rfl (.cons (.tmp rfl) (.cons (.tmp rfl) .nil)) ⟨fun h => absurd h hG, fun _ => rfl, hm.fr⟩
  have hgs := hG.gs hsm
  have hrl := fun k hk => rgsL_len hG hsm k hk
  have hcl := fun k hk => cdsL_len hG k hk
  have hin := fun k (hk : k < p.code.length) => (hG.inv _ (List.getElem_mem hk)).1
  have z1 := hG.sz.one
  have z2 := hG.sz.four
  have z3 := hG.wl
  have z4 := hG.c1
  have z5 := hG.c2
  refine enterR Tryz.func14 rfl rfl rfl fun a hs hm => ?_
  unfold PV.v at hs
  repeat (first | (refine ovXAtl0_ ?_; clear hs a; intro a hs) | ((with_reducible apply lCons); first | (refine dv hs gw_ rfl rfl (by first | exact da_ | exact d_makeSlice hs rfl rfl rfl tab rfl rfl rfl rfl rfl (by omega) rfl hm) ?_; clear hs hm a; rintro _ w ⟨g, rfl, -, hm⟩ a hs) | (refine stn hs rfl rfl ds_ ?_; clear hs hm a; rintro - w hm a hs)) | refine sc_ ?_)
  refine st hs rfl rfl rfl (d_call hs rfl rfl rfl (pl 39 rfl) ((good_c p _ (hp.pu hm.fr) hsm))) ?_; clear hs a; rintro _ w1 ⟨e, rfl, he, hf⟩ a hs
  replace hm := hm.pu hf
  clear hf
  obtain rfl := he.2 hG
  obtain ⟨g1, en_⟩ := hs.pt 1 (by exact rfl); subst en_
  have hF0 := hm.fr
  have hp1 := hp.pu hF0
  have ht1 := ht.pu hF0
  have rg := hm.ro (k := 0) (n := 3) (g := g1) mem_ (cutF_ok rfl)
  clear hm hp ht
  have hm := Mm.nil (fun _ => False) w1
  obtain ⟨cA, cc, code, sA, sc, ss, dA, dc, ws⟩ := p
  obtain ⟨pc, ps, pd, px⟩ := hp1
  dsimp only at *
  obtain ⟨b1, o1, rfl, hb1, rc⟩ := pc.ro (by rw [flat_len inV 5 inV_len]; omega)
  obtain ⟨b2, o2, rfl, hb2, rs⟩ := ps.ro (by rw [ints_len]; omega)
  obtain ⟨b3, o3, rfl, hb3, rd⟩ := pd.ro (by rw [List.length_map]; omega)
  replace rg : Ro w1 g1 0 [.slice (some ⟨b1, o1, none⟩) code.length cc, .slice (some ⟨b2, o2, none⟩) ss.length sc, .slice (some ⟨b3, o3, none⟩) ws.length dc] := rg
  repeat (first | (refine ovXAtl0_ ?_; clear hs a; intro a hs) | ((with_reducible apply lCons); first | (refine dv hs gw_ rfl rfl (by first | exact da_ | exact d_makeSlice hs rfl rfl rfl tab rfl rfl rfl rfl rfl (by omega) rfl hm) ?_; clear hs hm a; rintro _ w ⟨g, rfl, -, hm⟩ a hs) | (refine stn hs rfl rfl ds_ ?_; clear hs hm a; rintro - w hm a hs)) | refine sc_ ?_)
  refine cLoop (X := Nat) (fun k a w' => Sl Tryz.f14.ntmps [(1, .pointer (some ⟨g1, 0, none⟩)), (4, txv (rgsL ss ws k)), (21, .slice (some ⟨b2, o2, none⟩) ss.length sc), (22, .int .i64 (ss.length : Int)), (23, .int .i64 (k : Int))] a ∧ Pu w1 w' ∧ k ≤ ss.length) (fun k => ss.length - k) 0 ⟨hs.sub (Has.all ⟨rfl, rfl, rfl, rfl, rfl, trivial⟩), hm.fr, Nat.zero_le _⟩ ?_
  clear hs hm a
  rintro k a w' ⟨hs, hF, hk⟩
  have hm := Mm.nil (fun _ => False) w'
  have q1 := rg.pu_ hF
  have q2 := rs.pu_ hF
  have q3 := rd.pu_ hF
  by_cases hlt : k < ss.length
  · have e1 := ints_some (xs := ss) (k := k) hlt
    have hlw : k < ws.length := by omega
    obtain ⟨sk, hsk⟩ : ∃ z, ss[k] = z := ⟨_, rfl⟩
    obtain ⟨⟨rA, rc_, rx⟩, hr⟩ : ∃ z, ws[k] = z := ⟨_, rfl⟩
    have hskb := hgs.s k hlt
    have hxb := hgs.x k hlw
    have hrx := px ws[k] (List.getElem_mem hlw)
    have e2 : (ws.map WV.v)[k]? = some (.slice rA rx.length rc_) := by rw [List.getElem?_map, List.getElem?_eq_getElem hlw, hr]; rfl
    have hnx := rgsL_succ ss ws k
    rw [List.getD_eq_getElem?_getD, List.getElem?_eq_getElem hlt, List.getD_eq_getElem?_getD, List.getElem?_eq_getElem hlw, Option.getD_some, Option.getD_some] at hnx
    have hl0 := hrl k (by omega)
    dsimp only at hskb hxb hrx
    rw [hsk] at e1 hskb hnx
    rw [hr] at hxb hrx hnx
    dsimp only at hxb hrx hnx
    have hi := fun w'' (hf : Pu w1 w'') => itoa_c sk w'' (by omega) (by omega) (ht1.pu hf)
    have hil := itL_len (n := sk) (by omega)
    have hth := rgH_len (n := sk) (by omega)
    repeat (first | (refine ovXAtl0_ ?_; clear hs a; intro a hs) | ((with_reducible apply lCons); first | (refine dv hs gw_ rfl rfl (by first | exact da_ | exact d_makeSlice hs rfl rfl rfl tab rfl rfl rfl rfl rfl (by omega) rfl hm) ?_; clear hs hm a; rintro _ w ⟨g, rfl, -, hm⟩ a hs) | (refine stn hs rfl rfl ds_ ?_; clear hs hm a; rintro - w hm a hs) | (refine dvc hs hm gw_ rfl rfl rfl rfl rfl (pl 34 rfl) (hi _ (hF.pu hm.fr)) ?_; clear hs hm a; intro w hm a hs)) | refine sc_ ?_)
    have hF2 := hF.pu hm.fr
    clear hF q1 q2 q3 hm
    rename World => w2
    have hs2 : Sl Tryz.f14.ntmps [(1, .pointer (some ⟨g1, 0, none⟩)), (4, txv (rgsL ss ws k ++ rgH sk ++ (rx.take 0).flatMap wdL)), (21, .slice (some ⟨b2, o2, none⟩) ss.length sc), (22, .int .i64 (ss.length : Int)), (23, .int .i64 (k : Int)), (37, .slice rA rx.length rc_), (38, .int .i64 (rx.length : Int)), (39, .int .i64 ((0 : Nat) : Int))] a := by
      rw [List.take_zero, List.flatMap_nil, List.append_nil]
      exact hs.sub (Has.all ⟨rfl, rfl, rfl, rfl, rfl, rfl, rfl, rfl, trivial⟩)
    refine cLoop (X := Nat) (fun j a w' => Sl Tryz.f14.ntmps [(1, .pointer (some ⟨g1, 0, none⟩)), (4, txv (rgsL ss ws k ++ rgH sk ++ (rx.take j).flatMap wdL)), (21, .slice (some ⟨b2, o2, none⟩) ss.length sc), (22, .int .i64 (ss.length : Int)), (23, .int .i64 (k : Int)), (37, .slice rA rx.length rc_), (38, .int .i64 (rx.length : Int)), (39, .int .i64 (j : Int))] a ∧ Pu w1 w' ∧ j ≤ rx.length) (fun j => rx.length - j) 0 ⟨hs2, hF2, Nat.zero_le _⟩ ?_
    clear hs hs2 a hF2
    rintro j a w4 ⟨hs, hF, hj⟩
    have hm := Mm.nil (fun _ => False) w4
    have htk := wds_le (rx.take j) (fun y hy => hxb.2 y (List.mem_of_mem_take hy))
    rw [List.length_take] at htk
    have hSl : (rgsL ss ws k ++ rgH sk ++ (rx.take j).flatMap wdL).length ≤ 100000 := by
      rw [List.length_append, List.length_append]
      omega
    by_cases hlj : j < rx.length
    · obtain ⟨b5, o5, rfl, hb5, r5⟩ := hrx.ro (by unfold wds; rw [List.length_map]; omega)
      have q5 := r5.pu_ hF
      obtain ⟨yv, hyv⟩ : ∃ z, rx[j] = z := ⟨_, rfl⟩
      have hyb := hxb.2 rx[j] (List.getElem_mem hlj)
      rw [hyv] at hyb
      have e5 : (wds rx)[j]? = some (.int .u16 yv) := by unfold wds; rw [List.getElem?_map, List.getElem?_eq_getElem hlj, hyv]; rfl
      have hiy := fun w'' (hf : Pu w1 w'') => itoa_c yv w'' (by omega) (by omega) (ht1.pu hf)
      have hyl := itL_len (n := yv) (by omega)
      have e6 : rgsL ss ws k ++ rgH sk ++ (rx.take (j + 1)).flatMap wdL = rgsL ss ws k ++ rgH sk ++ (rx.take j).flatMap wdL ++ ([32] ++ Lib.itoa yv) := by rw [List.take_succ_eq_append_getElem hlj, List.flatMap_append, hyv, List.append_assoc, List.append_assoc, List.append_assoc]; simp [wdL]
      generalize rgsL ss ws k ++ rgH sk ++ (rx.take j).flatMap wdL = S at hs hSl e6
      repeat (first | (refine ovXAtl0_ ?_; clear hs a; intro a hs) | ((with_reducible apply lCons); first | (refine dv hs gw_ rfl rfl (by first | exact da_ | exact d_makeSlice hs rfl rfl rfl tab rfl rfl rfl rfl rfl (by omega) rfl hm) ?_; clear hs hm a; rintro _ w ⟨g, rfl, -, hm⟩ a hs) | (refine stn hs rfl rfl ds_ ?_; clear hs hm a; rintro - w hm a hs)) | refine sc_ ?_)
      rw [wrap_idP (v := yv) (by omega)] at hs
      repeat (first | (refine ovXAtl0_ ?_; clear hs a; intro a hs) | ((with_reducible apply lCons); first | (refine dv hs gw_ rfl rfl (by first | exact da_ | exact d_makeSlice hs rfl rfl rfl tab rfl rfl rfl rfl rfl (by omega) rfl hm) ?_; clear hs hm a; rintro _ w ⟨g, rfl, -, hm⟩ a hs) | (refine stn hs rfl rfl ds_ ?_; clear hs hm a; rintro - w hm a hs) | (refine dvc hs hm gw_ rfl rfl rfl rfl rfl (pl 34 rfl) (hiy _ (hF.pu hm.fr)) ?_; clear hs hm a; intro w hm a hs)) | refine sc_ ?_)
      rw [← e6] at hs
      refine ⟨j + 1, by omega, hs.sub (Has.all ⟨rfl, rfl, rfl, rfl, rfl, rfl, rfl, rfl, trivial⟩), hF.pu hm.fr, by omega⟩
    · rw [List.take_of_length_le (by omega)] at hs hSl
      have e6 : rgsL ss ws (k + 1) = rgsL ss ws k ++ rgH sk ++ rx.flatMap wdL ++ [10] := by
        rw [hnx]
        unfold rgL
        simp only [List.append_assoc]
      generalize rgsL ss ws k ++ rgH sk ++ rx.flatMap wdL = S at hs hSl e6
      repeat (first | (refine ovXAtl0_ ?_; clear hs a; intro a hs) | ((with_reducible apply lCons); first | (refine dv hs gw_ rfl rfl (by first | exact da_ | exact d_makeSlice hs rfl rfl rfl tab rfl rfl rfl rfl rfl (by omega) rfl hm) ?_; clear hs hm a; rintro _ w ⟨g, rfl, -, hm⟩ a hs) | (refine stn hs rfl rfl ds_ ?_; clear hs hm a; rintro - w hm a hs)) | refine sc_ ?_)
      rw [← e6] at hs
      refine ⟨k + 1, by omega, hs.sub (Has.all ⟨rfl, rfl, rfl, rfl, rfl, trivial⟩), hF.pu hm.fr, by omega⟩
  have hkn : k = ss.length := by omega
  subst hkn
  have z6 : ss.length ≤ 4 := z2
  have hTl : (rgsL ss ws ss.length).length ≤ 4000 := by have := hrl ss.length (Nat.le_refl _); omega
  unfold textP
  dsimp only
  generalize rgsL ss ws ss.length = T1 at hs hTl ⊢
  have q4 := rc.pu_ hF
  repeat (first | (refine ovXAtl0_ ?_; clear hs a; intro a hs) | ((with_reducible apply lCons); first | (refine dv hs gw_ rfl rfl (by first | exact da_ | exact d_makeSlice hs rfl rfl rfl tab rfl rfl rfl rfl rfl (by omega) rfl hm) ?_; clear hs hm a; rintro _ w ⟨g, rfl, -, hm⟩ a hs) | (refine stn hs rfl rfl ds_ ?_; clear hs hm a; rintro - w hm a hs)) | refine sc_ ?_)
  obtain ⟨g9, en_⟩ := hs.ps 9 (by exact rfl); subst en_
  obtain ⟨wC, hwC⟩ : ∃ u : World, u = w' := ⟨w', rfl⟩
  subst hwC
  rw [zrep_b, tBs_0 code] at hm
  refine cLoop (X := Nat) (fun k a w' => Sl Tryz.f14.ntmps [(1, .pointer (some ⟨g1, 0, none⟩)), (4, txv T1), (9, .slice (some ⟨g9, 0, none⟩) code.length code.length), (58, .slice (some ⟨b1, o1, none⟩) code.length cc), (59, .int .i64 (code.length : Int)), (60, .int .i64 (k : Int))] a ∧ Mm (fun _ => False) wC [⟨some g9, 4, tBs code code.length k⟩] w' ∧ k ≤ code.length) (fun k => code.length - k) 0 ⟨hs.sub (Has.all ⟨rfl, rfl, rfl, rfl, rfl, rfl, trivial⟩), hm, Nat.zero_le _⟩ ?_
  clear hs hm a
  rintro k a w' ⟨hs, hm, hk⟩
  by_cases hlt : k < code.length
  · obtain ⟨x, hx⟩ : ∃ z, code[k] = z := ⟨_, rfl⟩
    have hrk := q4.flat inV_len hlt
    have hvl := hG.inv _ (List.getElem_mem hlt)
    have hno := tBs_no code (n := code.length) hlt
    have hye := fun m => tBs_yes code (n := code.length) (m := m) hlt
    rw [hx] at hrk hvl hno hye
    obtain ⟨xo, xa, xb, xc, xm⟩ := x
    unfold inV at hrk
    dsimp only at hrk hno hye hvl
    have hjm := fun w => jump_c xo w
    cases hjb : jumpB xo
    · rw [hjb] at hjm
      rw [← hno hjb] at hm
      repeat (first | (refine ovXAtl0_ ?_; clear hs a; intro a hs) | ((with_reducible apply lCons); first | (refine dv hs gw_ rfl rfl (by first | exact da_ | exact d_makeSlice hs rfl rfl rfl tab rfl rfl rfl rfl rfl (by omega) rfl hm) ?_; clear hs hm a; rintro _ w ⟨g, rfl, -, hm⟩ a hs) | (refine stn hs rfl rfl ds_ ?_; clear hs hm a; rintro - w hm a hs) | (refine dvc hs hm gw_ rfl rfl rfl rfl rfl (pl 31 rfl) (hjm _) ?_; clear hs hm a; intro w hm a hs)) | refine sc_ ?_)
      exact ⟨k + 1, by omega, hs.sub (Has.all ⟨rfl, rfl, rfl, rfl, rfl, rfl, trivial⟩), hm.sub sub_, hlt⟩
    · rw [hjb] at hjm
      have h1 := hvl.2.1 hjb
      have h2 := hvl.1.1.m
      dsimp only at h1 h2
      obtain ⟨m, rfl⟩ : ∃ m : Nat, xm = (m : Int) := ⟨xm.toNat, by omega⟩
      have hml : m < code.length := by omega
      have hmc : m < (tBs code code.length k).length := by rw [tBs_len]; exact hml
      repeat (first | (refine ovXAtl0_ ?_; clear hs a; intro a hs) | ((with_reducible apply lCons); first | (refine dv hs gw_ rfl rfl (by first | exact da_ | exact d_makeSlice hs rfl rfl rfl tab rfl rfl rfl rfl rfl (by omega) rfl hm) ?_; clear hs hm a; rintro _ w ⟨g, rfl, -, hm⟩ a hs) | (refine stn hs rfl rfl ds_ ?_; clear hs hm a; rintro - w hm a hs) | (refine dvc hs hm gw_ rfl rfl rfl rfl rfl (pl 31 rfl) (hjm _) ?_; clear hs hm a; intro w hm a hs)) | refine sc_ ?_)
      have hm9 : Mm (fun _ => False) wC [⟨some g9, 4, (tBs code code.length k).set m (.bool true)⟩] _ := hm.sub sub_
      rw [hye m hjb rfl] at hm9
      exact ⟨k + 1, by omega, hs.sub (Has.all ⟨rfl, rfl, rfl, rfl, rfl, rfl, trivial⟩), hm9, hlt⟩
  obtain rfl : k = code.length := by omega
  have hb9 : Blk w' g9 4 (tBs code code.length code.length).toArray := hm.me ⟨some g9, 4, tBs code code.length code.length⟩ (List.mem_cons_self ..)
  have r9 : Ro w' g9 0 (tBs code code.length code.length) := blk_ro hb9
  have hPD := hF.pu hm.fr
  have p1 := q1.pu_ hm.fr
  have p4 := q4.pu_ hm.fr
  clear hm q1 q2 q3 q4
  obtain ⟨wD, hwD⟩ : ∃ u : World, u = w' := ⟨w', rfl⟩
  subst hwD
  have hm := Mm.nil (fun _ => False) wD
  have htD := ht1.pu hPD
  repeat (first | (refine ovXAtl0_ ?_; clear hs a; intro a hs) | ((with_reducible apply lCons); first | (refine dv hs gw_ rfl rfl (by first | exact da_ | exact d_makeSlice hs rfl rfl rfl tab rfl rfl rfl rfl rfl (by omega) rfl hm) ?_; clear hs hm a; rintro _ w ⟨g, rfl, -, hm⟩ a hs) | (refine stn hs rfl rfl ds_ ?_; clear hs hm a; rintro - w hm a hs)) | refine sc_ ?_)
  have hs2 : Sl Tryz.f14.ntmps [(1, .pointer (some ⟨g1, 0, none⟩)), (4, txv (T1 ++ cdsL code 0)), (9, .slice (some ⟨g9, 0, none⟩) code.length code.length), (73, .slice (some ⟨b1, o1, none⟩) code.length cc), (74, .int .i64 (code.length : Int)), (75, .int .i64 ((0 : Nat) : Int))] a := by
    rw [show T1 ++ cdsL code 0 = T1 from List.append_nil _]
    exact hs.sub (Has.all ⟨rfl, rfl, rfl, rfl, rfl, rfl, trivial⟩)
  refine cLoop (X := Nat) (fun k a w' => Sl Tryz.f14.ntmps [(1, .pointer (some ⟨g1, 0, none⟩)), (4, txv (T1 ++ cdsL code k)), (9, .slice (some ⟨g9, 0, none⟩) code.length code.length), (73, .slice (some ⟨b1, o1, none⟩) code.length cc), (74, .int .i64 (code.length : Int)), (75, .int .i64 (k : Int))] a ∧ Pu wD w' ∧ k ≤ code.length) (fun k => code.length - k) 0 ⟨hs2, hm.fr, Nat.zero_le _⟩ ?_
  clear hs hs2 hm a hk hlt
  rintro k a w' ⟨hs, hP, hk⟩
  have hm := Mm.nil (fun _ => False) w'
  have s1 := p1.pu_ hP
  have s4 := p4.pu_ hP
  have s9 := r9.pu_ hP
  by_cases hlt : k < code.length
  · obtain ⟨x, hx⟩ : ∃ z, code[k] = z := ⟨_, rfl⟩
    have hrk := s4.flat inV_len hlt
    have hvl := hin k hlt
    have htg := tBs_at code hlt
    rw [List.take_length] at htg
    have hcs := cdsL_succ code k
    rw [List.getD_eq_getElem?_getD, List.getElem?_eq_getElem hlt, Option.getD_some] at hcs
    have hcl0 := hcl k hk
    rw [hx] at hrk hvl hcs
    have hiv := hvl.1
    unfold cdL at hcs
    obtain ⟨xo, xa, xb, xc, xm⟩ := x
    unfold inV at hrk
    dsimp only at hrk hcs hiv
    have hini := hvl.ini
    have hixa : 0 ≤ xa ∧ xa ≤ 65535 := by have := hiv.a; dsimp only at this; omega
    have hixb : 0 ≤ xb ∧ xb ≤ 65535 := by have := hiv.b; dsimp only at this; omega
    have hixc : 0 ≤ xc ∧ xc ≤ 65535 := by have := hiv.c; dsimp only at this; omega
    have hixm : 0 ≤ xm ∧ xm ≤ 65535 := by have := hiv.m; dsimp only at this; omega
    have hla := itL_len (n := xa) (by omega)
    have hlb := itL_len (n := xb) (by omega)
    have hlc := itL_len (n := xc) (by omega)
    have hlm := itL_len (n := xm) (by omega)
    have hus := fun w => uses_c xo w
    have hjm := fun w => jump_c xo w
    have hnm := fun w'' (hf : Pu w' w'') => rname_c xo w'' (htD.pu (hP.pu hf))
    have hnl := nameL_len xo
    have hik := fun w'' (hf : Pu w' w'') => itoa_c (k : Int) w'' (by omega) (by omega) (htD.pu (hP.pu hf))
    have hil := itL_len (n := (k : Int)) (by omega)
    have hf4 : f4L ⟨xo, xa, xb, xc, xm⟩ = (lastW (jumpB xo) (usesF xo).2.2.2 xm).flatMap fun x => 32 :: x := rfl
    have hp0 : pjL ⟨xo, xa, xb, xc, xm⟩ (0 + 1) = pjL ⟨xo, xa, xb, xc, xm⟩ 0 ++ (regW (usesF xo).1 xa).flatMap fun x => 32 :: x := rfl
    have hp1 : pjL ⟨xo, xa, xb, xc, xm⟩ (1 + 1) = pjL ⟨xo, xa, xb, xc, xm⟩ 1 ++ (regW (usesF xo).2.1 xb).flatMap fun x => 32 :: x := rfl
    have hp2 : pjL ⟨xo, xa, xb, xc, xm⟩ (2 + 1) = pjL ⟨xo, xa, xb, xc, xm⟩ 2 ++ (regW (usesF xo).2.2.1 xc).flatMap fun x => 32 :: x := rfl
    obtain ⟨⟨u1, u2, u3, u4⟩, hu⟩ : ∃ u, usesF xo = u := ⟨_, rfl⟩
    obtain ⟨jb, hjb⟩ : ∃ b, jumpB xo = b := ⟨_, rfl⟩
    rw [hu] at hus hf4 hp0 hp1 hp2
    rw [hjb] at hjm hf4
    unfold u4V at hus
    dsimp only at hus hf4 hp0 hp1 hp2
    have hScl : (T1 ++ cdsL code k).length ≤ 50000 := by rw [List.length_append]; omega
    rw [← List.append_assoc] at hcs
    obtain ⟨tg, htg2⟩ : ∃ b, tgB code (k : Int) = b := ⟨_, rfl⟩
    rw [htg2] at htg hcs
    cases tg
    · repeat (first | (refine ovXAtl0_ ?_; clear hs a; intro a hs) | ((with_reducible apply lCons); first | (refine dv hs gw_ rfl rfl (by first | exact da_ | exact d_makeSlice hs rfl rfl rfl tab rfl rfl rfl rfl rfl (by omega) rfl hm) ?_; clear hs hm a; rintro _ w ⟨g, rfl, -, hm⟩ a hs) | (refine stn hs rfl rfl ds_ ?_; clear hs hm a; rintro - w hm a hs) | (refine dvc hs hm gw_ rfl rfl rfl rfl rfl (pl 16 rfl) (hnm _ hm.fr) ?_; clear hs hm a; intro w hm a hs) | (refine dvc hs hm gw_ rfl rfl rfl rfl rfl (pl 40 rfl) (hus _) ?_; clear hs hm a; intro w hm a hs)) | refine sc_ ?_)
      obtain ⟨g13, en_⟩ := hs.pt 13 (by exact rfl); subst en_
      obtain ⟨g14, en_⟩ := hs.pt 14 (by exact rfl); subst en_
      obtain ⟨g104, en_⟩ := hs.ps 104 (by exact rfl); subst en_
      have x1 := hm.ro (k := 0) (n := 5) (g := g13) mem_ (cutF_ok rfl)
      have x2 := hm.ro (k := 0) (n := 4) (g := g14) mem_ (cutF_ok rfl)
      have x3 := hm.ro (k := 0) (n := 3) (g := g104) mem_ (cutF_ok rfl)
      have hPE := hP.pu hm.fr
      clear hm hP s1 s4 s9 hrk
      rename World => wE
      obtain ⟨S, hS⟩ : ∃ z, (T1 ++ cdsL code k) ++ nameL xo = z := ⟨_, rfl⟩
      rw [hS] at hs
      have hSl : S.length ≤ 100000 := by
        rw [← hS]
        simp only [List.length_append]
        omega
      have hfin : ∀ Z, f4L ⟨xo, xa, xb, xc, xm⟩ = Z → T1 ++ cdsL code (k + 1) = S ++ pjL ⟨xo, xa, xb, xc, xm⟩ 3 ++ Z ++ [10] := fun Z hZ => by
        rw [hcs, ← hS, lineL_eq, hZ]
        simp only [List.append_assoc, List.nil_append, if_false, Bool.false_eq_true]
      clear hS
      have htE := htD.pu hPE
      have hit := fun (v : Int) (hv : 0 ≤ v ∧ v ≤ 65535) w'' (hf : Pu wE w'') => itoa_c v w'' (by omega) (by omega) (htE.pu hf)
      have hs3 : Sl Tryz.f14.ntmps [(1, .pointer (some ⟨g1, 0, none⟩)), (4, txv (S ++ pjL ⟨xo, xa, xb, xc, xm⟩ 0)), (9, .slice (some ⟨g9, 0, none⟩) code.length code.length), (13, .pointer (some ⟨g13, 0, none⟩)), (14, .pointer (some ⟨g14, 0, none⟩)), (73, .slice (some ⟨b1, o1, none⟩) code.length cc), (74, .int .i64 (code.length : Int)), (75, .int .i64 (k : Int)), (104, .slice (some ⟨g104, 0, none⟩) 3 3), (105, .int .i64 3), (106, .int .i64 ((0 : Nat) : Int))] a := by
        rw [show S ++ pjL ⟨xo, xa, xb, xc, xm⟩ 0 = S from List.append_nil _]
        exact hs.sub (Has.all ⟨rfl, rfl, rfl, rfl, rfl, rfl, rfl, rfl, rfl, rfl, rfl, trivial⟩)
      refine cLoop (X := Nat) (fun j a w' => Sl Tryz.f14.ntmps [(1, .pointer (some ⟨g1, 0, none⟩)), (4, txv (S ++ pjL ⟨xo, xa, xb, xc, xm⟩ j)), (9, .slice (some ⟨g9, 0, none⟩) code.length code.length), (13, .pointer (some ⟨g13, 0, none⟩)), (14, .pointer (some ⟨g14, 0, none⟩)), (73, .slice (some ⟨b1, o1, none⟩) code.length cc), (74, .int .i64 (code.length : Int)), (75, .int .i64 (k : Int)), (104, .slice (some ⟨g104, 0, none⟩) 3 3), (105, .int .i64 3), (106, .int .i64 (j : Int))] a ∧ Pu wE w' ∧ j ≤ 3) (fun j => 3 - j) 0 ⟨hs3, Fr.refl _ _, Nat.zero_le _⟩ ?_
      clear hs hs3 a
      rintro j a w6 ⟨hs, hQ, hj⟩
      have hm := Mm.nil (fun _ => False) w6
      replace x1 := x1.pu_ hQ
      replace x2 := x2.pu_ hQ
      replace x3 := x3.pu_ hQ
      have hpl := pjL_le _ hini j
      obtain ⟨R, hR⟩ : ∃ z, S ++ pjL ⟨xo, xa, xb, xc, xm⟩ j = z := ⟨_, rfl⟩
      have hRl : R.length ≤ 110000 := by
        rw [← hR, List.length_append]
        omega
      rw [hR] at hs
      by_cases hj0 : j = 0
      · subst hj0
        cases u1
        · repeat (first | (refine ovXAtl0_ ?_; clear hs a; intro a hs) | ((with_reducible apply lCons); first | (refine dv hs gw_ rfl rfl (by first | exact da_ | exact d_makeSlice hs rfl rfl rfl tab rfl rfl rfl rfl rfl (by omega) rfl hm) ?_; clear hs hm a; rintro _ w ⟨g, rfl, -, hm⟩ a hs) | (refine stn hs rfl rfl ds_ ?_; clear hs hm a; rintro - w hm a hs)) | refine sc_ ?_)
          refine ⟨0 + 1, by omega, ?_⟩
          rw [show S ++ pjL ⟨xo, xa, xb, xc, xm⟩ (0 + 1) = R from (by rw [hp0, f_no, List.append_nil, hR])]
          exact ⟨hs.sub (Has.all ⟨rfl, rfl, rfl, rfl, rfl, rfl, rfl, rfl, rfl, rfl, rfl, trivial⟩), hQ.pu hm.fr, by omega⟩
        · repeat (first | (refine ovXAtl0_ ?_; clear hs a; intro a hs) | ((with_reducible apply lCons); first | (refine dv hs gw_ rfl rfl (by first | exact da_ | exact d_makeSlice hs rfl rfl rfl tab rfl rfl rfl rfl rfl (by omega) rfl hm) ?_; clear hs hm a; rintro _ w ⟨g, rfl, -, hm⟩ a hs) | (refine stn hs rfl rfl ds_ ?_; clear hs hm a; rintro - w hm a hs) | (refine dvc hs hm gw_ rfl rfl rfl rfl rfl (pl 34 rfl) (hit xa hixa _ (hQ.pu hm.fr)) ?_; clear hs hm a; intro w hm a hs)) | refine sc_ ?_)
          refine ⟨0 + 1, by omega, ?_⟩
          rw [show S ++ pjL ⟨xo, xa, xb, xc, xm⟩ (0 + 1) = R ++ ([32, 114] ++ Lib.itoa xa) from (by rw [hp0, f_yes, ← List.append_assoc, hR])]
          exact ⟨hs.sub (Has.all ⟨rfl, rfl, rfl, rfl, rfl, rfl, rfl, rfl, rfl, rfl, rfl, trivial⟩), hQ.pu hm.fr, by omega⟩
      by_cases hj1 : j = 1
      · subst hj1
        cases u2
        · repeat (first | (refine ovXAtl0_ ?_; clear hs a; intro a hs) | ((with_reducible apply lCons); first | (refine dv hs gw_ rfl rfl (by first | exact da_ | exact d_makeSlice hs rfl rfl rfl tab rfl rfl rfl rfl rfl (by omega) rfl hm) ?_; clear hs hm a; rintro _ w ⟨g, rfl, -, hm⟩ a hs) | (refine stn hs rfl rfl ds_ ?_; clear hs hm a; rintro - w hm a hs)) | refine sc_ ?_)
          refine ⟨1 + 1, by omega, ?_⟩
          rw [show S ++ pjL ⟨xo, xa, xb, xc, xm⟩ (1 + 1) = R from (by rw [hp1, f_no, List.append_nil, hR])]
          exact ⟨hs.sub (Has.all ⟨rfl, rfl, rfl, rfl, rfl, rfl, rfl, rfl, rfl, rfl, rfl, trivial⟩), hQ.pu hm.fr, by omega⟩
        · repeat (first | (refine ovXAtl0_ ?_; clear hs a; intro a hs) | ((with_reducible apply lCons); first | (refine dv hs gw_ rfl rfl (by first | exact da_ | exact d_makeSlice hs rfl rfl rfl tab rfl rfl rfl rfl rfl (by omega) rfl hm) ?_; clear hs hm a; rintro _ w ⟨g, rfl, -, hm⟩ a hs) | (refine stn hs rfl rfl ds_ ?_; clear hs hm a; rintro - w hm a hs) | (refine dvc hs hm gw_ rfl rfl rfl rfl rfl (pl 34 rfl) (hit xb hixb _ (hQ.pu hm.fr)) ?_; clear hs hm a; intro w hm a hs)) | refine sc_ ?_)
          refine ⟨1 + 1, by omega, ?_⟩
          rw [show S ++ pjL ⟨xo, xa, xb, xc, xm⟩ (1 + 1) = R ++ ([32, 114] ++ Lib.itoa xb) from (by rw [hp1, f_yes, ← List.append_assoc, hR])]
          exact ⟨hs.sub (Has.all ⟨rfl, rfl, rfl, rfl, rfl, rfl, rfl, rfl, rfl, rfl, rfl, trivial⟩), hQ.pu hm.fr, by omega⟩
      by_cases hj2 : j = 2
      · subst hj2
        cases u3
        · repeat (first | (refine ovXAtl0_ ?_; clear hs a; intro a hs) | ((with_reducible apply lCons); first | (refine dv hs gw_ rfl rfl (by first | exact da_ | exact d_makeSlice hs rfl rfl rfl tab rfl rfl rfl rfl rfl (by omega) rfl hm) ?_; clear hs hm a; rintro _ w ⟨g, rfl, -, hm⟩ a hs) | (refine stn hs rfl rfl ds_ ?_; clear hs hm a; rintro - w hm a hs)) | refine sc_ ?_)
          refine ⟨2 + 1, by omega, ?_⟩
          rw [show S ++ pjL ⟨xo, xa, xb, xc, xm⟩ (2 + 1) = R from (by rw [hp2, f_no, List.append_nil, hR])]
          exact ⟨hs.sub (Has.all ⟨rfl, rfl, rfl, rfl, rfl, rfl, rfl, rfl, rfl, rfl, rfl, trivial⟩), hQ.pu hm.fr, by omega⟩
        · repeat (first | (refine ovXAtl0_ ?_; clear hs a; intro a hs) | ((with_reducible apply lCons); first | (refine dv hs gw_ rfl rfl (by first | exact da_ | exact d_makeSlice hs rfl rfl rfl tab rfl rfl rfl rfl rfl (by omega) rfl hm) ?_; clear hs hm a; rintro _ w ⟨g, rfl, -, hm⟩ a hs) | (refine stn hs rfl rfl ds_ ?_; clear hs hm a; rintro - w hm a hs) | (refine dvc hs hm gw_ rfl rfl rfl rfl rfl (pl 34 rfl) (hit xc hixc _ (hQ.pu hm.fr)) ?_; clear hs hm a; intro w hm a hs)) | refine sc_ ?_)
          refine ⟨2 + 1, by omega, ?_⟩
          rw [show S ++ pjL ⟨xo, xa, xb, xc, xm⟩ (2 + 1) = R ++ ([32, 114] ++ Lib.itoa xc) from (by rw [hp2, f_yes, ← List.append_assoc, hR])]
          exact ⟨hs.sub (Has.all ⟨rfl, rfl, rfl, rfl, rfl, rfl, rfl, rfl, rfl, rfl, rfl, trivial⟩), hQ.pu hm.fr, by omega⟩
      obtain rfl : j = 3 := by omega
      rw [hR] at hfin
      cases jb
      · cases u4
        · have hZ := hfin [] (by rw [hf4]; rfl)
          rw [List.append_nil] at hZ
          repeat (first | (refine ovXAtl0_ ?_; clear hs a; intro a hs) | ((with_reducible apply lCons); first | (refine dv hs gw_ rfl rfl (by first | exact da_ | exact d_makeSlice hs rfl rfl rfl tab rfl rfl rfl rfl rfl (by omega) rfl hm) ?_; clear hs hm a; rintro _ w ⟨g, rfl, -, hm⟩ a hs) | (refine stn hs rfl rfl ds_ ?_; clear hs hm a; rintro - w hm a hs) | (refine dvc hs hm gw_ rfl rfl rfl rfl rfl (pl 31 rfl) (hjm _) ?_; clear hs hm a; intro w hm a hs)) | refine sc_ ?_)
          refine ⟨k + 1, by omega, ?_⟩
          rw [hZ]
          exact ⟨hs.sub (Has.all ⟨rfl, rfl, rfl, rfl, rfl, rfl, trivial⟩), hPE.pu (hQ.pu hm.fr), by omega⟩
        · have hZ := hfin ([32] ++ Lib.itoa xm) (by rw [hf4]; exact List.append_nil _)
          repeat (first | (refine ovXAtl0_ ?_; clear hs a; intro a hs) | ((with_reducible apply lCons); first | (refine dv hs gw_ rfl rfl (by first | exact da_ | exact d_makeSlice hs rfl rfl rfl tab rfl rfl rfl rfl rfl (by omega) rfl hm) ?_; clear hs hm a; rintro _ w ⟨g, rfl, -, hm⟩ a hs) | (refine stn hs rfl rfl ds_ ?_; clear hs hm a; rintro - w hm a hs) | (refine dvc hs hm gw_ rfl rfl rfl rfl rfl (pl 31 rfl) (hjm _) ?_; clear hs hm a; intro w hm a hs) | (refine dvc hs hm gw_ rfl rfl rfl rfl rfl (pl 34 rfl) (hit xm hixm _ (hQ.pu hm.fr)) ?_; clear hs hm a; intro w hm a hs)) | refine sc_ ?_)
          refine ⟨k + 1, by omega, ?_⟩
          rw [hZ]
          exact ⟨hs.sub (Has.all ⟨rfl, rfl, rfl, rfl, rfl, rfl, trivial⟩), hPE.pu (hQ.pu hm.fr), by omega⟩
      · have hZ := hfin ([32, 108] ++ Lib.itoa xm) (by rw [hf4]; exact List.append_nil _)
        repeat (first | (refine ovXAtl0_ ?_; clear hs a; intro a hs) | ((with_reducible apply lCons); first | (refine dv hs gw_ rfl rfl (by first | exact da_ | exact d_makeSlice hs rfl rfl rfl tab rfl rfl rfl rfl rfl (by omega) rfl hm) ?_; clear hs hm a; rintro _ w ⟨g, rfl, -, hm⟩ a hs) | (refine stn hs rfl rfl ds_ ?_; clear hs hm a; rintro - w hm a hs) | (refine dvc hs hm gw_ rfl rfl rfl rfl rfl (pl 31 rfl) (hjm _) ?_; clear hs hm a; intro w hm a hs) | (refine dvc hs hm gw_ rfl rfl rfl rfl rfl (pl 34 rfl) (hit xm hixm _ (hQ.pu hm.fr)) ?_; clear hs hm a; intro w hm a hs)) | refine sc_ ?_)
        refine ⟨k + 1, by omega, ?_⟩
        rw [hZ]
        exact ⟨hs.sub (Has.all ⟨rfl, rfl, rfl, rfl, rfl, rfl, trivial⟩), hPE.pu (hQ.pu hm.fr), by omega⟩
    · repeat (first | (refine ovXAtl0_ ?_; clear hs a; intro a hs) | ((with_reducible apply lCons); first | (refine dv hs gw_ rfl rfl (by first | exact da_ | exact d_makeSlice hs rfl rfl rfl tab rfl rfl rfl rfl rfl (by omega) rfl hm) ?_; clear hs hm a; rintro _ w ⟨g, rfl, -, hm⟩ a hs) | (refine stn hs rfl rfl ds_ ?_; clear hs hm a; rintro - w hm a hs) | (refine dvc hs hm gw_ rfl rfl rfl rfl rfl (pl 34 rfl) (hik _ hm.fr) ?_; clear hs hm a; intro w hm a hs) | (refine dvc hs hm gw_ rfl rfl rfl rfl rfl (pl 16 rfl) (hnm _ hm.fr) ?_; clear hs hm a; intro w hm a hs) | (refine dvc hs hm gw_ rfl rfl rfl rfl rfl (pl 40 rfl) (hus _) ?_; clear hs hm a; intro w hm a hs)) | refine sc_ ?_)
      obtain ⟨g13, en_⟩ := hs.pt 13 (by exact rfl); subst en_
      obtain ⟨g14, en_⟩ := hs.pt 14 (by exact rfl); subst en_
      obtain ⟨g104, en_⟩ := hs.ps 104 (by exact rfl); subst en_
      have x1 := hm.ro (k := 0) (n := 5) (g := g13) mem_ (cutF_ok rfl)
      have x2 := hm.ro (k := 0) (n := 4) (g := g14) mem_ (cutF_ok rfl)
      have x3 := hm.ro (k := 0) (n := 3) (g := g104) mem_ (cutF_ok rfl)
      have hPE := hP.pu hm.fr
      clear hm hP s1 s4 s9 hrk
      rename World => wE
      obtain ⟨S, hS⟩ : ∃ z, (T1 ++ cdsL code k ++ ([108] ++ Lib.itoa (k : Int) ++ [58, 10])) ++ nameL xo = z := ⟨_, rfl⟩
      rw [hS] at hs
      have hSl : S.length ≤ 100000 := by
        rw [← hS]
        simp only [List.length_append, List.length_cons, List.length_nil]
        omega
      have hfin : ∀ Z, f4L ⟨xo, xa, xb, xc, xm⟩ = Z → T1 ++ cdsL code (k + 1) = S ++ pjL ⟨xo, xa, xb, xc, xm⟩ 3 ++ Z ++ [10] := fun Z hZ => by
        rw [hcs, ← hS, lineL_eq, hZ]
        simp only [List.append_assoc, lbL, List.cons_append, List.nil_append, if_true]
      clear hS
      have htE := htD.pu hPE
      have hit := fun (v : Int) (hv : 0 ≤ v ∧ v ≤ 65535) w'' (hf : Pu wE w'') => itoa_c v w'' (by omega) (by omega) (htE.pu hf)
      have hs3 : Sl Tryz.f14.ntmps [(1, .pointer (some ⟨g1, 0, none⟩)), (4, txv (S ++ pjL ⟨xo, xa, xb, xc, xm⟩ 0)), (9, .slice (some ⟨g9, 0, none⟩) code.length code.length), (13, .pointer (some ⟨g13, 0, none⟩)), (14, .pointer (some ⟨g14, 0, none⟩)), (73, .slice (some ⟨b1, o1, none⟩) code.length cc), (74, .int .i64 (code.length : Int)), (75, .int .i64 (k : Int)), (104, .slice (some ⟨g104, 0, none⟩) 3 3), (105, .int .i64 3), (106, .int .i64 ((0 : Nat) : Int))] a := by
        rw [show S ++ pjL ⟨xo, xa, xb, xc, xm⟩ 0 = S from List.append_nil _]
        exact hs.sub (Has.all ⟨rfl, rfl, rfl, rfl, rfl, rfl, rfl, rfl, rfl, rfl, rfl, trivial⟩)
      refine cLoop (X := Nat) (fun j a w' => Sl Tryz.f14.ntmps [(1, .pointer (some ⟨g1, 0, none⟩)), (4, txv (S ++ pjL ⟨xo, xa, xb, xc, xm⟩ j)), (9, .slice (some ⟨g9, 0, none⟩) code.length code.length), (13, .pointer (some ⟨g13, 0, none⟩)), (14, .pointer (some ⟨g14, 0, none⟩)), (73, .slice (some ⟨b1, o1, none⟩) code.length cc), (74, .int .i64 (code.length : Int)), (75, .int .i64 (k : Int)), (104, .slice (some ⟨g104, 0, none⟩) 3 3), (105, .int .i64 3), (106, .int .i64 (j : Int))] a ∧ Pu wE w' ∧ j ≤ 3) (fun j => 3 - j) 0 ⟨hs3, Fr.refl _ _, Nat.zero_le _⟩ ?_
      clear hs hs3 a
      rintro j a w6 ⟨hs, hQ, hj⟩
      have hm := Mm.nil (fun _ => False) w6
      replace x1 := x1.pu_ hQ
      replace x2 := x2.pu_ hQ
      replace x3 := x3.pu_ hQ
      have hpl := pjL_le _ hini j
      obtain ⟨R, hR⟩ : ∃ z, S ++ pjL ⟨xo, xa, xb, xc, xm⟩ j = z := ⟨_, rfl⟩
      have hRl : R.length ≤ 110000 := by
        rw [← hR, List.length_append]
        omega
      rw [hR] at hs
      by_cases hj0 : j = 0
      · subst hj0
        cases u1
        · repeat (first | (refine ovXAtl0_ ?_; clear hs a; intro a hs) | ((with_reducible apply lCons); first | (refine dv hs gw_ rfl rfl (by first | exact da_ | exact d_makeSlice hs rfl rfl rfl tab rfl rfl rfl rfl rfl (by omega) rfl hm) ?_; clear hs hm a; rintro _ w ⟨g, rfl, -, hm⟩ a hs) | (refine stn hs rfl rfl ds_ ?_; clear hs hm a; rintro - w hm a hs)) | refine sc_ ?_)
          refine ⟨0 + 1, by omega, ?_⟩
          rw [show S ++ pjL ⟨xo, xa, xb, xc, xm⟩ (0 + 1) = R from (by rw [hp0, f_no, List.append_nil, hR])]
          exact ⟨hs.sub (Has.all ⟨rfl, rfl, rfl, rfl, rfl, rfl, rfl, rfl, rfl, rfl, rfl, trivial⟩), hQ.pu hm.fr, by omega⟩
        · repeat (first | (refine ovXAtl0_ ?_; clear hs a; intro a hs) | ((with_reducible apply lCons); first | (refine dv hs gw_ rfl rfl (by first | exact da_ | exact d_makeSlice hs rfl rfl rfl tab rfl rfl rfl rfl rfl (by omega) rfl hm) ?_; clear hs hm a; rintro _ w ⟨g, rfl, -, hm⟩ a hs) | (refine stn hs rfl rfl ds_ ?_; clear hs hm a; rintro - w hm a hs) | (refine dvc hs hm gw_ rfl rfl rfl rfl rfl (pl 34 rfl) (hit xa hixa _ (hQ.pu hm.fr)) ?_; clear hs hm a; intro w hm a hs)) | refine sc_ ?_)
          refine ⟨0 + 1, by omega, ?_⟩
          rw [show S ++ pjL ⟨xo, xa, xb, xc, xm⟩ (0 + 1) = R ++ ([32, 114] ++ Lib.itoa xa) from (by rw [hp0, f_yes, ← List.append_assoc, hR])]
          exact ⟨hs.sub (Has.all ⟨rfl, rfl, rfl, rfl, rfl, rfl, rfl, rfl, rfl, rfl, rfl, trivial⟩), hQ.pu hm.fr, by omega⟩
      by_cases hj1 : j = 1
      · subst hj1
        cases u2
        · repeat (first | (refine ovXAtl0_ ?_; clear hs a; intro a hs) | ((with_reducible apply lCons); first | (refine dv hs gw_ rfl rfl (by first | exact da_ | exact d_makeSlice hs rfl rfl rfl tab rfl rfl rfl rfl rfl (by omega) rfl hm) ?_; clear hs hm a; rintro _ w ⟨g, rfl, -, hm⟩ a hs) | (refine stn hs rfl rfl ds_ ?_; clear hs hm a; rintro - w hm a hs)) | refine sc_ ?_)
          refine ⟨1 + 1, by omega, ?_⟩
          rw [show S ++ pjL ⟨xo, xa, xb, xc, xm⟩ (1 + 1) = R from (by rw [hp1, f_no, List.append_nil, hR])]
          exact ⟨hs.sub (Has.all ⟨rfl, rfl, rfl, rfl, rfl, rfl, rfl, rfl, rfl, rfl, rfl, trivial⟩), hQ.pu hm.fr, by omega⟩
        · repeat (first | (refine ovXAtl0_ ?_; clear hs a; intro a hs) | ((with_reducible apply lCons); first | (refine dv hs gw_ rfl rfl (by first | exact da_ | exact d_makeSlice hs rfl rfl rfl tab rfl rfl rfl rfl rfl (by omega) rfl hm) ?_; clear hs hm a; rintro _ w ⟨g, rfl, -, hm⟩ a hs) | (refine stn hs rfl rfl ds_ ?_; clear hs hm a; rintro - w hm a hs) | (refine dvc hs hm gw_ rfl rfl rfl rfl rfl (pl 34 rfl) (hit xb hixb _ (hQ.pu hm.fr)) ?_; clear hs hm a; intro w hm a hs)) | refine sc_ ?_)
          refine ⟨1 + 1, by omega, ?_⟩
          rw [show S ++ pjL ⟨xo, xa, xb, xc, xm⟩ (1 + 1) = R ++ ([32, 114] ++ Lib.itoa xb) from (by rw [hp1, f_yes, ← List.append_assoc, hR])]
          exact ⟨hs.sub (Has.all ⟨rfl, rfl, rfl, rfl, rfl, rfl, rfl, rfl, rfl, rfl, rfl, trivial⟩), hQ.pu hm.fr, by omega⟩
      by_cases hj2 : j = 2
      · subst hj2
        cases u3
        · repeat (first | (refine ovXAtl0_ ?_; clear hs a; intro a hs) | ((with_reducible apply lCons); first | (refine dv hs gw_ rfl rfl (by first | exact da_ | exact d_makeSlice hs rfl rfl rfl tab rfl rfl rfl rfl rfl (by omega) rfl hm) ?_; clear hs hm a; rintro _ w ⟨g, rfl, -, hm⟩ a hs) | (refine stn hs rfl rfl ds_ ?_; clear hs hm a; rintro - w hm a hs)) | refine sc_ ?_)
          refine ⟨2 + 1, by omega, ?_⟩
          rw [show S ++ pjL ⟨xo, xa, xb, xc, xm⟩ (2 + 1) = R from (by rw [hp2, f_no, List.append_nil, hR])]
          exact ⟨hs.sub (Has.all ⟨rfl, rfl, rfl, rfl, rfl, rfl, rfl, rfl, rfl, rfl, rfl, trivial⟩), hQ.pu hm.fr, by omega⟩
        · repeat (first | (refine ovXAtl0_ ?_; clear hs a; intro a hs) | ((with_reducible apply lCons); first | (refine dv hs gw_ rfl rfl (by first | exact da_ | exact d_makeSlice hs rfl rfl rfl tab rfl rfl rfl rfl rfl (by omega) rfl hm) ?_; clear hs hm a; rintro _ w ⟨g, rfl, -, hm⟩ a hs) | (refine stn hs rfl rfl ds_ ?_; clear hs hm a; rintro - w hm a hs) | (refine dvc hs hm gw_ rfl rfl rfl rfl rfl (pl 34 rfl) (hit xc hixc _ (hQ.pu hm.fr)) ?_; clear hs hm a; intro w hm a hs)) | refine sc_ ?_)
          refine ⟨2 + 1, by omega, ?_⟩
          rw [show S ++ pjL ⟨xo, xa, xb, xc, xm⟩ (2 + 1) = R ++ ([32, 114] ++ Lib.itoa xc) from (by rw [hp2, f_yes, ← List.append_assoc, hR])]
          exact ⟨hs.sub (Has.all ⟨rfl, rfl, rfl, rfl, rfl, rfl, rfl, rfl, rfl, rfl, rfl, trivial⟩), hQ.pu hm.fr, by omega⟩
      obtain rfl : j = 3 := by omega
      rw [hR] at hfin
      cases jb
      · cases u4
        · have hZ := hfin [] (by rw [hf4]; rfl)
          rw [List.append_nil] at hZ
          repeat (first | (refine ovXAtl0_ ?_; clear hs a; intro a hs) | ((with_reducible apply lCons); first | (refine dv hs gw_ rfl rfl (by first | exact da_ | exact d_makeSlice hs rfl rfl rfl tab rfl rfl rfl rfl rfl (by omega) rfl hm) ?_; clear hs hm a; rintro _ w ⟨g, rfl, -, hm⟩ a hs) | (refine stn hs rfl rfl ds_ ?_; clear hs hm a; rintro - w hm a hs) | (refine dvc hs hm gw_ rfl rfl rfl rfl rfl (pl 31 rfl) (hjm _) ?_; clear hs hm a; intro w hm a hs)) | refine sc_ ?_)
          refine ⟨k + 1, by omega, ?_⟩
          rw [hZ]
          exact ⟨hs.sub (Has.all ⟨rfl, rfl, rfl, rfl, rfl, rfl, trivial⟩), hPE.pu (hQ.pu hm.fr), by omega⟩
        · have hZ := hfin ([32] ++ Lib.itoa xm) (by rw [hf4]; exact List.append_nil _)
          repeat (first | (refine ovXAtl0_ ?_; clear hs a; intro a hs) | ((with_reducible apply lCons); first | (refine dv hs gw_ rfl rfl (by first | exact da_ | exact d_makeSlice hs rfl rfl rfl tab rfl rfl rfl rfl rfl (by omega) rfl hm) ?_; clear hs hm a; rintro _ w ⟨g, rfl, -, hm⟩ a hs) | (refine stn hs rfl rfl ds_ ?_; clear hs hm a; rintro - w hm a hs) | (refine dvc hs hm gw_ rfl rfl rfl rfl rfl (pl 31 rfl) (hjm _) ?_; clear hs hm a; intro w hm a hs) | (refine dvc hs hm gw_ rfl rfl rfl rfl rfl (pl 34 rfl) (hit xm hixm _ (hQ.pu hm.fr)) ?_; clear hs hm a; intro w hm a hs)) | refine sc_ ?_)
          refine ⟨k + 1, by omega, ?_⟩
          rw [hZ]
          exact ⟨hs.sub (Has.all ⟨rfl, rfl, rfl, rfl, rfl, rfl, trivial⟩), hPE.pu (hQ.pu hm.fr), by omega⟩
      · have hZ := hfin ([32, 108] ++ Lib.itoa xm) (by rw [hf4]; exact List.append_nil _)
        repeat (first | (refine ovXAtl0_ ?_; clear hs a; intro a hs) | ((with_reducible apply lCons); first | (refine dv hs gw_ rfl rfl (by first | exact da_ | exact d_makeSlice hs rfl rfl rfl tab rfl rfl rfl rfl rfl (by omega) rfl hm) ?_; clear hs hm a; rintro _ w ⟨g, rfl, -, hm⟩ a hs) | (refine stn hs rfl rfl ds_ ?_; clear hs hm a; rintro - w hm a hs) | (refine dvc hs hm gw_ rfl rfl rfl rfl rfl (pl 31 rfl) (hjm _) ?_; clear hs hm a; intro w hm a hs) | (refine dvc hs hm gw_ rfl rfl rfl rfl rfl (pl 34 rfl) (hit xm hixm _ (hQ.pu hm.fr)) ?_; clear hs hm a; intro w hm a hs)) | refine sc_ ?_)
        refine ⟨k + 1, by omega, ?_⟩
        rw [hZ]
        exact ⟨hs.sub (Has.all ⟨rfl, rfl, rfl, rfl, rfl, rfl, trivial⟩), hPE.pu (hQ.pu hm.fr), by omega⟩
  obtain rfl : k = code.length := by omega
  repeat (first | (refine ovXAtl0_ ?_; clear hs a; intro a hs) | ((with_reducible apply lCons); first | (refine dv hs gw_ rfl rfl (by first | exact da_ | exact d_makeSlice hs rfl rfl rfl tab rfl rfl rfl rfl rfl (by omega) rfl hm) ?_; clear hs hm a; rintro _ w ⟨g, rfl, -, hm⟩ a hs) | (refine stn hs rfl rfl ds_ ?_; clear hs hm a; rintro - w hm a hs)) | refine sc_ ?_)
  exact gRetN tab hs rfl (.cons (.tmp rfl) (.cons (.tmp rfl) .nil)) ⟨fun _ => rfl, fun h => absurd hG h, hF0.pu (hPD.pu (hP.pu hm.fr))⟩
end Go.Proofs.YtajkekhnfobgiaaGreatDoor

/- The reference's reader: numbers, labels. -/
namespace Go.Proofs.YtajkekhnfobgiaaGreatDoor
set_option maxRecDepth 20000
open Go.RowKit
theorem oqXAtp0_ {G H : Prop} (k : H) (s : H → G := by intro k; (with_reducible first | refine toL hm ?_ | refine toQ ?_); first | exact oneV hs gw_ rfl rfl (by intro w hm; (first | exact kv_ | exact r_min hs rfl rfl rfl | exact kb2_ | exact r_sidx (k := 0) hs rfl rfl rfl tab rfl rfl (by assumption) | exact r_sidx hs rfl rfl rfl tab rfl rfl (by assumption))) k | exact oneN hs rfl rfl rfl rfl rfl rfl rfl k | exact oneU hs rfl rfl rfl rfl rfl rfl k) : G := s k
theorem oqXAtp1_ {G H : Prop} (k : H) (s : H → G := by intro k; (with_reducible first | refine toL hm ?_ | refine toQ ?_); first | exact oneV hs gw_ rfl rfl (by intro w hm; (first | exact kv_ | exact r_sidx (k := 0) hs rfl rfl rfl tab rfl rfl (by assumption) | exact r_sidx hs rfl rfl rfl tab rfl rfl (by assumption))) k | exact oneN hs rfl rfl rfl rfl rfl rfl rfl k | exact oneU hs rfl rfl rfl rfl rfl rfl k) : G := s k

def nuF (s : Tx) : Int := (decF s).getD (-1)
theorem wrap_u8 {v : Int} (h : 0 ≤ v ∧ v ≤ 255) : IntKind.u8.wrap v = v := by
  simp [IntKind.wrap, IntKind.signed, IntKind.bits]
  omega
theorem nu_no {s : Tx} {c : UInt8} (hB : decB s = s.all digB) (hc : c ∈ s) (hd : digB c = false) : nuF s = -1 := by
  unfold nuF decF
  have h : s.all digB = false := by
    rw [Bool.eq_false_iff]
    intro e
    rw [List.all_eq_true.1 e c hc] at hd
    cases hd
  rw [hB, h]
  rfl


set_option maxHeartbeats 4000000 in
theorem number_c (s : Tx) (wB : World) (hl : s.length ≤ 100000) : Ret Tryz.prog 87 [txv s] wB (fun u w' => u = .int .i64 (nuF s) ∧ Pu wB w') := by
  have hsz := ba_s s
  by_cases h0 : s = []
  · subst h0
    refine enterR Tryz.func87 rfl rfl rfl fun a hs hm => ?_
    repeat (first | (refine oqXAtp0_ ?_; clear hs a; intro a hs) | ((with_reducible apply lCons); first | (refine dv hs gw_ rfl rfl da_ ?_; clear hs hm a; rintro _ w ⟨g, rfl, -, hm⟩ a hs) | (refine stn hs rfl rfl ds_ ?_; clear hs hm a; rintro - w hm a hs)) | ((with_reducible apply qNil); clear hm; intro w hm) | refine cQ_ ?_ | refine sc_ ?_)
    rw [sEE] at hs
    repeat (first | (refine oqXAtp0_ ?_; clear hs a; intro a hs) | ((with_reducible apply lCons); first | (refine dv hs gw_ rfl rfl da_ ?_; clear hs hm a; rintro _ w ⟨g, rfl, -, hm⟩ a hs) | (refine stn hs rfl rfl ds_ ?_; clear hs hm a; rintro - w hm a hs)) | ((with_reducible apply qNil); clear hm; intro w hm) | refine cQ_ ?_ | refine sc_ ?_)
    exact gRet1 hs rfl rfl ⟨rfl, hm.fr⟩
  have hne := sEqF h0
  obtain ⟨c0, hc0⟩ : ∃ c, s[0]? = some c := by
    cases s with
    | nil => exact absurd rfl h0
    | cons c t => exact ⟨c, rfl⟩
  have hlen : 1 ≤ s.length := by
    cases s with
    | nil => exact absurd rfl h0
    | cons c t => exact Nat.succ_le_succ (Nat.zero_le _)
  refine enterR Tryz.func87 rfl rfl rfl fun a hs hm => ?_
  repeat (first | (refine oqXAtp0_ ?_; clear hs a; intro a hs) | ((with_reducible apply lCons); first | (refine dv hs gw_ rfl rfl da_ ?_; clear hs hm a; rintro _ w ⟨g, rfl, -, hm⟩ a hs) | (refine stn hs rfl rfl ds_ ?_; clear hs hm a; rintro - w hm a hs)) | ((with_reducible apply qNil); clear hm; intro w hm) | refine cQ_ ?_ | refine sc_ ?_)
  rw [hne] at hs
  by_cases hz : 1 < s.length ∧ c0.toNat = 48
  · obtain ⟨hz1, hz2⟩ := hz
    have e : nuF s = -1 := by
      unfold nuF decF decB
      have hh : s.head? = some 48 := by
        rw [List.head?_eq_getElem?, hc0]
        exact congrArg some (UInt8.toNat_inj.1 hz2)
      rw [hh, decide_eq_false (by omega)]
      simp
    rw [e]
    repeat (first | (refine oqXAtp0_ ?_; clear hs a; intro a hs) | ((with_reducible apply lCons); first | (refine dv hs gw_ rfl rfl da_ ?_; clear hs hm a; rintro _ w ⟨g, rfl, -, hm⟩ a hs) | (refine stn hs rfl rfl ds_ ?_; clear hs hm a; rintro - w hm a hs)) | ((with_reducible apply qNil); clear hm; intro w hm) | refine cQ_ ?_ | refine sc_ ?_)
    exact gRet1 hs rfl rfl ⟨rfl, hm.fr⟩
  have hB : decB s = s.all digB := by
    unfold decB
    have h1 : s.isEmpty = false := by cases s with | nil => exact absurd rfl h0 | cons c t => rfl
    rw [h1]
    by_cases hq : 1 < s.length
    · have hh : (s.head? == some 48) = false := by
        rw [List.head?_eq_getElem?, hc0]
        refine beq_eq_false_iff_ne.2 fun e => hz ⟨hq, ?_⟩
        cases e
        rfl
      rw [hh]
      simp
    · rw [decide_eq_true (by omega)]
      simp
  by_cases hq : 1 < s.length
  · have hz2 : c0.toNat ≠ 48 := fun e => hz ⟨hq, e⟩
    repeat (first | (refine oqXAtp0_ ?_; clear hs a; intro a hs) | ((with_reducible apply lCons); first | (refine dv hs gw_ rfl rfl da_ ?_; clear hs hm a; rintro _ w ⟨g, rfl, -, hm⟩ a hs) | (refine stn hs rfl rfl ds_ ?_; clear hs hm a; rintro - w hm a hs)) | ((with_reducible apply qNil); clear hm; intro w hm) | refine cQ_ ?_ | refine sc_ ?_)
    rw [ba_s] at hs
    refine cLoop (X := Nat) (fun i a w' => Sl Tryz.f87.ntmps [(0, txv s), (18, .int .i64 (s.length : Int)), (19, .int .i64 (i : Int)), (3, .int .i64 ((min (valL 0 (s.take i)) 65536 : Nat) : Int))] a ∧ Mm (fun _ => False) wB [] w' ∧ i ≤ s.length ∧ (s.take i).all digB = true) (fun i => s.length - i) 0 ⟨hs.sub (Has.all ⟨rfl, rfl, rfl, rfl, trivial⟩), hm, Nat.zero_le _, rfl⟩ ?_
    clear hs hm a
    rintro i a w' ⟨hs, hm, hi, hd⟩
    by_cases hlt : i < s.length
    · obtain ⟨c, hc⟩ : ∃ c, s[i] = c := ⟨_, rfl⟩
      have hci : s[i]? = some c := by rw [List.getElem?_eq_getElem hlt, hc]
      have htk : s.take (i + 1) = s.take i ++ [c] := by rw [List.take_succ_eq_append_getElem hlt, hc]
      have hmem : c ∈ s := hc ▸ List.getElem_mem hlt
      by_cases h1 : c.toNat < 48
      · have e : nuF s = -1 := nu_no hB hmem (decide_eq_false (by omega))
        rw [e]
        repeat (first | (refine oqXAtp0_ ?_; clear hs a; intro a hs) | ((with_reducible apply lCons); first | (refine dv hs gw_ rfl rfl da_ ?_; clear hs hm a; rintro _ w ⟨g, rfl, -, hm⟩ a hs) | (refine stn hs rfl rfl ds_ ?_; clear hs hm a; rintro - w hm a hs)) | ((with_reducible apply qNil); clear hm; intro w hm) | refine cQ_ ?_ | refine sc_ ?_)
        exact gRet1 hs rfl rfl ⟨rfl, hm.fr⟩
      by_cases h2 : 57 < c.toNat
      · have e : nuF s = -1 := nu_no hB hmem (decide_eq_false (by omega))
        rw [e]
        repeat (first | (refine oqXAtp0_ ?_; clear hs a; intro a hs) | ((with_reducible apply lCons); first | (refine dv hs gw_ rfl rfl da_ ?_; clear hs hm a; rintro _ w ⟨g, rfl, -, hm⟩ a hs) | (refine stn hs rfl rfl ds_ ?_; clear hs hm a; rintro - w hm a hs)) | ((with_reducible apply qNil); clear hm; intro w hm) | refine cQ_ ?_ | refine sc_ ?_)
        exact gRet1 hs rfl rfl ⟨rfl, hm.fr⟩
      have hdn : (s.take (i + 1)).all digB = true := by
        rw [htk, List.all_append, hd]
        unfold digB
        rw [List.all_cons, decide_eq_true (by omega)]
        rfl
      have hv : ((min (valL 0 (s.take (i + 1))) 65536 : Nat) : Int) = min (((min (valL 0 (s.take i)) 65536 : Nat) : Int) * 10 + ((c.toNat : Int) - 48)) 65536 := by
        rw [htk, valL_app]
        omega
      have hwr : IntKind.i64.wrap (((min (valL 0 (s.take i)) 65536 : Nat) : Int) * 10 + IntKind.i64.wrap (IntKind.u8.wrap ((c.toNat : Int) - 48))) = ((min (valL 0 (s.take i)) 65536 : Nat) : Int) * 10 + ((c.toNat : Int) - 48) := by
        rw [wrap_u8 (v := (c.toNat : Int) - 48) (by omega), wrap_idP (v := (c.toNat : Int) - 48) (by omega), wrap_idP (by omega)]
      repeat (first | (refine oqXAtp0_ ?_; clear hs a; intro a hs) | ((with_reducible apply lCons); first | (refine dv hs gw_ rfl rfl da_ ?_; clear hs hm a; rintro _ w ⟨g, rfl, -, hm⟩ a hs) | (refine stn hs rfl rfl ds_ ?_; clear hs hm a; rintro - w hm a hs)) | ((with_reducible apply qNil); clear hm; intro w hm) | refine cQ_ ?_ | refine sc_ ?_)
      rw [hwr, ← hv] at hs
      exact ⟨i + 1, by omega, hs.sub (Has.all ⟨rfl, rfl, rfl, rfl, trivial⟩), hm, hlt, hdn⟩
    obtain rfl : i = s.length := by omega
    rw [List.take_length] at hs hd
    have e : nuF s = ((min (valL 0 s) 65536 : Nat) : Int) := by
      unfold nuF decF
      rw [hB, hd]
      rfl
    rw [e]
    repeat (first | (refine oqXAtp0_ ?_; clear hs a; intro a hs) | ((with_reducible apply lCons); first | (refine dv hs gw_ rfl rfl da_ ?_; clear hs hm a; rintro _ w ⟨g, rfl, -, hm⟩ a hs) | (refine stn hs rfl rfl ds_ ?_; clear hs hm a; rintro - w hm a hs)) | ((with_reducible apply qNil); clear hm; intro w hm) | refine cQ_ ?_ | refine sc_ ?_)
    exact gRet1 hs rfl rfl ⟨rfl, hm.fr⟩
  · repeat (first | (refine oqXAtp0_ ?_; clear hs a; intro a hs) | ((with_reducible apply lCons); first | (refine dv hs gw_ rfl rfl da_ ?_; clear hs hm a; rintro _ w ⟨g, rfl, -, hm⟩ a hs) | (refine stn hs rfl rfl ds_ ?_; clear hs hm a; rintro - w hm a hs)) | ((with_reducible apply qNil); clear hm; intro w hm) | refine cQ_ ?_ | refine sc_ ?_)
    rw [ba_s] at hs
    refine cLoop (X := Nat) (fun i a w' => Sl Tryz.f87.ntmps [(0, txv s), (18, .int .i64 (s.length : Int)), (19, .int .i64 (i : Int)), (3, .int .i64 ((min (valL 0 (s.take i)) 65536 : Nat) : Int))] a ∧ Mm (fun _ => False) wB [] w' ∧ i ≤ s.length ∧ (s.take i).all digB = true) (fun i => s.length - i) 0 ⟨hs.sub (Has.all ⟨rfl, rfl, rfl, rfl, trivial⟩), hm, Nat.zero_le _, rfl⟩ ?_
    clear hs hm a
    rintro i a w' ⟨hs, hm, hi, hd⟩
    by_cases hlt : i < s.length
    · obtain ⟨c, hc⟩ : ∃ c, s[i] = c := ⟨_, rfl⟩
      have hci : s[i]? = some c := by rw [List.getElem?_eq_getElem hlt, hc]
      have htk : s.take (i + 1) = s.take i ++ [c] := by rw [List.take_succ_eq_append_getElem hlt, hc]
      have hmem : c ∈ s := hc ▸ List.getElem_mem hlt
      by_cases h1 : c.toNat < 48
      · have e : nuF s = -1 := nu_no hB hmem (decide_eq_false (by omega))
        rw [e]
        repeat (first | (refine oqXAtp0_ ?_; clear hs a; intro a hs) | ((with_reducible apply lCons); first | (refine dv hs gw_ rfl rfl da_ ?_; clear hs hm a; rintro _ w ⟨g, rfl, -, hm⟩ a hs) | (refine stn hs rfl rfl ds_ ?_; clear hs hm a; rintro - w hm a hs)) | ((with_reducible apply qNil); clear hm; intro w hm) | refine cQ_ ?_ | refine sc_ ?_)
        exact gRet1 hs rfl rfl ⟨rfl, hm.fr⟩
      by_cases h2 : 57 < c.toNat
      · have e : nuF s = -1 := nu_no hB hmem (decide_eq_false (by omega))
        rw [e]
        repeat (first | (refine oqXAtp0_ ?_; clear hs a; intro a hs) | ((with_reducible apply lCons); first | (refine dv hs gw_ rfl rfl da_ ?_; clear hs hm a; rintro _ w ⟨g, rfl, -, hm⟩ a hs) | (refine stn hs rfl rfl ds_ ?_; clear hs hm a; rintro - w hm a hs)) | ((with_reducible apply qNil); clear hm; intro w hm) | refine cQ_ ?_ | refine sc_ ?_)
        exact gRet1 hs rfl rfl ⟨rfl, hm.fr⟩
      have hdn : (s.take (i + 1)).all digB = true := by
        rw [htk, List.all_append, hd]
        unfold digB
        rw [List.all_cons, decide_eq_true (by omega)]
        rfl
      have hv : ((min (valL 0 (s.take (i + 1))) 65536 : Nat) : Int) = min (((min (valL 0 (s.take i)) 65536 : Nat) : Int) * 10 + ((c.toNat : Int) - 48)) 65536 := by
        rw [htk, valL_app]
        omega
      have hwr : IntKind.i64.wrap (((min (valL 0 (s.take i)) 65536 : Nat) : Int) * 10 + IntKind.i64.wrap (IntKind.u8.wrap ((c.toNat : Int) - 48))) = ((min (valL 0 (s.take i)) 65536 : Nat) : Int) * 10 + ((c.toNat : Int) - 48) := by
        rw [wrap_u8 (v := (c.toNat : Int) - 48) (by omega), wrap_idP (v := (c.toNat : Int) - 48) (by omega), wrap_idP (by omega)]
      repeat (first | (refine oqXAtp0_ ?_; clear hs a; intro a hs) | ((with_reducible apply lCons); first | (refine dv hs gw_ rfl rfl da_ ?_; clear hs hm a; rintro _ w ⟨g, rfl, -, hm⟩ a hs) | (refine stn hs rfl rfl ds_ ?_; clear hs hm a; rintro - w hm a hs)) | ((with_reducible apply qNil); clear hm; intro w hm) | refine cQ_ ?_ | refine sc_ ?_)
      rw [hwr, ← hv] at hs
      exact ⟨i + 1, by omega, hs.sub (Has.all ⟨rfl, rfl, rfl, rfl, trivial⟩), hm, hlt, hdn⟩
    obtain rfl : i = s.length := by omega
    rw [List.take_length] at hs hd
    have e : nuF s = ((min (valL 0 s) 65536 : Nat) : Int) := by
      unfold nuF decF
      rw [hB, hd]
      rfl
    rw [e]
    repeat (first | (refine oqXAtp0_ ?_; clear hs a; intro a hs) | ((with_reducible apply lCons); first | (refine dv hs gw_ rfl rfl da_ ?_; clear hs hm a; rintro _ w ⟨g, rfl, -, hm⟩ a hs) | (refine stn hs rfl rfl ds_ ?_; clear hs hm a; rintro - w hm a hs)) | ((with_reducible apply qNil); clear hm; intro w hm) | refine cQ_ ?_ | refine sc_ ?_)
    exact gRet1 hs rfl rfl ⟨rfl, hm.fr⟩
theorem nm_no {s : Tx} {c : UInt8} (hc : c ∈ s) (h : alnB c = false) : nmB s = false := by
  unfold nmB
  have h : s.all alnB = false := by
    rw [Bool.eq_false_iff]
    intro e
    rw [List.all_eq_true.1 e c hc] at h
    cases h
  rw [h]
  simp
theorem nm_no0 {s : Tx} {c : UInt8} (hc : s[0]? = some c) (h : lowB c = false) : nmB s = false := by
  unfold nmB
  rw [List.head?_eq_getElem?, hc]
  simp [h]
set_option maxHeartbeats 8000000 in
theorem rlab_c (s : Tx) (wB : World) (hl : s.length ≤ 100000) : Ret Tryz.prog 70 [txv s] wB (fun u w' => u = .bool (nmB s) ∧ Pu wB w') := by
  refine enterR Tryz.func70 rfl rfl rfl fun a hs hm => ?_
  repeat (first | (refine oqXAtp1_ ?_; clear hs a; intro a hs) | ((with_reducible apply lCons); first | (refine dv hs gw_ rfl rfl da_ ?_; clear hs hm a; rintro _ w ⟨g, rfl, -, hm⟩ a hs) | (refine stn hs rfl rfl ds_ ?_; clear hs hm a; rintro - w hm a hs)) | ((with_reducible apply qNil); clear hm; intro w hm) | refine cQ_ ?_ | refine sc_ ?_)
  rw [ba_s] at hs
  refine cLoop (X := Nat) (fun i a w' => Sl Tryz.f70.ntmps [(0, txv s), (5, .int .i64 (s.length : Int)), (6, .int .i64 (i : Int))] a ∧ Mm (fun _ => False) wB [] w' ∧ i ≤ s.length ∧ (s.take i).all alnB = true ∧ ∀ c, 0 < i → s[0]? = some c → lowB c = true) (fun i => s.length - i) 0 ⟨hs.sub (Has.all ⟨rfl, rfl, rfl, trivial⟩), hm, Nat.zero_le _, rfl, fun _ h => absurd h (Nat.lt_irrefl _)⟩ ?_
  clear hs hm a
  rintro i a w' ⟨hs, hm, hi, hd, hlo⟩
  by_cases hlt : i < s.length
  · obtain ⟨c, hc⟩ : ∃ c, s[i] = c := ⟨_, rfl⟩
    have hci : s[i]? = some c := by rw [List.getElem?_eq_getElem hlt, hc]
    have htk : s.take (i + 1) = s.take i ++ [c] := by rw [List.take_succ_eq_append_getElem hlt, hc]
    have hmem : c ∈ s := hc ▸ List.getElem_mem hlt
    by_cases h1 : c.toNat < 97
    · by_cases h0 : i = 0
      · have hno : nmB s = false := nm_no0 (h0 ▸ hci) (decide_eq_false (by omega))
        repeat (first | (refine oqXAtp1_ ?_; clear hs a; intro a hs) | ((with_reducible apply lCons); first | (refine dv hs gw_ rfl rfl da_ ?_; clear hs hm a; rintro _ w ⟨g, rfl, -, hm⟩ a hs) | (refine stn hs rfl rfl ds_ ?_; clear hs hm a; rintro - w hm a hs)) | ((with_reducible apply qNil); clear hm; intro w hm) | refine cQ_ ?_ | refine sc_ ?_)
        exact gRet1 hs rfl rfl ⟨by rw [hno], hm.fr⟩
      by_cases h4 : c.toNat < 48
      · have hno : nmB s = false := nm_no hmem (by unfold alnB lowB digB; rw [decide_eq_false (by omega), decide_eq_false (by omega)]; rfl)
        repeat (first | (refine oqXAtp1_ ?_; clear hs a; intro a hs) | ((with_reducible apply lCons); first | (refine dv hs gw_ rfl rfl da_ ?_; clear hs hm a; rintro _ w ⟨g, rfl, -, hm⟩ a hs) | (refine stn hs rfl rfl ds_ ?_; clear hs hm a; rintro - w hm a hs)) | ((with_reducible apply qNil); clear hm; intro w hm) | refine cQ_ ?_ | refine sc_ ?_)
        exact gRet1 hs rfl rfl ⟨by rw [hno], hm.fr⟩
      by_cases h5 : 57 < c.toNat
      · have hno : nmB s = false := nm_no hmem (by unfold alnB lowB digB; rw [decide_eq_false (by omega), decide_eq_false (by omega)]; rfl)
        repeat (first | (refine oqXAtp1_ ?_; clear hs a; intro a hs) | ((with_reducible apply lCons); first | (refine dv hs gw_ rfl rfl da_ ?_; clear hs hm a; rintro _ w ⟨g, rfl, -, hm⟩ a hs) | (refine stn hs rfl rfl ds_ ?_; clear hs hm a; rintro - w hm a hs)) | ((with_reducible apply qNil); clear hm; intro w hm) | refine cQ_ ?_ | refine sc_ ?_)
        exact gRet1 hs rfl rfl ⟨by rw [hno], hm.fr⟩
      have hal : alnB c = true := by unfold alnB digB; rw [decide_eq_true (by omega), Bool.or_true]
      have hlow : ∀ d, 0 < i + 1 → s[0]? = some d → lowB d = true := fun d _ h => hlo d (by omega) h
      repeat (first | (refine oqXAtp1_ ?_; clear hs a; intro a hs) | ((with_reducible apply lCons); first | (refine dv hs gw_ rfl rfl da_ ?_; clear hs hm a; rintro _ w ⟨g, rfl, -, hm⟩ a hs) | (refine stn hs rfl rfl ds_ ?_; clear hs hm a; rintro - w hm a hs)) | ((with_reducible apply qNil); clear hm; intro w hm) | refine cQ_ ?_ | refine sc_ ?_)
      exact ⟨i + 1, by omega, hs.sub (Has.all ⟨rfl, rfl, rfl, trivial⟩), hm, hlt, by rw [htk, List.all_append, hd, List.all_cons, hal]; rfl, hlow⟩
    by_cases h2 : 122 < c.toNat
    · by_cases h0 : i = 0
      · have hno : nmB s = false := nm_no0 (h0 ▸ hci) (decide_eq_false (by omega))
        repeat (first | (refine oqXAtp1_ ?_; clear hs a; intro a hs) | ((with_reducible apply lCons); first | (refine dv hs gw_ rfl rfl da_ ?_; clear hs hm a; rintro _ w ⟨g, rfl, -, hm⟩ a hs) | (refine stn hs rfl rfl ds_ ?_; clear hs hm a; rintro - w hm a hs)) | ((with_reducible apply qNil); clear hm; intro w hm) | refine cQ_ ?_ | refine sc_ ?_)
        exact gRet1 hs rfl rfl ⟨by rw [hno], hm.fr⟩
      have hno : nmB s = false := nm_no hmem (by unfold alnB lowB digB; rw [decide_eq_false (by omega), decide_eq_false (by omega)]; rfl)
      repeat (first | (refine oqXAtp1_ ?_; clear hs a; intro a hs) | ((with_reducible apply lCons); first | (refine dv hs gw_ rfl rfl da_ ?_; clear hs hm a; rintro _ w ⟨g, rfl, -, hm⟩ a hs) | (refine stn hs rfl rfl ds_ ?_; clear hs hm a; rintro - w hm a hs)) | ((with_reducible apply qNil); clear hm; intro w hm) | refine cQ_ ?_ | refine sc_ ?_)
      exact gRet1 hs rfl rfl ⟨by rw [hno], hm.fr⟩
    have hlc : lowB c = true := decide_eq_true (by omega)
    have hal : alnB c = true := by unfold alnB; rw [hlc, Bool.true_or]
    have hlow : ∀ d, 0 < i + 1 → s[0]? = some d → lowB d = true := fun d _ h => by
      by_cases h0 : i = 0
      · rw [h0] at hci
        rw [hci] at h
        cases h
        exact hlc
      · exact hlo d (by omega) h
    repeat (first | (refine oqXAtp1_ ?_; clear hs a; intro a hs) | ((with_reducible apply lCons); first | (refine dv hs gw_ rfl rfl da_ ?_; clear hs hm a; rintro _ w ⟨g, rfl, -, hm⟩ a hs) | (refine stn hs rfl rfl ds_ ?_; clear hs hm a; rintro - w hm a hs)) | ((with_reducible apply qNil); clear hm; intro w hm) | refine cQ_ ?_ | refine sc_ ?_)
    exact ⟨i + 1, by omega, hs.sub (Has.all ⟨rfl, rfl, rfl, trivial⟩), hm, hlt, by rw [htk, List.all_append, hd, List.all_cons, hal]; rfl, hlow⟩
  obtain rfl : i = s.length := by omega
  rw [List.take_length] at hd
  have hsz := ba_s s
  cases s with
  | nil =>
    repeat (first | (refine oqXAtp1_ ?_; clear hs a; intro a hs) | ((with_reducible apply lCons); first | (refine dv hs gw_ rfl rfl da_ ?_; clear hs hm a; rintro _ w ⟨g, rfl, -, hm⟩ a hs) | (refine stn hs rfl rfl ds_ ?_; clear hs hm a; rintro - w hm a hs)) | ((with_reducible apply qNil); clear hm; intro w hm) | refine cQ_ ?_ | refine sc_ ?_)
    exact gRet1 hs rfl rfl ⟨rfl, hm.fr⟩
  | cons c t =>
    have hlc := hlo c (Nat.succ_pos _) rfl
    have e : nmB (c :: t) = decide ((c :: t).length ≤ 8) := by
      unfold nmB
      rw [hd, List.head?_cons]
      simp [hlc]
    rw [e]
    have hl1 : 1 ≤ (c :: t).length := Nat.succ_le_succ (Nat.zero_le _)
    generalize (c :: t) = s at *
    by_cases h8 : s.length ≤ 8
    · rw [decide_eq_true h8]
      repeat (first | (refine oqXAtp1_ ?_; clear hs a; intro a hs) | ((with_reducible apply lCons); first | (refine dv hs gw_ rfl rfl da_ ?_; clear hs hm a; rintro _ w ⟨g, rfl, -, hm⟩ a hs) | (refine stn hs rfl rfl ds_ ?_; clear hs hm a; rintro - w hm a hs)) | ((with_reducible apply qNil); clear hm; intro w hm) | refine cQ_ ?_ | refine sc_ ?_)
      exact gRet1 hs rfl rfl ⟨rfl, hm.fr⟩
    · rw [decide_eq_false h8]
      repeat (first | (refine oqXAtp1_ ?_; clear hs a; intro a hs) | ((with_reducible apply lCons); first | (refine dv hs gw_ rfl rfl da_ ?_; clear hs hm a; rintro _ w ⟨g, rfl, -, hm⟩ a hs) | (refine stn hs rfl rfl ds_ ?_; clear hs hm a; rintro - w hm a hs)) | ((with_reducible apply qNil); clear hm; intro w hm) | refine cQ_ ?_ | refine sc_ ?_)
      exact gRet1 hs rfl rfl ⟨rfl, hm.fr⟩
end Go.Proofs.YtajkekhnfobgiaaGreatDoor

/- The reference's reader in memory; a line of a region. -/
namespace Go.Proofs.YtajkekhnfobgiaaGreatDoor
set_option maxRecDepth 20000
open Go.RowKit
theorem oqXAtq0_ {G H : Prop} (k : H) (s : H → G := by intro k; (with_reducible first | refine toL hm ?_ | refine toQ ?_); first | exact oneV hs gw_ rfl rfl (by intro w hm; (first | exact kv_ | exact kb2_ | exact ksl_ | exact r_lenM hs rfl rfl (by assumption) hm (by assumption))) k | exact oneN hs rfl rfl rfl rfl rfl rfl rfl k | exact oneU hs rfl rfl rfl rfl rfl rfl k) : G := s k
theorem ovXAtq1_ {G H : Prop} (k : H) (s : H → G := by intro k; (with_reducible refine toL hm ?_); first | exact oneV hs gw_ rfl rfl (by intro w hm; (first | exact kv_ | exact kb2_ | exact ksl_ | exact r_lenM hs rfl rfl (by assumption) hm (by assumption))) k | exact oneN hs rfl rfl rfl rfl rfl rfl rfl k | exact oneU hs rfl rfl rfl rfl rfl rfl k) : G := s k

/-- the jumps among the instructions: number, line, label -/
def jsO (jp : List Tx) (ln : List Int) : List (Nat × Nat × Tx) := (List.range jp.length).filterMap fun q => if jp.getD q [] = [] then none else some (q, (ln.getD q 0).toNat, jp.getD q [])
structure RfX where
  g : Nat
  m : Nat
  cA : Option Nat
  cc : Nat
  ccs : List Value
  sA : Option Nat
  sc : Nat
  scs : List Value
  dA : Option Nat
  dc : Nat
  dcs : List Value
  jA : Option Nat
  jc : Nat
  jcs : List Value
  lA : Option Nat
  lc : Nat
  lcs : List Value
  jp : List Tx
  ln : List Int
  ws : List WS
  r : RdS
def RfX.hd (x : RfX) : Hp := ⟨some x.g, 93, [slv x.cA x.r.code.length x.cc, slv x.sA x.r.ss.length x.sc, slv x.dA x.ws.length x.dc, .map (some x.m), slv x.jA x.jp.length x.jc, slv x.lA x.ln.length x.lc, .bool x.r.last]⟩
def RfX.M (x : RfX) : List Hp := [x.hd, ⟨x.cA, 54, x.ccs⟩, ⟨x.sA, 3, x.scs⟩, ⟨x.dA, 56, x.dcs⟩, ⟨x.jA, 9, x.jcs⟩, ⟨x.lA, 3, x.lcs⟩]
def RfX.D (x : RfX) (i : Nat) : Prop := own x.M i ∨ i = x.m
structure RfX.ok (x : RfX) (w : World) : Prop where
  mm : Mm (own x.M) w x.M w
  ml : ML x.m x.r.lab w
  nm : ¬ own x.M x.m
  c : Row x.cA x.r.code.length x.cc 5 (x.r.code.flatMap inV) x.ccs
  s : Row x.sA x.r.ss.length x.sc 1 (ints x.r.ss) x.scs
  d : Row x.dA x.ws.length x.dc 1 (x.ws.map WS.v) x.dcs
  j : Row x.jA x.jp.length x.jc 1 (x.jp.map txv) x.jcs
  l : Row x.lA x.ln.length x.lc 1 (ints x.ln) x.lcs
  ws : x.r.ws = x.ws.map WS.xs
  wr : ∀ r ∈ x.ws, Rd w w.heap.size (r.A.map fun g => ⟨g, 0, none⟩) (wds r.xs) ∧ ∀ g, r.A = some g → ¬ x.D g ∧ g < w.heap.size
  js : x.r.js = jsO x.jp x.ln
  sz : x.r.code.length ≤ 64 ∧ x.r.ss.length ≤ 4 ∧ x.ws.length = x.r.ss.length ∧ x.jp.length = x.r.code.length ∧ x.ln.length = x.r.code.length ∧ x.r.lab.length ≤ 5000
  ln0 : ∀ y ∈ x.ln, 0 ≤ y
/-- what a call with the reader leaves -/
structure RfN (x : RfX) (wB w' : World) (r : RdS) (y : RfX) : Prop where
  g : y.g = x.g
  m : y.m = x.m
  r : y.r = r
  ok : y.ok w'
  nw : ∀ i, y.D i → x.D i ∨ wB.heap.size ≤ i
theorem RfX.after {x y : RfX} {wB w' : World} (h : x.ok wB) (hm : Mm (own x.M) wB y.M w') (e : y.m = x.m) : (∀ i, y.D i → x.D i ∨ wB.heap.size ≤ i) ∧ ¬ own y.M y.m ∧ ML y.m x.r.lab w' ∧ Mm (own y.M) w' y.M w' ∧ ∀ r ∈ x.ws, Rd w' w'.heap.size (r.A.map fun g => ⟨g, 0, none⟩) (wds r.xs) ∧ ∀ g, r.A = some g → ¬ y.D g ∧ g < w'.heap.size := by
  have hmb : ¬ own y.M y.m := fun ho => by
    rcases hm.own_ ho with h1 | h1
    · have := h.ml.lt; omega
    · rw [e] at h1; exact h.nm h1
  refine ⟨fun i hi => ?_, hmb, by rw [e]; exact h.ml.keep hm.fr h.nm, hm.rebase, fun r hr => ?_⟩
  · rcases hi with hi | hi
    · rcases hm.own_ hi with h1 | h1
      · exact .inr h1
      · exact .inl (.inl h1)
    · exact .inl (.inr (hi.trans e))
  · obtain ⟨h1, h2⟩ := h.wr r hr
    refine ⟨WS.rdn hm.fr h1 (fun g hg ho => (h2 g hg).1 (.inl ho)), fun g hg => ⟨fun hd => ?_, Nat.lt_of_lt_of_le (h2 g hg).2 hm.fr.size⟩⟩
    rcases hd with hd | hd
    · rcases hm.own_ hd with h3 | h3
      · have := (h2 g hg).2; omega
      · exact (h2 g hg).1 (.inl h3)
    · exact (h2 g hg).1 (.inr (hd.trans e))
theorem regF_code {r : RdS} {words : List Tx} (h : r.code ≠ [] ∨ r.lab ≠ []) : (regF r words).2 = 2 := by
  unfold regF
  split
  · rfl
  · rfl
  · rw [if_pos h]
theorem nuF_none {s : Tx} (h : decF s = none) : nuF s = -1 := by unfold nuF; rw [h]; rfl
theorem nuF_some {s : Tx} {v : Int} (h : decF s = some v) : nuF s = v := by unfold nuF; rw [h]; rfl

set_option maxHeartbeats 32000000 in
theorem rreg_c (x : RfX) (bw ow c : Nat) (hw : Tx) (words : List Tx) (wB : World) (h : x.ok wB) (hrd : Ro wB bw ow ((hw :: words).map txv)) (hcw : words.length + 1 ≤ c) (hnb : ¬ own x.M bw) (hlen : ∀ t ∈ words, t.length ≤ 5000) (hn : words.length ≤ 5000) :
    Ret Tryz.prog 71 [.pointer (some ⟨x.g, 0, none⟩), .slice (some ⟨bw, ow, none⟩) (words.length + 1) c] wB (fun u w' => ∃ e : Int, u = .int .i64 e ∧ e = (regF x.r words).2 ∧ Fr (own x.M) wB w' ∧ (e = 0 → ∃ y, RfN x wB w' (regF x.r words).1 y)) := by
  obtain ⟨z1, z2, z3, z4, z4b, z5⟩ := h.sz
  have hm0 : Mm (own x.M) wB [⟨some x.g, 93, [slv x.cA x.r.code.length x.cc, slv x.sA x.r.ss.length x.sc, slv x.dA x.ws.length x.dc, .map (some x.m), slv x.jA x.jp.length x.jc, slv x.lA x.ln.length x.lc, .bool x.r.last]⟩, ⟨x.cA, 54, x.ccs⟩, ⟨x.sA, 3, x.scs⟩, ⟨x.dA, 56, x.dcs⟩, ⟨x.jA, 9, x.jcs⟩, ⟨x.lA, 3, x.lcs⟩] wB := h.mm
  have hml := h.ml
  have hnm := h.nm
  obtain ⟨S0, hS0⟩ : ∃ S0 : Nat → Prop, own x.M = S0 := ⟨_, rfl⟩
  rw [hS0] at hm0 hnb hnm ⊢
  refine enterR Tryz.func71 rfl rfl rfl fun a hs hm => ?_
  clear hm
  have hm := hm0
  by_cases q0 : words.length = 0
  · have hF : (regF x.r words).2 = 2 := by rw [List.length_eq_zero_iff.1 q0]; rfl
    repeat (first | (refine oqXAtq0_ ?_; clear hs a; intro a hs) | ((with_reducible apply lCons); first | (refine dv hs gw_ rfl rfl da_ ?_; clear hs hm a; rintro _ w ⟨g, rfl, -, hm⟩ a hs) | (refine stn hs rfl rfl ds_ ?_; clear hs hm a; rintro - w hm a hs)) | ((with_reducible apply qNil); clear hm; intro w hm) | refine cQ_ ?_ | refine sc_ ?_)
    exact gRet1 hs rfl rfl ⟨_, rfl, hF.symm, hm.fr, (fun e => by cases e)⟩
  by_cases q1 : 0 < x.r.code.length
  · have hF : (regF x.r words).2 = 2 := regF_code (.inl (List.ne_nil_of_length_pos q1))
    repeat (first | (refine oqXAtq0_ ?_; clear hs a; intro a hs) | ((with_reducible apply lCons); first | (refine dv hs gw_ rfl rfl da_ ?_; clear hs hm a; rintro _ w ⟨g, rfl, -, hm⟩ a hs) | (refine stn hs rfl rfl ds_ ?_; clear hs hm a; rintro - w hm a hs)) | ((with_reducible apply qNil); clear hm; intro w hm) | refine cQ_ ?_ | refine sc_ ?_)
    exact gRet1 hs rfl rfl ⟨_, rfl, hF.symm, hm.fr, (fun e => by cases e)⟩
  by_cases q2 : 0 < x.r.lab.length
  · have hF : (regF x.r words).2 = 2 := regF_code (.inr (List.ne_nil_of_length_pos q2))
    repeat (first | (refine oqXAtq0_ ?_; clear hs a; intro a hs) | ((with_reducible apply lCons); first | (refine dv hs gw_ rfl rfl da_ ?_; clear hs hm a; rintro _ w ⟨g, rfl, -, hm⟩ a hs) | (refine stn hs rfl rfl ds_ ?_; clear hs hm a; rintro - w hm a hs)) | ((with_reducible apply qNil); clear hm; intro w hm) | refine cQ_ ?_ | refine sc_ ?_)
    exact gRet1 hs rfl rfl ⟨_, rfl, hF.symm, hm.fr, (fun e => by cases e)⟩
  repeat (first | (refine oqXAtq0_ ?_; clear hs a; intro a hs) | ((with_reducible apply lCons); first | (refine dv hs gw_ rfl rfl da_ ?_; clear hs hm a; rintro _ w ⟨g, rfl, -, hm⟩ a hs) | (refine stn hs rfl rfl ds_ ?_; clear hs hm a; rintro - w hm a hs)) | ((with_reducible apply qNil); clear hm; intro w hm) | refine cQ_ ?_ | refine sc_ ?_)
  replace hm := hm.zero 3
  have hs9 : Sl Tryz.f71.ntmps [(0, .pointer (some ⟨x.g, 0, none⟩)), (5, slv none 0 0), (33, .slice (some ⟨bw, ow + 1, none⟩) words.length (c - 1)), (34, .int .i64 (words.length : Int)), (35, .int .i64 ((0 : Nat) : Int))] a := by
    have hs8 := hs.sub (L' := [(0, .pointer (some ⟨x.g, 0, none⟩)), (5, slv none 0 0), (33, .slice (if c = (1 : Int).toNat then (some ⟨bw, ow, none⟩ : Option Addr) else (some ⟨bw, ow, none⟩ : Option Addr).map (·.add ((1 : Int).toNat * 1))) (words.length + 1 - (1 : Int).toNat) (c - (1 : Int).toNat)), (34, .int .i64 ((words.length + 1 - (1 : Int).toNat : Nat) : Int)), (35, .int .i64 ((0 : Nat) : Int))]) (Has.all ⟨rfl, rfl, rfl, rfl, rfl, trivial⟩)
    rw [if_neg (by show c ≠ 1; omega)] at hs8
    exact hs8
  have e1w : ∀ k, (hk : k < words.length) → Ro wB bw (ow + 1) (words.map txv) := fun _ _ j v hj => by
    rw [Nat.add_assoc, Nat.add_comm 1 j]
    exact hrd (j + 1) v hj
  refine cLoop (X := RgX) (fun X a w' => Sl Tryz.f71.ntmps [(0, .pointer (some ⟨x.g, 0, none⟩)), (5, slv X.A X.l.length X.c), (33, .slice (some ⟨bw, ow + 1, none⟩) words.length (c - 1)), (34, .int .i64 (words.length : Int)), (35, .int .i64 (X.k : Int))] a ∧ Mm S0 wB [⟨X.A, 3, X.cs⟩, ⟨some x.g, 93, [slv x.cA x.r.code.length x.cc, slv x.sA x.r.ss.length x.sc, slv x.dA x.ws.length x.dc, .map (some x.m), slv x.jA x.jp.length x.jc, slv x.lA x.ln.length x.lc, .bool x.r.last]⟩, ⟨x.cA, 54, x.ccs⟩, ⟨x.sA, 3, x.scs⟩, ⟨x.dA, 56, x.dcs⟩, ⟨x.jA, 9, x.jcs⟩, ⟨x.lA, 3, x.lcs⟩] w' ∧ X.k ≤ words.length ∧ decA (words.take X.k) = some X.l ∧ Row X.A X.l.length X.c 1 (ints X.l) X.cs) (fun X => words.length - X.k) ⟨0, [], none, 0, []⟩ ⟨hs9, hm, Nat.zero_le _, rfl, Row.empty 1⟩ ?_
  clear hs hs9 hm hm0 a
  rintro ⟨k, l, lA, lc, lcs⟩ a w' ⟨hs, hm, hk, hdl, hrow⟩
  dsimp only at hs hm hk hdl hrow
  have hll := (decA_bd _ _ hdl).1
  rw [List.length_take] at hll
  by_cases hlt : k < words.length
  · have r1 := e1w k hlt
    have e1 : (words.map txv)[k]? = some (txv words[k]) := by rw [List.getElem?_map, List.getElem?_eq_getElem hlt]; rfl
    have hsl := hlen _ (List.getElem_mem hlt)
    cases hd : decF words[k] with
    | none =>
      have hdc := fun w => number_c words[k] w (by omega)
      rw [nuF_none hd] at hdc
      have hF : (regF x.r words).2 = 2 := by unfold regF; rw [decA_none words k hlt hd]
      generalize words[k] = s at *
      repeat (first | (refine ovXAtq1_ ?_; clear hs a; intro a hs) | ((with_reducible apply lCons); first | (refine dv hs gw_ rfl rfl da_ ?_; clear hs hm a; rintro _ w ⟨g, rfl, -, hm⟩ a hs) | (refine stn hs rfl rfl ds_ ?_; clear hs hm a; rintro - w hm a hs) | (refine dvc hs hm gw_ rfl rfl rfl rfl rfl (pl 87 rfl) (hdc _) ?_; clear hs hm a; intro w hm a hs)) | refine sc_ ?_)
      exact gRet1 hs rfl rfl ⟨_, rfl, hF.symm, hm.fr, (fun e => by cases e)⟩
    | some v =>
      have hdc := fun w => number_c words[k] w (by omega)
      rw [nuF_some hd] at hdc
      have hv0 := decF_le hd
      have hsn := decA_snoc _ _ _ _ hdl hd
      rw [← List.take_succ_eq_append_getElem hlt] at hsn
      generalize words[k] = s at *
      repeat (first | (refine ovXAtq1_ ?_; clear hs a; intro a hs) | ((with_reducible apply lCons); first | (refine dv hs gw_ rfl rfl da_ ?_; clear hs hm a; rintro _ w ⟨g, rfl, -, hm⟩ a hs) | (refine stn hs rfl rfl ds_ ?_; clear hs hm a; rintro - w hm a hs) | (refine dvc hs hm gw_ rfl rfl rfl rfl rfl (pl 87 rfl) (hdc _) ?_; clear hs hm a; intro w hm a hs)) | refine sc_ ?_)
      refine dv hs (Wnt.none rfl) rfl rfl (d_append (A := lA) (n := l.length) (c := lc) (news := [.int .i64 v]) hs rfl rfl rfl rfl rfl tab rfl rfl rfl rfl rfl hm mem_ hrow rfl (hm.ro (n := 1) mem_ (cutF_ok rfl)) rfl (by show (l.length + 1) * 8 ≤ _; omega) (by omega)) ?_
      clear hs
      rintro _ w2 ⟨A2, c2, cs2, rfl, hr2, hM⟩ a hs
      replace hm := hM _ rep_
      clear hM
      rw [show ints l ++ [.int .i64 v] = ints (l ++ [v]) by unfold ints; rw [List.map_append]; rfl, show l.length + 1 = (l ++ [v]).length by rw [List.length_append]; rfl] at hr2
      rw [show l.length + 1 = (l ++ [v]).length by rw [List.length_append]; rfl] at hs
      repeat (first | (refine ovXAtq1_ ?_; clear hs a; intro a hs) | ((with_reducible apply lCons); first | (refine dv hs gw_ rfl rfl da_ ?_; clear hs hm a; rintro _ w ⟨g, rfl, -, hm⟩ a hs) | (refine stn hs rfl rfl ds_ ?_; clear hs hm a; rintro - w hm a hs)) | refine sc_ ?_)
      exact ⟨⟨k + 1, l ++ [v], A2, c2, cs2⟩, by dsimp only; omega, hs.sub (Has.all ⟨rfl, rfl, rfl, rfl, rfl, trivial⟩), hm.sub sub_, by dsimp only; omega, hsn, hr2⟩
  obtain rfl : k = words.length := by omega
  rw [List.take_length] at hdl
  have hbd := (decA_bd _ _ hdl).2
  cases l with
  | nil =>
    have := (decA_bd _ _ hdl).1
    rw [List.length_nil] at this
    omega
  | cons v t =>
    have hv := hbd v (List.mem_cons_self ..)
    have hle := hrow.le
    have hln : (v :: t).length = t.length + 1 := rfl
    obtain ⟨lg, rfl⟩ := hrow.some_ (by rw [hln]; omega)
    have e0 : lcs[0]? = some (.int .i64 v) := hrow.get rfl
    have hu : ¬ (x.r.code ≠ [] ∨ x.r.lab ≠ []) := by
      rintro (h1 | h1)
      · exact q1 (List.length_pos_iff.2 h1)
      · exact q2 (List.length_pos_iff.2 h1)
    have h6 : v < 1 ∨ 32 < v ∨ v < (t.length : Int) ∨ 4 ≤ x.r.ss.length → (regF x.r words).2 = 6 := fun h => by
      unfold regF; rw [hdl]; dsimp only; rw [if_neg hu, if_pos (.inr h)]
    have h6y : ∀ y ∈ t, 65535 < y → (regF x.r words).2 = 6 := fun y hy h => by
      unfold regF; rw [hdl]; dsimp only; rw [if_neg hu, if_pos (.inl (List.any_eq_true.2 ⟨y, List.mem_cons_of_mem _ hy, decide_eq_true h⟩))]
    by_cases c2 : v < 1
    · have hF := h6 (.inl c2)
      repeat (first | (refine oqXAtq0_ ?_; clear hs a; intro a hs) | ((with_reducible apply lCons); first | (refine dv hs gw_ rfl rfl da_ ?_; clear hs hm a; rintro _ w ⟨g, rfl, -, hm⟩ a hs) | (refine stn hs rfl rfl ds_ ?_; clear hs hm a; rintro - w hm a hs)) | ((with_reducible apply qNil); clear hm; intro w hm) | refine cQ_ ?_ | refine sc_ ?_)
      exact gRet1 hs rfl rfl ⟨_, rfl, hF.symm, hm.fr, (fun e => by cases e)⟩
    by_cases c3 : 32 < v
    · have hF := h6 (.inr (.inl c3))
      repeat (first | (refine oqXAtq0_ ?_; clear hs a; intro a hs) | ((with_reducible apply lCons); first | (refine dv hs gw_ rfl rfl da_ ?_; clear hs hm a; rintro _ w ⟨g, rfl, -, hm⟩ a hs) | (refine stn hs rfl rfl ds_ ?_; clear hs hm a; rintro - w hm a hs)) | ((with_reducible apply qNil); clear hm; intro w hm) | refine cQ_ ?_ | refine sc_ ?_)
      exact gRet1 hs rfl rfl ⟨_, rfl, hF.symm, hm.fr, (fun e => by cases e)⟩
    by_cases c4 : v < (t.length : Int)
    · have hF := h6 (.inr (.inr (.inl c4)))
      repeat (first | (refine oqXAtq0_ ?_; clear hs a; intro a hs) | ((with_reducible apply lCons); first | (refine dv hs gw_ rfl rfl da_ ?_; clear hs hm a; rintro _ w ⟨g, rfl, -, hm⟩ a hs) | (refine stn hs rfl rfl ds_ ?_; clear hs hm a; rintro - w hm a hs)) | ((with_reducible apply qNil); clear hm; intro w hm) | refine cQ_ ?_ | refine sc_ ?_)
      exact gRet1 hs rfl rfl ⟨_, rfl, hF.symm, hm.fr, (fun e => by cases e)⟩
    by_cases c5 : 4 ≤ x.r.ss.length
    · have hF := h6 (.inr (.inr (.inr c5)))
      repeat (first | (refine oqXAtq0_ ?_; clear hs a; intro a hs) | ((with_reducible apply lCons); first | (refine dv hs gw_ rfl rfl da_ ?_; clear hs hm a; rintro _ w ⟨g, rfl, -, hm⟩ a hs) | (refine stn hs rfl rfl ds_ ?_; clear hs hm a; rintro - w hm a hs)) | ((with_reducible apply qNil); clear hm; intro w hm) | refine cQ_ ?_ | refine sc_ ?_)
      exact gRet1 hs rfl rfl ⟨_, rfl, hF.symm, hm.fr, (fun e => by cases e)⟩
    have hok : (∀ y ∈ t, y ≤ 65535) → regF x.r words = ({ x.r with ss := x.r.ss ++ [v], ws := x.r.ws ++ [t] }, 0) := fun hall => by
      unfold regF; rw [hdl]; dsimp only; rw [if_neg hu, if_neg]
      rintro (h1 | h1 | h1 | h1 | h1)
      · obtain ⟨y, hy, e⟩ := List.any_eq_true.1 h1
        have e := of_decide_eq_true e
        rcases List.mem_cons.1 hy with rfl | hy
        · omega
        · have := hall y hy; omega
      · exact c2 h1
      · exact c3 h1
      · exact c4 h1
      · exact c5 h1
    have htp : ∀ y ∈ t, 0 ≤ y := fun y hy => (hbd y (List.mem_cons_of_mem _ hy)).1
    clear h6
    repeat (first | (refine oqXAtq0_ ?_; clear hs a; intro a hs) | ((with_reducible apply lCons); first | (refine dv hs gw_ rfl rfl da_ ?_; clear hs hm a; rintro _ w ⟨g, rfl, -, hm⟩ a hs) | (refine stn hs rfl rfl ds_ ?_; clear hs hm a; rintro - w hm a hs)) | ((with_reducible apply qNil); clear hm; intro w hm) | refine cQ_ ?_ | refine sc_ ?_)
    obtain ⟨B, hB⟩ : ∃ B : Option Addr, (if lc = (1 : Int).toNat then (some ⟨lg, 0, none⟩ : Option Addr) else (some ⟨lg, 0, none⟩ : Option Addr).map (·.add ((1 : Int).toNat * 1))) = B := ⟨_, rfl⟩
    have hBv : 0 < t.length → B = some ⟨lg, 1, none⟩ := fun h0 => by
      rw [← hB, if_neg (by show lc ≠ 1; omega)]
      rfl
    replace hs : Sl Tryz.f71.ntmps [(0, .pointer (some ⟨x.g, 0, none⟩)), (5, slv (some lg) (v :: t).length lc), (9, slv none 0 0), (77, .slice B t.length (lc - 1)), (78, .int .i64 (t.length : Int)), (79, .int .i64 ((0 : Nat) : Int))] a := by
      rw [← hB]
      exact hs.sub (Has.all ⟨rfl, rfl, rfl, rfl, rfl, rfl, trivial⟩)
    clear hB
    replace hm := hm.zero 74
    refine cLoop (X := RgX) (fun X a w' => Sl Tryz.f71.ntmps [(0, .pointer (some ⟨x.g, 0, none⟩)), (5, slv (some lg) (v :: t).length lc), (9, slv X.A X.k X.c), (77, .slice B t.length (lc - 1)), (78, .int .i64 (t.length : Int)), (79, .int .i64 (X.k : Int))] a ∧ Mm S0 wB [⟨X.A, 74, X.cs⟩, ⟨some lg, 3, lcs⟩, ⟨some x.g, 93, [slv x.cA x.r.code.length x.cc, slv x.sA x.r.ss.length x.sc, slv x.dA x.ws.length x.dc, .map (some x.m), slv x.jA x.jp.length x.jc, slv x.lA x.ln.length x.lc, .bool x.r.last]⟩, ⟨x.cA, 54, x.ccs⟩, ⟨x.sA, 3, x.scs⟩, ⟨x.dA, 56, x.dcs⟩, ⟨x.jA, 9, x.jcs⟩, ⟨x.lA, 3, x.lcs⟩] w' ∧ X.k ≤ t.length ∧ (∀ y ∈ t.take X.k, y ≤ 65535) ∧ Row X.A X.k X.c 1 (wds (t.take X.k)) X.cs) (fun X => t.length - X.k) ⟨0, [], none, 0, []⟩ ⟨hs, hm, Nat.zero_le _, fun _ h => absurd h List.not_mem_nil, Row.empty 1⟩ ?_
    clear hs hm a
    rintro ⟨k, l_, wA, wc, wcs⟩ a w' ⟨hs, hm, hk, hty, hrw⟩
    dsimp only at hs hm hk hty hrw
    by_cases hkt : k < t.length
    · have hBe := hBv (by omega)
      subst hBe
      obtain ⟨y, hy⟩ : ∃ y, t[k] = y := ⟨_, rfl⟩
      have hy0 := htp t[k] (List.getElem_mem hkt)
      have hy6 := h6y t[k] (List.getElem_mem hkt)
      rw [hy] at hy0 hy6
      have e1 : lcs[1 + k]? = some (.int .i64 y) := hrow.get (by
        show (ints (v :: t))[1 + k]? = _
        rw [Nat.add_comm 1 k]
        show (ints t)[k]? = _
        unfold ints
        rw [List.getElem?_map, List.getElem?_eq_getElem hkt, hy]; rfl)
      by_cases q6 : 65535 < y
      · have hF := hy6 q6
        repeat (first | (refine ovXAtq1_ ?_; clear hs a; intro a hs) | ((with_reducible apply lCons); first | (refine dv hs gw_ rfl rfl da_ ?_; clear hs hm a; rintro _ w ⟨g, rfl, -, hm⟩ a hs) | (refine stn hs rfl rfl ds_ ?_; clear hs hm a; rintro - w hm a hs)) | refine sc_ ?_)
        exact gRet1 hs rfl rfl ⟨_, rfl, hF.symm, hm.fr, (fun e => by cases e)⟩
      have hyb : 0 ≤ y ∧ y ≤ 65535 := ⟨hy0, by omega⟩
      have hty2 : ∀ z ∈ t.take (k + 1), z ≤ 65535 := fun z hz => by
        rw [List.take_succ_eq_append_getElem hkt, hy] at hz
        rcases List.mem_append.1 hz with hz | hz
        · exact hty z hz
        · rcases List.mem_singleton.1 hz with rfl
          exact hyb.2
      repeat (first | (refine ovXAtq1_ ?_; clear hs a; intro a hs) | ((with_reducible apply lCons); first | (refine dv hs gw_ rfl rfl da_ ?_; clear hs hm a; rintro _ w ⟨g, rfl, -, hm⟩ a hs) | (refine stn hs rfl rfl ds_ ?_; clear hs hm a; rintro - w hm a hs)) | refine sc_ ?_)
      rw [wrap16 hyb] at hs hm
      refine dv hs (Wnt.none rfl) rfl rfl (d_append (A := wA) (n := k) (c := wc) (news := [.int .u16 y]) hs rfl rfl rfl rfl rfl tab rfl rfl rfl rfl rfl hm mem_ hrw rfl (hm.ro (n := 1) mem_ (cutF_ok rfl)) rfl (by show (k + 1) * 2 ≤ _; omega) (by omega)) ?_
      clear hs
      rintro _ w2 ⟨A2, c2, cs2, rfl, hr2, hM⟩ a hs
      replace hm := hM _ rep_
      clear hM
      rw [show wds (t.take k) ++ [.int .u16 y] = wds (t.take (k + 1)) by unfold wds; rw [List.take_succ_eq_append_getElem hkt, List.map_append, hy]; rfl] at hr2
      repeat (first | (refine ovXAtq1_ ?_; clear hs a; intro a hs) | ((with_reducible apply lCons); first | (refine dv hs gw_ rfl rfl da_ ?_; clear hs hm a; rintro _ w ⟨g, rfl, -, hm⟩ a hs) | (refine stn hs rfl rfl ds_ ?_; clear hs hm a; rintro - w hm a hs)) | refine sc_ ?_)
      exact ⟨⟨k + 1, [], A2, c2, cs2⟩, by dsimp only; omega, hs.sub (Has.all ⟨rfl, rfl, rfl, rfl, rfl, rfl, trivial⟩), hm.sub sub_, by dsimp only; omega, hty2, hr2⟩
    obtain rfl : k = t.length := by omega
    rw [List.take_length] at hrw hty
    rw [hok hty]
    repeat (first | (refine ovXAtq1_ ?_; clear hs a; intro a hs) | ((with_reducible apply lCons); first | (refine dv hs gw_ rfl rfl da_ ?_; clear hs hm a; rintro _ w ⟨g, rfl, -, hm⟩ a hs) | (refine stn hs rfl rfl ds_ ?_; clear hs hm a; rintro - w hm a hs)) | refine sc_ ?_)
    have hxs := h.s
    have hxd := h.d
    refine cMid (fun a w => ∃ (sA2 : Option Nat) (sc2 : Nat) (scs2 : List Value) (dA2 : Option Nat) (dc2 : Nat) (dcs2 : List Value), Row sA2 (x.r.ss.length + 1) sc2 1 (ints x.r.ss ++ [.int .i64 v]) scs2 ∧ Row dA2 (x.ws.length + 1) dc2 1 (x.ws.map WS.v ++ [slv wA t.length wc]) dcs2 ∧ Sl Tryz.f71.ntmps [(0, .pointer (some ⟨x.g, 0, none⟩))] a ∧ Mm S0 wB [⟨wA, 74, wcs⟩, ⟨some x.g, 93, [slv x.cA x.r.code.length x.cc, slv sA2 (x.r.ss.length + 1) sc2, slv dA2 (x.ws.length + 1) dc2, .map (some x.m), slv x.jA x.jp.length x.jc, slv x.lA x.ln.length x.lc, .bool x.r.last]⟩, ⟨x.cA, 54, x.ccs⟩, ⟨sA2, 3, scs2⟩, ⟨dA2, 56, dcs2⟩, ⟨x.jA, 9, x.jcs⟩, ⟨x.lA, 3, x.lcs⟩] w) ?_ ?_
    · skip
      refine cDrawB (n := 28) 23 [⟨some lg, 3, lcs⟩, ⟨some x.g, 93, [slv x.cA x.r.code.length x.cc, slv x.sA x.r.ss.length x.sc, slv x.dA x.ws.length x.dc, .map (some x.m), slv x.jA x.jp.length x.jc, slv x.lA x.ln.length x.lc, .bool x.r.last]⟩] hm rfl rfl ?_
      clear hm
      intro w2 hm
      refine bU_ 0 ?_; clear hs a; intro a hs
      refine bU_ 1 ?_; clear hs a; intro a hs
      refine bU_ 2 ?_; clear hs a; intro a hs
      refine bU_ 3 ?_; clear hs a; intro a hs
      refine bU_ 4 ?_; clear hs a; intro a hs
      refine bU_ 5 ?_; clear hs a; intro a hs
      refine bTake 6 true hs rfl (by kernel_rfl) (by kernel_rfl) (Wnt.none rfl) rfl rfl (by intro w hm; replace hm : Mm _ _ _ w := hm rfl; exact kl_) (.inr (hm.sub sub_)) ?_; clear hs a; intro a hs
      refine bU_ 7 ?_; clear hs a; intro a hs
      refine bTake 8 false hs rfl (by kernel_rfl) (by kernel_rfl) (Wnt.none rfl) rfl rfl (by intro w hm; (first | exact r_iz hs tab rfl rfl (by omega) | exact r_iy hs tab rfl rfl (by omega))) (.inr (hm.sub sub_)) ?_; clear hs a; intro a hs
      refine bTake 9 true hs rfl (by kernel_rfl) (by kernel_rfl) (Wnt.none rfl) rfl rfl (by intro w hm; replace hm : Mm _ _ _ w := hm rfl; exact kl_) (.inr (hm.sub sub_)) ?_; clear hs a; intro a hs
      refine bU_ 12 ?_; clear hs a; intro a hs
      refine bU_ 13 ?_; clear hs a; intro a hs
      refine bU_ 14 ?_; clear hs a; intro a hs
      refine bU_ 15 ?_; clear hs a; intro a hs
      refine bTake 16 true hs rfl (by kernel_rfl) (by kernel_rfl) (Wnt.none rfl) rfl rfl (by intro w hm; replace hm : Mm _ _ _ w := hm rfl; exact kl_) (.inr (hm.sub sub_)) ?_; clear hs a; intro a hs
      refine bU_ 17 ?_; clear hs a; intro a hs
      refine bEach [10, 18] (by kernel_rfl) (bDo hs rfl (Wnt.none rfl) rfl rfl (by exact d_buildSlice hs rfl tab rfl rfl rfl rfl rfl rfl rfl rfl rfl hm) ?_ (bDo hs rfl (Wnt.none rfl) rfl rfl (by exact d_buildSlice hs rfl tab rfl rfl rfl rfl rfl rfl rfl rfl rfl hm) ?_ bNil))
      · skip
        clear hs hm a
        rintro _ w30 ⟨g101, rfl, -, hm⟩ a hs
        refine ⟨.inr (hm.sub sub_), ?_⟩
        refine bEach [11, 18] (by kernel_rfl) (bDo hs rfl (Wnt.none rfl) rfl rfl (d_append (A := x.sA) (n := x.r.ss.length) (c := x.sc) (news := [.int .i64 v]) hs rfl rfl rfl rfl rfl tab rfl rfl rfl rfl rfl hm mem_ hxs rfl (hm.ro (n := 1) mem_ (cutF_ok rfl)) rfl (by show (x.r.ss.length + 1) * 8 ≤ _; omega) (by omega)) ?_ (bDo hs rfl (Wnt.none rfl) rfl rfl (by exact d_buildSlice hs rfl tab rfl rfl rfl rfl rfl rfl rfl rfl rfl hm) ?_ bNil))
        · skip
          clear hs
          rintro _ w1 ⟨sA2, sc2, scs2, rfl, hr11, hM⟩ a hs
          replace hm := hM _ rep_
          clear hM
          refine ⟨.inr (hm.sub sub_), ?_⟩
          refine bEach [18] (by kernel_rfl) (bDo hs rfl (Wnt.none rfl) rfl rfl (by exact d_buildSlice hs rfl tab rfl rfl rfl rfl rfl rfl rfl rfl rfl hm) ?_ bNil)
          clear hs hm a
          rintro _ w38 ⟨g109, rfl, -, hm⟩ a hs
          refine ⟨.inr (hm.sub sub_), ?_⟩
          refine bEach [19] (by kernel_rfl) (bDo hs rfl (Wnt.none rfl) rfl rfl (d_append (A := x.dA) (n := x.ws.length) (c := x.dc) (news := [slv wA t.length wc]) hs rfl rfl rfl rfl rfl tab rfl rfl rfl rfl rfl hm mem_ hxd rfl (hm.ro (n := 1) mem_ (cutF_ok rfl)) rfl (by show (x.ws.length + 1) * 24 ≤ _; omega) (by omega)) ?_ bNil)
          clear hs
          rintro _ w1 ⟨dA2, dc2, dcs2, rfl, hr19, hM⟩ a hs
          replace hm := hM _ rep_
          clear hM
          refine ⟨.inr (hm.sub sub_), ?_⟩
          refine bU_ 20 ?_; clear hs a; intro a hs
          refine bU_ 21 ?_; clear hs a; intro a hs
          refine bU_ 22 ?_; clear hs a; intro a hs
          refine bEach [23] (by kernel_rfl) (bDoN hs rfl (Wnt.none rfl) rfl ds_ ?_ bNil)
          clear hs hm
          rintro - w43 hm a hs
          refine ⟨.inl (by kernel_rfl), ?_⟩
          refine bW_ 24 ?_; clear hs a; intro a hs
          refine bW_ 25 ?_; clear hs a; intro a hs
          refine bW_ 26 ?_; clear hs a; intro a hs
          refine bEach [27] (by kernel_rfl) (bDoN hs rfl (Wnt.none rfl) rfl ds_ ?_ bNil)
          clear hs hm
          rintro - w47 hm a hs
          refine ⟨.inl (by kernel_rfl), ?_⟩
          refine bDone (by kernel_rfl) ?_
          exact And.intro rfl ⟨sA2, sc2, scs2, dA2, dc2, dcs2, hr11, hr19, hs.sub (Has.all ⟨rfl, trivial⟩), hm.sub sub_⟩
        · skip
          clear hs hm a
          rintro _ w38 ⟨g109, rfl, -, hm⟩ a hs
          refine ⟨.inr (hm.sub sub_), ?_⟩
          refine bEach [11] (by kernel_rfl) (bDo hs rfl (Wnt.none rfl) rfl rfl (d_append (A := x.sA) (n := x.r.ss.length) (c := x.sc) (news := [.int .i64 v]) hs rfl rfl rfl rfl rfl tab rfl rfl rfl rfl rfl hm mem_ hxs rfl (hm.ro (n := 1) mem_ (cutF_ok rfl)) rfl (by show (x.r.ss.length + 1) * 8 ≤ _; omega) (by omega)) ?_ bNil)
          clear hs
          rintro _ w1 ⟨sA2, sc2, scs2, rfl, hr11, hM⟩ a hs
          replace hm := hM _ rep_
          clear hM
          refine ⟨.inr (hm.sub sub_), ?_⟩
          refine bEach [19] (by kernel_rfl) (bDo hs rfl (Wnt.none rfl) rfl rfl (d_append (A := x.dA) (n := x.ws.length) (c := x.dc) (news := [slv wA t.length wc]) hs rfl rfl rfl rfl rfl tab rfl rfl rfl rfl rfl hm mem_ hxd rfl (hm.ro (n := 1) mem_ (cutF_ok rfl)) rfl (by show (x.ws.length + 1) * 24 ≤ _; omega) (by omega)) ?_ bNil)
          clear hs
          rintro _ w1 ⟨dA2, dc2, dcs2, rfl, hr19, hM⟩ a hs
          replace hm := hM _ rep_
          clear hM
          refine ⟨.inr (hm.sub sub_), ?_⟩
          refine bU_ 20 ?_; clear hs a; intro a hs
          refine bU_ 21 ?_; clear hs a; intro a hs
          refine bU_ 22 ?_; clear hs a; intro a hs
          refine bEach [23] (by kernel_rfl) (bDoN hs rfl (Wnt.none rfl) rfl ds_ ?_ bNil)
          clear hs hm
          rintro - w43 hm a hs
          refine ⟨.inl (by kernel_rfl), ?_⟩
          refine bW_ 24 ?_; clear hs a; intro a hs
          refine bW_ 25 ?_; clear hs a; intro a hs
          refine bW_ 26 ?_; clear hs a; intro a hs
          refine bEach [27] (by kernel_rfl) (bDoN hs rfl (Wnt.none rfl) rfl ds_ ?_ bNil)
          clear hs hm
          rintro - w47 hm a hs
          refine ⟨.inl (by kernel_rfl), ?_⟩
          refine bDone (by kernel_rfl) ?_
          exact And.intro rfl ⟨sA2, sc2, scs2, dA2, dc2, dcs2, hr11, hr19, hs.sub (Has.all ⟨rfl, trivial⟩), hm.sub sub_⟩
      · skip
        clear hs hm a
        rintro _ w38 ⟨g109, rfl, -, hm⟩ a hs
        refine ⟨.inr (hm.sub sub_), ?_⟩
        refine bEach [10] (by kernel_rfl) (bDo hs rfl (Wnt.none rfl) rfl rfl (by exact d_buildSlice hs rfl tab rfl rfl rfl rfl rfl rfl rfl rfl rfl hm) ?_ bNil)
        clear hs hm a
        rintro _ w30 ⟨g101, rfl, -, hm⟩ a hs
        refine ⟨.inr (hm.sub sub_), ?_⟩
        refine bEach [11] (by kernel_rfl) (bDo hs rfl (Wnt.none rfl) rfl rfl (d_append (A := x.sA) (n := x.r.ss.length) (c := x.sc) (news := [.int .i64 v]) hs rfl rfl rfl rfl rfl tab rfl rfl rfl rfl rfl hm mem_ hxs rfl (hm.ro (n := 1) mem_ (cutF_ok rfl)) rfl (by show (x.r.ss.length + 1) * 8 ≤ _; omega) (by omega)) ?_ bNil)
        clear hs
        rintro _ w1 ⟨sA2, sc2, scs2, rfl, hr11, hM⟩ a hs
        replace hm := hM _ rep_
        clear hM
        refine ⟨.inr (hm.sub sub_), ?_⟩
        refine bEach [19] (by kernel_rfl) (bDo hs rfl (Wnt.none rfl) rfl rfl (d_append (A := x.dA) (n := x.ws.length) (c := x.dc) (news := [slv wA t.length wc]) hs rfl rfl rfl rfl rfl tab rfl rfl rfl rfl rfl hm mem_ hxd rfl (hm.ro (n := 1) mem_ (cutF_ok rfl)) rfl (by show (x.ws.length + 1) * 24 ≤ _; omega) (by omega)) ?_ bNil)
        clear hs
        rintro _ w1 ⟨dA2, dc2, dcs2, rfl, hr19, hM⟩ a hs
        replace hm := hM _ rep_
        clear hM
        refine ⟨.inr (hm.sub sub_), ?_⟩
        refine bU_ 20 ?_; clear hs a; intro a hs
        refine bU_ 21 ?_; clear hs a; intro a hs
        refine bU_ 22 ?_; clear hs a; intro a hs
        refine bEach [23] (by kernel_rfl) (bDoN hs rfl (Wnt.none rfl) rfl ds_ ?_ bNil)
        clear hs hm
        rintro - w43 hm a hs
        refine ⟨.inl (by kernel_rfl), ?_⟩
        refine bW_ 24 ?_; clear hs a; intro a hs
        refine bW_ 25 ?_; clear hs a; intro a hs
        refine bW_ 26 ?_; clear hs a; intro a hs
        refine bEach [27] (by kernel_rfl) (bDoN hs rfl (Wnt.none rfl) rfl ds_ ?_ bNil)
        clear hs hm
        rintro - w47 hm a hs
        refine ⟨.inl (by kernel_rfl), ?_⟩
        refine bDone (by kernel_rfl) ?_
        exact And.intro rfl ⟨sA2, sc2, scs2, dA2, dc2, dcs2, hr11, hr19, hs.sub (Has.all ⟨rfl, trivial⟩), hm.sub sub_⟩
    clear hs hm a
    rintro a w ⟨sA2, sc2, scs2, dA2, dc2, dcs2, hr11, hr19, hs, hm⟩
    repeat (first | (refine ovXAtq1_ ?_; clear hs a; intro a hs) | ((with_reducible apply lCons); first | (refine dv hs gw_ rfl rfl da_ ?_; clear hs hm a; rintro _ w ⟨g, rfl, -, hm⟩ a hs) | (refine stn hs rfl rfl ds_ ?_; clear hs hm a; rintro - w hm a hs)) | refine sc_ ?_)
    refine gRet1 hs rfl rfl ⟨_, rfl, rfl, hm.fr, fun _ => ?_⟩
    obtain ⟨y, hy⟩ : ∃ y : RfX, y = ⟨x.g, x.m, x.cA, x.cc, x.ccs, sA2, sc2, scs2, dA2, dc2, dcs2, x.jA, x.jc, x.jcs, x.lA, x.lc, x.lcs, x.jp, x.ln, x.ws ++ [⟨wA, wc, wcs, t⟩], { x.r with ss := x.r.ss ++ [v], ws := x.r.ws ++ [t] }⟩ := ⟨_, rfl⟩
    have l1 : (x.r.ss ++ [v]).length = x.r.ss.length + 1 := by rw [List.length_append]; rfl
    have l2 : (x.ws ++ [(⟨wA, wc, wcs, t⟩ : WS)]).length = x.ws.length + 1 := by rw [List.length_append]; rfl
    have hmy : Mm S0 wB (⟨wA, 74, wcs⟩ :: y.M) w := by
      rw [hy]
      unfold RfX.M RfX.hd
      dsimp only
      rw [l1, l2]
      exact hm
    have hmy2 := hmy.sub (List.sublist_cons_self _ _)
    rw [← hS0] at hmy2
    obtain ⟨p1, p2, p3, p4, p5⟩ := RfX.after h hmy2 (by rw [hy])
    refine ⟨y, by rw [hy], by rw [hy], by rw [hy], ⟨p4, by rw [hy]; rw [hy] at p3; exact p3, p2, by rw [hy]; exact h.c, ?_, ?_, by rw [hy]; exact h.j, by rw [hy]; exact h.l, by rw [hy]; dsimp only; rw [List.map_append, h.ws]; rfl, ?_, by rw [hy]; exact h.js, ?_, by rw [hy]; exact h.ln0⟩, p1⟩
    · rw [hy]
      dsimp only
      rw [l1, show ints (x.r.ss ++ [v]) = ints x.r.ss ++ [.int .i64 v] by unfold ints; rw [List.map_append]; rfl]
      exact hr11
    · rw [hy]
      dsimp only
      rw [l2, List.map_append]
      exact hr19
    · intro r hr
      have hr' : r ∈ x.ws ∨ r = ⟨wA, wc, wcs, t⟩ := by
        rw [hy] at hr
        rcases List.mem_append.1 hr with hr | hr
        · exact .inl hr
        · exact .inr (List.mem_singleton.1 hr)
      rcases hr' with hr' | rfl
      · exact p5 r hr'
      · refine ⟨hmy.rd_row (List.mem_cons_self ..) hrw, fun g hg => ⟨fun hd => ?_, Hp.lt (hmy.me _ (List.mem_cons_self ..)) hg⟩⟩
        rcases hd with ⟨z, hz, e⟩ | hd
        · exact hmy.dj.1 z hz g hg e
        · rcases hmy.ow _ (List.mem_cons_self ..) g hg with h1 | h1
          · have := h.ml.lt
            rw [hd, hy] at h1
            dsimp only at h1
            omega
          · rw [hd, hy] at h1
            exact hnm h1
    · rw [hy]
      dsimp only
      rw [l1, l2]
      exact ⟨z1, by omega, by omega, z4, z4b, z5⟩
end Go.Proofs.YtajkekhnfobgiaaGreatDoor

/- The reference's reader: an instruction's line (under way: the operation's name). -/
namespace Go.Proofs.YtajkekhnfobgiaaGreatDoor
set_option maxRecDepth 20000
open Go.RowKit

theorem idxF_get (w : Tx) : ∀ (xs : List Tx) (k n : Nat), idxF w xs k = some n → k ≤ n ∧ xs[n - k]? = some w
  | [], _, _, h => by cases h
  | x :: t, k, n, h => by
    unfold idxF at h
    split at h
    · rename_i e
      cases h
      exact ⟨Nat.le_refl _, by rw [Nat.sub_self, e]; rfl⟩
    · obtain ⟨h1, h2⟩ := idxF_get w t (k + 1) n h
      refine ⟨by omega, ?_⟩
      rw [show n - k = (n - (k + 1)) + 1 by omega]
      exact h2
theorem idx_name {w : Tx} {k : Nat} (hk : k < 25) : idxF w nmL 0 = some k ↔ nameL (k : Int) = w := by
  constructor
  · intro h
    have h2 := (idxF_get w nmL 0 k h).2
    have h3 := nameL_nat k hk
    rw [Nat.sub_zero] at h2
    rw [h2] at h3
    exact (Option.some.inj h3).symm
  · rintro rfl
    exact (show ∀ k : Nat, k < 25 → idxF (nameL (k : Int)) nmL 0 = some k by decide) k hk
/-- the operation found among the first k names -/
def opv (w : Tx) (k : Nat) : Int := match idxF w nmL 0 with
  | none => -1
  | some j => if j < k then (j : Int) else -1
theorem opv_yes {w : Tx} {k : Nat} (hk : k < 25) (h : nameL (k : Int) = w) : opv w (k + 1) = (k : Int) := by
  unfold opv
  rw [(idx_name hk).2 h]
  dsimp only
  rw [if_pos (Nat.lt_succ_self k)]
theorem opv_no {w : Tx} {k : Nat} (hk : k < 25) (h : nameL (k : Int) ≠ w) : opv w (k + 1) = opv w k := by
  unfold opv
  cases e : idxF w nmL 0 with
  | none => rfl
  | some j =>
    dsimp only
    have hj : j ≠ k := fun e2 => h ((idx_name hk).1 (e2 ▸ e))
    by_cases h1 : j < k
    · rw [if_pos h1, if_pos (by omega)]
    · rw [if_neg h1, if_neg (by omega)]
theorem opv_none {w : Tx} (h : idxF w nmL 0 = none) (k : Nat) : opv w k = -1 := by unfold opv; rw [h]
theorem opv_some {w : Tx} {j : Nat} (h : idxF w nmL 0 = some j) (hj : j < 25) : opv w 25 = (j : Int) := by unfold opv; rw [h]; exact if_pos hj
/-- the last word, as the reference reads it -/
def lstR (op : Int) (u : Bool) (ws : List Tx) : Option (Int × Tx × List Tx) :=
  if !u then some (0, [], ws)
  else if jumpB op then match ws with
    | [] => none
    | w :: t => if nmB w then some (0, w, t) else none
  else match ws with
    | [] => none
    | w :: t => match decF w with
      | none => none
      | some n => some (n, [], t)
theorem lst_R (op : Int) (u : Bool) (ns : Nat) (ws : List Tx) : lstF op u ns ws = match lstR op u ws with
    | none => none
    | some (m, l, t) => some (m, u && !jumpB op && decide (mostF op ns < m), l, t) := by
  unfold lstF lstR
  cases u
  · rfl
  · cases jumpB op
    · cases ws with
      | nil => rfl
      | cons w t =>
        have e : tkF [] (mostF op ns) (w :: t) = match decF w with
          | none => none
          | some n => some (n, decide (mostF op ns < n), t) := by
          unfold tkF
          dsimp only
          rw [show ([] : Tx).isPrefixOf w = true from by cases w <;> rfl]
          rfl
        simp only [Bool.not_true, Bool.false_eq_true, if_false, e]
        cases decF w with
        | none => rfl
        | some n => rfl
    · cases ws with
      | nil => rfl
      | cons w t =>
        simp only [Bool.not_true, Bool.false_eq_true, if_false, if_true]
        cases nmB w <;> rfl
theorem ins_no {r : RdS} {op : Int} {ws : List Tx} {k : Nat} (h : rkF op ws 3 = none) : (insF r op ws k).2 = 2 := by
  unfold insF
  rw [opsF_G]
  unfold opsG
  rw [h]
theorem ins_no2 {r : RdS} {op a b c : Int} {f : Bool} {ws w : List Tx} {k : Nat} (h : rkF op ws 3 = some (a, b, c, f, w)) (h2 : lstR op (usesF op).2.2.2 w = none) : (insF r op ws k).2 = 2 := by
  unfold insF
  rw [opsF_G]
  unfold opsG
  rw [h]
  dsimp only
  rw [lst_R, h2]
theorem ins_no3 {r : RdS} {op a b c m : Int} {f : Bool} {l : Tx} {ws w t : List Tx} {k : Nat} (h : rkF op ws 3 = some (a, b, c, f, w)) (h2 : lstR op (usesF op).2.2.2 w = some (m, l, t)) (ht : t ≠ []) : (insF r op ws k).2 = 2 := by
  unfold insF
  rw [opsF_G]
  unfold opsG
  rw [h]
  dsimp only
  rw [lst_R, h2]
  dsimp only
  rw [if_neg ht]
theorem ins_go {r : RdS} {op a b c m : Int} {f : Bool} {l : Tx} {ws w : List Tx} {k : Nat} (h : rkF op ws 3 = some (a, b, c, f, w)) (h2 : lstR op (usesF op).2.2.2 w = some (m, l, [])) : insF r op ws k = if (f || ((usesF op).2.2.2 && !jumpB op && decide (mostF op r.ss.length < m))) = true ∨ 64 ≤ r.code.length then (r, 6) else ({ r with code := r.code ++ [⟨op, a, b, c, m⟩], js := if l = [] then r.js else r.js ++ [(r.code.length, k, l)] }, 0) := by
  unfold insF
  rw [opsF_G]
  unfold opsG
  rw [h]
  dsimp only
  rw [lst_R, h2]
  dsimp only
  rw [if_pos rfl]
/-- a register's word -/
theorem tk_reg (s : Tx) (t : List Tx) : tkF [114] 7 (s :: t) = if s.head? = some 114 then match decF (s.drop 1) with
    | none => none
    | some n => some (n, decide (7 < n), t)
    else none := by
  unfold tkF
  have h : [114].isPrefixOf s = decide (s.head? = some 114) := by
    cases s with
    | nil => rfl
    | cons c r =>
      by_cases e : c = 114
      · subst e; simp [List.isPrefixOf]
      · have e2 : ¬ (114 : UInt8) = c := fun h => e h.symm
        simp [List.isPrefixOf, e, e2]
  dsimp only
  rw [h]
  by_cases e : s.head? = some 114
  · rw [if_pos (decide_eq_true e), if_pos e]
    rfl
  · rw [if_neg (by rw [decide_eq_false e]; decide), if_neg e]
theorem fm_congr {α β : Type} {f g : α → Option β} : ∀ l : List α, (∀ x ∈ l, f x = g x) → l.filterMap f = l.filterMap g
  | [], _ => rfl
  | x :: t, h => by
    rw [List.filterMap_cons, List.filterMap_cons, h x (List.mem_cons_self ..), fm_congr t fun y hy => h y (List.mem_cons_of_mem _ hy)]
theorem jsO_snoc (jp : List Tx) (ln : List Int) (l : Tx) (k : Nat) (h : ln.length = jp.length) : jsO (jp ++ [l]) (ln ++ [(k : Int)]) = if l = [] then jsO jp ln else jsO jp ln ++ [(jp.length, k, l)] := by
  unfold jsO
  rw [List.length_append, List.length_singleton, List.range_succ, List.filterMap_append]
  have e1 : ((List.range jp.length).filterMap fun q => if (jp ++ [l]).getD q [] = [] then none else some (q, ((ln ++ [(k : Int)]).getD q 0).toNat, (jp ++ [l]).getD q [])) = ((List.range jp.length).filterMap fun q => if jp.getD q [] = [] then none else some (q, (ln.getD q 0).toNat, jp.getD q [])) := by
    refine fm_congr _ fun q hq => ?_
    have hq := List.mem_range.1 hq
    rw [List.getD_eq_getElem?_getD, List.getD_eq_getElem?_getD, List.getD_eq_getElem?_getD, List.getD_eq_getElem?_getD, List.getElem?_append_left hq, List.getElem?_append_left (by omega)]
  rw [e1]
  have e2 : (jp ++ [l]).getD jp.length [] = l := by rw [List.getD_eq_getElem?_getD, List.getElem?_append_right (Nat.le_refl _), Nat.sub_self]; rfl
  have e3 : (ln ++ [(k : Int)]).getD jp.length 0 = (k : Int) := by rw [List.getD_eq_getElem?_getD, ← h, List.getElem?_append_right (Nat.le_refl _), Nat.sub_self]; rfl
  by_cases e : l = []
  · rw [if_pos e]
    simp only [List.filterMap_cons, List.filterMap_nil, e2, if_pos e, List.append_nil]
  · rw [if_neg e]
    simp only [List.filterMap_cons, List.filterMap_nil, e2, e3, if_neg e, Int.toNat_natCast]
theorem lstR_m {op : Int} {u : Bool} {ws : List Tx} {m : Int} {l : Tx} {t : List Tx} (h : lstR op u ws = some (m, l, t)) : m = 0 ∨ (u = true ∧ jumpB op = false ∧ 0 ≤ m) := by
  unfold lstR at h
  cases u
  · cases h; exact .inl rfl
  · cases hj : jumpB op
    · rw [hj] at h
      cases ws with
      | nil => cases h
      | cons w r =>
        dsimp only [Bool.not_true] at h
        rw [if_neg (by decide), if_neg (by decide)] at h
        cases hd : decF w with
        | none => rw [hd] at h; cases h
        | some n =>
          rw [hd] at h
          cases h
          exact .inr ⟨rfl, rfl, (decF_le hd).1⟩
    · rw [hj] at h
      cases ws with
      | nil => cases h
      | cons w r =>
        dsimp only [Bool.not_true] at h
        rw [if_neg (by decide), if_pos rfl] at h
        split at h
        · cases h; exact .inl rfl
        · cases h
theorem fl_iff {op : Int} {ws t : List Tx} {m : Int} {l : Tx} {ns : Nat} {fl0 : Bool} (h : lstR op (usesF op).2.2.2 ws = some (m, l, t)) (hns : ns ≤ 4) : ((fl0 || ((usesF op).2.2.2 && !jumpB op && decide (mostF op ns < m))) = true) ↔ ((fl0 || decide (65535 < m)) = true ∨ (op = 15 ∧ (ns : Int) ≤ m) ∨ (op = 23 ∧ 15 < m)) := by
  have hm := lstR_m h
  have hmo : mostF op ns = if op = 15 then (ns : Int) - 1 else if op = 23 then 15 else 65535 := rfl
  have hu : op = 15 ∨ op = 23 → (usesF op).2.2.2 = true ∧ jumpB op = false := fun e => ⟨uses_imm (.inr e), by
    rcases e with rfl | rfl <;> rfl⟩
  simp only [Bool.or_eq_true, Bool.and_eq_true, Bool.not_eq_true', decide_eq_true_eq]
  constructor
  · rintro (h1 | ⟨⟨h1, h2⟩, h3⟩)
    · exact .inl (.inl h1)
    · rw [hmo] at h3
      split at h3
      · rename_i e; exact .inr (.inl ⟨e, by omega⟩)
      · split at h3
        · rename_i e; exact .inr (.inr ⟨e, h3⟩)
        · exact .inl (.inr h3)
  · rintro ((h1 | h1) | ⟨rfl, h1⟩ | ⟨rfl, h1⟩)
    · exact .inl h1
    · rcases hm with hm | ⟨hm1, hm2, _⟩
      · omega
      · refine .inr ⟨⟨hm1, hm2⟩, ?_⟩
        rw [hmo]
        split
        · omega
        · split <;> omega
    · obtain ⟨a, b⟩ := hu (.inl rfl)
      refine .inr ⟨⟨a, b⟩, ?_⟩
      rw [hmo, if_pos rfl]
      omega
    · obtain ⟨a, b⟩ := hu (.inr rfl)
      refine .inr ⟨⟨a, b⟩, ?_⟩
      rw [hmo, if_neg (by decide), if_pos rfl]
      exact h1
end Go.Proofs.YtajkekhnfobgiaaGreatDoor

/- The reference's reader: an instruction's line, the last region: three appends. -/
namespace Go.Proofs.YtajkekhnfobgiaaGreatDoor
set_option maxRecDepth 20000
open Go.RowKit

/-- a region of a code -/
def regOf (n : Nat) : Code → Option Code
  | .region k ops d => if Nat.beq k n then some (.region k ops d) else none
  | .seq a b => match regOf n a with
    | some c => some c
    | none => regOf n b
  | .cond _ a b => match regOf n a with
    | some c => some c
    | none => regOf n b
  | .block _ c => regOf n c
  | .loop c => regOf n c
  | .scope c => regOf n c
  | _ => none
set_option maxHeartbeats 32000000 in
theorem r46_c (x : RfX) (S0 : Nat → Prop) (wB w : World) (bw ow c g10 : Nat) (words : List Tx) (line : Nat) (op a1 a2 a3 m : Int) (lab : Tx) (a : Act) (hxc : Row x.cA x.r.code.length x.cc 5 (x.r.code.flatMap inV) x.ccs) (hxj : Row x.jA x.jp.length x.jc 1 (x.jp.map txv) x.jcs) (hxl : Row x.lA x.ln.length x.lc 1 (ints x.ln) x.lcs) (h64 : x.r.code.length ≤ 64) (z4 : x.jp.length = x.r.code.length) (z4b : x.ln.length = x.r.code.length)
    (hs : Sl Tryz.f72.ntmps [(0, .pointer (some ⟨x.g, 0, none⟩)), (1, .slice (some ⟨bw, ow, none⟩) (words.length + 1) c), (2, .int .i64 (line : Int)), (7, .int .i64 op), (10, .pointer (some ⟨g10, 0, none⟩)), (12, txv lab)] a) (hm : Mm S0 wB (⟨some g10, 54, [.int .i64 op, .int .i64 a1, .int .i64 a2, .int .i64 a3, .int .i64 m]⟩ :: [⟨some x.g, 93, [slv x.cA x.r.code.length x.cc, slv x.sA x.r.ss.length x.sc, slv x.dA x.ws.length x.dc, .map (some x.m), slv x.jA x.jp.length x.jc, slv x.lA x.ln.length x.lc, .bool x.r.last]⟩, ⟨x.cA, 54, x.ccs⟩, ⟨x.sA, 3, x.scs⟩, ⟨x.dA, 56, x.dcs⟩, ⟨x.jA, 9, x.jcs⟩, ⟨x.lA, 3, x.lcs⟩]) w) (cd : Code) (hcd : (Tryz.f72.body).bind (regOf 46) = some cd) : cd.wp Tryz.prog (fun e a w => e = .normal ∧ ∃ (cA2 : Option Nat) (cc2 : Nat) (ccs2 : List Value) (jA2 : Option Nat) (jc2 : Nat) (jcs2 : List Value) (lA2 : Option Nat) (lc2 : Nat) (lcs2 : List Value), Row cA2 (x.r.code.length + 1) cc2 5 (x.r.code.flatMap inV ++ inV ⟨op, a1, a2, a3, m⟩) ccs2 ∧ Row jA2 (x.jp.length + 1) jc2 1 (x.jp.map txv ++ [txv lab]) jcs2 ∧ Row lA2 (x.ln.length + 1) lc2 1 (ints x.ln ++ [.int .i64 (line : Int)]) lcs2 ∧ Sl Tryz.f72.ntmps [(0, .pointer (some ⟨x.g, 0, none⟩))] a ∧ Mm S0 wB [⟨some x.g, 93, [slv cA2 (x.r.code.length + 1) cc2, slv x.sA x.r.ss.length x.sc, slv x.dA x.ws.length x.dc, .map (some x.m), slv jA2 (x.jp.length + 1) jc2, slv lA2 (x.ln.length + 1) lc2, .bool x.r.last]⟩, ⟨cA2, 54, ccs2⟩, ⟨x.sA, 3, x.scs⟩, ⟨x.dA, 56, x.dcs⟩, ⟨jA2, 9, jcs2⟩, ⟨lA2, 3, lcs2⟩] w) a w := by
  have e : (Tryz.f72.body).bind (regOf 46) = some _ := rfl
  obtain rfl := Option.some.inj (e.symm.trans hcd)
  clear e hcd
  refine cDrawB (n := 35) 28 [⟨some g10, 54, [.int .i64 op, .int .i64 a1, .int .i64 a2, .int .i64 a3, .int .i64 m]⟩, ⟨some x.g, 93, [slv x.cA x.r.code.length x.cc, slv x.sA x.r.ss.length x.sc, slv x.dA x.ws.length x.dc, .map (some x.m), slv x.jA x.jp.length x.jc, slv x.lA x.ln.length x.lc, .bool x.r.last]⟩] hm rfl rfl ?_
  clear hm
  intro w2 hm
  refine bU_ 0 ?_; clear hs a; intro a hs
  refine bU_ 1 ?_; clear hs a; intro a hs
  refine bU_ 2 ?_; clear hs a; intro a hs
  refine bU_ 3 ?_; clear hs a; intro a hs
  refine bU_ 4 ?_; clear hs a; intro a hs
  refine bU_ 5 ?_; clear hs a; intro a hs
  refine bU_ 6 ?_; clear hs a; intro a hs
  refine bTake 7 true hs rfl (by kernel_rfl) (by kernel_rfl) (Wnt.none rfl) rfl rfl (by intro w hm; replace hm : Mm _ _ _ w := hm rfl; exact kl_) (.inr (hm.sub sub_)) ?_; clear hs a; intro a hs
  refine bTake 8 true hs rfl (by kernel_rfl) (by kernel_rfl) (Wnt.none rfl) rfl rfl (by intro w hm; replace hm : Mm _ _ _ w := hm rfl; exact kl_) (.inr (hm.sub sub_)) ?_; clear hs a; intro a hs
  refine bU_ 11 ?_; clear hs a; intro a hs
  refine bU_ 12 ?_; clear hs a; intro a hs
  refine bU_ 13 ?_; clear hs a; intro a hs
  refine bTake 14 true hs rfl (by kernel_rfl) (by kernel_rfl) (Wnt.none rfl) rfl rfl (by intro w hm; replace hm : Mm _ _ _ w := hm rfl; exact kl_) (.inr (hm.sub sub_)) ?_; clear hs a; intro a hs
  refine bU_ 15 ?_; clear hs a; intro a hs
  refine bU_ 18 ?_; clear hs a; intro a hs
  refine bU_ 19 ?_; clear hs a; intro a hs
  refine bU_ 20 ?_; clear hs a; intro a hs
  refine bTake 21 true hs rfl (by kernel_rfl) (by kernel_rfl) (Wnt.none rfl) rfl rfl (by intro w hm; replace hm : Mm _ _ _ w := hm rfl; exact kl_) (.inr (hm.sub sub_)) ?_; clear hs a; intro a hs
  refine bU_ 22 ?_; clear hs a; intro a hs
  refine bEach [9, 16, 23] (by kernel_rfl) (bDo hs rfl (Wnt.none rfl) rfl rfl (by exact d_buildSlice hs rfl tab rfl rfl rfl rfl rfl rfl rfl rfl rfl hm) ?_ (bDo hs rfl (Wnt.none rfl) rfl rfl (by exact d_buildSlice hs rfl tab rfl rfl rfl rfl rfl rfl rfl rfl rfl hm) ?_ (bDo hs rfl (Wnt.none rfl) rfl rfl (by exact d_buildSlice hs rfl tab rfl rfl rfl rfl rfl rfl rfl rfl rfl hm) ?_ bNil)))
  · skip
    clear hs hm a
    rintro _ w29 ⟨g152, rfl, -, hm⟩ a hs
    refine ⟨.inr (hm.sub sub_), ?_⟩
    refine bEach [10, 16, 23] (by kernel_rfl) (bDo hs rfl (Wnt.none rfl) rfl rfl (d_append (A := x.cA) (n := x.r.code.length) (c := x.cc) (news := inV ⟨op, a1, a2, a3, m⟩) hs rfl rfl rfl rfl rfl tab rfl rfl rfl rfl rfl hm mem_ hxc rfl (hm.ro (n := 5) mem_ (cutF_ok rfl)) rfl (by show (x.r.code.length + 1) * 40 ≤ _; omega) (by omega)) ?_ (bDo hs rfl (Wnt.none rfl) rfl rfl (by exact d_buildSlice hs rfl tab rfl rfl rfl rfl rfl rfl rfl rfl rfl hm) ?_ (bDo hs rfl (Wnt.none rfl) rfl rfl (by exact d_buildSlice hs rfl tab rfl rfl rfl rfl rfl rfl rfl rfl rfl hm) ?_ bNil)))
    · skip
      clear hs
      rintro _ w1 ⟨cA2, cc2, ccs2, rfl, hr10, hM⟩ a hs
      replace hm := hM _ rep_
      clear hM
      refine ⟨.inr (hm.sub sub_), ?_⟩
      refine bEach [16, 23] (by kernel_rfl) (bDo hs rfl (Wnt.none rfl) rfl rfl (by exact d_buildSlice hs rfl tab rfl rfl rfl rfl rfl rfl rfl rfl rfl hm) ?_ (bDo hs rfl (Wnt.none rfl) rfl rfl (by exact d_buildSlice hs rfl tab rfl rfl rfl rfl rfl rfl rfl rfl rfl hm) ?_ bNil))
      · skip
        clear hs hm a
        rintro _ w36 ⟨g159, rfl, -, hm⟩ a hs
        refine ⟨.inr (hm.sub sub_), ?_⟩
        refine bEach [17, 23] (by kernel_rfl) (bDo hs rfl (Wnt.none rfl) rfl rfl (d_append (A := x.jA) (n := x.jp.length) (c := x.jc) (news := [txv lab]) hs rfl rfl rfl rfl rfl tab rfl rfl rfl rfl rfl hm mem_ hxj rfl (hm.ro (n := 1) mem_ (cutF_ok rfl)) rfl (by show (x.jp.length + 1) * 16 ≤ _; omega) (by omega)) ?_ (bDo hs rfl (Wnt.none rfl) rfl rfl (by exact d_buildSlice hs rfl tab rfl rfl rfl rfl rfl rfl rfl rfl rfl hm) ?_ bNil))
        · skip
          clear hs
          rintro _ w1 ⟨jA2, jc2, jcs2, rfl, hr17, hM⟩ a hs
          replace hm := hM _ rep_
          clear hM
          refine ⟨.inr (hm.sub sub_), ?_⟩
          refine bEach [23] (by kernel_rfl) (bDo hs rfl (Wnt.none rfl) rfl rfl (by exact d_buildSlice hs rfl tab rfl rfl rfl rfl rfl rfl rfl rfl rfl hm) ?_ bNil)
          clear hs hm a
          rintro _ w43 ⟨g166, rfl, -, hm⟩ a hs
          refine ⟨.inr (hm.sub sub_), ?_⟩
          refine bEach [24] (by kernel_rfl) (bDo hs rfl (Wnt.none rfl) rfl rfl (d_append (A := x.lA) (n := x.ln.length) (c := x.lc) (news := [.int .i64 (line : Int)]) hs rfl rfl rfl rfl rfl tab rfl rfl rfl rfl rfl hm mem_ hxl rfl (hm.ro (n := 1) mem_ (cutF_ok rfl)) rfl (by show (x.ln.length + 1) * 8 ≤ _; omega) (by omega)) ?_ bNil)
          clear hs
          rintro _ w1 ⟨lA2, lc2, lcs2, rfl, hr24, hM⟩ a hs
          replace hm := hM _ rep_
          clear hM
          refine ⟨.inr (hm.sub sub_), ?_⟩
          refine bU_ 25 ?_; clear hs a; intro a hs
          refine bU_ 26 ?_; clear hs a; intro a hs
          refine bU_ 27 ?_; clear hs a; intro a hs
          refine bEach [28] (by kernel_rfl) (bDoN hs rfl (Wnt.none rfl) rfl ds_ ?_ bNil)
          clear hs hm
          rintro - w48 hm a hs
          refine ⟨.inl (by kernel_rfl), ?_⟩
          refine bW_ 29 ?_; clear hs a; intro a hs
          refine bW_ 30 ?_; clear hs a; intro a hs
          refine bEach [31] (by kernel_rfl) (bDoN hs rfl (Wnt.none rfl) rfl ds_ ?_ bNil)
          clear hs hm
          rintro - w51 hm a hs
          refine ⟨.inl (by kernel_rfl), ?_⟩
          refine bW_ 32 ?_; clear hs a; intro a hs
          refine bW_ 33 ?_; clear hs a; intro a hs
          refine bEach [34] (by kernel_rfl) (bDoN hs rfl (Wnt.none rfl) rfl ds_ ?_ bNil)
          clear hs hm
          rintro - w54 hm a hs
          refine ⟨.inl (by kernel_rfl), ?_⟩
          refine bDone (by kernel_rfl) ?_
          exact And.intro rfl ⟨cA2, cc2, ccs2, jA2, jc2, jcs2, lA2, lc2, lcs2, hr10, hr17, hr24, hs.sub (Has.all ⟨rfl, trivial⟩), hm.sub sub_⟩
        · skip
          clear hs hm a
          rintro _ w43 ⟨g166, rfl, -, hm⟩ a hs
          refine ⟨.inr (hm.sub sub_), ?_⟩
          refine bEach [17] (by kernel_rfl) (bDo hs rfl (Wnt.none rfl) rfl rfl (d_append (A := x.jA) (n := x.jp.length) (c := x.jc) (news := [txv lab]) hs rfl rfl rfl rfl rfl tab rfl rfl rfl rfl rfl hm mem_ hxj rfl (hm.ro (n := 1) mem_ (cutF_ok rfl)) rfl (by show (x.jp.length + 1) * 16 ≤ _; omega) (by omega)) ?_ bNil)
          clear hs
          rintro _ w1 ⟨jA2, jc2, jcs2, rfl, hr17, hM⟩ a hs
          replace hm := hM _ rep_
          clear hM
          refine ⟨.inr (hm.sub sub_), ?_⟩
          refine bEach [24] (by kernel_rfl) (bDo hs rfl (Wnt.none rfl) rfl rfl (d_append (A := x.lA) (n := x.ln.length) (c := x.lc) (news := [.int .i64 (line : Int)]) hs rfl rfl rfl rfl rfl tab rfl rfl rfl rfl rfl hm mem_ hxl rfl (hm.ro (n := 1) mem_ (cutF_ok rfl)) rfl (by show (x.ln.length + 1) * 8 ≤ _; omega) (by omega)) ?_ bNil)
          clear hs
          rintro _ w1 ⟨lA2, lc2, lcs2, rfl, hr24, hM⟩ a hs
          replace hm := hM _ rep_
          clear hM
          refine ⟨.inr (hm.sub sub_), ?_⟩
          refine bU_ 25 ?_; clear hs a; intro a hs
          refine bU_ 26 ?_; clear hs a; intro a hs
          refine bU_ 27 ?_; clear hs a; intro a hs
          refine bEach [28] (by kernel_rfl) (bDoN hs rfl (Wnt.none rfl) rfl ds_ ?_ bNil)
          clear hs hm
          rintro - w48 hm a hs
          refine ⟨.inl (by kernel_rfl), ?_⟩
          refine bW_ 29 ?_; clear hs a; intro a hs
          refine bW_ 30 ?_; clear hs a; intro a hs
          refine bEach [31] (by kernel_rfl) (bDoN hs rfl (Wnt.none rfl) rfl ds_ ?_ bNil)
          clear hs hm
          rintro - w51 hm a hs
          refine ⟨.inl (by kernel_rfl), ?_⟩
          refine bW_ 32 ?_; clear hs a; intro a hs
          refine bW_ 33 ?_; clear hs a; intro a hs
          refine bEach [34] (by kernel_rfl) (bDoN hs rfl (Wnt.none rfl) rfl ds_ ?_ bNil)
          clear hs hm
          rintro - w54 hm a hs
          refine ⟨.inl (by kernel_rfl), ?_⟩
          refine bDone (by kernel_rfl) ?_
          exact And.intro rfl ⟨cA2, cc2, ccs2, jA2, jc2, jcs2, lA2, lc2, lcs2, hr10, hr17, hr24, hs.sub (Has.all ⟨rfl, trivial⟩), hm.sub sub_⟩
      · skip
        clear hs hm a
        rintro _ w43 ⟨g166, rfl, -, hm⟩ a hs
        refine ⟨.inr (hm.sub sub_), ?_⟩
        refine bEach [16] (by kernel_rfl) (bDo hs rfl (Wnt.none rfl) rfl rfl (by exact d_buildSlice hs rfl tab rfl rfl rfl rfl rfl rfl rfl rfl rfl hm) ?_ bNil)
        clear hs hm a
        rintro _ w36 ⟨g159, rfl, -, hm⟩ a hs
        refine ⟨.inr (hm.sub sub_), ?_⟩
        refine bEach [17] (by kernel_rfl) (bDo hs rfl (Wnt.none rfl) rfl rfl (d_append (A := x.jA) (n := x.jp.length) (c := x.jc) (news := [txv lab]) hs rfl rfl rfl rfl rfl tab rfl rfl rfl rfl rfl hm mem_ hxj rfl (hm.ro (n := 1) mem_ (cutF_ok rfl)) rfl (by show (x.jp.length + 1) * 16 ≤ _; omega) (by omega)) ?_ bNil)
        clear hs
        rintro _ w1 ⟨jA2, jc2, jcs2, rfl, hr17, hM⟩ a hs
        replace hm := hM _ rep_
        clear hM
        refine ⟨.inr (hm.sub sub_), ?_⟩
        refine bEach [24] (by kernel_rfl) (bDo hs rfl (Wnt.none rfl) rfl rfl (d_append (A := x.lA) (n := x.ln.length) (c := x.lc) (news := [.int .i64 (line : Int)]) hs rfl rfl rfl rfl rfl tab rfl rfl rfl rfl rfl hm mem_ hxl rfl (hm.ro (n := 1) mem_ (cutF_ok rfl)) rfl (by show (x.ln.length + 1) * 8 ≤ _; omega) (by omega)) ?_ bNil)
        clear hs
        rintro _ w1 ⟨lA2, lc2, lcs2, rfl, hr24, hM⟩ a hs
        replace hm := hM _ rep_
        clear hM
        refine ⟨.inr (hm.sub sub_), ?_⟩
        refine bU_ 25 ?_; clear hs a; intro a hs
        refine bU_ 26 ?_; clear hs a; intro a hs
        refine bU_ 27 ?_; clear hs a; intro a hs
        refine bEach [28] (by kernel_rfl) (bDoN hs rfl (Wnt.none rfl) rfl ds_ ?_ bNil)
        clear hs hm
        rintro - w48 hm a hs
        refine ⟨.inl (by kernel_rfl), ?_⟩
        refine bW_ 29 ?_; clear hs a; intro a hs
        refine bW_ 30 ?_; clear hs a; intro a hs
        refine bEach [31] (by kernel_rfl) (bDoN hs rfl (Wnt.none rfl) rfl ds_ ?_ bNil)
        clear hs hm
        rintro - w51 hm a hs
        refine ⟨.inl (by kernel_rfl), ?_⟩
        refine bW_ 32 ?_; clear hs a; intro a hs
        refine bW_ 33 ?_; clear hs a; intro a hs
        refine bEach [34] (by kernel_rfl) (bDoN hs rfl (Wnt.none rfl) rfl ds_ ?_ bNil)
        clear hs hm
        rintro - w54 hm a hs
        refine ⟨.inl (by kernel_rfl), ?_⟩
        refine bDone (by kernel_rfl) ?_
        exact And.intro rfl ⟨cA2, cc2, ccs2, jA2, jc2, jcs2, lA2, lc2, lcs2, hr10, hr17, hr24, hs.sub (Has.all ⟨rfl, trivial⟩), hm.sub sub_⟩
    · skip
      clear hs hm a
      rintro _ w36 ⟨g159, rfl, -, hm⟩ a hs
      refine ⟨.inr (hm.sub sub_), ?_⟩
      refine bEach [10, 23] (by kernel_rfl) (bDo hs rfl (Wnt.none rfl) rfl rfl (d_append (A := x.cA) (n := x.r.code.length) (c := x.cc) (news := inV ⟨op, a1, a2, a3, m⟩) hs rfl rfl rfl rfl rfl tab rfl rfl rfl rfl rfl hm mem_ hxc rfl (hm.ro (n := 5) mem_ (cutF_ok rfl)) rfl (by show (x.r.code.length + 1) * 40 ≤ _; omega) (by omega)) ?_ (bDo hs rfl (Wnt.none rfl) rfl rfl (by exact d_buildSlice hs rfl tab rfl rfl rfl rfl rfl rfl rfl rfl rfl hm) ?_ bNil))
      · skip
        clear hs
        rintro _ w1 ⟨cA2, cc2, ccs2, rfl, hr10, hM⟩ a hs
        replace hm := hM _ rep_
        clear hM
        refine ⟨.inr (hm.sub sub_), ?_⟩
        refine bEach [17, 23] (by kernel_rfl) (bDo hs rfl (Wnt.none rfl) rfl rfl (d_append (A := x.jA) (n := x.jp.length) (c := x.jc) (news := [txv lab]) hs rfl rfl rfl rfl rfl tab rfl rfl rfl rfl rfl hm mem_ hxj rfl (hm.ro (n := 1) mem_ (cutF_ok rfl)) rfl (by show (x.jp.length + 1) * 16 ≤ _; omega) (by omega)) ?_ (bDo hs rfl (Wnt.none rfl) rfl rfl (by exact d_buildSlice hs rfl tab rfl rfl rfl rfl rfl rfl rfl rfl rfl hm) ?_ bNil))
        · skip
          clear hs
          rintro _ w1 ⟨jA2, jc2, jcs2, rfl, hr17, hM⟩ a hs
          replace hm := hM _ rep_
          clear hM
          refine ⟨.inr (hm.sub sub_), ?_⟩
          refine bEach [23] (by kernel_rfl) (bDo hs rfl (Wnt.none rfl) rfl rfl (by exact d_buildSlice hs rfl tab rfl rfl rfl rfl rfl rfl rfl rfl rfl hm) ?_ bNil)
          clear hs hm a
          rintro _ w43 ⟨g166, rfl, -, hm⟩ a hs
          refine ⟨.inr (hm.sub sub_), ?_⟩
          refine bEach [24] (by kernel_rfl) (bDo hs rfl (Wnt.none rfl) rfl rfl (d_append (A := x.lA) (n := x.ln.length) (c := x.lc) (news := [.int .i64 (line : Int)]) hs rfl rfl rfl rfl rfl tab rfl rfl rfl rfl rfl hm mem_ hxl rfl (hm.ro (n := 1) mem_ (cutF_ok rfl)) rfl (by show (x.ln.length + 1) * 8 ≤ _; omega) (by omega)) ?_ bNil)
          clear hs
          rintro _ w1 ⟨lA2, lc2, lcs2, rfl, hr24, hM⟩ a hs
          replace hm := hM _ rep_
          clear hM
          refine ⟨.inr (hm.sub sub_), ?_⟩
          refine bU_ 25 ?_; clear hs a; intro a hs
          refine bU_ 26 ?_; clear hs a; intro a hs
          refine bU_ 27 ?_; clear hs a; intro a hs
          refine bEach [28] (by kernel_rfl) (bDoN hs rfl (Wnt.none rfl) rfl ds_ ?_ bNil)
          clear hs hm
          rintro - w48 hm a hs
          refine ⟨.inl (by kernel_rfl), ?_⟩
          refine bW_ 29 ?_; clear hs a; intro a hs
          refine bW_ 30 ?_; clear hs a; intro a hs
          refine bEach [31] (by kernel_rfl) (bDoN hs rfl (Wnt.none rfl) rfl ds_ ?_ bNil)
          clear hs hm
          rintro - w51 hm a hs
          refine ⟨.inl (by kernel_rfl), ?_⟩
          refine bW_ 32 ?_; clear hs a; intro a hs
          refine bW_ 33 ?_; clear hs a; intro a hs
          refine bEach [34] (by kernel_rfl) (bDoN hs rfl (Wnt.none rfl) rfl ds_ ?_ bNil)
          clear hs hm
          rintro - w54 hm a hs
          refine ⟨.inl (by kernel_rfl), ?_⟩
          refine bDone (by kernel_rfl) ?_
          exact And.intro rfl ⟨cA2, cc2, ccs2, jA2, jc2, jcs2, lA2, lc2, lcs2, hr10, hr17, hr24, hs.sub (Has.all ⟨rfl, trivial⟩), hm.sub sub_⟩
        · skip
          clear hs hm a
          rintro _ w43 ⟨g166, rfl, -, hm⟩ a hs
          refine ⟨.inr (hm.sub sub_), ?_⟩
          refine bEach [17] (by kernel_rfl) (bDo hs rfl (Wnt.none rfl) rfl rfl (d_append (A := x.jA) (n := x.jp.length) (c := x.jc) (news := [txv lab]) hs rfl rfl rfl rfl rfl tab rfl rfl rfl rfl rfl hm mem_ hxj rfl (hm.ro (n := 1) mem_ (cutF_ok rfl)) rfl (by show (x.jp.length + 1) * 16 ≤ _; omega) (by omega)) ?_ bNil)
          clear hs
          rintro _ w1 ⟨jA2, jc2, jcs2, rfl, hr17, hM⟩ a hs
          replace hm := hM _ rep_
          clear hM
          refine ⟨.inr (hm.sub sub_), ?_⟩
          refine bEach [24] (by kernel_rfl) (bDo hs rfl (Wnt.none rfl) rfl rfl (d_append (A := x.lA) (n := x.ln.length) (c := x.lc) (news := [.int .i64 (line : Int)]) hs rfl rfl rfl rfl rfl tab rfl rfl rfl rfl rfl hm mem_ hxl rfl (hm.ro (n := 1) mem_ (cutF_ok rfl)) rfl (by show (x.ln.length + 1) * 8 ≤ _; omega) (by omega)) ?_ bNil)
          clear hs
          rintro _ w1 ⟨lA2, lc2, lcs2, rfl, hr24, hM⟩ a hs
          replace hm := hM _ rep_
          clear hM
          refine ⟨.inr (hm.sub sub_), ?_⟩
          refine bU_ 25 ?_; clear hs a; intro a hs
          refine bU_ 26 ?_; clear hs a; intro a hs
          refine bU_ 27 ?_; clear hs a; intro a hs
          refine bEach [28] (by kernel_rfl) (bDoN hs rfl (Wnt.none rfl) rfl ds_ ?_ bNil)
          clear hs hm
          rintro - w48 hm a hs
          refine ⟨.inl (by kernel_rfl), ?_⟩
          refine bW_ 29 ?_; clear hs a; intro a hs
          refine bW_ 30 ?_; clear hs a; intro a hs
          refine bEach [31] (by kernel_rfl) (bDoN hs rfl (Wnt.none rfl) rfl ds_ ?_ bNil)
          clear hs hm
          rintro - w51 hm a hs
          refine ⟨.inl (by kernel_rfl), ?_⟩
          refine bW_ 32 ?_; clear hs a; intro a hs
          refine bW_ 33 ?_; clear hs a; intro a hs
          refine bEach [34] (by kernel_rfl) (bDoN hs rfl (Wnt.none rfl) rfl ds_ ?_ bNil)
          clear hs hm
          rintro - w54 hm a hs
          refine ⟨.inl (by kernel_rfl), ?_⟩
          refine bDone (by kernel_rfl) ?_
          exact And.intro rfl ⟨cA2, cc2, ccs2, jA2, jc2, jcs2, lA2, lc2, lcs2, hr10, hr17, hr24, hs.sub (Has.all ⟨rfl, trivial⟩), hm.sub sub_⟩
      · skip
        clear hs hm a
        rintro _ w43 ⟨g166, rfl, -, hm⟩ a hs
        refine ⟨.inr (hm.sub sub_), ?_⟩
        refine bEach [10] (by kernel_rfl) (bDo hs rfl (Wnt.none rfl) rfl rfl (d_append (A := x.cA) (n := x.r.code.length) (c := x.cc) (news := inV ⟨op, a1, a2, a3, m⟩) hs rfl rfl rfl rfl rfl tab rfl rfl rfl rfl rfl hm mem_ hxc rfl (hm.ro (n := 5) mem_ (cutF_ok rfl)) rfl (by show (x.r.code.length + 1) * 40 ≤ _; omega) (by omega)) ?_ bNil)
        clear hs
        rintro _ w1 ⟨cA2, cc2, ccs2, rfl, hr10, hM⟩ a hs
        replace hm := hM _ rep_
        clear hM
        refine ⟨.inr (hm.sub sub_), ?_⟩
        refine bEach [17] (by kernel_rfl) (bDo hs rfl (Wnt.none rfl) rfl rfl (d_append (A := x.jA) (n := x.jp.length) (c := x.jc) (news := [txv lab]) hs rfl rfl rfl rfl rfl tab rfl rfl rfl rfl rfl hm mem_ hxj rfl (hm.ro (n := 1) mem_ (cutF_ok rfl)) rfl (by show (x.jp.length + 1) * 16 ≤ _; omega) (by omega)) ?_ bNil)
        clear hs
        rintro _ w1 ⟨jA2, jc2, jcs2, rfl, hr17, hM⟩ a hs
        replace hm := hM _ rep_
        clear hM
        refine ⟨.inr (hm.sub sub_), ?_⟩
        refine bEach [24] (by kernel_rfl) (bDo hs rfl (Wnt.none rfl) rfl rfl (d_append (A := x.lA) (n := x.ln.length) (c := x.lc) (news := [.int .i64 (line : Int)]) hs rfl rfl rfl rfl rfl tab rfl rfl rfl rfl rfl hm mem_ hxl rfl (hm.ro (n := 1) mem_ (cutF_ok rfl)) rfl (by show (x.ln.length + 1) * 8 ≤ _; omega) (by omega)) ?_ bNil)
        clear hs
        rintro _ w1 ⟨lA2, lc2, lcs2, rfl, hr24, hM⟩ a hs
        replace hm := hM _ rep_
        clear hM
        refine ⟨.inr (hm.sub sub_), ?_⟩
        refine bU_ 25 ?_; clear hs a; intro a hs
        refine bU_ 26 ?_; clear hs a; intro a hs
        refine bU_ 27 ?_; clear hs a; intro a hs
        refine bEach [28] (by kernel_rfl) (bDoN hs rfl (Wnt.none rfl) rfl ds_ ?_ bNil)
        clear hs hm
        rintro - w48 hm a hs
        refine ⟨.inl (by kernel_rfl), ?_⟩
        refine bW_ 29 ?_; clear hs a; intro a hs
        refine bW_ 30 ?_; clear hs a; intro a hs
        refine bEach [31] (by kernel_rfl) (bDoN hs rfl (Wnt.none rfl) rfl ds_ ?_ bNil)
        clear hs hm
        rintro - w51 hm a hs
        refine ⟨.inl (by kernel_rfl), ?_⟩
        refine bW_ 32 ?_; clear hs a; intro a hs
        refine bW_ 33 ?_; clear hs a; intro a hs
        refine bEach [34] (by kernel_rfl) (bDoN hs rfl (Wnt.none rfl) rfl ds_ ?_ bNil)
        clear hs hm
        rintro - w54 hm a hs
        refine ⟨.inl (by kernel_rfl), ?_⟩
        refine bDone (by kernel_rfl) ?_
        exact And.intro rfl ⟨cA2, cc2, ccs2, jA2, jc2, jcs2, lA2, lc2, lcs2, hr10, hr17, hr24, hs.sub (Has.all ⟨rfl, trivial⟩), hm.sub sub_⟩
    · skip
      clear hs hm a
      rintro _ w43 ⟨g166, rfl, -, hm⟩ a hs
      refine ⟨.inr (hm.sub sub_), ?_⟩
      refine bEach [10, 16] (by kernel_rfl) (bDo hs rfl (Wnt.none rfl) rfl rfl (d_append (A := x.cA) (n := x.r.code.length) (c := x.cc) (news := inV ⟨op, a1, a2, a3, m⟩) hs rfl rfl rfl rfl rfl tab rfl rfl rfl rfl rfl hm mem_ hxc rfl (hm.ro (n := 5) mem_ (cutF_ok rfl)) rfl (by show (x.r.code.length + 1) * 40 ≤ _; omega) (by omega)) ?_ (bDo hs rfl (Wnt.none rfl) rfl rfl (by exact d_buildSlice hs rfl tab rfl rfl rfl rfl rfl rfl rfl rfl rfl hm) ?_ bNil))
      · skip
        clear hs
        rintro _ w1 ⟨cA2, cc2, ccs2, rfl, hr10, hM⟩ a hs
        replace hm := hM _ rep_
        clear hM
        refine ⟨.inr (hm.sub sub_), ?_⟩
        refine bEach [16] (by kernel_rfl) (bDo hs rfl (Wnt.none rfl) rfl rfl (by exact d_buildSlice hs rfl tab rfl rfl rfl rfl rfl rfl rfl rfl rfl hm) ?_ bNil)
        clear hs hm a
        rintro _ w36 ⟨g159, rfl, -, hm⟩ a hs
        refine ⟨.inr (hm.sub sub_), ?_⟩
        refine bEach [17] (by kernel_rfl) (bDo hs rfl (Wnt.none rfl) rfl rfl (d_append (A := x.jA) (n := x.jp.length) (c := x.jc) (news := [txv lab]) hs rfl rfl rfl rfl rfl tab rfl rfl rfl rfl rfl hm mem_ hxj rfl (hm.ro (n := 1) mem_ (cutF_ok rfl)) rfl (by show (x.jp.length + 1) * 16 ≤ _; omega) (by omega)) ?_ bNil)
        clear hs
        rintro _ w1 ⟨jA2, jc2, jcs2, rfl, hr17, hM⟩ a hs
        replace hm := hM _ rep_
        clear hM
        refine ⟨.inr (hm.sub sub_), ?_⟩
        refine bEach [24] (by kernel_rfl) (bDo hs rfl (Wnt.none rfl) rfl rfl (d_append (A := x.lA) (n := x.ln.length) (c := x.lc) (news := [.int .i64 (line : Int)]) hs rfl rfl rfl rfl rfl tab rfl rfl rfl rfl rfl hm mem_ hxl rfl (hm.ro (n := 1) mem_ (cutF_ok rfl)) rfl (by show (x.ln.length + 1) * 8 ≤ _; omega) (by omega)) ?_ bNil)
        clear hs
        rintro _ w1 ⟨lA2, lc2, lcs2, rfl, hr24, hM⟩ a hs
        replace hm := hM _ rep_
        clear hM
        refine ⟨.inr (hm.sub sub_), ?_⟩
        refine bU_ 25 ?_; clear hs a; intro a hs
        refine bU_ 26 ?_; clear hs a; intro a hs
        refine bU_ 27 ?_; clear hs a; intro a hs
        refine bEach [28] (by kernel_rfl) (bDoN hs rfl (Wnt.none rfl) rfl ds_ ?_ bNil)
        clear hs hm
        rintro - w48 hm a hs
        refine ⟨.inl (by kernel_rfl), ?_⟩
        refine bW_ 29 ?_; clear hs a; intro a hs
        refine bW_ 30 ?_; clear hs a; intro a hs
        refine bEach [31] (by kernel_rfl) (bDoN hs rfl (Wnt.none rfl) rfl ds_ ?_ bNil)
        clear hs hm
        rintro - w51 hm a hs
        refine ⟨.inl (by kernel_rfl), ?_⟩
        refine bW_ 32 ?_; clear hs a; intro a hs
        refine bW_ 33 ?_; clear hs a; intro a hs
        refine bEach [34] (by kernel_rfl) (bDoN hs rfl (Wnt.none rfl) rfl ds_ ?_ bNil)
        clear hs hm
        rintro - w54 hm a hs
        refine ⟨.inl (by kernel_rfl), ?_⟩
        refine bDone (by kernel_rfl) ?_
        exact And.intro rfl ⟨cA2, cc2, ccs2, jA2, jc2, jcs2, lA2, lc2, lcs2, hr10, hr17, hr24, hs.sub (Has.all ⟨rfl, trivial⟩), hm.sub sub_⟩
      · skip
        clear hs hm a
        rintro _ w36 ⟨g159, rfl, -, hm⟩ a hs
        refine ⟨.inr (hm.sub sub_), ?_⟩
        refine bEach [10] (by kernel_rfl) (bDo hs rfl (Wnt.none rfl) rfl rfl (d_append (A := x.cA) (n := x.r.code.length) (c := x.cc) (news := inV ⟨op, a1, a2, a3, m⟩) hs rfl rfl rfl rfl rfl tab rfl rfl rfl rfl rfl hm mem_ hxc rfl (hm.ro (n := 5) mem_ (cutF_ok rfl)) rfl (by show (x.r.code.length + 1) * 40 ≤ _; omega) (by omega)) ?_ bNil)
        clear hs
        rintro _ w1 ⟨cA2, cc2, ccs2, rfl, hr10, hM⟩ a hs
        replace hm := hM _ rep_
        clear hM
        refine ⟨.inr (hm.sub sub_), ?_⟩
        refine bEach [17] (by kernel_rfl) (bDo hs rfl (Wnt.none rfl) rfl rfl (d_append (A := x.jA) (n := x.jp.length) (c := x.jc) (news := [txv lab]) hs rfl rfl rfl rfl rfl tab rfl rfl rfl rfl rfl hm mem_ hxj rfl (hm.ro (n := 1) mem_ (cutF_ok rfl)) rfl (by show (x.jp.length + 1) * 16 ≤ _; omega) (by omega)) ?_ bNil)
        clear hs
        rintro _ w1 ⟨jA2, jc2, jcs2, rfl, hr17, hM⟩ a hs
        replace hm := hM _ rep_
        clear hM
        refine ⟨.inr (hm.sub sub_), ?_⟩
        refine bEach [24] (by kernel_rfl) (bDo hs rfl (Wnt.none rfl) rfl rfl (d_append (A := x.lA) (n := x.ln.length) (c := x.lc) (news := [.int .i64 (line : Int)]) hs rfl rfl rfl rfl rfl tab rfl rfl rfl rfl rfl hm mem_ hxl rfl (hm.ro (n := 1) mem_ (cutF_ok rfl)) rfl (by show (x.ln.length + 1) * 8 ≤ _; omega) (by omega)) ?_ bNil)
        clear hs
        rintro _ w1 ⟨lA2, lc2, lcs2, rfl, hr24, hM⟩ a hs
        replace hm := hM _ rep_
        clear hM
        refine ⟨.inr (hm.sub sub_), ?_⟩
        refine bU_ 25 ?_; clear hs a; intro a hs
        refine bU_ 26 ?_; clear hs a; intro a hs
        refine bU_ 27 ?_; clear hs a; intro a hs
        refine bEach [28] (by kernel_rfl) (bDoN hs rfl (Wnt.none rfl) rfl ds_ ?_ bNil)
        clear hs hm
        rintro - w48 hm a hs
        refine ⟨.inl (by kernel_rfl), ?_⟩
        refine bW_ 29 ?_; clear hs a; intro a hs
        refine bW_ 30 ?_; clear hs a; intro a hs
        refine bEach [31] (by kernel_rfl) (bDoN hs rfl (Wnt.none rfl) rfl ds_ ?_ bNil)
        clear hs hm
        rintro - w51 hm a hs
        refine ⟨.inl (by kernel_rfl), ?_⟩
        refine bW_ 32 ?_; clear hs a; intro a hs
        refine bW_ 33 ?_; clear hs a; intro a hs
        refine bEach [34] (by kernel_rfl) (bDoN hs rfl (Wnt.none rfl) rfl ds_ ?_ bNil)
        clear hs hm
        rintro - w54 hm a hs
        refine ⟨.inl (by kernel_rfl), ?_⟩
        refine bDone (by kernel_rfl) ?_
        exact And.intro rfl ⟨cA2, cc2, ccs2, jA2, jc2, jcs2, lA2, lc2, lcs2, hr10, hr17, hr24, hs.sub (Has.all ⟨rfl, trivial⟩), hm.sub sub_⟩
  · skip
    clear hs hm a
    rintro _ w36 ⟨g159, rfl, -, hm⟩ a hs
    refine ⟨.inr (hm.sub sub_), ?_⟩
    refine bEach [9, 23] (by kernel_rfl) (bDo hs rfl (Wnt.none rfl) rfl rfl (by exact d_buildSlice hs rfl tab rfl rfl rfl rfl rfl rfl rfl rfl rfl hm) ?_ (bDo hs rfl (Wnt.none rfl) rfl rfl (by exact d_buildSlice hs rfl tab rfl rfl rfl rfl rfl rfl rfl rfl rfl hm) ?_ bNil))
    · skip
      clear hs hm a
      rintro _ w29 ⟨g152, rfl, -, hm⟩ a hs
      refine ⟨.inr (hm.sub sub_), ?_⟩
      refine bEach [10, 23] (by kernel_rfl) (bDo hs rfl (Wnt.none rfl) rfl rfl (d_append (A := x.cA) (n := x.r.code.length) (c := x.cc) (news := inV ⟨op, a1, a2, a3, m⟩) hs rfl rfl rfl rfl rfl tab rfl rfl rfl rfl rfl hm mem_ hxc rfl (hm.ro (n := 5) mem_ (cutF_ok rfl)) rfl (by show (x.r.code.length + 1) * 40 ≤ _; omega) (by omega)) ?_ (bDo hs rfl (Wnt.none rfl) rfl rfl (by exact d_buildSlice hs rfl tab rfl rfl rfl rfl rfl rfl rfl rfl rfl hm) ?_ bNil))
      · skip
        clear hs
        rintro _ w1 ⟨cA2, cc2, ccs2, rfl, hr10, hM⟩ a hs
        replace hm := hM _ rep_
        clear hM
        refine ⟨.inr (hm.sub sub_), ?_⟩
        refine bEach [17, 23] (by kernel_rfl) (bDo hs rfl (Wnt.none rfl) rfl rfl (d_append (A := x.jA) (n := x.jp.length) (c := x.jc) (news := [txv lab]) hs rfl rfl rfl rfl rfl tab rfl rfl rfl rfl rfl hm mem_ hxj rfl (hm.ro (n := 1) mem_ (cutF_ok rfl)) rfl (by show (x.jp.length + 1) * 16 ≤ _; omega) (by omega)) ?_ (bDo hs rfl (Wnt.none rfl) rfl rfl (by exact d_buildSlice hs rfl tab rfl rfl rfl rfl rfl rfl rfl rfl rfl hm) ?_ bNil))
        · skip
          clear hs
          rintro _ w1 ⟨jA2, jc2, jcs2, rfl, hr17, hM⟩ a hs
          replace hm := hM _ rep_
          clear hM
          refine ⟨.inr (hm.sub sub_), ?_⟩
          refine bEach [23] (by kernel_rfl) (bDo hs rfl (Wnt.none rfl) rfl rfl (by exact d_buildSlice hs rfl tab rfl rfl rfl rfl rfl rfl rfl rfl rfl hm) ?_ bNil)
          clear hs hm a
          rintro _ w43 ⟨g166, rfl, -, hm⟩ a hs
          refine ⟨.inr (hm.sub sub_), ?_⟩
          refine bEach [24] (by kernel_rfl) (bDo hs rfl (Wnt.none rfl) rfl rfl (d_append (A := x.lA) (n := x.ln.length) (c := x.lc) (news := [.int .i64 (line : Int)]) hs rfl rfl rfl rfl rfl tab rfl rfl rfl rfl rfl hm mem_ hxl rfl (hm.ro (n := 1) mem_ (cutF_ok rfl)) rfl (by show (x.ln.length + 1) * 8 ≤ _; omega) (by omega)) ?_ bNil)
          clear hs
          rintro _ w1 ⟨lA2, lc2, lcs2, rfl, hr24, hM⟩ a hs
          replace hm := hM _ rep_
          clear hM
          refine ⟨.inr (hm.sub sub_), ?_⟩
          refine bU_ 25 ?_; clear hs a; intro a hs
          refine bU_ 26 ?_; clear hs a; intro a hs
          refine bU_ 27 ?_; clear hs a; intro a hs
          refine bEach [28] (by kernel_rfl) (bDoN hs rfl (Wnt.none rfl) rfl ds_ ?_ bNil)
          clear hs hm
          rintro - w48 hm a hs
          refine ⟨.inl (by kernel_rfl), ?_⟩
          refine bW_ 29 ?_; clear hs a; intro a hs
          refine bW_ 30 ?_; clear hs a; intro a hs
          refine bEach [31] (by kernel_rfl) (bDoN hs rfl (Wnt.none rfl) rfl ds_ ?_ bNil)
          clear hs hm
          rintro - w51 hm a hs
          refine ⟨.inl (by kernel_rfl), ?_⟩
          refine bW_ 32 ?_; clear hs a; intro a hs
          refine bW_ 33 ?_; clear hs a; intro a hs
          refine bEach [34] (by kernel_rfl) (bDoN hs rfl (Wnt.none rfl) rfl ds_ ?_ bNil)
          clear hs hm
          rintro - w54 hm a hs
          refine ⟨.inl (by kernel_rfl), ?_⟩
          refine bDone (by kernel_rfl) ?_
          exact And.intro rfl ⟨cA2, cc2, ccs2, jA2, jc2, jcs2, lA2, lc2, lcs2, hr10, hr17, hr24, hs.sub (Has.all ⟨rfl, trivial⟩), hm.sub sub_⟩
        · skip
          clear hs hm a
          rintro _ w43 ⟨g166, rfl, -, hm⟩ a hs
          refine ⟨.inr (hm.sub sub_), ?_⟩
          refine bEach [17] (by kernel_rfl) (bDo hs rfl (Wnt.none rfl) rfl rfl (d_append (A := x.jA) (n := x.jp.length) (c := x.jc) (news := [txv lab]) hs rfl rfl rfl rfl rfl tab rfl rfl rfl rfl rfl hm mem_ hxj rfl (hm.ro (n := 1) mem_ (cutF_ok rfl)) rfl (by show (x.jp.length + 1) * 16 ≤ _; omega) (by omega)) ?_ bNil)
          clear hs
          rintro _ w1 ⟨jA2, jc2, jcs2, rfl, hr17, hM⟩ a hs
          replace hm := hM _ rep_
          clear hM
          refine ⟨.inr (hm.sub sub_), ?_⟩
          refine bEach [24] (by kernel_rfl) (bDo hs rfl (Wnt.none rfl) rfl rfl (d_append (A := x.lA) (n := x.ln.length) (c := x.lc) (news := [.int .i64 (line : Int)]) hs rfl rfl rfl rfl rfl tab rfl rfl rfl rfl rfl hm mem_ hxl rfl (hm.ro (n := 1) mem_ (cutF_ok rfl)) rfl (by show (x.ln.length + 1) * 8 ≤ _; omega) (by omega)) ?_ bNil)
          clear hs
          rintro _ w1 ⟨lA2, lc2, lcs2, rfl, hr24, hM⟩ a hs
          replace hm := hM _ rep_
          clear hM
          refine ⟨.inr (hm.sub sub_), ?_⟩
          refine bU_ 25 ?_; clear hs a; intro a hs
          refine bU_ 26 ?_; clear hs a; intro a hs
          refine bU_ 27 ?_; clear hs a; intro a hs
          refine bEach [28] (by kernel_rfl) (bDoN hs rfl (Wnt.none rfl) rfl ds_ ?_ bNil)
          clear hs hm
          rintro - w48 hm a hs
          refine ⟨.inl (by kernel_rfl), ?_⟩
          refine bW_ 29 ?_; clear hs a; intro a hs
          refine bW_ 30 ?_; clear hs a; intro a hs
          refine bEach [31] (by kernel_rfl) (bDoN hs rfl (Wnt.none rfl) rfl ds_ ?_ bNil)
          clear hs hm
          rintro - w51 hm a hs
          refine ⟨.inl (by kernel_rfl), ?_⟩
          refine bW_ 32 ?_; clear hs a; intro a hs
          refine bW_ 33 ?_; clear hs a; intro a hs
          refine bEach [34] (by kernel_rfl) (bDoN hs rfl (Wnt.none rfl) rfl ds_ ?_ bNil)
          clear hs hm
          rintro - w54 hm a hs
          refine ⟨.inl (by kernel_rfl), ?_⟩
          refine bDone (by kernel_rfl) ?_
          exact And.intro rfl ⟨cA2, cc2, ccs2, jA2, jc2, jcs2, lA2, lc2, lcs2, hr10, hr17, hr24, hs.sub (Has.all ⟨rfl, trivial⟩), hm.sub sub_⟩
      · skip
        clear hs hm a
        rintro _ w43 ⟨g166, rfl, -, hm⟩ a hs
        refine ⟨.inr (hm.sub sub_), ?_⟩
        refine bEach [10] (by kernel_rfl) (bDo hs rfl (Wnt.none rfl) rfl rfl (d_append (A := x.cA) (n := x.r.code.length) (c := x.cc) (news := inV ⟨op, a1, a2, a3, m⟩) hs rfl rfl rfl rfl rfl tab rfl rfl rfl rfl rfl hm mem_ hxc rfl (hm.ro (n := 5) mem_ (cutF_ok rfl)) rfl (by show (x.r.code.length + 1) * 40 ≤ _; omega) (by omega)) ?_ bNil)
        clear hs
        rintro _ w1 ⟨cA2, cc2, ccs2, rfl, hr10, hM⟩ a hs
        replace hm := hM _ rep_
        clear hM
        refine ⟨.inr (hm.sub sub_), ?_⟩
        refine bEach [17] (by kernel_rfl) (bDo hs rfl (Wnt.none rfl) rfl rfl (d_append (A := x.jA) (n := x.jp.length) (c := x.jc) (news := [txv lab]) hs rfl rfl rfl rfl rfl tab rfl rfl rfl rfl rfl hm mem_ hxj rfl (hm.ro (n := 1) mem_ (cutF_ok rfl)) rfl (by show (x.jp.length + 1) * 16 ≤ _; omega) (by omega)) ?_ bNil)
        clear hs
        rintro _ w1 ⟨jA2, jc2, jcs2, rfl, hr17, hM⟩ a hs
        replace hm := hM _ rep_
        clear hM
        refine ⟨.inr (hm.sub sub_), ?_⟩
        refine bEach [24] (by kernel_rfl) (bDo hs rfl (Wnt.none rfl) rfl rfl (d_append (A := x.lA) (n := x.ln.length) (c := x.lc) (news := [.int .i64 (line : Int)]) hs rfl rfl rfl rfl rfl tab rfl rfl rfl rfl rfl hm mem_ hxl rfl (hm.ro (n := 1) mem_ (cutF_ok rfl)) rfl (by show (x.ln.length + 1) * 8 ≤ _; omega) (by omega)) ?_ bNil)
        clear hs
        rintro _ w1 ⟨lA2, lc2, lcs2, rfl, hr24, hM⟩ a hs
        replace hm := hM _ rep_
        clear hM
        refine ⟨.inr (hm.sub sub_), ?_⟩
        refine bU_ 25 ?_; clear hs a; intro a hs
        refine bU_ 26 ?_; clear hs a; intro a hs
        refine bU_ 27 ?_; clear hs a; intro a hs
        refine bEach [28] (by kernel_rfl) (bDoN hs rfl (Wnt.none rfl) rfl ds_ ?_ bNil)
        clear hs hm
        rintro - w48 hm a hs
        refine ⟨.inl (by kernel_rfl), ?_⟩
        refine bW_ 29 ?_; clear hs a; intro a hs
        refine bW_ 30 ?_; clear hs a; intro a hs
        refine bEach [31] (by kernel_rfl) (bDoN hs rfl (Wnt.none rfl) rfl ds_ ?_ bNil)
        clear hs hm
        rintro - w51 hm a hs
        refine ⟨.inl (by kernel_rfl), ?_⟩
        refine bW_ 32 ?_; clear hs a; intro a hs
        refine bW_ 33 ?_; clear hs a; intro a hs
        refine bEach [34] (by kernel_rfl) (bDoN hs rfl (Wnt.none rfl) rfl ds_ ?_ bNil)
        clear hs hm
        rintro - w54 hm a hs
        refine ⟨.inl (by kernel_rfl), ?_⟩
        refine bDone (by kernel_rfl) ?_
        exact And.intro rfl ⟨cA2, cc2, ccs2, jA2, jc2, jcs2, lA2, lc2, lcs2, hr10, hr17, hr24, hs.sub (Has.all ⟨rfl, trivial⟩), hm.sub sub_⟩
    · skip
      clear hs hm a
      rintro _ w43 ⟨g166, rfl, -, hm⟩ a hs
      refine ⟨.inr (hm.sub sub_), ?_⟩
      refine bEach [9] (by kernel_rfl) (bDo hs rfl (Wnt.none rfl) rfl rfl (by exact d_buildSlice hs rfl tab rfl rfl rfl rfl rfl rfl rfl rfl rfl hm) ?_ bNil)
      clear hs hm a
      rintro _ w29 ⟨g152, rfl, -, hm⟩ a hs
      refine ⟨.inr (hm.sub sub_), ?_⟩
      refine bEach [10] (by kernel_rfl) (bDo hs rfl (Wnt.none rfl) rfl rfl (d_append (A := x.cA) (n := x.r.code.length) (c := x.cc) (news := inV ⟨op, a1, a2, a3, m⟩) hs rfl rfl rfl rfl rfl tab rfl rfl rfl rfl rfl hm mem_ hxc rfl (hm.ro (n := 5) mem_ (cutF_ok rfl)) rfl (by show (x.r.code.length + 1) * 40 ≤ _; omega) (by omega)) ?_ bNil)
      clear hs
      rintro _ w1 ⟨cA2, cc2, ccs2, rfl, hr10, hM⟩ a hs
      replace hm := hM _ rep_
      clear hM
      refine ⟨.inr (hm.sub sub_), ?_⟩
      refine bEach [17] (by kernel_rfl) (bDo hs rfl (Wnt.none rfl) rfl rfl (d_append (A := x.jA) (n := x.jp.length) (c := x.jc) (news := [txv lab]) hs rfl rfl rfl rfl rfl tab rfl rfl rfl rfl rfl hm mem_ hxj rfl (hm.ro (n := 1) mem_ (cutF_ok rfl)) rfl (by show (x.jp.length + 1) * 16 ≤ _; omega) (by omega)) ?_ bNil)
      clear hs
      rintro _ w1 ⟨jA2, jc2, jcs2, rfl, hr17, hM⟩ a hs
      replace hm := hM _ rep_
      clear hM
      refine ⟨.inr (hm.sub sub_), ?_⟩
      refine bEach [24] (by kernel_rfl) (bDo hs rfl (Wnt.none rfl) rfl rfl (d_append (A := x.lA) (n := x.ln.length) (c := x.lc) (news := [.int .i64 (line : Int)]) hs rfl rfl rfl rfl rfl tab rfl rfl rfl rfl rfl hm mem_ hxl rfl (hm.ro (n := 1) mem_ (cutF_ok rfl)) rfl (by show (x.ln.length + 1) * 8 ≤ _; omega) (by omega)) ?_ bNil)
      clear hs
      rintro _ w1 ⟨lA2, lc2, lcs2, rfl, hr24, hM⟩ a hs
      replace hm := hM _ rep_
      clear hM
      refine ⟨.inr (hm.sub sub_), ?_⟩
      refine bU_ 25 ?_; clear hs a; intro a hs
      refine bU_ 26 ?_; clear hs a; intro a hs
      refine bU_ 27 ?_; clear hs a; intro a hs
      refine bEach [28] (by kernel_rfl) (bDoN hs rfl (Wnt.none rfl) rfl ds_ ?_ bNil)
      clear hs hm
      rintro - w48 hm a hs
      refine ⟨.inl (by kernel_rfl), ?_⟩
      refine bW_ 29 ?_; clear hs a; intro a hs
      refine bW_ 30 ?_; clear hs a; intro a hs
      refine bEach [31] (by kernel_rfl) (bDoN hs rfl (Wnt.none rfl) rfl ds_ ?_ bNil)
      clear hs hm
      rintro - w51 hm a hs
      refine ⟨.inl (by kernel_rfl), ?_⟩
      refine bW_ 32 ?_; clear hs a; intro a hs
      refine bW_ 33 ?_; clear hs a; intro a hs
      refine bEach [34] (by kernel_rfl) (bDoN hs rfl (Wnt.none rfl) rfl ds_ ?_ bNil)
      clear hs hm
      rintro - w54 hm a hs
      refine ⟨.inl (by kernel_rfl), ?_⟩
      refine bDone (by kernel_rfl) ?_
      exact And.intro rfl ⟨cA2, cc2, ccs2, jA2, jc2, jcs2, lA2, lc2, lcs2, hr10, hr17, hr24, hs.sub (Has.all ⟨rfl, trivial⟩), hm.sub sub_⟩
  · skip
    clear hs hm a
    rintro _ w43 ⟨g166, rfl, -, hm⟩ a hs
    refine ⟨.inr (hm.sub sub_), ?_⟩
    refine bEach [9, 16] (by kernel_rfl) (bDo hs rfl (Wnt.none rfl) rfl rfl (by exact d_buildSlice hs rfl tab rfl rfl rfl rfl rfl rfl rfl rfl rfl hm) ?_ (bDo hs rfl (Wnt.none rfl) rfl rfl (by exact d_buildSlice hs rfl tab rfl rfl rfl rfl rfl rfl rfl rfl rfl hm) ?_ bNil))
    · skip
      clear hs hm a
      rintro _ w29 ⟨g152, rfl, -, hm⟩ a hs
      refine ⟨.inr (hm.sub sub_), ?_⟩
      refine bEach [10, 16] (by kernel_rfl) (bDo hs rfl (Wnt.none rfl) rfl rfl (d_append (A := x.cA) (n := x.r.code.length) (c := x.cc) (news := inV ⟨op, a1, a2, a3, m⟩) hs rfl rfl rfl rfl rfl tab rfl rfl rfl rfl rfl hm mem_ hxc rfl (hm.ro (n := 5) mem_ (cutF_ok rfl)) rfl (by show (x.r.code.length + 1) * 40 ≤ _; omega) (by omega)) ?_ (bDo hs rfl (Wnt.none rfl) rfl rfl (by exact d_buildSlice hs rfl tab rfl rfl rfl rfl rfl rfl rfl rfl rfl hm) ?_ bNil))
      · skip
        clear hs
        rintro _ w1 ⟨cA2, cc2, ccs2, rfl, hr10, hM⟩ a hs
        replace hm := hM _ rep_
        clear hM
        refine ⟨.inr (hm.sub sub_), ?_⟩
        refine bEach [16] (by kernel_rfl) (bDo hs rfl (Wnt.none rfl) rfl rfl (by exact d_buildSlice hs rfl tab rfl rfl rfl rfl rfl rfl rfl rfl rfl hm) ?_ bNil)
        clear hs hm a
        rintro _ w36 ⟨g159, rfl, -, hm⟩ a hs
        refine ⟨.inr (hm.sub sub_), ?_⟩
        refine bEach [17] (by kernel_rfl) (bDo hs rfl (Wnt.none rfl) rfl rfl (d_append (A := x.jA) (n := x.jp.length) (c := x.jc) (news := [txv lab]) hs rfl rfl rfl rfl rfl tab rfl rfl rfl rfl rfl hm mem_ hxj rfl (hm.ro (n := 1) mem_ (cutF_ok rfl)) rfl (by show (x.jp.length + 1) * 16 ≤ _; omega) (by omega)) ?_ bNil)
        clear hs
        rintro _ w1 ⟨jA2, jc2, jcs2, rfl, hr17, hM⟩ a hs
        replace hm := hM _ rep_
        clear hM
        refine ⟨.inr (hm.sub sub_), ?_⟩
        refine bEach [24] (by kernel_rfl) (bDo hs rfl (Wnt.none rfl) rfl rfl (d_append (A := x.lA) (n := x.ln.length) (c := x.lc) (news := [.int .i64 (line : Int)]) hs rfl rfl rfl rfl rfl tab rfl rfl rfl rfl rfl hm mem_ hxl rfl (hm.ro (n := 1) mem_ (cutF_ok rfl)) rfl (by show (x.ln.length + 1) * 8 ≤ _; omega) (by omega)) ?_ bNil)
        clear hs
        rintro _ w1 ⟨lA2, lc2, lcs2, rfl, hr24, hM⟩ a hs
        replace hm := hM _ rep_
        clear hM
        refine ⟨.inr (hm.sub sub_), ?_⟩
        refine bU_ 25 ?_; clear hs a; intro a hs
        refine bU_ 26 ?_; clear hs a; intro a hs
        refine bU_ 27 ?_; clear hs a; intro a hs
        refine bEach [28] (by kernel_rfl) (bDoN hs rfl (Wnt.none rfl) rfl ds_ ?_ bNil)
        clear hs hm
        rintro - w48 hm a hs
        refine ⟨.inl (by kernel_rfl), ?_⟩
        refine bW_ 29 ?_; clear hs a; intro a hs
        refine bW_ 30 ?_; clear hs a; intro a hs
        refine bEach [31] (by kernel_rfl) (bDoN hs rfl (Wnt.none rfl) rfl ds_ ?_ bNil)
        clear hs hm
        rintro - w51 hm a hs
        refine ⟨.inl (by kernel_rfl), ?_⟩
        refine bW_ 32 ?_; clear hs a; intro a hs
        refine bW_ 33 ?_; clear hs a; intro a hs
        refine bEach [34] (by kernel_rfl) (bDoN hs rfl (Wnt.none rfl) rfl ds_ ?_ bNil)
        clear hs hm
        rintro - w54 hm a hs
        refine ⟨.inl (by kernel_rfl), ?_⟩
        refine bDone (by kernel_rfl) ?_
        exact And.intro rfl ⟨cA2, cc2, ccs2, jA2, jc2, jcs2, lA2, lc2, lcs2, hr10, hr17, hr24, hs.sub (Has.all ⟨rfl, trivial⟩), hm.sub sub_⟩
      · skip
        clear hs hm a
        rintro _ w36 ⟨g159, rfl, -, hm⟩ a hs
        refine ⟨.inr (hm.sub sub_), ?_⟩
        refine bEach [10] (by kernel_rfl) (bDo hs rfl (Wnt.none rfl) rfl rfl (d_append (A := x.cA) (n := x.r.code.length) (c := x.cc) (news := inV ⟨op, a1, a2, a3, m⟩) hs rfl rfl rfl rfl rfl tab rfl rfl rfl rfl rfl hm mem_ hxc rfl (hm.ro (n := 5) mem_ (cutF_ok rfl)) rfl (by show (x.r.code.length + 1) * 40 ≤ _; omega) (by omega)) ?_ bNil)
        clear hs
        rintro _ w1 ⟨cA2, cc2, ccs2, rfl, hr10, hM⟩ a hs
        replace hm := hM _ rep_
        clear hM
        refine ⟨.inr (hm.sub sub_), ?_⟩
        refine bEach [17] (by kernel_rfl) (bDo hs rfl (Wnt.none rfl) rfl rfl (d_append (A := x.jA) (n := x.jp.length) (c := x.jc) (news := [txv lab]) hs rfl rfl rfl rfl rfl tab rfl rfl rfl rfl rfl hm mem_ hxj rfl (hm.ro (n := 1) mem_ (cutF_ok rfl)) rfl (by show (x.jp.length + 1) * 16 ≤ _; omega) (by omega)) ?_ bNil)
        clear hs
        rintro _ w1 ⟨jA2, jc2, jcs2, rfl, hr17, hM⟩ a hs
        replace hm := hM _ rep_
        clear hM
        refine ⟨.inr (hm.sub sub_), ?_⟩
        refine bEach [24] (by kernel_rfl) (bDo hs rfl (Wnt.none rfl) rfl rfl (d_append (A := x.lA) (n := x.ln.length) (c := x.lc) (news := [.int .i64 (line : Int)]) hs rfl rfl rfl rfl rfl tab rfl rfl rfl rfl rfl hm mem_ hxl rfl (hm.ro (n := 1) mem_ (cutF_ok rfl)) rfl (by show (x.ln.length + 1) * 8 ≤ _; omega) (by omega)) ?_ bNil)
        clear hs
        rintro _ w1 ⟨lA2, lc2, lcs2, rfl, hr24, hM⟩ a hs
        replace hm := hM _ rep_
        clear hM
        refine ⟨.inr (hm.sub sub_), ?_⟩
        refine bU_ 25 ?_; clear hs a; intro a hs
        refine bU_ 26 ?_; clear hs a; intro a hs
        refine bU_ 27 ?_; clear hs a; intro a hs
        refine bEach [28] (by kernel_rfl) (bDoN hs rfl (Wnt.none rfl) rfl ds_ ?_ bNil)
        clear hs hm
        rintro - w48 hm a hs
        refine ⟨.inl (by kernel_rfl), ?_⟩
        refine bW_ 29 ?_; clear hs a; intro a hs
        refine bW_ 30 ?_; clear hs a; intro a hs
        refine bEach [31] (by kernel_rfl) (bDoN hs rfl (Wnt.none rfl) rfl ds_ ?_ bNil)
        clear hs hm
        rintro - w51 hm a hs
        refine ⟨.inl (by kernel_rfl), ?_⟩
        refine bW_ 32 ?_; clear hs a; intro a hs
        refine bW_ 33 ?_; clear hs a; intro a hs
        refine bEach [34] (by kernel_rfl) (bDoN hs rfl (Wnt.none rfl) rfl ds_ ?_ bNil)
        clear hs hm
        rintro - w54 hm a hs
        refine ⟨.inl (by kernel_rfl), ?_⟩
        refine bDone (by kernel_rfl) ?_
        exact And.intro rfl ⟨cA2, cc2, ccs2, jA2, jc2, jcs2, lA2, lc2, lcs2, hr10, hr17, hr24, hs.sub (Has.all ⟨rfl, trivial⟩), hm.sub sub_⟩
    · skip
      clear hs hm a
      rintro _ w36 ⟨g159, rfl, -, hm⟩ a hs
      refine ⟨.inr (hm.sub sub_), ?_⟩
      refine bEach [9] (by kernel_rfl) (bDo hs rfl (Wnt.none rfl) rfl rfl (by exact d_buildSlice hs rfl tab rfl rfl rfl rfl rfl rfl rfl rfl rfl hm) ?_ bNil)
      clear hs hm a
      rintro _ w29 ⟨g152, rfl, -, hm⟩ a hs
      refine ⟨.inr (hm.sub sub_), ?_⟩
      refine bEach [10] (by kernel_rfl) (bDo hs rfl (Wnt.none rfl) rfl rfl (d_append (A := x.cA) (n := x.r.code.length) (c := x.cc) (news := inV ⟨op, a1, a2, a3, m⟩) hs rfl rfl rfl rfl rfl tab rfl rfl rfl rfl rfl hm mem_ hxc rfl (hm.ro (n := 5) mem_ (cutF_ok rfl)) rfl (by show (x.r.code.length + 1) * 40 ≤ _; omega) (by omega)) ?_ bNil)
      clear hs
      rintro _ w1 ⟨cA2, cc2, ccs2, rfl, hr10, hM⟩ a hs
      replace hm := hM _ rep_
      clear hM
      refine ⟨.inr (hm.sub sub_), ?_⟩
      refine bEach [17] (by kernel_rfl) (bDo hs rfl (Wnt.none rfl) rfl rfl (d_append (A := x.jA) (n := x.jp.length) (c := x.jc) (news := [txv lab]) hs rfl rfl rfl rfl rfl tab rfl rfl rfl rfl rfl hm mem_ hxj rfl (hm.ro (n := 1) mem_ (cutF_ok rfl)) rfl (by show (x.jp.length + 1) * 16 ≤ _; omega) (by omega)) ?_ bNil)
      clear hs
      rintro _ w1 ⟨jA2, jc2, jcs2, rfl, hr17, hM⟩ a hs
      replace hm := hM _ rep_
      clear hM
      refine ⟨.inr (hm.sub sub_), ?_⟩
      refine bEach [24] (by kernel_rfl) (bDo hs rfl (Wnt.none rfl) rfl rfl (d_append (A := x.lA) (n := x.ln.length) (c := x.lc) (news := [.int .i64 (line : Int)]) hs rfl rfl rfl rfl rfl tab rfl rfl rfl rfl rfl hm mem_ hxl rfl (hm.ro (n := 1) mem_ (cutF_ok rfl)) rfl (by show (x.ln.length + 1) * 8 ≤ _; omega) (by omega)) ?_ bNil)
      clear hs
      rintro _ w1 ⟨lA2, lc2, lcs2, rfl, hr24, hM⟩ a hs
      replace hm := hM _ rep_
      clear hM
      refine ⟨.inr (hm.sub sub_), ?_⟩
      refine bU_ 25 ?_; clear hs a; intro a hs
      refine bU_ 26 ?_; clear hs a; intro a hs
      refine bU_ 27 ?_; clear hs a; intro a hs
      refine bEach [28] (by kernel_rfl) (bDoN hs rfl (Wnt.none rfl) rfl ds_ ?_ bNil)
      clear hs hm
      rintro - w48 hm a hs
      refine ⟨.inl (by kernel_rfl), ?_⟩
      refine bW_ 29 ?_; clear hs a; intro a hs
      refine bW_ 30 ?_; clear hs a; intro a hs
      refine bEach [31] (by kernel_rfl) (bDoN hs rfl (Wnt.none rfl) rfl ds_ ?_ bNil)
      clear hs hm
      rintro - w51 hm a hs
      refine ⟨.inl (by kernel_rfl), ?_⟩
      refine bW_ 32 ?_; clear hs a; intro a hs
      refine bW_ 33 ?_; clear hs a; intro a hs
      refine bEach [34] (by kernel_rfl) (bDoN hs rfl (Wnt.none rfl) rfl ds_ ?_ bNil)
      clear hs hm
      rintro - w54 hm a hs
      refine ⟨.inl (by kernel_rfl), ?_⟩
      refine bDone (by kernel_rfl) ?_
      exact And.intro rfl ⟨cA2, cc2, ccs2, jA2, jc2, jcs2, lA2, lc2, lcs2, hr10, hr17, hr24, hs.sub (Has.all ⟨rfl, trivial⟩), hm.sub sub_⟩
end Go.Proofs.YtajkekhnfobgiaaGreatDoor

/- A text from one place on. -/
namespace Go.Proofs.YtajkekhnfobgiaaGreatDoor
set_option maxRecDepth 20000
open Go.RowKit
section
variable {P : Program} {N : Nat} {L : List (Nat × Value)} {a : Act} {w : World} {o : Oper} {x y : Operand} {T : List (Nat × TI)}
/-- `s[k:]` of a text -/
theorem r_sfrom {t : TypeId} {i : TI} {l : List UInt8} {k : Nat} (hs : Sl N L a) (ho : o.op = .slice t x (some y) none none) (hx : ev L x = some (txv l)) (hy : ev L y = some (.int .i64 (k : Int))) (hT : TabOk P T) (hc : tlk T t = some i) (hd : i.d = .str) (hk : k ≤ l.length) : RunV P a o w (txv (l.drop k)) := by
  replace hx := hs.ev hx; replace hy := hs.ev hy
  unfold txv at hx
  have h1 : ((⟨l.toArray⟩ : ByteArray).extract k l.length) = ⟨(l.drop k).toArray⟩ := by
    apply ByteArray.ext
    simp [ByteArray.data_extract]
    exact List.take_of_length_le (by rw [List.length_drop]; exact Nat.le_refl _)
  have h2 : (0 : Int) ≤ (k : Int) ∧ (k : Int) ≤ (l.length : Int) := by omega
  unfold RunV execOp txv
  rw [← h1]
  simp [ho, hx, hy, Instr.sliceAt, Instr.slice, run_und ((hT _ _ hc).str hd), Instr.sliceBounds, run_sliceBound, ba_s, h2]
end
end Go.Proofs.YtajkekhnfobgiaaGreatDoor
