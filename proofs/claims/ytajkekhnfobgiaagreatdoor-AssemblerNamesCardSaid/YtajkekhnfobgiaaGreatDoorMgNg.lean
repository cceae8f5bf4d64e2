/- Texts put together: Atf, Atg, Ath, Ati, Atj, Flat. -/
import Derived.Test.YtajkekhnfobgiaaGreatDoorMgNf
/- The text of a program is its lines; it is short, and is read back. -/
namespace Go.Proofs.YtajkekhnfobgiaaGreatDoor
set_option maxRecDepth 20000
open Go.RowKit

def lnm (k : Nat) : Tx := 108 :: Lib.itoa (k : Int)
theorem lnm_ok : NmOk lnm := ⟨fun k hk => List.all_eq_true.1 (show (List.range 64).all (fun k => nmB (lnm k)) = true by kernel_rfl) k (List.mem_range.2 hk), fun j k _ _ e => itoa_inj (List.cons.inj e).2⟩
theorem lineL_N {i : In} (h : 0 ≤ i.m) : lineL i = lineN lnm i := by
  unfold lineL lineN
  congr 1
  unfold wordsL wk wordsN regsN
  have : lastW (jumpB i.op) (usesF i.op).2.2.2 i.m = lstN lnm i := by
    unfold lastW lstN lnm
    rw [show ((i.m.toNat : Nat) : Int) = i.m by omega]
  rw [this]
  simp [List.append_assoc]
theorem rgs_lines (p : PV) (k : Nat) : rgsL p.ss p.ws k = (rLns p k).flatMap fun x => x ++ [10] := by
  unfold rgsL rLns
  rw [List.flatMap_map]
  rfl
theorem cds_lines {p : PV} (h : GoodP p) (k : Nat) (hk : k ≤ p.code.length) : cdsL p.code k = (cLns lnm p.code k).flatMap fun x => x ++ [10] := by
  induction k with
  | zero => rfl
  | succ k ih =>
    rw [cdsL_succ, cLns_succ, List.flatMap_append, ih (by omega)]
    congr 1
    have hlt : k < p.code.length := by omega
    have hget : p.code.getD k ⟨0, 0, 0, 0, 0⟩ = p.code[k] := by rw [List.getD_eq_getElem?_getD, List.getElem?_eq_getElem hlt, Option.getD_some]
    unfold cdL cLn
    rw [hget, lineL_N (h.inv _ (List.getElem_mem hlt)).1.1.m.1]
    cases tgB p.code (k : Int)
    · rw [if_neg (by decide), if_neg (by decide)]
      simp
    · rw [if_pos rfl, if_pos rfl]
      unfold lbL lnm
      simp
theorem text_lines {p : PV} (h : GoodP p) : textP p = (linesN lnm p).flatMap fun x => x ++ [10] := by
  unfold textP linesN
  rw [List.flatMap_append, rgs_lines, cds_lines h _ (Nat.le_refl _)]
theorem flat_le {α : Type} {f : α → Tx} {B : Nat} : ∀ l : List α, (∀ x ∈ l, (f x).length ≤ B) → (l.flatMap f).length ≤ l.length * B
  | [], _ => Nat.zero_le _
  | x :: t, h => by
    have h1 := flat_le t fun y hy => h y (List.mem_cons_of_mem _ hy)
    have h2 := h x (List.mem_cons_self ..)
    rw [List.flatMap_cons, List.length_append, List.length_cons, Nat.succ_mul]; omega
theorem nmB_len8 {l : Tx} (h : nmB l = true) : l.length ≤ 8 := nmB_len h
theorem regW_le {u : Bool} {v : Int} (h : 0 ≤ v ∧ v < 8) : ((regW u v).flatMap fun x => (32 : UInt8) :: x).length ≤ 3 := by
  unfold regW
  cases u
  · exact Nat.zero_le _
  · have := itoa_le 0 h.1 (by show v < ((10 : Nat) : Int); omega)
    rw [if_pos rfl, List.flatMap_cons, List.flatMap_nil, List.append_nil, List.length_cons, List.length_cons]; omega
theorem lineN_le {nm : Nat → Tx} {i : In} {n ns : Nat} (h : InG i n ns) (hnm : jumpB i.op = true → nmB (nm i.m.toNat) = true) : (lineN nm i).length ≤ 21 := by
  have hv := h.1.1
  unfold lineN wordsN regsN
  rw [join_words, List.length_append, List.flatMap_append, List.length_append, List.flatMap_append, List.length_append, List.flatMap_append, List.length_append]
  have n0 := nameL_len i.op
  have a1 := regW_le (u := (usesF i.op).1) (v := i.a) ⟨hv.a.1, hv.a.2.1⟩
  have a2 := regW_le (u := (usesF i.op).2.1) (v := i.b) ⟨hv.b.1, hv.b.2.1⟩
  have a3 := regW_le (u := (usesF i.op).2.2.1) (v := i.c) ⟨hv.c.1, hv.c.2.1⟩
  have a4 : ((lstN nm i).flatMap fun x => (32 : UInt8) :: x).length ≤ 9 := by
    unfold lstN
    split
    · rename_i hj
      have := nmB_len8 (hnm hj)
      rw [List.flatMap_cons, List.flatMap_nil, List.append_nil, List.length_cons]; omega
    · split
      · have := itoa_le 4 hv.m.1 (by show i.m < ((100000 : Nat) : Int); have := hv.m.2.1; omega)
        rw [List.flatMap_cons, List.flatMap_nil, List.append_nil, List.length_cons]; omega
      · exact Nat.zero_le _
  omega
theorem rgLn_le {n : Int} {xs : List Int} (h : 1 ≤ n ∧ n ≤ 32) (hx : ∀ y ∈ xs, 0 ≤ y ∧ y ≤ 65535) (hl : xs.length ≤ 32) : (rgLn n xs).length ≤ 201 := by
  unfold rgLn rgH
  have h1 := itoa_le 1 (n := n) (by omega) (by show n < ((100 : Nat) : Int); omega)
  have h2 := flat_le (f := wdL) (B := 6) xs fun y hy => by
    have := itoa_le 4 (hx y hy).1 (by show y < ((100000 : Nat) : Int); have := (hx y hy).2; omega)
    unfold wdL
    rw [List.length_cons]; omega
  rw [List.length_append, List.length_append]
  show 7 + _ + _ ≤ 201
  omega
theorem len_N {nm : Nat → Tx} (hnm : NmOk nm) {p : PV} (h : GoodP p) (hs : p.sm) : ((linesN nm p).flatMap fun x => x ++ [10]).length ≤ 4096 := by
  unfold linesN
  rw [List.flatMap_append, List.length_append]
  have h4 := h.sz.four
  have h64 := h.c2
  have a1 : ((rLns p p.ss.length).flatMap fun x => x ++ [10]).length ≤ p.ss.length * 202 := by
    unfold rLns
    rw [List.flatMap_map]
    have := flat_le (f := fun j => rgLn (p.ss.getD j 0) (p.ws.getD j ⟨none, 0, []⟩).xs ++ [10]) (B := 202) (List.range p.ss.length) fun j hj => by
      have hj := List.mem_range.1 hj
      have hjw : j < p.ws.length := by rw [h.wl]; exact hj
      have hg := h.gs hs
      have hsk := hg.s j hj
      have hxk := hg.x j hjw
      rw [List.getD_eq_getElem?_getD, List.getElem?_eq_getElem hj, List.getD_eq_getElem?_getD, List.getElem?_eq_getElem hjw, Option.getD_some, Option.getD_some, List.length_append, List.length_singleton]
      have := rgLn_le hsk hxk.2 hxk.1
      omega
    rw [List.length_range] at this
    exact this
  have a2 : ((cLns nm p.code p.code.length).flatMap fun x => x ++ [10]).length ≤ p.code.length * 32 := by
    unfold cLns
    rw [List.flatMap_assoc]
    have := flat_le (f := fun j => (cLn nm p.code j).flatMap fun x => x ++ [10]) (B := 32) (List.range p.code.length) fun j hj => by
      have hj := List.mem_range.1 hj
      have hin := h.inv _ (List.getElem_mem hj)
      have hget : p.code.getD j ⟨0, 0, 0, 0, 0⟩ = p.code[j] := by rw [List.getD_eq_getElem?_getD, List.getElem?_eq_getElem hj, Option.getD_some]
      have hl := lineN_le hin (nm := nm) fun hjb => hnm.ok _ (by have := hin.2.1 hjb; have := hin.1.1.m; omega)
      have h8 := nmB_len8 (hnm.ok j (by omega))
      unfold cLn
      rw [hget, List.flatMap_append, List.length_append]
      have b2 : (([lineN nm p.code[j]] : List Tx).flatMap fun x => x ++ [10]).length ≤ 22 := by
        rw [List.flatMap_cons, List.flatMap_nil, List.append_nil, List.length_append, List.length_singleton]; omega
      have b1 : (((if tgB p.code (j : Int) = true then [nm j ++ [58]] else []) : List Tx).flatMap fun x => x ++ [10]).length ≤ 10 := by
        split
        · rw [List.flatMap_cons, List.flatMap_nil, List.append_nil, List.length_append, List.length_append, List.length_singleton, List.length_singleton]; omega
        · exact Nat.zero_le _
      omega
    rw [List.length_range] at this
    exact this
  omega
theorem cnt_lines : ∀ L : List Tx, (∀ x ∈ L, (10 : UInt8) ∉ x) → (L.flatMap fun x => x ++ [10]).count 10 = L.length
  | [], _ => rfl
  | x :: t, h => by
    rw [List.flatMap_cons, List.count_append, List.count_append, cnt_lines t fun y hy => h y (List.mem_cons_of_mem _ hy), List.count_eq_zero.2 (h x (List.mem_cons_self ..)), List.length_cons]
    show 0 + 1 + t.length = t.length + 1
    omega
/-- a program is read back from its text -/
theorem par_text {p : PV} (h : GoodP p) (hs : p.sm) : parF (textP p) = ((⟨p.code, p.ss, p.ws.map WV.xs⟩ : PrM), (((textP p).count 10 : Nat) : Int), (0 : Int)) := by
  have h1 := par_N lnm_ok h hs (len_N lnm_ok h hs)
  rw [text_lines h, h1, cnt_lines _ (lines_no10 lnm_ok h hs)]
theorem text_eq {p q : PV} (hp : GoodP p) (hps : p.sm) (hq : GoodP q) (hqs : q.sm) : textP p = textP q ↔ p.code = q.code ∧ p.ss = q.ss ∧ p.ws.map WV.xs = q.ws.map WV.xs := by
  constructor
  · intro e
    have h1 := par_text hp hps
    rw [e, par_text hq hqs] at h1
    have h2 := (Prod.mk.inj h1).1
    have h3 := PrM.mk.inj h2
    exact ⟨h3.1.symm, h3.2.1.symm, h3.2.2.symm⟩
  · rintro ⟨h1, h2, h3⟩
    unfold textP
    rw [h1, h2]
    congr 1
    unfold rgsL
    congr 1
    funext j
    have : (p.ws.getD j ⟨none, 0, []⟩).xs = (q.ws.getD j ⟨none, 0, []⟩).xs := by
      have e1 : ∀ l : List WV, (l.getD j ⟨none, 0, []⟩).xs = (l.map WV.xs).getD j [] := fun l => by
        rw [List.getD_eq_getElem?_getD, List.getD_eq_getElem?_getD, List.getElem?_map]
        cases l[j]? <;> rfl
      rw [e1, e1, h3]
    rw [this]
end Go.Proofs.YtajkekhnfobgiaaGreatDoor

/- Whether two programs are equal, by the reference. -/
namespace Go.Proofs.YtajkekhnfobgiaaGreatDoor
set_option maxRecDepth 20000
open Go.RowKit

theorem WS_eq {a b : List WV} (hl : a.length = b.length) (h : ∀ k (h1 : k < a.length) (h2 : k < b.length), (a[k]).xs = (b[k]).xs) : a.map WV.xs = b.map WV.xs := by
  apply List.ext_getElem
  · rw [List.length_map, List.length_map, hl]
  · intro k h1 h2
    rw [List.getElem_map, List.getElem_map]
    exact h k (by rwa [List.length_map] at h1) (by rwa [List.length_map] at h2)
theorem in_ext {x y : In} : x = y ↔ x.op = y.op ∧ x.a = y.a ∧ x.b = y.b ∧ x.c = y.c ∧ x.m = y.m := by
  constructor
  · rintro rfl; exact ⟨rfl, rfl, rfl, rfl, rfl⟩
  · obtain ⟨a, b, c, d, e⟩ := x
    obtain ⟨a', b', c', d', e'⟩ := y
    rintro ⟨h1, h2, h3, h4, h5⟩
    dsimp only at *
    subst h1 h2 h3 h4 h5
    rfl
/-- two programs are equal -/
def SameP (p q : PV) : Prop := p.code = q.code ∧ p.ss = q.ss ∧ p.ws.map WV.xs = q.ws.map WV.xs


set_option maxHeartbeats 16000000 in
theorem same_c (p q : PV) (wB : World) (hp : p.ok wB) (hq : q.ok wB) (hps : p.sm) (hqs : q.sm) : Ret Tryz.prog 22 [p.v, q.v] wB (fun u w' => ∃ b : Bool, u = .bool b ∧ (b = true ↔ SameP p q) ∧ Pu wB w') := by
  obtain ⟨cA, cc, code, sA, sc, ss, dA, dc, ws⟩ := p
  obtain ⟨cA2, cc2, code2, sA2, sc2, ss2, dA2, dc2, ws2⟩ := q
  obtain ⟨pc, ps, pd, px⟩ := hp
  obtain ⟨qc, qs, qd, qx⟩ := hq
  obtain ⟨m1, m2, m3, m4⟩ := hps
  obtain ⟨n1, n2, n3, n4⟩ := hqs
  unfold SameP
  dsimp only at *
  refine enterR Tryz.func22 rfl rfl rfl fun a hs hm => ?_
  unfold PV.v at hs
  dsimp only at hs
  repeat (first | ((with_reducible refine toL hm ?_); (first | refine oneV hs gw_ rfl rfl (by intro w hm; (first | exact kvR_ | exact r_neqSt (fl := [(true, 0, 3), (true, 1, 3), (true, 2, 3), (true, 3, 3), (true, 4, 3)]) hs rfl rfl rfl tab (by kernel_rfl) (by kernel_rfl) (by kernel_rfl) (by kernel_rfl) rfl)) ?_ | refine oN_ ?_); clear hs a; intro a hs) | ((with_reducible apply lCons); first | (refine dv hs gw_ rfl rfl da_ ?_; clear hs hm a; rintro _ w ⟨g, rfl, -, hm⟩ a hs) | (refine stn hs rfl rfl ds_ ?_; clear hs hm a; rintro - w hm a hs) ) | refine sx_ ?_ | refine cx_ ?_)
  obtain ⟨g2, en_⟩ := hs.pt 2 (by exact rfl); subst en_
  obtain ⟨g3, en_⟩ := hs.pt 3 (by exact rfl); subst en_
  have hF0 := hm.fr
  have rg2 : Ro _ g2 0 [.slice cA code.length cc, .slice sA ss.length sc, .slice dA ws.length dc] := hm.ro (k := 0) (n := 3) mem_ (cutF_ok rfl)
  have rg3 : Ro _ g3 0 [.slice cA2 code2.length cc2, .slice sA2 ss2.length sc2, .slice dA2 ws2.length dc2] := hm.ro (k := 0) (n := 3) mem_ (cutF_ok rfl)
  have c0 := hF0.rd' pc
  have s0 := hF0.rd' ps
  have d0 := hF0.rd' pd
  have x0 := fun r hr => hF0.rd' (px r hr)
  have c1 := hF0.rd' qc
  have s1 := hF0.rd' qs
  have d1 := hF0.rd' qd
  have x1 := fun r hr => hF0.rd' (qx r hr)
  clear hm pc ps pd px qc qs qd qx
  have hm := Mm.nil (fun _ => False) w
  by_cases l1 : code.length = code2.length
  case neg =>
    have f1 : decide ((code.length : Int) = (code2.length : Int)) = false := decide_eq_false (by omega)
    repeat (first | ((with_reducible first | refine toL hm ?_ | refine toQ ?_); (first | refine oneV hs gw_ rfl rfl (by intro w hm; (first | exact kvR_ | exact r_neqSt (fl := [(true, 0, 3), (true, 1, 3), (true, 2, 3), (true, 3, 3), (true, 4, 3)]) hs rfl rfl rfl tab (by kernel_rfl) (by kernel_rfl) (by kernel_rfl) (by kernel_rfl) rfl)) ?_ | refine oN_ ?_); clear hs a; intro a hs) | ((with_reducible apply lCons); first | (refine dv hs gw_ rfl rfl da_ ?_; clear hs hm a; rintro _ w ⟨g, rfl, -, hm⟩ a hs) | (refine stn hs rfl rfl ds_ ?_; clear hs hm a; rintro - w hm a hs) ) | ((with_reducible apply qNil); clear hm; intro w hm) | ((with_reducible refine cQuiet hm ?_ ?_ ?_ ?_); rfl; kernel_rfl; kernel_rfl) | refine sx_ ?_ | refine cx_ ?_)
    rw [f1] at hs
    repeat (first | ((with_reducible first | refine toL hm ?_ | refine toQ ?_); (first | refine oneV hs gw_ rfl rfl (by intro w hm; (first | exact kvR_ | exact r_neqSt (fl := [(true, 0, 3), (true, 1, 3), (true, 2, 3), (true, 3, 3), (true, 4, 3)]) hs rfl rfl rfl tab (by kernel_rfl) (by kernel_rfl) (by kernel_rfl) (by kernel_rfl) rfl)) ?_ | refine oN_ ?_); clear hs a; intro a hs) | ((with_reducible apply lCons); first | (refine dv hs gw_ rfl rfl da_ ?_; clear hs hm a; rintro _ w ⟨g, rfl, -, hm⟩ a hs) | (refine stn hs rfl rfl ds_ ?_; clear hs hm a; rintro - w hm a hs) ) | ((with_reducible apply qNil); clear hm; intro w hm) | ((with_reducible refine cQuiet hm ?_ ?_ ?_ ?_); rfl; kernel_rfl; kernel_rfl) | refine sx_ ?_ | refine cx_ ?_)
    exact gRet1 hs rfl rfl ⟨_, rfl, ⟨(fun e => by cases e), (fun e => absurd (congrArg List.length e.1) l1)⟩, hF0.pu hm.fr⟩
  have t1 : decide ((code.length : Int) = (code2.length : Int)) = true := decide_eq_true (by omega)
  by_cases l2 : ss.length = ss2.length
  case neg =>
    repeat (first | ((with_reducible first | refine toL hm ?_ | refine toQ ?_); (first | refine oneV hs gw_ rfl rfl (by intro w hm; (first | exact kvR_ | exact r_neqSt (fl := [(true, 0, 3), (true, 1, 3), (true, 2, 3), (true, 3, 3), (true, 4, 3)]) hs rfl rfl rfl tab (by kernel_rfl) (by kernel_rfl) (by kernel_rfl) (by kernel_rfl) rfl)) ?_ | refine oN_ ?_); clear hs a; intro a hs) | ((with_reducible apply lCons); first | (refine dv hs gw_ rfl rfl da_ ?_; clear hs hm a; rintro _ w ⟨g, rfl, -, hm⟩ a hs) | (refine stn hs rfl rfl ds_ ?_; clear hs hm a; rintro - w hm a hs) ) | ((with_reducible apply qNil); clear hm; intro w hm) | ((with_reducible refine cQuiet hm ?_ ?_ ?_ ?_); rfl; kernel_rfl; kernel_rfl) | refine sx_ ?_ | refine cx_ ?_)
    rw [t1] at hs
    repeat (first | ((with_reducible first | refine toL hm ?_ | refine toQ ?_); (first | refine oneV hs gw_ rfl rfl (by intro w hm; (first | exact kvR_ | exact r_neqSt (fl := [(true, 0, 3), (true, 1, 3), (true, 2, 3), (true, 3, 3), (true, 4, 3)]) hs rfl rfl rfl tab (by kernel_rfl) (by kernel_rfl) (by kernel_rfl) (by kernel_rfl) rfl)) ?_ | refine oN_ ?_); clear hs a; intro a hs) | ((with_reducible apply lCons); first | (refine dv hs gw_ rfl rfl da_ ?_; clear hs hm a; rintro _ w ⟨g, rfl, -, hm⟩ a hs) | (refine stn hs rfl rfl ds_ ?_; clear hs hm a; rintro - w hm a hs) ) | ((with_reducible apply qNil); clear hm; intro w hm) | ((with_reducible refine cQuiet hm ?_ ?_ ?_ ?_); rfl; kernel_rfl; kernel_rfl) | refine sx_ ?_ | refine cx_ ?_)
    exact gRet1 hs rfl rfl ⟨_, rfl, ⟨(fun e => by cases e), (fun e => absurd (congrArg List.length e.2.1) l2)⟩, hF0.pu hm.fr⟩
  by_cases l3 : ws.length = ws2.length
  case neg =>
    repeat (first | ((with_reducible first | refine toL hm ?_ | refine toQ ?_); (first | refine oneV hs gw_ rfl rfl (by intro w hm; (first | exact kvR_ | exact r_neqSt (fl := [(true, 0, 3), (true, 1, 3), (true, 2, 3), (true, 3, 3), (true, 4, 3)]) hs rfl rfl rfl tab (by kernel_rfl) (by kernel_rfl) (by kernel_rfl) (by kernel_rfl) rfl)) ?_ | refine oN_ ?_); clear hs a; intro a hs) | ((with_reducible apply lCons); first | (refine dv hs gw_ rfl rfl da_ ?_; clear hs hm a; rintro _ w ⟨g, rfl, -, hm⟩ a hs) | (refine stn hs rfl rfl ds_ ?_; clear hs hm a; rintro - w hm a hs) ) | ((with_reducible apply qNil); clear hm; intro w hm) | ((with_reducible refine cQuiet hm ?_ ?_ ?_ ?_); rfl; kernel_rfl; kernel_rfl) | refine sx_ ?_ | refine cx_ ?_)
    rw [t1] at hs
    repeat (first | ((with_reducible first | refine toL hm ?_ | refine toQ ?_); (first | refine oneV hs gw_ rfl rfl (by intro w hm; (first | exact kvR_ | exact r_neqSt (fl := [(true, 0, 3), (true, 1, 3), (true, 2, 3), (true, 3, 3), (true, 4, 3)]) hs rfl rfl rfl tab (by kernel_rfl) (by kernel_rfl) (by kernel_rfl) (by kernel_rfl) rfl)) ?_ | refine oN_ ?_); clear hs a; intro a hs) | ((with_reducible apply lCons); first | (refine dv hs gw_ rfl rfl da_ ?_; clear hs hm a; rintro _ w ⟨g, rfl, -, hm⟩ a hs) | (refine stn hs rfl rfl ds_ ?_; clear hs hm a; rintro - w hm a hs) ) | ((with_reducible apply qNil); clear hm; intro w hm) | ((with_reducible refine cQuiet hm ?_ ?_ ?_ ?_); rfl; kernel_rfl; kernel_rfl) | refine sx_ ?_ | refine cx_ ?_)
    exact gRet1 hs rfl rfl ⟨_, rfl, ⟨(fun e => by cases e), (fun e => absurd (by have := congrArg List.length e.2.2; rwa [List.length_map, List.length_map] at this) l3)⟩, hF0.pu hm.fr⟩
  repeat (first | ((with_reducible first | refine toL hm ?_ | refine toQ ?_); (first | refine oneV hs gw_ rfl rfl (by intro w hm; (first | exact kvR_ | exact r_neqSt (fl := [(true, 0, 3), (true, 1, 3), (true, 2, 3), (true, 3, 3), (true, 4, 3)]) hs rfl rfl rfl tab (by kernel_rfl) (by kernel_rfl) (by kernel_rfl) (by kernel_rfl) rfl)) ?_ | refine oN_ ?_); clear hs a; intro a hs) | ((with_reducible apply lCons); first | (refine dv hs gw_ rfl rfl da_ ?_; clear hs hm a; rintro _ w ⟨g, rfl, -, hm⟩ a hs) | (refine stn hs rfl rfl ds_ ?_; clear hs hm a; rintro - w hm a hs) ) | ((with_reducible apply qNil); clear hm; intro w hm) | ((with_reducible refine cQuiet hm ?_ ?_ ?_ ?_); rfl; kernel_rfl; kernel_rfl) | refine sx_ ?_ | refine cx_ ?_)
  rw [t1] at hs
  repeat (first | ((with_reducible first | refine toL hm ?_ | refine toQ ?_); (first | refine oneV hs gw_ rfl rfl (by intro w hm; (first | exact kvR_ | exact r_neqSt (fl := [(true, 0, 3), (true, 1, 3), (true, 2, 3), (true, 3, 3), (true, 4, 3)]) hs rfl rfl rfl tab (by kernel_rfl) (by kernel_rfl) (by kernel_rfl) (by kernel_rfl) rfl)) ?_ | refine oN_ ?_); clear hs a; intro a hs) | ((with_reducible apply lCons); first | (refine dv hs gw_ rfl rfl da_ ?_; clear hs hm a; rintro _ w ⟨g, rfl, -, hm⟩ a hs) | (refine stn hs rfl rfl ds_ ?_; clear hs hm a; rintro - w hm a hs) ) | ((with_reducible apply qNil); clear hm; intro w hm) | ((with_reducible refine cQuiet hm ?_ ?_ ?_ ?_); rfl; kernel_rfl; kernel_rfl) | refine sx_ ?_ | refine cx_ ?_)
  obtain ⟨wS, hwS⟩ : ∃ u : World, u = w := ⟨w, rfl⟩
  subst hwS
  refine cLoop (X := Nat) (fun k a w' => Sl Tryz.f22.ntmps [(2, .pointer (some ⟨g2, 0, none⟩)), (3, .pointer (some ⟨g3, 0, none⟩)), (36, .int .i64 (code.length : Int)), (37, .int .i64 (k : Int))] a ∧ Pu wS w' ∧ k ≤ code.length ∧ ∀ j (h1 : j < code.length) (h2 : j < code2.length), j < k → code[j] = code2[j]) (fun k => code.length - k) 0 ⟨hs.sub (Has.all ⟨rfl, rfl, rfl, rfl, trivial⟩), hm.fr, Nat.zero_le _, fun j _ _ h => absurd h (Nat.not_lt_zero _)⟩ ?_
  clear hs hm a
  rintro k a w' ⟨hs, hF, hk, hg⟩
  have hm := Mm.nil (fun _ => False) w'
  have q2 := rg2.pu_ hF
  have q3 := rg3.pu_ hF
  by_cases hlt : k < code.length
  · obtain ⟨b1, o1, rfl, hb1, r1⟩ := (hF.rd' c0).ro (by rw [flat_len inV 5 inV_len]; omega)
    obtain ⟨b2, o2, rfl, hb2, r2⟩ := (hF.rd' c1).ro (by rw [flat_len inV 5 inV_len]; omega)
    have k1 := r1.flat inV_len hlt
    have k2 := r2.flat inV_len (show k < code2.length by omega)
    obtain ⟨x, hx⟩ : ∃ z, code[k] = z := ⟨_, rfl⟩
    obtain ⟨y, hy⟩ : ∃ z, code2[k]'(by omega) = z := ⟨_, rfl⟩
    rw [hx] at k1
    rw [hy] at k2
    have hxy := @in_ext x y
    obtain ⟨xo, xa, xb, xc, xm⟩ := x
    obtain ⟨yo, ya, yb, yc, ym⟩ := y
    unfold inV at k1 k2
    dsimp only at k1 k2 hxy
    repeat (first | ((with_reducible first | refine toL hm ?_ | refine toQ ?_); (first | refine oneV hs gw_ rfl rfl (by intro w hm; (first | exact kvR_ | exact r_neqSt (fl := [(true, 0, 3), (true, 1, 3), (true, 2, 3), (true, 3, 3), (true, 4, 3)]) hs rfl rfl rfl tab (by kernel_rfl) (by kernel_rfl) (by kernel_rfl) (by kernel_rfl) rfl)) ?_ | refine oN_ ?_); clear hs a; intro a hs) | ((with_reducible apply lCons); first | (refine dv hs gw_ rfl rfl da_ ?_; clear hs hm a; rintro _ w ⟨g, rfl, -, hm⟩ a hs) | (refine stn hs rfl rfl ds_ ?_; clear hs hm a; rintro - w hm a hs) ) | ((with_reducible apply qNil); clear hm; intro w hm) | ((with_reducible refine cQuiet hm ?_ ?_ ?_ ?_); rfl; kernel_rfl; kernel_rfl) | refine sx_ ?_ | refine cx_ ?_)
    obtain ⟨bq, hbq⟩ : ∃ z, (xo == yo && (xa == ya && (xb == yb && (xc == yc && (xm == ym && true))))) = z := ⟨_, rfl⟩
    have hiff : bq = true ↔ (⟨xo, xa, xb, xc, xm⟩ : In) = ⟨yo, ya, yb, yc, ym⟩ := by
      rw [← hbq, hxy]
      simp
    rw [hbq] at hs
    cases bq
    · repeat (first | ((with_reducible first | refine toL hm ?_ | refine toQ ?_); (first | refine oneV hs gw_ rfl rfl (by intro w hm; (first | exact kvR_ | exact r_neqSt (fl := [(true, 0, 3), (true, 1, 3), (true, 2, 3), (true, 3, 3), (true, 4, 3)]) hs rfl rfl rfl tab (by kernel_rfl) (by kernel_rfl) (by kernel_rfl) (by kernel_rfl) rfl)) ?_ | refine oN_ ?_); clear hs a; intro a hs) | ((with_reducible apply lCons); first | (refine dv hs gw_ rfl rfl da_ ?_; clear hs hm a; rintro _ w ⟨g, rfl, -, hm⟩ a hs) | (refine stn hs rfl rfl ds_ ?_; clear hs hm a; rintro - w hm a hs) ) | ((with_reducible apply qNil); clear hm; intro w hm) | ((with_reducible refine cQuiet hm ?_ ?_ ?_ ?_); rfl; kernel_rfl; kernel_rfl) | refine sx_ ?_ | refine cx_ ?_)
      refine gRet1 hs rfl rfl ⟨_, rfl, ⟨(fun e => by cases e), (fun e => ?_)⟩, hF0.pu (hF.pu hm.fr)⟩
      exfalso
      have h1 : code[k] = code2[k]'(by omega) := by simp only [e.1]
      rw [hx, hy] at h1
      exact absurd (hiff.2 h1) (by decide)
    · repeat (first | ((with_reducible first | refine toL hm ?_ | refine toQ ?_); (first | refine oneV hs gw_ rfl rfl (by intro w hm; (first | exact kvR_ | exact r_neqSt (fl := [(true, 0, 3), (true, 1, 3), (true, 2, 3), (true, 3, 3), (true, 4, 3)]) hs rfl rfl rfl tab (by kernel_rfl) (by kernel_rfl) (by kernel_rfl) (by kernel_rfl) rfl)) ?_ | refine oN_ ?_); clear hs a; intro a hs) | ((with_reducible apply lCons); first | (refine dv hs gw_ rfl rfl da_ ?_; clear hs hm a; rintro _ w ⟨g, rfl, -, hm⟩ a hs) | (refine stn hs rfl rfl ds_ ?_; clear hs hm a; rintro - w hm a hs) ) | ((with_reducible apply qNil); clear hm; intro w hm) | ((with_reducible refine cQuiet hm ?_ ?_ ?_ ?_); rfl; kernel_rfl; kernel_rfl) | refine sx_ ?_ | refine cx_ ?_)
      refine ⟨k + 1, by omega, hs.sub (Has.all ⟨rfl, rfl, rfl, rfl, trivial⟩), hF.pu hm.fr, by omega, fun j h1 h2 hj => ?_⟩
      by_cases e : j = k
      · subst e
        rw [hx, hy]
        exact hiff.1 rfl
      · exact hg j h1 h2 (by omega)
  have hcode : code = code2 := List.ext_getElem l1 fun j h1 h2 => hg j h1 h2 (by omega)
  clear hg
  repeat (first | ((with_reducible first | refine toL hm ?_ | refine toQ ?_); (first | refine oneV hs gw_ rfl rfl (by intro w hm; (first | exact kvR_ | exact r_neqSt (fl := [(true, 0, 3), (true, 1, 3), (true, 2, 3), (true, 3, 3), (true, 4, 3)]) hs rfl rfl rfl tab (by kernel_rfl) (by kernel_rfl) (by kernel_rfl) (by kernel_rfl) rfl)) ?_ | refine oN_ ?_); clear hs a; intro a hs) | ((with_reducible apply lCons); first | (refine dv hs gw_ rfl rfl da_ ?_; clear hs hm a; rintro _ w ⟨g, rfl, -, hm⟩ a hs) | (refine stn hs rfl rfl ds_ ?_; clear hs hm a; rintro - w hm a hs) ) | ((with_reducible apply qNil); clear hm; intro w hm) | ((with_reducible refine cQuiet hm ?_ ?_ ?_ ?_); rfl; kernel_rfl; kernel_rfl) | refine sx_ ?_ | refine cx_ ?_)
  refine cLoop (X := Nat) (fun k a w' => Sl Tryz.f22.ntmps [(2, .pointer (some ⟨g2, 0, none⟩)), (3, .pointer (some ⟨g3, 0, none⟩)), (54, .int .i64 (ss.length : Int)), (55, .int .i64 (k : Int))] a ∧ Pu wS w' ∧ k ≤ ss.length ∧ ∀ j (h1 : j < ss.length) (h2 : j < ss2.length), j < k → ss[j] = ss2[j]) (fun k => ss.length - k) 0 ⟨hs.sub (Has.all ⟨rfl, rfl, rfl, rfl, trivial⟩), hF.pu hm.fr, Nat.zero_le _, fun j _ _ h => absurd h (Nat.not_lt_zero _)⟩ ?_
  clear hs hm a hF q2 q3
  rintro k a w' ⟨hs, hF, hk, hg⟩
  have hm := Mm.nil (fun _ => False) w'
  have q2 := rg2.pu_ hF
  have q3 := rg3.pu_ hF
  by_cases hlt : k < ss.length
  · obtain ⟨b1, o1, rfl, hb1, r1⟩ := (hF.rd' s0).ro (by rw [ints_len]; omega)
    obtain ⟨b2, o2, rfl, hb2, r2⟩ := (hF.rd' s1).ro (by rw [ints_len]; omega)
    have k1 := ints_some (xs := ss) (k := k) hlt
    have k2 := ints_some (xs := ss2) (k := k) (by omega)
    obtain ⟨x, hx⟩ : ∃ z, ss[k] = z := ⟨_, rfl⟩
    obtain ⟨y, hy⟩ : ∃ z, ss2[k]'(by omega) = z := ⟨_, rfl⟩
    rw [hx] at k1
    rw [hy] at k2
    by_cases hxy : x = y
    · repeat (first | ((with_reducible first | refine toL hm ?_ | refine toQ ?_); (first | refine oneV hs gw_ rfl rfl (by intro w hm; (first | exact kvR_ | exact r_neqSt (fl := [(true, 0, 3), (true, 1, 3), (true, 2, 3), (true, 3, 3), (true, 4, 3)]) hs rfl rfl rfl tab (by kernel_rfl) (by kernel_rfl) (by kernel_rfl) (by kernel_rfl) rfl)) ?_ | refine oN_ ?_); clear hs a; intro a hs) | ((with_reducible apply lCons); first | (refine dv hs gw_ rfl rfl da_ ?_; clear hs hm a; rintro _ w ⟨g, rfl, -, hm⟩ a hs) | (refine stn hs rfl rfl ds_ ?_; clear hs hm a; rintro - w hm a hs) ) | ((with_reducible apply qNil); clear hm; intro w hm) | ((with_reducible refine cQuiet hm ?_ ?_ ?_ ?_); rfl; kernel_rfl; kernel_rfl) | refine sx_ ?_ | refine cx_ ?_)
      refine ⟨k + 1, by omega, hs.sub (Has.all ⟨rfl, rfl, rfl, rfl, trivial⟩), hF.pu hm.fr, by omega, fun j h1 h2 hj => ?_⟩
      by_cases e : j = k
      · subst e
        rw [hx, hy]
        exact hxy
      · exact hg j h1 h2 (by omega)
    · repeat (first | ((with_reducible first | refine toL hm ?_ | refine toQ ?_); (first | refine oneV hs gw_ rfl rfl (by intro w hm; (first | exact kvR_ | exact r_neqSt (fl := [(true, 0, 3), (true, 1, 3), (true, 2, 3), (true, 3, 3), (true, 4, 3)]) hs rfl rfl rfl tab (by kernel_rfl) (by kernel_rfl) (by kernel_rfl) (by kernel_rfl) rfl)) ?_ | refine oN_ ?_); clear hs a; intro a hs) | ((with_reducible apply lCons); first | (refine dv hs gw_ rfl rfl da_ ?_; clear hs hm a; rintro _ w ⟨g, rfl, -, hm⟩ a hs) | (refine stn hs rfl rfl ds_ ?_; clear hs hm a; rintro - w hm a hs) ) | ((with_reducible apply qNil); clear hm; intro w hm) | ((with_reducible refine cQuiet hm ?_ ?_ ?_ ?_); rfl; kernel_rfl; kernel_rfl) | refine sx_ ?_ | refine cx_ ?_)
      refine gRet1 hs rfl rfl ⟨_, rfl, ⟨(fun e => by cases e), (fun e => ?_)⟩, hF0.pu (hF.pu hm.fr)⟩
      exfalso
      have h1 : ss[k] = ss2[k]'(by omega) := by simp only [e.2.1]
      rw [hx, hy] at h1
      exact hxy h1
  have hss : ss = ss2 := List.ext_getElem l2 fun j h1 h2 => hg j h1 h2 (by omega)
  clear hg
  repeat (first | ((with_reducible first | refine toL hm ?_ | refine toQ ?_); (first | refine oneV hs gw_ rfl rfl (by intro w hm; (first | exact kvR_ | exact r_neqSt (fl := [(true, 0, 3), (true, 1, 3), (true, 2, 3), (true, 3, 3), (true, 4, 3)]) hs rfl rfl rfl tab (by kernel_rfl) (by kernel_rfl) (by kernel_rfl) (by kernel_rfl) rfl)) ?_ | refine oN_ ?_); clear hs a; intro a hs) | ((with_reducible apply lCons); first | (refine dv hs gw_ rfl rfl da_ ?_; clear hs hm a; rintro _ w ⟨g, rfl, -, hm⟩ a hs) | (refine stn hs rfl rfl ds_ ?_; clear hs hm a; rintro - w hm a hs) ) | ((with_reducible apply qNil); clear hm; intro w hm) | ((with_reducible refine cQuiet hm ?_ ?_ ?_ ?_); rfl; kernel_rfl; kernel_rfl) | refine sx_ ?_ | refine cx_ ?_)
  refine cLoop (X := Nat) (fun k a w' => Sl Tryz.f22.ntmps [(2, .pointer (some ⟨g2, 0, none⟩)), (3, .pointer (some ⟨g3, 0, none⟩)), (72, .int .i64 (ws.length : Int)), (73, .int .i64 (k : Int))] a ∧ Pu wS w' ∧ k ≤ ws.length ∧ ∀ j (h1 : j < ws.length) (h2 : j < ws2.length), j < k → (ws[j]).xs = (ws2[j]).xs) (fun k => ws.length - k) 0 ⟨hs.sub (Has.all ⟨rfl, rfl, rfl, rfl, trivial⟩), hF.pu hm.fr, Nat.zero_le _, fun j _ _ h => absurd h (Nat.not_lt_zero _)⟩ ?_
  clear hs hm a hF q2 q3
  rintro k a w' ⟨hs, hF, hk, hg⟩
  have hm := Mm.nil (fun _ => False) w'
  have q2 := rg2.pu_ hF
  have q3 := rg3.pu_ hF
  by_cases hlt : k < ws.length
  case neg =>
    have hws : ws.map WV.xs = ws2.map WV.xs := WS_eq l3 fun j h1 h2 => hg j h1 h2 (by omega)
    repeat (first | ((with_reducible first | refine toL hm ?_ | refine toQ ?_); (first | refine oneV hs gw_ rfl rfl (by intro w hm; (first | exact kvR_ | exact r_neqSt (fl := [(true, 0, 3), (true, 1, 3), (true, 2, 3), (true, 3, 3), (true, 4, 3)]) hs rfl rfl rfl tab (by kernel_rfl) (by kernel_rfl) (by kernel_rfl) (by kernel_rfl) rfl)) ?_ | refine oN_ ?_); clear hs a; intro a hs) | ((with_reducible apply lCons); first | (refine dv hs gw_ rfl rfl da_ ?_; clear hs hm a; rintro _ w ⟨g, rfl, -, hm⟩ a hs) | (refine stn hs rfl rfl ds_ ?_; clear hs hm a; rintro - w hm a hs) ) | ((with_reducible apply qNil); clear hm; intro w hm) | ((with_reducible refine cQuiet hm ?_ ?_ ?_ ?_); rfl; kernel_rfl; kernel_rfl) | refine sx_ ?_ | refine cx_ ?_)
    exact gRet1 hs rfl rfl ⟨_, rfl, ⟨(fun _ => ⟨hcode, hss, hws⟩), (fun _ => rfl)⟩, hF0.pu (hF.pu hm.fr)⟩
  obtain ⟨b1, o1, rfl, hb1, r1⟩ := d0.ro (by rw [List.length_map]; omega)
  obtain ⟨b2, o2, rfl, hb2, r2⟩ := d1.ro (by rw [List.length_map]; omega)
  have r1' := r1.pu_ hF
  have r2' := r2.pu_ hF
  have h1m := m4 ws[k] (List.getElem_mem hlt)
  have h2m := n4 (ws2[k]'(by omega)) (List.getElem_mem _)
  have hx1 := x0 ws[k] (List.getElem_mem hlt)
  have hx2 := x1 (ws2[k]'(by omega)) (List.getElem_mem _)
  have k1 : (ws.map WV.v)[k]? = some (ws[k]).v := by rw [List.getElem?_map, List.getElem?_eq_getElem hlt]; rfl
  have k2 : (ws2.map WV.v)[k]? = some (ws2[k]'(by omega)).v := by rw [List.getElem?_map, List.getElem?_eq_getElem (show k < ws2.length by omega)]; rfl
  obtain ⟨x, hx⟩ : ∃ z, ws[k] = z := ⟨_, rfl⟩
  obtain ⟨y, hy⟩ : ∃ z, ws2[k]'(by omega) = z := ⟨_, rfl⟩
  rw [hx] at k1 h1m hx1
  rw [hy] at k2 h2m hx2
  obtain ⟨xA, xcp, xs⟩ := x
  obtain ⟨yA, ycp, ys⟩ := y
  unfold WV.v at k1 k2
  dsimp only at k1 k2 h1m h2m hx1 hx2
  by_cases hlen : xs.length = ys.length
  case neg =>
    repeat (first | ((with_reducible first | refine toL hm ?_ | refine toQ ?_); (first | refine oneV hs gw_ rfl rfl (by intro w hm; (first | exact kvR_ | exact r_neqSt (fl := [(true, 0, 3), (true, 1, 3), (true, 2, 3), (true, 3, 3), (true, 4, 3)]) hs rfl rfl rfl tab (by kernel_rfl) (by kernel_rfl) (by kernel_rfl) (by kernel_rfl) rfl)) ?_ | refine oN_ ?_); clear hs a; intro a hs) | ((with_reducible apply lCons); first | (refine dv hs gw_ rfl rfl da_ ?_; clear hs hm a; rintro _ w ⟨g, rfl, -, hm⟩ a hs) | (refine stn hs rfl rfl ds_ ?_; clear hs hm a; rintro - w hm a hs) ) | ((with_reducible apply qNil); clear hm; intro w hm) | ((with_reducible refine cQuiet hm ?_ ?_ ?_ ?_); rfl; kernel_rfl; kernel_rfl) | refine sx_ ?_ | refine cx_ ?_)
    refine gRet1 hs rfl rfl ⟨_, rfl, ⟨(fun e => by cases e), (fun e => ?_)⟩, hF0.pu (hF.pu hm.fr)⟩
    exfalso
    have h1 : (ws.map WV.xs)[k]? = (ws2.map WV.xs)[k]? := by rw [e.2.2]
    rw [List.getElem?_map, List.getElem?_map, List.getElem?_eq_getElem hlt, List.getElem?_eq_getElem (show k < ws2.length by omega), hx, hy] at h1
    exact hlen (congrArg List.length (Option.some.inj h1))
  repeat (first | ((with_reducible first | refine toL hm ?_ | refine toQ ?_); (first | refine oneV hs gw_ rfl rfl (by intro w hm; (first | exact kvR_ | exact r_neqSt (fl := [(true, 0, 3), (true, 1, 3), (true, 2, 3), (true, 3, 3), (true, 4, 3)]) hs rfl rfl rfl tab (by kernel_rfl) (by kernel_rfl) (by kernel_rfl) (by kernel_rfl) rfl)) ?_ | refine oN_ ?_); clear hs a; intro a hs) | ((with_reducible apply lCons); first | (refine dv hs gw_ rfl rfl da_ ?_; clear hs hm a; rintro _ w ⟨g, rfl, -, hm⟩ a hs) | (refine stn hs rfl rfl ds_ ?_; clear hs hm a; rintro - w hm a hs) ) | ((with_reducible apply qNil); clear hm; intro w hm) | ((with_reducible refine cQuiet hm ?_ ?_ ?_ ?_); rfl; kernel_rfl; kernel_rfl) | refine sx_ ?_ | refine cx_ ?_)
  refine cLoop (X := Nat) (fun j a w' => Sl Tryz.f22.ntmps [(2, .pointer (some ⟨g2, 0, none⟩)), (3, .pointer (some ⟨g3, 0, none⟩)), (72, .int .i64 (ws.length : Int)), (73, .int .i64 (k : Int)), (7, .int .i64 (k : Int)), (94, .int .i64 (xs.length : Int)), (95, .int .i64 (j : Int))] a ∧ Pu wS w' ∧ j ≤ xs.length ∧ ∀ i (h1 : i < xs.length) (h2 : i < ys.length), i < j → xs[i] = ys[i]) (fun j => xs.length - j) 0 ⟨hs.sub (Has.all ⟨rfl, rfl, rfl, rfl, rfl, rfl, rfl, trivial⟩), hF.pu hm.fr, Nat.zero_le _, fun j _ _ h => absurd h (Nat.not_lt_zero _)⟩ ?_
  clear hs hm a hF q2 q3 r1' r2'
  rintro j a w' ⟨hs, hF, hj, hgj⟩
  have hm := Mm.nil (fun _ => False) w'
  have q2 := rg2.pu_ hF
  have q3 := rg3.pu_ hF
  have r1' := r1.pu_ hF
  have r2' := r2.pu_ hF
  by_cases hlj : j < xs.length
  · obtain ⟨b3, o3, rfl, hb3, r3⟩ := (hF.rd' hx1).ro (by unfold wds; rw [List.length_map]; omega)
    obtain ⟨b4, o4, rfl, hb4, r4⟩ := (hF.rd' hx2).ro (by unfold wds; rw [List.length_map]; omega)
    obtain ⟨u, hu⟩ : ∃ z, xs[j] = z := ⟨_, rfl⟩
    obtain ⟨v, hv⟩ : ∃ z, ys[j]'(by omega) = z := ⟨_, rfl⟩
    have k3 : (wds xs)[j]? = some (.int .u16 u) := by unfold wds; rw [List.getElem?_map, List.getElem?_eq_getElem hlj, hu]; rfl
    have k4 : (wds ys)[j]? = some (.int .u16 v) := by unfold wds; rw [List.getElem?_map, List.getElem?_eq_getElem (show j < ys.length by omega), hv]; rfl
    by_cases huv : u = v
    · repeat (first | ((with_reducible first | refine toL hm ?_ | refine toQ ?_); (first | refine oneV hs gw_ rfl rfl (by intro w hm; (first | exact kvR_ | exact r_neqSt (fl := [(true, 0, 3), (true, 1, 3), (true, 2, 3), (true, 3, 3), (true, 4, 3)]) hs rfl rfl rfl tab (by kernel_rfl) (by kernel_rfl) (by kernel_rfl) (by kernel_rfl) rfl)) ?_ | refine oN_ ?_); clear hs a; intro a hs) | ((with_reducible apply lCons); first | (refine dv hs gw_ rfl rfl da_ ?_; clear hs hm a; rintro _ w ⟨g, rfl, -, hm⟩ a hs) | (refine stn hs rfl rfl ds_ ?_; clear hs hm a; rintro - w hm a hs) ) | ((with_reducible apply qNil); clear hm; intro w hm) | ((with_reducible refine cQuiet hm ?_ ?_ ?_ ?_); rfl; kernel_rfl; kernel_rfl) | refine sx_ ?_ | refine cx_ ?_)
      refine ⟨j + 1, by omega, hs.sub (Has.all ⟨rfl, rfl, rfl, rfl, rfl, rfl, rfl, trivial⟩), hF.pu hm.fr, by omega, fun i h1 h2 hi => ?_⟩
      by_cases e : i = j
      · subst e
        rw [hu, hv]
        exact huv
      · exact hgj i h1 h2 (by omega)
    · repeat (first | ((with_reducible first | refine toL hm ?_ | refine toQ ?_); (first | refine oneV hs gw_ rfl rfl (by intro w hm; (first | exact kvR_ | exact r_neqSt (fl := [(true, 0, 3), (true, 1, 3), (true, 2, 3), (true, 3, 3), (true, 4, 3)]) hs rfl rfl rfl tab (by kernel_rfl) (by kernel_rfl) (by kernel_rfl) (by kernel_rfl) rfl)) ?_ | refine oN_ ?_); clear hs a; intro a hs) | ((with_reducible apply lCons); first | (refine dv hs gw_ rfl rfl da_ ?_; clear hs hm a; rintro _ w ⟨g, rfl, -, hm⟩ a hs) | (refine stn hs rfl rfl ds_ ?_; clear hs hm a; rintro - w hm a hs) ) | ((with_reducible apply qNil); clear hm; intro w hm) | ((with_reducible refine cQuiet hm ?_ ?_ ?_ ?_); rfl; kernel_rfl; kernel_rfl) | refine sx_ ?_ | refine cx_ ?_)
      refine gRet1 hs rfl rfl ⟨_, rfl, ⟨(fun e => by cases e), (fun e => ?_)⟩, hF0.pu (hF.pu hm.fr)⟩
      exfalso
      have h1 : (ws.map WV.xs)[k]? = (ws2.map WV.xs)[k]? := by rw [e.2.2]
      rw [List.getElem?_map, List.getElem?_map, List.getElem?_eq_getElem hlt, List.getElem?_eq_getElem (show k < ws2.length by omega), hx, hy] at h1
      have h2 : xs = ys := Option.some.inj h1
      have h3 : xs[j] = ys[j]'(by omega) := by simp only [h2]
      rw [hu, hv] at h3
      exact huv h3
  · have hxy : xs = ys := List.ext_getElem hlen fun i h1 h2 => hgj i h1 h2 (by omega)
    repeat (first | ((with_reducible first | refine toL hm ?_ | refine toQ ?_); (first | refine oneV hs gw_ rfl rfl (by intro w hm; (first | exact kvR_ | exact r_neqSt (fl := [(true, 0, 3), (true, 1, 3), (true, 2, 3), (true, 3, 3), (true, 4, 3)]) hs rfl rfl rfl tab (by kernel_rfl) (by kernel_rfl) (by kernel_rfl) (by kernel_rfl) rfl)) ?_ | refine oN_ ?_); clear hs a; intro a hs) | ((with_reducible apply lCons); first | (refine dv hs gw_ rfl rfl da_ ?_; clear hs hm a; rintro _ w ⟨g, rfl, -, hm⟩ a hs) | (refine stn hs rfl rfl ds_ ?_; clear hs hm a; rintro - w hm a hs) ) | ((with_reducible apply qNil); clear hm; intro w hm) | ((with_reducible refine cQuiet hm ?_ ?_ ?_ ?_); rfl; kernel_rfl; kernel_rfl) | refine sx_ ?_ | refine cx_ ?_)
    refine ⟨k + 1, by omega, hs.sub (Has.all ⟨rfl, rfl, rfl, rfl, trivial⟩), hF.pu hm.fr, by omega, fun i h1 h2 hi => ?_⟩
    by_cases e : i = k
    · subst e
      rw [hx, hy]
      exact hxy
    · exact hg i h1 h2 (by omega)
end Go.Proofs.YtajkekhnfobgiaaGreatDoor

/- AssemblerBack: the walk. -/
namespace Go.Proofs.YtajkekhnfobgiaaGreatDoor
set_option maxRecDepth 20000
open Go.RowKit

theorem sm_of {x q : PV} (h1 : x.code = q.code) (h2 : x.ss = q.ss) (h3 : x.ws.map WV.xs = q.ws.map WV.xs) (h : q.sm) : x.sm := by
  refine ⟨by rw [h1]; exact h.c, by rw [h2]; exact h.s, ?_, fun r hr => ?_⟩
  · have := congrArg List.length h3
    rw [List.length_map, List.length_map] at this
    rw [this]
    exact h.d
  · have hm : r.xs ∈ q.ws.map WV.xs := by rw [← h3]; exact List.mem_map.2 ⟨r, hr, rfl⟩
    obtain ⟨r0, hr0, e⟩ := List.mem_map.1 hm
    rw [← e]
    exact h.x r0 hr0
theorem same_k (p q : PV) (b : Bool) (hb : b = true ↔ SameP p q) (wB : World) (hp : p.ok wB) (hq : q.ok wB) (hps : p.sm) (hqs : q.sm) : Ret Tryz.prog 22 [p.v, q.v] wB (fun u w' => u = .bool b ∧ Pu wB w') :=
  (same_c p q wB hp hq hps hqs).mono fun u w' ⟨b', h1, h2, h3⟩ => ⟨by
    rw [h1]
    congr 1
    rw [Bool.eq_iff_iff]
    exact h2.trans hb.symm, h3⟩
set_option maxHeartbeats 16000000 in
theorem back_c (A : Option Addr) (n c : Nat) (xs : List Int) (A' : Option Addr) (n' c' : Nat) (xs' : List Int) (w0 : World) (hI : IsInts .i64 w0 A n c xs) (hI' : IsInts .i64 w0 A' n' c' xs') (ht : TW w0) :
    Ret Tryz.prog 5 [.slice A n c, .slice A' n' c'] w0 (fun v w' => v = .bool true ∧ Pu w0 w') := by
  obtain ⟨hl, hnc, hc63, hrx, hwx⟩ := hI
  obtain ⟨hl', hnc', hc63', hrx', hwx'⟩ := hI'
  have hn63 : n ≤ 9223372036854775807 := by omega
  have hn63' : n' ≤ 9223372036854775807 := by omega
  refine enterR Tryz.func5 rfl rfl rfl fun a hs hm => ?_
  repeat (first | (refine ov_ ?_; clear hs a; intro a hs) | ((with_reducible apply lCons); first | (refine dv hs gw_ rfl rfl da_ ?_; clear hs hm a; rintro _ w ⟨g, rfl, -, hm⟩ a hs) | (refine stn hs rfl rfl ds_ ?_; clear hs hm a; rintro - w hm a hs) ) | refine sx_ ?_ | refine cx_ ?_)
  refine st hs rfl rfl rfl (d_call hs rfl rfl rfl (pl 10 rfl) ((mk_c A n c _))) ?_; clear hs a; rintro _ w1 ⟨gd, rfl, hN, hf⟩ a hs
  have hD := Dk.start hl (hm.fr.rd' hrx) hn63 hN hf
  replace hm := hm.gain hf hN
  clear hN hf
  refine st hs rfl rfl rfl (d_call hs rfl rfl rfl (pl 11 rfl) ((prg_c gd A n c 0 xs _ hD))) ?_; clear hs a; rintro _ w2 ⟨p, rfl, hpv, hrw, -, a1, k1, hf⟩ a hs
  replace hm := hm.dkt (Rep.head _ _ _) k1 hf
  have hF := hm.fr
  clear hm hf k1 hD
  have hm := Mm.nil (fun _ => False) w2
  obtain ⟨hg, hsm⟩ := PgX.good hpv
  have hok := PgX.pv_ok hrw
  rw [← PgX.pv_v] at hs
  obtain ⟨q, hq⟩ : ∃ q : PV, p.pv = q := ⟨_, rfl⟩
  rw [hq] at hs hg hsm hok
  clear hq hpv hrw
  repeat (first | (refine ov_ ?_; clear hs a; intro a hs) | ((with_reducible apply lCons); first | (refine dv hs gw_ rfl rfl da_ ?_; clear hs hm a; rintro _ w ⟨g, rfl, -, hm⟩ a hs) | (refine stn hs rfl rfl ds_ ?_; clear hs hm a; rintro - w hm a hs) ) | refine sx_ ?_ | refine cx_ ?_)
  refine st hs rfl rfl rfl (d_call hs rfl rfl rfl (pl 10 rfl) ((mk_c A' n' c' _))) ?_; clear hs a; rintro _ w3 ⟨gd', rfl, hN, hf⟩ a hs
  have hD := Dk.start hl' ((hF.pu hm.fr).rd' hrx') hn63' hN hf
  replace hm := hm.gain hf hN
  clear hN hf
  refine st hs rfl rfl rfl (d_call hs rfl rfl rfl (pl 11 rfl) ((prg_c gd' A' n' c' 0 xs' _ hD))) ?_; clear hs a; rintro _ w4 ⟨p2, rfl, hpv, hrw, -, a2, k2, hf⟩ a hs
  replace hm := hm.dkt (Rep.head _ _ _) k2 hf
  replace hok := hok.pu hm.fr
  replace hF := hF.pu hm.fr
  clear hm hf k2 hD
  have hm := Mm.nil (fun _ => False) w4
  obtain ⟨hg', hsm'⟩ := PgX.good hpv
  have hok' := PgX.pv_ok hrw
  rw [← PgX.pv_v] at hs
  obtain ⟨q', hq⟩ : ∃ q : PV, p2.pv = q := ⟨_, rfl⟩
  rw [hq] at hs hg' hsm' hok'
  clear hq hpv hrw
  have hpar := par_text hg hsm
  have hteq := text_eq hg hsm hg' hsm'
  have htl := text_len hg hsm
  have hSa : SameP q q' ↔ textP q = textP q' := hteq.symm
  obtain ⟨bs, hbs⟩ : ∃ b : Bool, (b = true ↔ SameP q q') := by
    by_cases e : SameP q q'
    · exact ⟨true, fun _ => e, fun _ => rfl⟩
    · exact ⟨false, (fun h => by cases h), fun h => absurd h e⟩
  unfold PV.v at hs
  repeat (first | (refine ov_ ?_; clear hs a; intro a hs) | ((with_reducible apply lCons); first | (refine dv hs gw_ rfl rfl da_ ?_; clear hs hm a; rintro _ w ⟨g, rfl, -, hm⟩ a hs) | (refine stn hs rfl rfl ds_ ?_; clear hs hm a; rintro - w hm a hs) ) | refine sx_ ?_ | refine cx_ ?_)
  refine st hs rfl rfl rfl (d_call hs rfl rfl rfl (pl 13 rfl) ((print_c q _ (hok.pu hm.fr) hsm (ht.pu (hF.pu hm.fr))))) ?_; clear hs a; rintro _ w5 ⟨h1, -, hf⟩ a hs
  obtain rfl := h1 hg
  replace hm := hm.pu hf
  clear hf h1
  repeat (first | (refine ov_ ?_; clear hs a; intro a hs) | ((with_reducible apply lCons); first | (refine dv hs gw_ rfl rfl da_ ?_; clear hs hm a; rintro _ w ⟨g, rfl, -, hm⟩ a hs) | (refine stn hs rfl rfl ds_ ?_; clear hs hm a; rintro - w hm a hs) ) | refine sx_ ?_ | refine cx_ ?_)
  refine st hs rfl rfl rfl (d_call hs rfl rfl rfl (pl 13 rfl) ((print_c q' _ (hok'.pu hm.fr) hsm' (ht.pu (hF.pu hm.fr))))) ?_; clear hs a; rintro _ w6 ⟨h1, -, hf⟩ a hs
  obtain rfl := h1 hg'
  replace hm := hm.pu hf
  clear hf h1
  repeat (first | (refine ov_ ?_; clear hs a; intro a hs) | ((with_reducible apply lCons); first | (refine dv hs gw_ rfl rfl da_ ?_; clear hs hm a; rintro _ w ⟨g, rfl, -, hm⟩ a hs) | (refine stn hs rfl rfl ds_ ?_; clear hs hm a; rintro - w hm a hs) ) | refine sx_ ?_ | refine cx_ ?_)
  refine st hs rfl rfl rfl (d_call hs rfl rfl rfl (pl 20 rfl) ((par_c (textP q) _ (ht.pu (hF.pu hm.fr)) (by omega)))) ?_; clear hs a; rintro _ w7 ⟨x, rfl, hx, hxc, hxs, hxw, hf⟩ a hs
  rw [hpar] at hxc hxs hxw hs
  replace hm := hm.pu hf
  clear hf
  dsimp only at hxc hxs hxw
  have hxsm := sm_of hxc hxs hxw hsm
  have hSx : SameP x q := ⟨hxc, hxs, hxw⟩
  unfold PV.v at hs
  obtain ⟨g5, en_⟩ := hs.pt 5 (by exact rfl); subst en_
  obtain ⟨g6, en_⟩ := hs.pt 6 (by exact rfl); subst en_
  have hF7 := hm.fr
  have r5 : Ro w7 g5 0 [.slice q.cA q.code.length q.cc, .slice q.sA q.ss.length q.sc, .slice q.dA q.ws.length q.dc] := hm.ro (k := 0) (n := 3) mem_ (cutF_ok rfl)
  have r6 : Ro w7 g6 0 [.slice q'.cA q'.code.length q'.cc, .slice q'.sA q'.ss.length q'.sc, .slice q'.dA q'.ws.length q'.dc] := hm.ro (k := 0) (n := 3) mem_ (cutF_ok rfl)
  clear hm
  have hm := Mm.nil (fun _ => False) w7
  have k1 := fun w => cnt1_c (textP q) 10 w
  generalize (textP q).count 10 = cnt at hs k1
  dsimp only at hs
  have hok7 := hok.pu hF7
  have hok7' := hok'.pu hF7
  have ht7 := ht.pu (hF.pu hF7)
  have kS1 := fun w'' (hf : Pu w7 w'') => same_k x q true ⟨fun _ => hSx, fun _ => rfl⟩ w'' (hx.pu hf) (hok7.pu hf) hxsm hsm
  have kS2 := fun w'' (hf : Pu w7 w'') => same_k q q' bs hbs w'' (hok7.pu hf) (hok7'.pu hf) hsm hsm'
  have kA := fun w'' (hf : Pu w7 w'') => awk_c w'' (ht7.pu hf)
  cases bs
  · have hne := sEqF (l := textP q) (m := textP q') fun e => absurd (hbs.2 (hSa.2 e)) (by decide)
    repeat (first | ((with_reducible first | refine toL hm ?_ | refine toQ ?_); (first | refine oneV hs gw_ rfl rfl (by intro w hm; exact kv_) ?_ | refine oN_ ?_); clear hs a; intro a hs) | ((with_reducible apply lCons); first | (refine dv hs gw_ rfl rfl da_ ?_; clear hs hm a; rintro _ w ⟨g, rfl, -, hm⟩ a hs) | (refine stn hs rfl rfl ds_ ?_; clear hs hm a; rintro - w hm a hs) | (refine dv hs gw_ rfl rfl (d_call hs rfl rfl rfl (pl 23 rfl) (k1 _)) ?_; clear hs a; rintro _ w ⟨rfl, hf⟩ a hs; replace hm := hm.pu hf; clear hf) | (refine dv hs gw_ rfl rfl (d_call hs rfl rfl rfl (pl 22 rfl) (kS1 _ hm.fr)) ?_; clear hs a; rintro _ w ⟨rfl, hf⟩ a hs; replace hm := hm.pu hf; clear hf) | (refine dv hs gw_ rfl rfl (d_call hs rfl rfl rfl (pl 22 rfl) (kS2 _ hm.fr)) ?_; clear hs a; rintro _ w ⟨rfl, hf⟩ a hs; replace hm := hm.pu hf; clear hf) | (refine dv hs gw_ rfl rfl (d_call hs rfl rfl rfl (pl 9 rfl) (kA _ hm.fr)) ?_; clear hs a; rintro _ w ⟨rfl, hf⟩ a hs; replace hm := hm.pu hf; clear hf)) | ((with_reducible apply qCons); first | (refine qwcall hs gw_ rfl rfl rfl rfl rfl (pl 23 rfl) (by intro w hm; exact Ret.mono (k1 _) (fun _ _ ⟨h1, h2⟩ => ⟨h1, hm.pu h2⟩)) ?_; clear hs a; intro a hs) | (refine qwcall hs gw_ rfl rfl rfl rfl rfl (pl 22 rfl) (by intro w hm; exact Ret.mono (kS1 _ hm.fr) (fun _ _ ⟨h1, h2⟩ => ⟨h1, hm.pu h2⟩)) ?_; clear hs a; intro a hs) | (refine qwcall hs gw_ rfl rfl rfl rfl rfl (pl 22 rfl) (by intro w hm; exact Ret.mono (kS2 _ hm.fr) (fun _ _ ⟨h1, h2⟩ => ⟨h1, hm.pu h2⟩)) ?_; clear hs a; intro a hs) | (refine qwcall hs gw_ rfl rfl rfl rfl rfl (pl 9 rfl) (by intro w hm; exact Ret.mono (kA _ hm.fr) (fun _ _ ⟨h1, h2⟩ => ⟨h1, hm.pu h2⟩)) ?_; clear hs a; intro a hs)) | ((with_reducible apply qNil); clear hm; intro w hm) | ((with_reducible refine cQuiet hm ?_ ?_ ?_ ?_); rfl; kernel_rfl; kernel_rfl) | refine sx_ ?_ | refine cx_ ?_)
    rw [hne] at hs
    repeat (first | ((with_reducible first | refine toL hm ?_ | refine toQ ?_); (first | refine oneV hs gw_ rfl rfl (by intro w hm; exact kv_) ?_ | refine oN_ ?_); clear hs a; intro a hs) | ((with_reducible apply lCons); first | (refine dv hs gw_ rfl rfl da_ ?_; clear hs hm a; rintro _ w ⟨g, rfl, -, hm⟩ a hs) | (refine stn hs rfl rfl ds_ ?_; clear hs hm a; rintro - w hm a hs) | (refine dv hs gw_ rfl rfl (d_call hs rfl rfl rfl (pl 22 rfl) (kS2 _ hm.fr)) ?_; clear hs a; rintro _ w ⟨rfl, hf⟩ a hs; replace hm := hm.pu hf; clear hf) | (refine dv hs gw_ rfl rfl (d_call hs rfl rfl rfl (pl 9 rfl) (kA _ hm.fr)) ?_; clear hs a; rintro _ w ⟨rfl, hf⟩ a hs; replace hm := hm.pu hf; clear hf)) | ((with_reducible apply qCons); first | (refine qwcall hs gw_ rfl rfl rfl rfl rfl (pl 22 rfl) (by intro w hm; exact Ret.mono (kS2 _ hm.fr) (fun _ _ ⟨h1, h2⟩ => ⟨h1, hm.pu h2⟩)) ?_; clear hs a; intro a hs) | (refine qwcall hs gw_ rfl rfl rfl rfl rfl (pl 9 rfl) (by intro w hm; exact Ret.mono (kA _ hm.fr) (fun _ _ ⟨h1, h2⟩ => ⟨h1, hm.pu h2⟩)) ?_; clear hs a; intro a hs)) | ((with_reducible apply qNil); clear hm; intro w hm) | ((with_reducible refine cQuiet hm ?_ ?_ ?_ ?_); rfl; kernel_rfl; kernel_rfl) | refine sx_ ?_ | refine cx_ ?_)
    exact gRet1 hs rfl rfl ⟨rfl, hF.pu (hF7.pu hm.fr)⟩
  · have hne := sEqT (l := textP q) (m := textP q') (hSa.1 (hbs.1 rfl))
    repeat (first | ((with_reducible first | refine toL hm ?_ | refine toQ ?_); (first | refine oneV hs gw_ rfl rfl (by intro w hm; exact kv_) ?_ | refine oN_ ?_); clear hs a; intro a hs) | ((with_reducible apply lCons); first | (refine dv hs gw_ rfl rfl da_ ?_; clear hs hm a; rintro _ w ⟨g, rfl, -, hm⟩ a hs) | (refine stn hs rfl rfl ds_ ?_; clear hs hm a; rintro - w hm a hs) | (refine dv hs gw_ rfl rfl (d_call hs rfl rfl rfl (pl 23 rfl) (k1 _)) ?_; clear hs a; rintro _ w ⟨rfl, hf⟩ a hs; replace hm := hm.pu hf; clear hf) | (refine dv hs gw_ rfl rfl (d_call hs rfl rfl rfl (pl 22 rfl) (kS1 _ hm.fr)) ?_; clear hs a; rintro _ w ⟨rfl, hf⟩ a hs; replace hm := hm.pu hf; clear hf) | (refine dv hs gw_ rfl rfl (d_call hs rfl rfl rfl (pl 22 rfl) (kS2 _ hm.fr)) ?_; clear hs a; rintro _ w ⟨rfl, hf⟩ a hs; replace hm := hm.pu hf; clear hf) | (refine dv hs gw_ rfl rfl (d_call hs rfl rfl rfl (pl 9 rfl) (kA _ hm.fr)) ?_; clear hs a; rintro _ w ⟨rfl, hf⟩ a hs; replace hm := hm.pu hf; clear hf)) | ((with_reducible apply qCons); first | (refine qwcall hs gw_ rfl rfl rfl rfl rfl (pl 23 rfl) (by intro w hm; exact Ret.mono (k1 _) (fun _ _ ⟨h1, h2⟩ => ⟨h1, hm.pu h2⟩)) ?_; clear hs a; intro a hs) | (refine qwcall hs gw_ rfl rfl rfl rfl rfl (pl 22 rfl) (by intro w hm; exact Ret.mono (kS1 _ hm.fr) (fun _ _ ⟨h1, h2⟩ => ⟨h1, hm.pu h2⟩)) ?_; clear hs a; intro a hs) | (refine qwcall hs gw_ rfl rfl rfl rfl rfl (pl 22 rfl) (by intro w hm; exact Ret.mono (kS2 _ hm.fr) (fun _ _ ⟨h1, h2⟩ => ⟨h1, hm.pu h2⟩)) ?_; clear hs a; intro a hs) | (refine qwcall hs gw_ rfl rfl rfl rfl rfl (pl 9 rfl) (by intro w hm; exact Ret.mono (kA _ hm.fr) (fun _ _ ⟨h1, h2⟩ => ⟨h1, hm.pu h2⟩)) ?_; clear hs a; intro a hs)) | ((with_reducible apply qNil); clear hm; intro w hm) | ((with_reducible refine cQuiet hm ?_ ?_ ?_ ?_); rfl; kernel_rfl; kernel_rfl) | refine sx_ ?_ | refine cx_ ?_)
    rw [hne] at hs
    repeat (first | ((with_reducible first | refine toL hm ?_ | refine toQ ?_); (first | refine oneV hs gw_ rfl rfl (by intro w hm; exact kv_) ?_ | refine oN_ ?_); clear hs a; intro a hs) | ((with_reducible apply lCons); first | (refine dv hs gw_ rfl rfl da_ ?_; clear hs hm a; rintro _ w ⟨g, rfl, -, hm⟩ a hs) | (refine stn hs rfl rfl ds_ ?_; clear hs hm a; rintro - w hm a hs) | (refine dv hs gw_ rfl rfl (d_call hs rfl rfl rfl (pl 22 rfl) (kS2 _ hm.fr)) ?_; clear hs a; rintro _ w ⟨rfl, hf⟩ a hs; replace hm := hm.pu hf; clear hf) | (refine dv hs gw_ rfl rfl (d_call hs rfl rfl rfl (pl 9 rfl) (kA _ hm.fr)) ?_; clear hs a; rintro _ w ⟨rfl, hf⟩ a hs; replace hm := hm.pu hf; clear hf)) | ((with_reducible apply qCons); first | (refine qwcall hs gw_ rfl rfl rfl rfl rfl (pl 22 rfl) (by intro w hm; exact Ret.mono (kS2 _ hm.fr) (fun _ _ ⟨h1, h2⟩ => ⟨h1, hm.pu h2⟩)) ?_; clear hs a; intro a hs) | (refine qwcall hs gw_ rfl rfl rfl rfl rfl (pl 9 rfl) (by intro w hm; exact Ret.mono (kA _ hm.fr) (fun _ _ ⟨h1, h2⟩ => ⟨h1, hm.pu h2⟩)) ?_; clear hs a; intro a hs)) | ((with_reducible apply qNil); clear hm; intro w hm) | ((with_reducible refine cQuiet hm ?_ ?_ ?_ ?_); rfl; kernel_rfl; kernel_rfl) | refine sx_ ?_ | refine cx_ ?_)
    exact gRet1 hs rfl rfl ⟨rfl, hF.pu (hF7.pu hm.fr)⟩
theorem walk_AssemblerBack (A : Option Addr) (n c : Nat) (xs : List Int) (A' : Option Addr) (n' c' : Nat) (xs' : List Int) (w : World) (hI : IsInts .i64 w A n c xs) (hI' : IsInts .i64 w A' n' c' xs') (ht : TW w) : Calls Tryz.prog 5 #[.slice A n c, .slice A' n' c'] w (fun e w' => e = .returned (.bool true) ∧ Pu w w') :=
  Ret.law (back_c A n c xs A' n' c' xs' w hI hI' ht)
end Go.Proofs.YtajkekhnfobgiaaGreatDoor

/- AssemblerNames, the plain law: the lines of a program with other names. -/
namespace Go.Proofs.YtajkekhnfobgiaaGreatDoor
set_option maxRecDepth 20000
open Go.RowKit

theorem spl_sub (c : UInt8) : ∀ (l t : Tx), t ∈ spl c l → ∀ b ∈ t, b ∈ l
  | [], t, h, b, hb => by
    rcases List.mem_singleton.1 h with rfl
    exact hb
  | x :: l, t, h, b, hb => by
    rw [spl_cons] at h
    split at h
    · rcases List.mem_cons.1 h with rfl | h
      · exact absurd hb List.not_mem_nil
      · exact List.mem_cons_of_mem _ (spl_sub c l t h b hb)
    · have ih := spl_sub c l
      split at h
      · rename_i h0 t0 e
        rw [e] at ih
        rcases List.mem_cons.1 h with rfl | h
        · rcases List.mem_cons.1 hb with rfl | hb
          · exact List.mem_cons_self ..
          · exact List.mem_cons_of_mem _ (ih h0 (List.mem_cons_self ..) b hb)
        · exact List.mem_cons_of_mem _ (ih t (List.mem_cons_of_mem _ h) b hb)
      · rename_i e
        exact absurd e (spl_ne c l)
theorem spl_join : ∀ x : Tx, Lib.join (spl 32 x) [32] = x
  | [] => rfl
  | b :: l => by
    have ih := spl_join l
    rw [spl_cons]
    split
    · rename_i e
      subst e
      obtain ⟨h, t, e⟩ : ∃ h t, spl 32 l = h :: t := by
        cases e : spl 32 l with
        | nil => exact absurd e (spl_ne _ _)
        | cons h t => exact ⟨h, t, rfl⟩
      rw [e] at ih ⊢
      rw [join_words] at ih ⊢
      rw [List.flatMap_cons, List.nil_append, List.cons_append, ih]
    · split
      · rename_i h t e
        rw [e, join_words] at ih
        rw [join_words, List.cons_append, ih]
      · rename_i e
        exact absurd e (spl_ne _ _)
theorem join_lines : ∀ L : List Tx, Lib.join (L ++ [[]]) [10] = L.flatMap fun x => x ++ [10]
  | [] => Lib.join_one _ _
  | x :: t => by
    have ih := join_lines t
    obtain ⟨h, r, e⟩ : ∃ h r, t ++ [[]] = h :: r := by
      cases t with
      | nil => exact ⟨_, _, rfl⟩
      | cons a b => exact ⟨_, _, rfl⟩
    rw [List.cons_append, List.flatMap_cons, ← ih, e, Lib.join_cons, Lib.join_cons]
    show x ++ (([10] ++ h) ++ _) = (x ++ [10]) ++ (h ++ _)
    unfold Lib.joinTail
    simp only [List.append_assoc]
def jmW : List Tx := [[106, 109, 112], [106, 122], [106, 110, 122], [106, 97, 108]]
def jmB (W : List Tx) : Bool := decide (1 < W.length) && decide (W.headD [] ∈ jmW)
def renL (nam : Tx) (W : List Tx) : List Tx := if jmB W || [58].isSuffixOf (W.getLastD []) then W.dropLast ++ [nam ++ (W.getLastD []).drop 1] else W
def renF (nam x : Tx) : Tx := Lib.join (renL nam (spl 32 x)) [32]
def nmW (nam : Tx) (k : Nat) : Tx := nam ++ Lib.itoa (k : Int)
theorem suf_no {l : Tx} (h : ∀ c ∈ l, c ≠ 58) : [58].isSuffixOf l = false := by
  rw [Bool.eq_false_iff]
  intro e
  rw [List.isSuffixOf_iff_suffix] at e
  exact h 58 (e.subset (List.mem_singleton.2 rfl)) rfl
theorem lastD_mem {W : List Tx} (h : W ≠ []) : W.getLastD [] ∈ W := by
  cases W with
  | nil => exact absurd rfl h
  | cons a t => rw [List.getLastD_cons, ← List.getLast_eq_getLastD (by simp)]; exact List.getLast_mem _
theorem ren_clean {nam x : Tx} (h : ClnL x) (hj : jmB (spl 32 x) = false) : renF nam x = x := by
  unfold renF renL
  rw [hj, suf_no fun c hc => (h c (spl_sub 32 x _ (lastD_mem (spl_ne _ _)) c hc)).2]
  exact spl_join x
theorem ren_region (nam : Tx) {n : Int} {xs : List Int} (h : 0 ≤ n) (hx : ∀ y ∈ xs, 0 ≤ y) : jmB (spl 32 (rgLn n xs)) = false ∧ renF nam (rgLn n xs) = rgLn n xs := by
  have hj : jmB (spl 32 (rgLn n xs)) = false := by
    rw [rgLn_spl h hx]
    unfold jmB
    rw [show decide ((rgN :: Lib.itoa n :: xs.map Lib.itoa).headD [] ∈ jmW) = false from by rw [List.headD_cons]; decide, Bool.and_false]
  exact ⟨hj, ren_clean (rgLn_cln h hx) hj⟩
theorem lnm_no32 (k : Nat) : (32 : UInt8) ∉ lnm k := by
  refine no32_aln ?_
  unfold lnm
  rw [List.all_cons, itoa_aln (by omega)]
  rfl
theorem ren_label (nam : Tx) (k : Nat) : jmB (spl 32 (lnm k ++ [58])) = false ∧ renF nam (lnm k ++ [58]) = nmW nam k ++ [58] := by
  have h : spl 32 (lnm k ++ [58]) = [lnm k ++ [58]] := spl_miss _ _ (by
    intro h
    rcases List.mem_append.1 h with h | h
    · exact lnm_no32 k h
    · exact absurd (List.mem_singleton.1 h) (by decide))
  have hj : jmB [lnm k ++ [58]] = false := by
    unfold jmB
    rw [show decide (1 < [lnm k ++ [58]].length) = false from rfl, Bool.false_and]
  have hs : [58].isSuffixOf ([lnm k ++ [58]].getLastD []) = true := by
    rw [List.isSuffixOf_iff_suffix]
    exact List.suffix_append _ _
  rw [h]
  refine ⟨hj, ?_⟩
  unfold renF renL
  rw [h, hj, hs]
  show Lib.join [nam ++ (lnm k ++ [58]).drop 1] [32] = _
  rw [Lib.join_one]
  unfold nmW lnm
  rw [List.cons_append, List.drop_succ_cons, List.drop_zero, List.append_assoc]
theorem name_jm : ∀ k : Nat, k < 25 → (decide (nameL (k : Int) ∈ jmW)) = jumpB (k : Int) := by decide
theorem ren_instr (nam : Tx) {i : In} {n ns : Nat} (h : InG i n ns) : (jmB (spl 32 (lineN lnm i)) = true → (spl 32 (lineN lnm i)).getLastD [] ≠ []) ∧ renF nam (lineN lnm i) = lineN (nmW nam) i := by
  have hin := h.1
  have hnm : jumpB i.op = true → nmB (lnm i.m.toNat) = true := fun hjb => lnm_ok.ok _ (by have := h.1.2 hjb; have := hin.1.m; omega)
  have hsp := lineN_spl hin.in0 hnm
  have hop := hin.1.op
  obtain ⟨k, hk⟩ : ∃ k : Nat, i.op = (k : Int) := ⟨i.op.toNat, by omega⟩
  have hnj := name_jm k (by omega)
  rw [← hk] at hnj
  cases hjb : jumpB i.op
  case false =>
    rw [hjb] at hnj
    have hj : jmB (spl 32 (lineN lnm i)) = false := by
      rw [hsp]
      unfold jmB wordsN
      rw [List.headD_cons, hnj, Bool.and_false]
    refine ⟨(fun e => by rw [hj] at e; cases e), ?_⟩
    rw [ren_clean (lineN_cln hin.in0 hnm) hj]
    unfold lineN wordsN lstN
    rw [hjb]
    rfl
  case true =>
    rw [hjb] at hnj
    have hw : ∀ nm : Nat → Tx, wordsN nm i = (nameL i.op :: regsN i) ++ [nm i.m.toNat] := fun nm => by
      unfold wordsN lstN
      rw [hjb]
      rfl
    have hj : jmB (wordsN lnm i) = true := by
      rw [hw]
      unfold jmB
      rw [List.cons_append, List.headD_cons, hnj, Bool.and_true]
      apply decide_eq_true
      rw [List.length_cons, List.length_append, List.length_singleton]
      omega
    have hl : (wordsN lnm i).getLastD [] = lnm i.m.toNat := by rw [hw, List.getLastD_concat]
    rw [hsp]
    refine ⟨fun _ => (by rw [hl]; exact fun e => (by cases e)), ?_⟩
    unfold renF renL
    rw [hsp, hj, hl]
    show Lib.join ((wordsN lnm i).dropLast ++ [nam ++ (lnm i.m.toNat).drop 1]) [32] = _
    rw [hw, List.dropLast_concat]
    unfold lineN
    rw [hw]
    rfl
def nams : List Tx := [[122, 57], [110, 111, 112], [114, 101, 103, 105, 111, 110], [97, 98, 99, 100, 101, 102]]
theorem nam_ok {nam : Tx} (h : nam ∈ nams) : NmOk (nmW nam) := by
  have h1 : nams.all (fun nam => (List.range 64).all fun k => nmB (nmW nam k)) = true := by kernel_rfl
  exact ⟨fun k hk => List.all_eq_true.1 (List.all_eq_true.1 h1 nam h) k (List.mem_range.2 hk), fun j k _ _ e => itoa_inj (List.append_cancel_left e)⟩
theorem nam_len {nam : Tx} (h : nam ∈ nams) : nam.length ≤ 6 := (show ∀ x ∈ nams, x.length ≤ 6 by decide) nam h
theorem ren_lines (nam : Tx) {p : PV} (h : GoodP p) (hs : p.sm) : (∀ x ∈ linesN lnm p, jmB (spl 32 x) = true → (spl 32 x).getLastD [] ≠ []) ∧ (linesN lnm p).map (renF nam) = linesN (nmW nam) p := by
  have hr : ∀ j, j < p.ss.length → jmB (spl 32 (rgLn (p.ss.getD j 0) (p.ws.getD j ⟨none, 0, []⟩).xs)) = false ∧ renF nam (rgLn (p.ss.getD j 0) (p.ws.getD j ⟨none, 0, []⟩).xs) = rgLn (p.ss.getD j 0) (p.ws.getD j ⟨none, 0, []⟩).xs := fun j hj => by
    have hjw : j < p.ws.length := by rw [h.wl]; exact hj
    have hg := h.gs hs
    have hsk := hg.s j hj
    have hxk := hg.x j hjw
    rw [List.getD_eq_getElem?_getD, List.getElem?_eq_getElem hj, List.getD_eq_getElem?_getD, List.getElem?_eq_getElem hjw, Option.getD_some, Option.getD_some]
    exact ren_region nam (by omega) fun y hy => (hxk.2 y hy).1
  have hc : ∀ j, j < p.code.length → (jmB (spl 32 (lineN lnm (p.code.getD j ⟨0, 0, 0, 0, 0⟩))) = true → (spl 32 (lineN lnm (p.code.getD j ⟨0, 0, 0, 0, 0⟩))).getLastD [] ≠ []) ∧ renF nam (lineN lnm (p.code.getD j ⟨0, 0, 0, 0, 0⟩)) = lineN (nmW nam) (p.code.getD j ⟨0, 0, 0, 0, 0⟩) := fun j hj => by
    rw [List.getD_eq_getElem?_getD, List.getElem?_eq_getElem hj, Option.getD_some]
    exact ren_instr nam (h.inv _ (List.getElem_mem hj))
  constructor
  · intro x hx
    unfold linesN at hx
    rcases List.mem_append.1 hx with hx | hx
    · unfold rLns at hx
      obtain ⟨j, hj, rfl⟩ := List.mem_map.1 hx
      intro e
      rw [(hr j (List.mem_range.1 hj)).1] at e
      cases e
    · unfold cLns at hx
      obtain ⟨j, hj, hx⟩ := List.mem_flatMap.1 hx
      have hj := List.mem_range.1 hj
      unfold cLn at hx
      rcases List.mem_append.1 hx with hx | hx
      · split at hx
        · rcases List.mem_singleton.1 hx with rfl
          intro e
          rw [(ren_label nam j).1] at e
          cases e
        · exact absurd hx List.not_mem_nil
      · rcases List.mem_singleton.1 hx with rfl
        exact (hc j hj).1
  · unfold linesN
    rw [List.map_append]
    congr 1
    · unfold rLns
      rw [List.map_map]
      exact List.map_congr_left fun j hj => (hr j (List.mem_range.1 hj)).2
    · unfold cLns
      rw [List.map_flatMap]
      apply congrArg List.flatten
      refine List.map_congr_left fun j hj => ?_
      unfold cLn
      rw [List.map_append, List.map_singleton, (hc j (List.mem_range.1 hj)).2]
      congr 1
      split
      · rw [List.map_singleton, (ren_label nam j).2]
      · rfl
theorem ren_nil (nam : Tx) : jmB (spl 32 []) = false ∧ renF nam [] = [] := ⟨rfl, ren_clean (fun _ hc => absurd hc List.not_mem_nil) rfl⟩
theorem join_last (ws : List Tx) (a b : Tx) : (Lib.join (ws ++ [a]) [32]).length + b.length = (Lib.join (ws ++ [b]) [32]).length + a.length := by
  cases ws with
  | nil =>
    rw [List.nil_append, List.nil_append, Lib.join_one, Lib.join_one]
    omega
  | cons w t =>
    rw [List.cons_append, List.cons_append, join_words, join_words, List.flatMap_append, List.flatMap_append]
    simp only [List.length_append, List.flatMap_cons, List.flatMap_nil, List.length_cons, List.length_nil]
    omega
/-- what the loop asks of the lines -/
structure RnT (nam : Tx) (T : Tx) (p : PV) (Ls : List Tx) : Prop where
  sp : spl 10 T = Ls
  ln : Ls.length ≤ 5000
  le : ∀ x ∈ Ls, x.length ≤ 5000
  ok : ∀ x ∈ Ls, jmB (spl 32 x) = true → (spl 32 x).getLastD [] ≠ []
  jn : (Lib.join (Ls.map (renF nam)) [10]).length ≤ 4096
  pa : ∃ n : Int, parF (Lib.join (Ls.map (renF nam)) [10]) = (⟨p.code, p.ss, p.ws.map WV.xs⟩, n, 0)
theorem rn_t {nam : Tx} (hn : nam ∈ nams) {p : PV} (h : GoodP p) (hs : p.sm) : RnT nam (textP p) p (linesN lnm p ++ [[]]) := by
  obtain ⟨h1, h2⟩ := ren_lines nam h hs
  have h3 := text_lines h
  have h4 := spl_lines (linesN lnm p) (lines_no10 lnm_ok h hs)
  have h5 := len_N lnm_ok h hs
  have h6 := len_N (nam_ok hn) h hs
  have h7 : Lib.join ((linesN lnm p ++ [[]]).map (renF nam)) [10] = (linesN (nmW nam) p).flatMap fun x => x ++ [10] := by
    rw [List.map_append, List.map_singleton, (ren_nil nam).2, h2, join_lines]
  have h8 := spl_cnt_le 10 (textP p)
  rw [h3] at h8 ⊢
  refine ⟨h4, by rw [← h4]; omega, fun x hx => ?_, fun x hx => ?_, by rw [h7]; exact h6, ⟨_, by rw [h7]; exact par_N (nam_ok hn) h hs h6⟩⟩
  · rw [← h4] at hx
    have := spl_mem_le 10 _ x hx
    omega
  · rcases List.mem_append.1 hx with hx | hx
    · exact h1 x hx
    · rcases List.mem_singleton.1 hx with rfl
      intro e
      rw [(ren_nil nam).1] at e
      cases e
end Go.Proofs.YtajkekhnfobgiaaGreatDoor

/- AssemblerNames: the walk. -/
namespace Go.Proofs.YtajkekhnfobgiaaGreatDoor
set_option maxRecDepth 20000
open Go.RowKit
section
variable {P : Program} {N : Nat} {L : List (Nat × Value)} {a : Act} {w : World} {o : Oper} {x y : Operand} {T : List (Nat × TI)}
/-- `s[k:]` of a text -/
theorem r_sfrom {t : TypeId} {i : TI} {l : List UInt8} {k : Nat} (hs : Sl N L a) (ho : o.op = .slice t x (some y) none none) (hx : ev L x = some (txv l)) (hy : ev L y = some (.int .i64 (k : Int))) (hT : TabOk P T) (hc : tlk T t = some i) (hd : i.d = .str) (hk : k ≤ l.length) : RunV P a o w (txv (l.drop k)) := by
  replace hx := hs.ev hx; replace hy := hs.ev hy
  unfold txv at hx
  have h1 : ((⟨l.toArray⟩ : ByteArray).extract k l.length) = ⟨(l.drop k).toArray⟩ := by
    apply ByteArray.ext
    simp [ByteArray.data_extract]
    exact List.take_of_length_le (by rw [List.length_drop]; exact Nat.le_refl _)
  have h2 : (0 : Int) ≤ (k : Int) ∧ (k : Int) ≤ (l.length : Int) := by omega
  unfold RunV execOp txv
  rw [← h1]
  simp [ho, hx, hy, Instr.sliceAt, Instr.slice, run_und ((hT _ _ hc).str hd), Instr.sliceBounds, run_sliceBound, ba_s, h2]
end
theorem split_b (c : UInt8) (l : List UInt8) (w : World) (hl : l.length < 4294967281) (ht : TW w) : Ret Tryz.prog 18 [txv l, txv [c]] w (fun u w' => ∃ g, u = .slice (some ⟨g, 0, none⟩) (spl c l).length (spl c l).length ∧ New w w' [⟨some g, 9, (spl c l).map txv⟩] ∧ Pu w w') := by
  obtain ⟨m, hm⟩ := ht.mxl
  refine ⟨Calls.mono (Tryz.strings_Split ⟨l.toArray⟩ ⟨[c].toArray⟩ m w (by rw [ba_s]; exact hl) hm (by rw [ba_s]; exact Nat.le_refl 1)) ?_⟩
  rintro e w' ⟨rfl, rfl⟩
  rw [splitB_spl, ← spl_len c l]
  exact ⟨_, rfl, _, rfl, New.alloc w _ _, (Fr.refl _ w).alloc _⟩
theorem nm_cell (r : Nat) (h : r < 4) : ∃ nam, nam ∈ nams ∧ ([txv [122, 57], txv [110, 111, 112], txv [114, 101, 103, 105, 111, 110], txv [97, 98, 99, 100, 101, 102]] : List Value)[r]? = some (txv nam) := by
  rcases (by omega : r = 0 ∨ r = 1 ∨ r = 2 ∨ r = 3) with rfl | rfl | rfl | rfl
  · exact ⟨_, List.mem_cons_self .., rfl⟩
  · exact ⟨_, List.mem_cons_of_mem _ (List.mem_cons_self ..), rfl⟩
  · exact ⟨_, List.mem_cons_of_mem _ (List.mem_cons_of_mem _ (List.mem_cons_self ..)), rfl⟩
  · exact ⟨_, List.mem_cons_of_mem _ (List.mem_cons_of_mem _ (List.mem_cons_of_mem _ (List.mem_cons_self ..))), rfl⟩

structure NaX where
  k : Nat
  A : Option Nat
  c : Nat
  cs : List Value
theorem set_last {α : Type} : ∀ (l : List α) (a b : α) {n : Nat}, l.length = n → (l ++ [a]).set n b = l ++ [b]
  | [], _, _, _, h => by subst h; rfl
  | x :: t, a, b, _, h => by
    subst h
    show x :: (t ++ [a]).set t.length b = _
    rw [set_last t a b rfl]
    rfl


set_option maxHeartbeats 16000000 in
theorem names_c (A : Option Addr) (n c : Nat) (xs : List Int) (which : Int) (w0 : World) (hI : IsInts .i64 w0 A n c xs) (ht : TW w0) :
    Ret Tryz.prog 6 [.slice A n c, .int .i64 which] w0 (fun v w' => v = .bool true ∧ Pu w0 w') := by
  obtain ⟨hl, hnc, hc63, hrx, hwx⟩ := hI
  have hn63 : n ≤ 9223372036854775807 := by omega
  refine enterR Tryz.func6 rfl rfl rfl fun a hs hm => ?_
  repeat (first | ((with_reducible refine toL hm ?_); (first | refine oneV hs gw_ rfl rfl (by intro w hm; (first | exact kv_ | exact ksl_ | exact r_sfrom (k := 1) hs rfl rfl rfl tab rfl rfl (by assumption) | exact r_sadd hs rfl rfl rfl (by simp only [List.length_drop]; omega))) ?_ | refine oN_ ?_); clear hs a; intro a hs) | ((with_reducible apply lCons); first | (refine dv hs gw_ rfl rfl da_ ?_; clear hs hm a; rintro _ w ⟨g, rfl, -, hm⟩ a hs) | (refine stn hs rfl rfl ds_ ?_; clear hs hm a; rintro - w hm a hs) ) | refine sx_ ?_ | refine cx_ ?_)
  refine st hs rfl rfl rfl (d_call hs rfl rfl rfl (pl 10 rfl) ((mk_c A n c _))) ?_; clear hs a; rintro _ w1 ⟨gd, rfl, hN, hf⟩ a hs
  have hD := Dk.start hl (hm.fr.rd' hrx) hn63 hN hf
  replace hm := hm.gain hf hN
  clear hN hf
  refine st hs rfl rfl rfl (d_call hs rfl rfl rfl (pl 11 rfl) ((prg_c gd A n c 0 xs _ hD))) ?_; clear hs a; rintro _ w2 ⟨p, rfl, hpv, hrw, -, a1, k1, hf⟩ a hs
  replace hm := hm.dkt (Rep.head _ _ _) k1 hf
  have hF := hm.fr
  clear hm hf k1 hD
  have hm := Mm.nil (fun _ => False) w2
  obtain ⟨hg, hsm⟩ := PgX.good hpv
  have hok := PgX.pv_ok hrw
  rw [← PgX.pv_v] at hs
  obtain ⟨q, hq⟩ : ∃ q : PV, p.pv = q := ⟨_, rfl⟩
  rw [hq] at hs hg hsm hok
  clear hq hpv hrw
  have htl := text_len hg hsm
  have hmdb := modF_bd which (m := 4) (by omega)
  have hmd := fun w => mod_c which 4 w (by omega) (by omega)
  obtain ⟨r, hr⟩ : ∃ r : Nat, modF which 4 = (r : Int) := ⟨(modF which 4).toNat, by omega⟩
  rw [hr] at hmd hmdb
  clear hr
  have hr4 : r < 4 := by omega
  obtain ⟨nam, hnam, hncell⟩ := nm_cell r hr4
  have hT := rn_t hnam hg hsm
  have hnl := nam_len hnam
  unfold PV.v at hs
  repeat (first | ((with_reducible refine toL hm ?_); (first | refine oneV hs gw_ rfl rfl (by intro w hm; (first | exact kv_ | exact ksl_ | exact r_sfrom (k := 1) hs rfl rfl rfl tab rfl rfl (by assumption) | exact r_sadd hs rfl rfl rfl (by simp only [List.length_drop]; omega))) ?_ | refine oN_ ?_); clear hs a; intro a hs) | ((with_reducible apply lCons); first | (refine dv hs gw_ rfl rfl da_ ?_; clear hs hm a; rintro _ w ⟨g, rfl, -, hm⟩ a hs) | (refine stn hs rfl rfl ds_ ?_; clear hs hm a; rintro - w hm a hs) ) | refine sx_ ?_ | refine cx_ ?_)
  refine st hs rfl rfl rfl (d_call hs rfl rfl rfl (pl 13 rfl) ((print_c q _ (hok.pu hm.fr) hsm (ht.pu (hF.pu hm.fr))))) ?_; clear hs a; rintro _ w3 ⟨h1, -, hf⟩ a hs
  obtain rfl := h1 hg
  replace hm := hm.pu hf
  clear hf h1
  generalize textP q = T at hs hT htl
  repeat (first | ((with_reducible refine toL hm ?_); (first | refine oneV hs gw_ rfl rfl (by intro w hm; (first | exact kv_ | exact ksl_ | exact r_sfrom (k := 1) hs rfl rfl rfl tab rfl rfl (by assumption) | exact r_sadd hs rfl rfl rfl (by simp only [List.length_drop]; omega))) ?_ | refine oN_ ?_); clear hs a; intro a hs) | ((with_reducible apply lCons); first | (refine dv hs gw_ rfl rfl da_ ?_; clear hs hm a; rintro _ w ⟨g, rfl, -, hm⟩ a hs) | (refine stn hs rfl rfl ds_ ?_; clear hs hm a; rintro - w hm a hs) | (refine dv hs gw_ rfl rfl (d_call hs rfl rfl rfl (pl 17 rfl) (hmd _)) ?_; clear hs a; rintro _ w ⟨rfl, hf⟩ a hs; replace hm := hm.pu hf; clear hf)) | refine sx_ ?_ | refine cx_ ?_)
  obtain ⟨g5, en_⟩ := hs.pt 5 (by exact rfl); subst en_
  have hF3 := hF.pu hm.fr
  have ht3 := ht.pu hF3
  have hok3 := hok.pu hm.fr
  have rg5 : Ro _ g5 0 [.slice q.cA q.code.length q.cc, .slice q.sA q.ss.length q.sc, .slice q.dA q.ws.length q.dc] := hm.ro (k := 0) (n := 3) mem_ (cutF_ok rfl)
  replace hm := hm.sub (List.nil_sublist _)
  obtain ⟨wC, hwC⟩ : ∃ u : World, u = w := ⟨w, rfl⟩
  subst hwC
  clear hm
  have hm := Mm.nil (fun _ => False) wC
  refine st hs rfl rfl rfl (d_call hs rfl rfl rfl (pl 18 rfl) ((split_b 10 T _ (by omega) ht3))) ?_; clear hs a; rintro _ w4 ⟨gl, rfl, hN, hf⟩ a hs
  rw [hT.sp] at hs hN
  replace hm := hm.gain hf hN
  clear hN hf
  repeat (first | ((with_reducible refine toL hm ?_); (first | refine oneV hs gw_ rfl rfl (by intro w hm; (first | exact kv_ | exact ksl_ | exact r_sfrom (k := 1) hs rfl rfl rfl tab rfl rfl (by assumption) | exact r_sadd hs rfl rfl rfl (by simp only [List.length_drop]; omega))) ?_ | refine oN_ ?_); clear hs a; intro a hs) | ((with_reducible apply lCons); first | (refine dv hs gw_ rfl rfl da_ ?_; clear hs hm a; rintro _ w ⟨g, rfl, -, hm⟩ a hs) | (refine stn hs rfl rfl ds_ ?_; clear hs hm a; rintro - w hm a hs) ) | refine sx_ ?_ | refine cx_ ?_)
  obtain ⟨Ls, hLs⟩ : ∃ l, linesN lnm q ++ [[]] = l := ⟨_, rfl⟩
  rw [hLs] at hs hT hm
  clear hLs
  have hF4 := hF3.pu hm.fr
  have ht4 := ht3.pu hm.fr
  have hok4 := hok3.pu hm.fr
  have rg5' := rg5.pu_ hm.fr
  have hbl : Blk w4 gl 9 (Ls.map txv).toArray := hm.me ⟨some gl, 9, Ls.map txv⟩ (List.mem_cons_self ..)
  have rgl : ∀ _ : Unit, Ro w4 gl 0 (Ls.map txv) := fun _ => blk_ro hbl
  have hLn := hT.ln
  clear hm rg5 hok3 ht3 hF3
  have hm := (Mm.nil (fun _ => False) w4).gain (Fr.refl _ _) (New.none_ w4 w4 9)
  refine cLoop (X := NaX) (fun X a w' => Sl Tryz.f6.ntmps [(5, .pointer (some ⟨g5, 0, none⟩)), (8, txv nam), (9, slv X.A X.k X.c), (34, .slice (some ⟨gl, 0, none⟩) Ls.length Ls.length), (35, .int .i64 (Ls.length : Int)), (36, .int .i64 (X.k : Int))] a ∧ Mm (fun _ => False) w4 [⟨X.A, 9, X.cs⟩] w' ∧ X.k ≤ Ls.length ∧ Row X.A X.k X.c 1 (((Ls.take X.k).map (renF nam)).map txv) X.cs) (fun X => Ls.length - X.k) ⟨0, none, 0, []⟩ ⟨hs.sub (Has.all ⟨rfl, rfl, rfl, rfl, rfl, rfl, trivial⟩), hm, Nat.zero_le _, Row.empty 1⟩ ?_
  clear hs hm a
  rintro ⟨k, A, c, cs⟩ a w' ⟨hs, hm, hk, hr⟩
  dsimp only at hs hm hk hr
  by_cases hlt : k < Ls.length
  · obtain ⟨x, hx⟩ : ∃ x, Ls[k] = x := ⟨_, rfl⟩
    have hxm : x ∈ Ls := hx ▸ List.getElem_mem hlt
    have hxl := hT.le x hxm
    have hcx : (Ls.map txv)[k]? = some (txv x) := by rw [List.getElem?_map, List.getElem?_eq_getElem hlt, hx]; rfl
    have hlk := rgl ()
    have hz := fun w (hf : Pu w4 w) => ht4.pu hf
    repeat (first | ((with_reducible refine toL hm ?_); (first | refine oneV hs gw_ rfl rfl (by intro w hm; (first | exact kv_ | exact ksl_ | exact r_sfrom (k := 1) hs rfl rfl rfl tab rfl rfl (by assumption) | exact r_sadd hs rfl rfl rfl (by simp only [List.length_drop]; omega))) ?_ | refine oN_ ?_); clear hs a; intro a hs) | ((with_reducible apply lCons); first | (refine dv hs gw_ rfl rfl da_ ?_; clear hs hm a; rintro _ w ⟨g, rfl, -, hm⟩ a hs) | (refine stn hs rfl rfl ds_ ?_; clear hs hm a; rintro - w hm a hs) ) | refine sx_ ?_ | refine cx_ ?_)
    refine st hs rfl rfl rfl (d_call hs rfl rfl rfl (pl 18 rfl) ((split_b 32 x _ (by omega) (hz _ hm.fr)))) ?_; clear hs a; rintro _ w5 ⟨gw, rfl, hN, hf⟩ a hs
    obtain ⟨ws, last, hW⟩ : ∃ ws last, spl 32 x = ws ++ [last] := ⟨_, _, (List.dropLast_concat_getLast (spl_ne 32 x)).symm⟩
    have hll : ws.length + 1 ≤ 5001 := by have := spl_cnt_le 32 x; rw [hW, List.length_append, List.length_singleton] at this; omega
    have hjl := fun b => join_last ws last b
    rw [← hW, spl_join] at hjl
    rw [hW, List.length_append, List.length_singleton] at hs
    rw [hW, List.map_append, List.map_singleton] at hN
    replace hm := hm.gain hf hN
    clear hN hf
    have hlc : (ws.map txv ++ [txv last])[ws.length]? = some (txv last) := by rw [List.getElem?_append_right (by rw [List.length_map]; exact Nat.le_refl _), List.length_map, Nat.sub_self]; rfl
    have hlal : last.length ≤ 5000 := by
      have := spl_mem_le 32 x last (by rw [hW]; exact List.mem_append_right _ (List.mem_singleton.2 rfl))
      omega
    have hsl : ws.length < (ws.map txv ++ [txv last]).length := by rw [List.length_append, List.length_map, List.length_singleton]; omega
    have hst : ((Ls.take (k + 1)).map (renF nam)).map txv = ((Ls.take k).map (renF nam)).map txv ++ [txv (renF nam x)] := by rw [List.take_succ_eq_append_getElem hlt, hx, List.map_append, List.map_append]; rfl
    by_cases hw : ws.length = 0
    · have hJ : jmB (ws ++ [last]) = false := by
        rw [List.length_eq_zero_iff.1 hw]
        rfl
      cases hsf : [58].isSuffixOf last
      case false =>
        have hR : renF nam x = Lib.join (ws ++ [last]) [32] := by unfold renF renL; rw [hW, hJ, List.getLastD_concat, hsf]; rfl
        have k3 := fun w => hsuf_c last [58] w (by omega)
        rw [hsf] at k3
        repeat (first | ((with_reducible refine toL hm ?_); (first | refine oneV hs gw_ rfl rfl (by intro w hm; (first | exact kv_ | exact ksl_ | exact r_sfrom (k := 1) hs rfl rfl rfl tab rfl rfl (by assumption) | exact r_sadd hs rfl rfl rfl (by simp only [List.length_drop]; omega))) ?_ | refine oN_ ?_); clear hs a; intro a hs) | ((with_reducible apply lCons); first | (refine dv hs gw_ rfl rfl da_ ?_; clear hs hm a; rintro _ w ⟨g, rfl, -, hm⟩ a hs) | (refine stn hs rfl rfl ds_ ?_; clear hs hm a; rintro - w hm a hs) | (refine dv hs gw_ rfl rfl (d_call hs rfl rfl rfl (pl 24 rfl) (k3 _)) ?_; clear hs a; rintro _ w ⟨rfl, hf⟩ a hs; replace hm := hm.pu hf; clear hf)) | refine sx_ ?_ | refine cx_ ?_)
        rw [show ws.map txv ++ [txv last] = (ws ++ [last]).map txv from (by rw [List.map_append]; rfl)] at hm
        rw [show ws.length + 1 = (ws ++ [last]).length from (by rw [List.length_append]; rfl)] at hs
        have hjz := hjl last
        refine st hs rfl rfl rfl (d_call hs rfl rfl rfl (pl 19 rfl) ((join_c ⟨some ⟨gw, 0, none⟩, (ws ++ [last]).length, ws ++ [last]⟩ [32] _ ⟨Nat.le_refl _, hm.rd mem_ (List.prefix_refl _)⟩ (by dsimp only; rw [List.length_append, List.length_singleton]; omega) (by dsimp only; (try simp only [List.length_append, List.length_drop] at hjz); omega)))) ?_; clear hs a; rintro _ w6 ⟨rfl, hf⟩ a hs
        replace hm := hm.pu hf
        clear hf
        dsimp only at hs
        rw [← hR] at hs
        repeat (first | ((with_reducible refine toL hm ?_); (first | refine oneV hs gw_ rfl rfl (by intro w hm; (first | exact kv_ | exact ksl_ | exact r_sfrom (k := 1) hs rfl rfl rfl tab rfl rfl (by assumption) | exact r_sadd hs rfl rfl rfl (by simp only [List.length_drop]; omega))) ?_ | refine oN_ ?_); clear hs a; intro a hs) | ((with_reducible apply lCons); first | (refine dv hs gw_ rfl rfl da_ ?_; clear hs hm a; rintro _ w ⟨g, rfl, -, hm⟩ a hs) | (refine stn hs rfl rfl ds_ ?_; clear hs hm a; rintro - w hm a hs) ) | refine sx_ ?_ | refine cx_ ?_)
        refine dv hs (Wnt.none rfl) rfl rfl (d_append (A := A) (n := k) (c := c) (news := [txv (renF nam x)]) hs rfl rfl rfl rfl rfl tab rfl rfl rfl rfl rfl hm mem_ hr rfl (hm.ro (n := 1) mem_ (cutF_ok rfl)) rfl (by show (k + 1) * 16 ≤ _; omega) (by omega)) ?_
        clear hs
        rintro _ w7 ⟨A2, c2, cs2, rfl, hr2, hM⟩ a hs
        replace hm := hM _ rep_
        clear hM
        rw [← hst] at hr2
        repeat (first | ((with_reducible refine toL hm ?_); (first | refine oneV hs gw_ rfl rfl (by intro w hm; (first | exact kv_ | exact ksl_ | exact r_sfrom (k := 1) hs rfl rfl rfl tab rfl rfl (by assumption) | exact r_sadd hs rfl rfl rfl (by simp only [List.length_drop]; omega))) ?_ | refine oN_ ?_); clear hs a; intro a hs) | ((with_reducible apply lCons); first | (refine dv hs gw_ rfl rfl da_ ?_; clear hs hm a; rintro _ w ⟨g, rfl, -, hm⟩ a hs) | (refine stn hs rfl rfl ds_ ?_; clear hs hm a; rintro - w hm a hs) ) | refine sx_ ?_ | refine cx_ ?_)
        exact ⟨⟨k + 1, A2, c2, cs2⟩, by dsimp only; omega, hs.sub (Has.all ⟨rfl, rfl, rfl, rfl, rfl, rfl, trivial⟩), hm.sub sub_, hlt, hr2⟩
      case true =>
        have hlast : 1 ≤ last.length := by cases last with | nil => cases hsf | cons _ _ => exact Nat.succ_le_succ (Nat.zero_le _)
        have hR : renF nam x = Lib.join (ws ++ [nam ++ last.drop 1]) [32] := by unfold renF renL; rw [hW, hJ, List.getLastD_concat, hsf, List.dropLast_concat]; rfl
        have k3 := fun w => hsuf_c last [58] w (by omega)
        rw [hsf] at k3
        repeat (first | ((with_reducible refine toL hm ?_); (first | refine oneV hs gw_ rfl rfl (by intro w hm; (first | exact kv_ | exact ksl_ | exact r_sfrom (k := 1) hs rfl rfl rfl tab rfl rfl (by assumption) | exact r_sadd hs rfl rfl rfl (by simp only [List.length_drop]; omega))) ?_ | refine oN_ ?_); clear hs a; intro a hs) | ((with_reducible apply lCons); first | (refine dv hs gw_ rfl rfl da_ ?_; clear hs hm a; rintro _ w ⟨g, rfl, -, hm⟩ a hs) | (refine stn hs rfl rfl ds_ ?_; clear hs hm a; rintro - w hm a hs) | (refine dv hs gw_ rfl rfl (d_call hs rfl rfl rfl (pl 24 rfl) (k3 _)) ?_; clear hs a; rintro _ w ⟨rfl, hf⟩ a hs; replace hm := hm.pu hf; clear hf)) | refine sx_ ?_ | refine cx_ ?_)
        have hm9 : Mm (fun _ => False) w4 [⟨some gw, 9, (ws.map txv ++ [txv last]).set ws.length (txv (nam ++ last.drop 1))⟩, ⟨A, 9, cs⟩] _ := hm
        clear hm
        have hm := hm9
        clear hm9
        rw [set_last _ _ _ (List.length_map ..)] at hm
        rw [show ws.map txv ++ [txv (nam ++ last.drop 1)] = (ws ++ [(nam ++ last.drop 1)]).map txv from (by rw [List.map_append]; rfl)] at hm
        rw [show ws.length + 1 = (ws ++ [(nam ++ last.drop 1)]).length from (by rw [List.length_append]; rfl)] at hs
        have hjz := hjl (nam ++ last.drop 1)
        refine st hs rfl rfl rfl (d_call hs rfl rfl rfl (pl 19 rfl) ((join_c ⟨some ⟨gw, 0, none⟩, (ws ++ [(nam ++ last.drop 1)]).length, ws ++ [(nam ++ last.drop 1)]⟩ [32] _ ⟨Nat.le_refl _, hm.rd mem_ (List.prefix_refl _)⟩ (by dsimp only; rw [List.length_append, List.length_singleton]; omega) (by dsimp only; (try simp only [List.length_append, List.length_drop] at hjz); omega)))) ?_; clear hs a; rintro _ w6 ⟨rfl, hf⟩ a hs
        replace hm := hm.pu hf
        clear hf
        dsimp only at hs
        rw [← hR] at hs
        repeat (first | ((with_reducible refine toL hm ?_); (first | refine oneV hs gw_ rfl rfl (by intro w hm; (first | exact kv_ | exact ksl_ | exact r_sfrom (k := 1) hs rfl rfl rfl tab rfl rfl (by assumption) | exact r_sadd hs rfl rfl rfl (by simp only [List.length_drop]; omega))) ?_ | refine oN_ ?_); clear hs a; intro a hs) | ((with_reducible apply lCons); first | (refine dv hs gw_ rfl rfl da_ ?_; clear hs hm a; rintro _ w ⟨g, rfl, -, hm⟩ a hs) | (refine stn hs rfl rfl ds_ ?_; clear hs hm a; rintro - w hm a hs) ) | refine sx_ ?_ | refine cx_ ?_)
        refine dv hs (Wnt.none rfl) rfl rfl (d_append (A := A) (n := k) (c := c) (news := [txv (renF nam x)]) hs rfl rfl rfl rfl rfl tab rfl rfl rfl rfl rfl hm mem_ hr rfl (hm.ro (n := 1) mem_ (cutF_ok rfl)) rfl (by show (k + 1) * 16 ≤ _; omega) (by omega)) ?_
        clear hs
        rintro _ w7 ⟨A2, c2, cs2, rfl, hr2, hM⟩ a hs
        replace hm := hM _ rep_
        clear hM
        rw [← hst] at hr2
        repeat (first | ((with_reducible refine toL hm ?_); (first | refine oneV hs gw_ rfl rfl (by intro w hm; (first | exact kv_ | exact ksl_ | exact r_sfrom (k := 1) hs rfl rfl rfl tab rfl rfl (by assumption) | exact r_sadd hs rfl rfl rfl (by simp only [List.length_drop]; omega))) ?_ | refine oN_ ?_); clear hs a; intro a hs) | ((with_reducible apply lCons); first | (refine dv hs gw_ rfl rfl da_ ?_; clear hs hm a; rintro _ w ⟨g, rfl, -, hm⟩ a hs) | (refine stn hs rfl rfl ds_ ?_; clear hs hm a; rintro - w hm a hs) ) | refine sx_ ?_ | refine cx_ ?_)
        exact ⟨⟨k + 1, A2, c2, cs2⟩, by dsimp only; omega, hs.sub (Has.all ⟨rfl, rfl, rfl, rfl, rfl, rfl, trivial⟩), hm.sub sub_, hlt, hr2⟩
    obtain ⟨v0, hf0, hgt⟩ : ∃ v0, (ws.map txv ++ [txv last])[0]? = some (txv v0) ∧ jmB (ws ++ [last]) = decide (v0 ∈ jmW) := by
      cases ws with
      | nil => exact absurd rfl hw
      | cons v t =>
        refine ⟨v, rfl, ?_⟩
        unfold jmB
        rw [show decide (1 < ((v :: t) ++ [last]).length) = true from decide_eq_true (by simp), Bool.true_and]
        rfl
    repeat (first | ((with_reducible refine toL hm ?_); (first | refine oneV hs gw_ rfl rfl (by intro w hm; (first | exact kv_ | exact ksl_ | exact r_sfrom (k := 1) hs rfl rfl rfl tab rfl rfl (by assumption) | exact r_sadd hs rfl rfl rfl (by simp only [List.length_drop]; omega))) ?_ | refine oN_ ?_); clear hs a; intro a hs) | ((with_reducible apply lCons); first | (refine dv hs gw_ rfl rfl da_ ?_; clear hs hm a; rintro _ w ⟨g, rfl, -, hm⟩ a hs) | (refine stn hs rfl rfl ds_ ?_; clear hs hm a; rintro - w hm a hs) ) | refine sx_ ?_ | refine cx_ ?_)
    by_cases j1 : v0 = [106, 109, 112]
    · have hJ : jmB (ws ++ [last]) = true := by rw [hgt, j1]; rfl
      rw [sEqT (m := [106, 109, 112]) j1] at hs
      have hlast : 1 ≤ last.length := by have := hT.ok x hxm; rw [hW, List.getLastD_concat] at this; exact Nat.pos_of_ne_zero fun e => this hJ (List.length_eq_zero_iff.1 e)
      have hR : renF nam x = Lib.join (ws ++ [nam ++ last.drop 1]) [32] := by unfold renF renL; rw [hW, hJ, List.getLastD_concat, List.dropLast_concat]; rfl
      repeat (first | ((with_reducible refine toL hm ?_); (first | refine oneV hs gw_ rfl rfl (by intro w hm; (first | exact kv_ | exact ksl_ | exact r_sfrom (k := 1) hs rfl rfl rfl tab rfl rfl (by assumption) | exact r_sadd hs rfl rfl rfl (by simp only [List.length_drop]; omega))) ?_ | refine oN_ ?_); clear hs a; intro a hs) | ((with_reducible apply lCons); first | (refine dv hs gw_ rfl rfl da_ ?_; clear hs hm a; rintro _ w ⟨g, rfl, -, hm⟩ a hs) | (refine stn hs rfl rfl ds_ ?_; clear hs hm a; rintro - w hm a hs) ) | refine sx_ ?_ | refine cx_ ?_)
      have hm9 : Mm (fun _ => False) w4 [⟨some gw, 9, (ws.map txv ++ [txv last]).set ws.length (txv (nam ++ last.drop 1))⟩, ⟨A, 9, cs⟩] _ := hm
      clear hm
      have hm := hm9
      clear hm9
      rw [set_last _ _ _ (List.length_map ..)] at hm
      rw [show ws.map txv ++ [txv (nam ++ last.drop 1)] = (ws ++ [(nam ++ last.drop 1)]).map txv from (by rw [List.map_append]; rfl)] at hm
      rw [show ws.length + 1 = (ws ++ [(nam ++ last.drop 1)]).length from (by rw [List.length_append]; rfl)] at hs
      have hjz := hjl (nam ++ last.drop 1)
      refine st hs rfl rfl rfl (d_call hs rfl rfl rfl (pl 19 rfl) ((join_c ⟨some ⟨gw, 0, none⟩, (ws ++ [(nam ++ last.drop 1)]).length, ws ++ [(nam ++ last.drop 1)]⟩ [32] _ ⟨Nat.le_refl _, hm.rd mem_ (List.prefix_refl _)⟩ (by dsimp only; rw [List.length_append, List.length_singleton]; omega) (by dsimp only; (try simp only [List.length_append, List.length_drop] at hjz); omega)))) ?_; clear hs a; rintro _ w6 ⟨rfl, hf⟩ a hs
      replace hm := hm.pu hf
      clear hf
      dsimp only at hs
      rw [← hR] at hs
      repeat (first | ((with_reducible refine toL hm ?_); (first | refine oneV hs gw_ rfl rfl (by intro w hm; (first | exact kv_ | exact ksl_ | exact r_sfrom (k := 1) hs rfl rfl rfl tab rfl rfl (by assumption) | exact r_sadd hs rfl rfl rfl (by simp only [List.length_drop]; omega))) ?_ | refine oN_ ?_); clear hs a; intro a hs) | ((with_reducible apply lCons); first | (refine dv hs gw_ rfl rfl da_ ?_; clear hs hm a; rintro _ w ⟨g, rfl, -, hm⟩ a hs) | (refine stn hs rfl rfl ds_ ?_; clear hs hm a; rintro - w hm a hs) ) | refine sx_ ?_ | refine cx_ ?_)
      refine dv hs (Wnt.none rfl) rfl rfl (d_append (A := A) (n := k) (c := c) (news := [txv (renF nam x)]) hs rfl rfl rfl rfl rfl tab rfl rfl rfl rfl rfl hm mem_ hr rfl (hm.ro (n := 1) mem_ (cutF_ok rfl)) rfl (by show (k + 1) * 16 ≤ _; omega) (by omega)) ?_
      clear hs
      rintro _ w7 ⟨A2, c2, cs2, rfl, hr2, hM⟩ a hs
      replace hm := hM _ rep_
      clear hM
      rw [← hst] at hr2
      repeat (first | ((with_reducible refine toL hm ?_); (first | refine oneV hs gw_ rfl rfl (by intro w hm; (first | exact kv_ | exact ksl_ | exact r_sfrom (k := 1) hs rfl rfl rfl tab rfl rfl (by assumption) | exact r_sadd hs rfl rfl rfl (by simp only [List.length_drop]; omega))) ?_ | refine oN_ ?_); clear hs a; intro a hs) | ((with_reducible apply lCons); first | (refine dv hs gw_ rfl rfl da_ ?_; clear hs hm a; rintro _ w ⟨g, rfl, -, hm⟩ a hs) | (refine stn hs rfl rfl ds_ ?_; clear hs hm a; rintro - w hm a hs) ) | refine sx_ ?_ | refine cx_ ?_)
      exact ⟨⟨k + 1, A2, c2, cs2⟩, by dsimp only; omega, hs.sub (Has.all ⟨rfl, rfl, rfl, rfl, rfl, rfl, trivial⟩), hm.sub sub_, hlt, hr2⟩
    rw [sEqF (m := [106, 109, 112]) j1] at hs
    repeat (first | ((with_reducible refine toL hm ?_); (first | refine oneV hs gw_ rfl rfl (by intro w hm; (first | exact kv_ | exact ksl_ | exact r_sfrom (k := 1) hs rfl rfl rfl tab rfl rfl (by assumption) | exact r_sadd hs rfl rfl rfl (by simp only [List.length_drop]; omega))) ?_ | refine oN_ ?_); clear hs a; intro a hs) | ((with_reducible apply lCons); first | (refine dv hs gw_ rfl rfl da_ ?_; clear hs hm a; rintro _ w ⟨g, rfl, -, hm⟩ a hs) | (refine stn hs rfl rfl ds_ ?_; clear hs hm a; rintro - w hm a hs) ) | refine sx_ ?_ | refine cx_ ?_)
    by_cases j2 : v0 = [106, 122]
    · have hJ : jmB (ws ++ [last]) = true := by rw [hgt, j2]; rfl
      rw [sEqT (m := [106, 122]) j2] at hs
      have hlast : 1 ≤ last.length := by have := hT.ok x hxm; rw [hW, List.getLastD_concat] at this; exact Nat.pos_of_ne_zero fun e => this hJ (List.length_eq_zero_iff.1 e)
      have hR : renF nam x = Lib.join (ws ++ [nam ++ last.drop 1]) [32] := by unfold renF renL; rw [hW, hJ, List.getLastD_concat, List.dropLast_concat]; rfl
      repeat (first | ((with_reducible refine toL hm ?_); (first | refine oneV hs gw_ rfl rfl (by intro w hm; (first | exact kv_ | exact ksl_ | exact r_sfrom (k := 1) hs rfl rfl rfl tab rfl rfl (by assumption) | exact r_sadd hs rfl rfl rfl (by simp only [List.length_drop]; omega))) ?_ | refine oN_ ?_); clear hs a; intro a hs) | ((with_reducible apply lCons); first | (refine dv hs gw_ rfl rfl da_ ?_; clear hs hm a; rintro _ w ⟨g, rfl, -, hm⟩ a hs) | (refine stn hs rfl rfl ds_ ?_; clear hs hm a; rintro - w hm a hs) ) | refine sx_ ?_ | refine cx_ ?_)
      have hm9 : Mm (fun _ => False) w4 [⟨some gw, 9, (ws.map txv ++ [txv last]).set ws.length (txv (nam ++ last.drop 1))⟩, ⟨A, 9, cs⟩] _ := hm
      clear hm
      have hm := hm9
      clear hm9
      rw [set_last _ _ _ (List.length_map ..)] at hm
      rw [show ws.map txv ++ [txv (nam ++ last.drop 1)] = (ws ++ [(nam ++ last.drop 1)]).map txv from (by rw [List.map_append]; rfl)] at hm
      rw [show ws.length + 1 = (ws ++ [(nam ++ last.drop 1)]).length from (by rw [List.length_append]; rfl)] at hs
      have hjz := hjl (nam ++ last.drop 1)
      refine st hs rfl rfl rfl (d_call hs rfl rfl rfl (pl 19 rfl) ((join_c ⟨some ⟨gw, 0, none⟩, (ws ++ [(nam ++ last.drop 1)]).length, ws ++ [(nam ++ last.drop 1)]⟩ [32] _ ⟨Nat.le_refl _, hm.rd mem_ (List.prefix_refl _)⟩ (by dsimp only; rw [List.length_append, List.length_singleton]; omega) (by dsimp only; (try simp only [List.length_append, List.length_drop] at hjz); omega)))) ?_; clear hs a; rintro _ w6 ⟨rfl, hf⟩ a hs
      replace hm := hm.pu hf
      clear hf
      dsimp only at hs
      rw [← hR] at hs
      repeat (first | ((with_reducible refine toL hm ?_); (first | refine oneV hs gw_ rfl rfl (by intro w hm; (first | exact kv_ | exact ksl_ | exact r_sfrom (k := 1) hs rfl rfl rfl tab rfl rfl (by assumption) | exact r_sadd hs rfl rfl rfl (by simp only [List.length_drop]; omega))) ?_ | refine oN_ ?_); clear hs a; intro a hs) | ((with_reducible apply lCons); first | (refine dv hs gw_ rfl rfl da_ ?_; clear hs hm a; rintro _ w ⟨g, rfl, -, hm⟩ a hs) | (refine stn hs rfl rfl ds_ ?_; clear hs hm a; rintro - w hm a hs) ) | refine sx_ ?_ | refine cx_ ?_)
      refine dv hs (Wnt.none rfl) rfl rfl (d_append (A := A) (n := k) (c := c) (news := [txv (renF nam x)]) hs rfl rfl rfl rfl rfl tab rfl rfl rfl rfl rfl hm mem_ hr rfl (hm.ro (n := 1) mem_ (cutF_ok rfl)) rfl (by show (k + 1) * 16 ≤ _; omega) (by omega)) ?_
      clear hs
      rintro _ w7 ⟨A2, c2, cs2, rfl, hr2, hM⟩ a hs
      replace hm := hM _ rep_
      clear hM
      rw [← hst] at hr2
      repeat (first | ((with_reducible refine toL hm ?_); (first | refine oneV hs gw_ rfl rfl (by intro w hm; (first | exact kv_ | exact ksl_ | exact r_sfrom (k := 1) hs rfl rfl rfl tab rfl rfl (by assumption) | exact r_sadd hs rfl rfl rfl (by simp only [List.length_drop]; omega))) ?_ | refine oN_ ?_); clear hs a; intro a hs) | ((with_reducible apply lCons); first | (refine dv hs gw_ rfl rfl da_ ?_; clear hs hm a; rintro _ w ⟨g, rfl, -, hm⟩ a hs) | (refine stn hs rfl rfl ds_ ?_; clear hs hm a; rintro - w hm a hs) ) | refine sx_ ?_ | refine cx_ ?_)
      exact ⟨⟨k + 1, A2, c2, cs2⟩, by dsimp only; omega, hs.sub (Has.all ⟨rfl, rfl, rfl, rfl, rfl, rfl, trivial⟩), hm.sub sub_, hlt, hr2⟩
    rw [sEqF (m := [106, 122]) j2] at hs
    repeat (first | ((with_reducible refine toL hm ?_); (first | refine oneV hs gw_ rfl rfl (by intro w hm; (first | exact kv_ | exact ksl_ | exact r_sfrom (k := 1) hs rfl rfl rfl tab rfl rfl (by assumption) | exact r_sadd hs rfl rfl rfl (by simp only [List.length_drop]; omega))) ?_ | refine oN_ ?_); clear hs a; intro a hs) | ((with_reducible apply lCons); first | (refine dv hs gw_ rfl rfl da_ ?_; clear hs hm a; rintro _ w ⟨g, rfl, -, hm⟩ a hs) | (refine stn hs rfl rfl ds_ ?_; clear hs hm a; rintro - w hm a hs) ) | refine sx_ ?_ | refine cx_ ?_)
    by_cases j3 : v0 = [106, 110, 122]
    · have hJ : jmB (ws ++ [last]) = true := by rw [hgt, j3]; rfl
      rw [sEqT (m := [106, 110, 122]) j3] at hs
      have hlast : 1 ≤ last.length := by have := hT.ok x hxm; rw [hW, List.getLastD_concat] at this; exact Nat.pos_of_ne_zero fun e => this hJ (List.length_eq_zero_iff.1 e)
      have hR : renF nam x = Lib.join (ws ++ [nam ++ last.drop 1]) [32] := by unfold renF renL; rw [hW, hJ, List.getLastD_concat, List.dropLast_concat]; rfl
      repeat (first | ((with_reducible refine toL hm ?_); (first | refine oneV hs gw_ rfl rfl (by intro w hm; (first | exact kv_ | exact ksl_ | exact r_sfrom (k := 1) hs rfl rfl rfl tab rfl rfl (by assumption) | exact r_sadd hs rfl rfl rfl (by simp only [List.length_drop]; omega))) ?_ | refine oN_ ?_); clear hs a; intro a hs) | ((with_reducible apply lCons); first | (refine dv hs gw_ rfl rfl da_ ?_; clear hs hm a; rintro _ w ⟨g, rfl, -, hm⟩ a hs) | (refine stn hs rfl rfl ds_ ?_; clear hs hm a; rintro - w hm a hs) ) | refine sx_ ?_ | refine cx_ ?_)
      have hm9 : Mm (fun _ => False) w4 [⟨some gw, 9, (ws.map txv ++ [txv last]).set ws.length (txv (nam ++ last.drop 1))⟩, ⟨A, 9, cs⟩] _ := hm
      clear hm
      have hm := hm9
      clear hm9
      rw [set_last _ _ _ (List.length_map ..)] at hm
      rw [show ws.map txv ++ [txv (nam ++ last.drop 1)] = (ws ++ [(nam ++ last.drop 1)]).map txv from (by rw [List.map_append]; rfl)] at hm
      rw [show ws.length + 1 = (ws ++ [(nam ++ last.drop 1)]).length from (by rw [List.length_append]; rfl)] at hs
      have hjz := hjl (nam ++ last.drop 1)
      refine st hs rfl rfl rfl (d_call hs rfl rfl rfl (pl 19 rfl) ((join_c ⟨some ⟨gw, 0, none⟩, (ws ++ [(nam ++ last.drop 1)]).length, ws ++ [(nam ++ last.drop 1)]⟩ [32] _ ⟨Nat.le_refl _, hm.rd mem_ (List.prefix_refl _)⟩ (by dsimp only; rw [List.length_append, List.length_singleton]; omega) (by dsimp only; (try simp only [List.length_append, List.length_drop] at hjz); omega)))) ?_; clear hs a; rintro _ w6 ⟨rfl, hf⟩ a hs
      replace hm := hm.pu hf
      clear hf
      dsimp only at hs
      rw [← hR] at hs
      repeat (first | ((with_reducible refine toL hm ?_); (first | refine oneV hs gw_ rfl rfl (by intro w hm; (first | exact kv_ | exact ksl_ | exact r_sfrom (k := 1) hs rfl rfl rfl tab rfl rfl (by assumption) | exact r_sadd hs rfl rfl rfl (by simp only [List.length_drop]; omega))) ?_ | refine oN_ ?_); clear hs a; intro a hs) | ((with_reducible apply lCons); first | (refine dv hs gw_ rfl rfl da_ ?_; clear hs hm a; rintro _ w ⟨g, rfl, -, hm⟩ a hs) | (refine stn hs rfl rfl ds_ ?_; clear hs hm a; rintro - w hm a hs) ) | refine sx_ ?_ | refine cx_ ?_)
      refine dv hs (Wnt.none rfl) rfl rfl (d_append (A := A) (n := k) (c := c) (news := [txv (renF nam x)]) hs rfl rfl rfl rfl rfl tab rfl rfl rfl rfl rfl hm mem_ hr rfl (hm.ro (n := 1) mem_ (cutF_ok rfl)) rfl (by show (k + 1) * 16 ≤ _; omega) (by omega)) ?_
      clear hs
      rintro _ w7 ⟨A2, c2, cs2, rfl, hr2, hM⟩ a hs
      replace hm := hM _ rep_
      clear hM
      rw [← hst] at hr2
      repeat (first | ((with_reducible refine toL hm ?_); (first | refine oneV hs gw_ rfl rfl (by intro w hm; (first | exact kv_ | exact ksl_ | exact r_sfrom (k := 1) hs rfl rfl rfl tab rfl rfl (by assumption) | exact r_sadd hs rfl rfl rfl (by simp only [List.length_drop]; omega))) ?_ | refine oN_ ?_); clear hs a; intro a hs) | ((with_reducible apply lCons); first | (refine dv hs gw_ rfl rfl da_ ?_; clear hs hm a; rintro _ w ⟨g, rfl, -, hm⟩ a hs) | (refine stn hs rfl rfl ds_ ?_; clear hs hm a; rintro - w hm a hs) ) | refine sx_ ?_ | refine cx_ ?_)
      exact ⟨⟨k + 1, A2, c2, cs2⟩, by dsimp only; omega, hs.sub (Has.all ⟨rfl, rfl, rfl, rfl, rfl, rfl, trivial⟩), hm.sub sub_, hlt, hr2⟩
    rw [sEqF (m := [106, 110, 122]) j3] at hs
    repeat (first | ((with_reducible refine toL hm ?_); (first | refine oneV hs gw_ rfl rfl (by intro w hm; (first | exact kv_ | exact ksl_ | exact r_sfrom (k := 1) hs rfl rfl rfl tab rfl rfl (by assumption) | exact r_sadd hs rfl rfl rfl (by simp only [List.length_drop]; omega))) ?_ | refine oN_ ?_); clear hs a; intro a hs) | ((with_reducible apply lCons); first | (refine dv hs gw_ rfl rfl da_ ?_; clear hs hm a; rintro _ w ⟨g, rfl, -, hm⟩ a hs) | (refine stn hs rfl rfl ds_ ?_; clear hs hm a; rintro - w hm a hs) ) | refine sx_ ?_ | refine cx_ ?_)
    by_cases j4 : v0 = [106, 97, 108]
    · have hJ : jmB (ws ++ [last]) = true := by rw [hgt, j4]; rfl
      rw [sEqT (m := [106, 97, 108]) j4] at hs
      have hlast : 1 ≤ last.length := by have := hT.ok x hxm; rw [hW, List.getLastD_concat] at this; exact Nat.pos_of_ne_zero fun e => this hJ (List.length_eq_zero_iff.1 e)
      have hR : renF nam x = Lib.join (ws ++ [nam ++ last.drop 1]) [32] := by unfold renF renL; rw [hW, hJ, List.getLastD_concat, List.dropLast_concat]; rfl
      repeat (first | ((with_reducible refine toL hm ?_); (first | refine oneV hs gw_ rfl rfl (by intro w hm; (first | exact kv_ | exact ksl_ | exact r_sfrom (k := 1) hs rfl rfl rfl tab rfl rfl (by assumption) | exact r_sadd hs rfl rfl rfl (by simp only [List.length_drop]; omega))) ?_ | refine oN_ ?_); clear hs a; intro a hs) | ((with_reducible apply lCons); first | (refine dv hs gw_ rfl rfl da_ ?_; clear hs hm a; rintro _ w ⟨g, rfl, -, hm⟩ a hs) | (refine stn hs rfl rfl ds_ ?_; clear hs hm a; rintro - w hm a hs) ) | refine sx_ ?_ | refine cx_ ?_)
      have hm9 : Mm (fun _ => False) w4 [⟨some gw, 9, (ws.map txv ++ [txv last]).set ws.length (txv (nam ++ last.drop 1))⟩, ⟨A, 9, cs⟩] _ := hm
      clear hm
      have hm := hm9
      clear hm9
      rw [set_last _ _ _ (List.length_map ..)] at hm
      rw [show ws.map txv ++ [txv (nam ++ last.drop 1)] = (ws ++ [(nam ++ last.drop 1)]).map txv from (by rw [List.map_append]; rfl)] at hm
      rw [show ws.length + 1 = (ws ++ [(nam ++ last.drop 1)]).length from (by rw [List.length_append]; rfl)] at hs
      have hjz := hjl (nam ++ last.drop 1)
      refine st hs rfl rfl rfl (d_call hs rfl rfl rfl (pl 19 rfl) ((join_c ⟨some ⟨gw, 0, none⟩, (ws ++ [(nam ++ last.drop 1)]).length, ws ++ [(nam ++ last.drop 1)]⟩ [32] _ ⟨Nat.le_refl _, hm.rd mem_ (List.prefix_refl _)⟩ (by dsimp only; rw [List.length_append, List.length_singleton]; omega) (by dsimp only; (try simp only [List.length_append, List.length_drop] at hjz); omega)))) ?_; clear hs a; rintro _ w6 ⟨rfl, hf⟩ a hs
      replace hm := hm.pu hf
      clear hf
      dsimp only at hs
      rw [← hR] at hs
      repeat (first | ((with_reducible refine toL hm ?_); (first | refine oneV hs gw_ rfl rfl (by intro w hm; (first | exact kv_ | exact ksl_ | exact r_sfrom (k := 1) hs rfl rfl rfl tab rfl rfl (by assumption) | exact r_sadd hs rfl rfl rfl (by simp only [List.length_drop]; omega))) ?_ | refine oN_ ?_); clear hs a; intro a hs) | ((with_reducible apply lCons); first | (refine dv hs gw_ rfl rfl da_ ?_; clear hs hm a; rintro _ w ⟨g, rfl, -, hm⟩ a hs) | (refine stn hs rfl rfl ds_ ?_; clear hs hm a; rintro - w hm a hs) ) | refine sx_ ?_ | refine cx_ ?_)
      refine dv hs (Wnt.none rfl) rfl rfl (d_append (A := A) (n := k) (c := c) (news := [txv (renF nam x)]) hs rfl rfl rfl rfl rfl tab rfl rfl rfl rfl rfl hm mem_ hr rfl (hm.ro (n := 1) mem_ (cutF_ok rfl)) rfl (by show (k + 1) * 16 ≤ _; omega) (by omega)) ?_
      clear hs
      rintro _ w7 ⟨A2, c2, cs2, rfl, hr2, hM⟩ a hs
      replace hm := hM _ rep_
      clear hM
      rw [← hst] at hr2
      repeat (first | ((with_reducible refine toL hm ?_); (first | refine oneV hs gw_ rfl rfl (by intro w hm; (first | exact kv_ | exact ksl_ | exact r_sfrom (k := 1) hs rfl rfl rfl tab rfl rfl (by assumption) | exact r_sadd hs rfl rfl rfl (by simp only [List.length_drop]; omega))) ?_ | refine oN_ ?_); clear hs a; intro a hs) | ((with_reducible apply lCons); first | (refine dv hs gw_ rfl rfl da_ ?_; clear hs hm a; rintro _ w ⟨g, rfl, -, hm⟩ a hs) | (refine stn hs rfl rfl ds_ ?_; clear hs hm a; rintro - w hm a hs) ) | refine sx_ ?_ | refine cx_ ?_)
      exact ⟨⟨k + 1, A2, c2, cs2⟩, by dsimp only; omega, hs.sub (Has.all ⟨rfl, rfl, rfl, rfl, rfl, rfl, trivial⟩), hm.sub sub_, hlt, hr2⟩
    rw [sEqF (m := [106, 97, 108]) j4] at hs
    have hJ : jmB (ws ++ [last]) = false := by
      rw [hgt]
      apply decide_eq_false
      unfold jmW
      simp only [List.mem_cons, List.not_mem_nil, j1, j2, j3, j4, or_self, not_false_eq_true]
    cases hsf : [58].isSuffixOf last
    case false =>
      have hR : renF nam x = Lib.join (ws ++ [last]) [32] := by unfold renF renL; rw [hW, hJ, List.getLastD_concat, hsf]; rfl
      have k3 := fun w => hsuf_c last [58] w (by omega)
      rw [hsf] at k3
      repeat (first | ((with_reducible refine toL hm ?_); (first | refine oneV hs gw_ rfl rfl (by intro w hm; (first | exact kv_ | exact ksl_ | exact r_sfrom (k := 1) hs rfl rfl rfl tab rfl rfl (by assumption) | exact r_sadd hs rfl rfl rfl (by simp only [List.length_drop]; omega))) ?_ | refine oN_ ?_); clear hs a; intro a hs) | ((with_reducible apply lCons); first | (refine dv hs gw_ rfl rfl da_ ?_; clear hs hm a; rintro _ w ⟨g, rfl, -, hm⟩ a hs) | (refine stn hs rfl rfl ds_ ?_; clear hs hm a; rintro - w hm a hs) | (refine dv hs gw_ rfl rfl (d_call hs rfl rfl rfl (pl 24 rfl) (k3 _)) ?_; clear hs a; rintro _ w ⟨rfl, hf⟩ a hs; replace hm := hm.pu hf; clear hf)) | refine sx_ ?_ | refine cx_ ?_)
      rw [show ws.map txv ++ [txv last] = (ws ++ [last]).map txv from (by rw [List.map_append]; rfl)] at hm
      rw [show ws.length + 1 = (ws ++ [last]).length from (by rw [List.length_append]; rfl)] at hs
      have hjz := hjl last
      refine st hs rfl rfl rfl (d_call hs rfl rfl rfl (pl 19 rfl) ((join_c ⟨some ⟨gw, 0, none⟩, (ws ++ [last]).length, ws ++ [last]⟩ [32] _ ⟨Nat.le_refl _, hm.rd mem_ (List.prefix_refl _)⟩ (by dsimp only; rw [List.length_append, List.length_singleton]; omega) (by dsimp only; (try simp only [List.length_append, List.length_drop] at hjz); omega)))) ?_; clear hs a; rintro _ w6 ⟨rfl, hf⟩ a hs
      replace hm := hm.pu hf
      clear hf
      dsimp only at hs
      rw [← hR] at hs
      repeat (first | ((with_reducible refine toL hm ?_); (first | refine oneV hs gw_ rfl rfl (by intro w hm; (first | exact kv_ | exact ksl_ | exact r_sfrom (k := 1) hs rfl rfl rfl tab rfl rfl (by assumption) | exact r_sadd hs rfl rfl rfl (by simp only [List.length_drop]; omega))) ?_ | refine oN_ ?_); clear hs a; intro a hs) | ((with_reducible apply lCons); first | (refine dv hs gw_ rfl rfl da_ ?_; clear hs hm a; rintro _ w ⟨g, rfl, -, hm⟩ a hs) | (refine stn hs rfl rfl ds_ ?_; clear hs hm a; rintro - w hm a hs) ) | refine sx_ ?_ | refine cx_ ?_)
      refine dv hs (Wnt.none rfl) rfl rfl (d_append (A := A) (n := k) (c := c) (news := [txv (renF nam x)]) hs rfl rfl rfl rfl rfl tab rfl rfl rfl rfl rfl hm mem_ hr rfl (hm.ro (n := 1) mem_ (cutF_ok rfl)) rfl (by show (k + 1) * 16 ≤ _; omega) (by omega)) ?_
      clear hs
      rintro _ w7 ⟨A2, c2, cs2, rfl, hr2, hM⟩ a hs
      replace hm := hM _ rep_
      clear hM
      rw [← hst] at hr2
      repeat (first | ((with_reducible refine toL hm ?_); (first | refine oneV hs gw_ rfl rfl (by intro w hm; (first | exact kv_ | exact ksl_ | exact r_sfrom (k := 1) hs rfl rfl rfl tab rfl rfl (by assumption) | exact r_sadd hs rfl rfl rfl (by simp only [List.length_drop]; omega))) ?_ | refine oN_ ?_); clear hs a; intro a hs) | ((with_reducible apply lCons); first | (refine dv hs gw_ rfl rfl da_ ?_; clear hs hm a; rintro _ w ⟨g, rfl, -, hm⟩ a hs) | (refine stn hs rfl rfl ds_ ?_; clear hs hm a; rintro - w hm a hs) ) | refine sx_ ?_ | refine cx_ ?_)
      exact ⟨⟨k + 1, A2, c2, cs2⟩, by dsimp only; omega, hs.sub (Has.all ⟨rfl, rfl, rfl, rfl, rfl, rfl, trivial⟩), hm.sub sub_, hlt, hr2⟩
    case true =>
      have hlast : 1 ≤ last.length := by cases last with | nil => cases hsf | cons _ _ => exact Nat.succ_le_succ (Nat.zero_le _)
      have hR : renF nam x = Lib.join (ws ++ [nam ++ last.drop 1]) [32] := by unfold renF renL; rw [hW, hJ, List.getLastD_concat, hsf, List.dropLast_concat]; rfl
      have k3 := fun w => hsuf_c last [58] w (by omega)
      rw [hsf] at k3
      repeat (first | ((with_reducible refine toL hm ?_); (first | refine oneV hs gw_ rfl rfl (by intro w hm; (first | exact kv_ | exact ksl_ | exact r_sfrom (k := 1) hs rfl rfl rfl tab rfl rfl (by assumption) | exact r_sadd hs rfl rfl rfl (by simp only [List.length_drop]; omega))) ?_ | refine oN_ ?_); clear hs a; intro a hs) | ((with_reducible apply lCons); first | (refine dv hs gw_ rfl rfl da_ ?_; clear hs hm a; rintro _ w ⟨g, rfl, -, hm⟩ a hs) | (refine stn hs rfl rfl ds_ ?_; clear hs hm a; rintro - w hm a hs) | (refine dv hs gw_ rfl rfl (d_call hs rfl rfl rfl (pl 24 rfl) (k3 _)) ?_; clear hs a; rintro _ w ⟨rfl, hf⟩ a hs; replace hm := hm.pu hf; clear hf)) | refine sx_ ?_ | refine cx_ ?_)
      have hm9 : Mm (fun _ => False) w4 [⟨some gw, 9, (ws.map txv ++ [txv last]).set ws.length (txv (nam ++ last.drop 1))⟩, ⟨A, 9, cs⟩] _ := hm
      clear hm
      have hm := hm9
      clear hm9
      rw [set_last _ _ _ (List.length_map ..)] at hm
      rw [show ws.map txv ++ [txv (nam ++ last.drop 1)] = (ws ++ [(nam ++ last.drop 1)]).map txv from (by rw [List.map_append]; rfl)] at hm
      rw [show ws.length + 1 = (ws ++ [(nam ++ last.drop 1)]).length from (by rw [List.length_append]; rfl)] at hs
      have hjz := hjl (nam ++ last.drop 1)
      refine st hs rfl rfl rfl (d_call hs rfl rfl rfl (pl 19 rfl) ((join_c ⟨some ⟨gw, 0, none⟩, (ws ++ [(nam ++ last.drop 1)]).length, ws ++ [(nam ++ last.drop 1)]⟩ [32] _ ⟨Nat.le_refl _, hm.rd mem_ (List.prefix_refl _)⟩ (by dsimp only; rw [List.length_append, List.length_singleton]; omega) (by dsimp only; (try simp only [List.length_append, List.length_drop] at hjz); omega)))) ?_; clear hs a; rintro _ w6 ⟨rfl, hf⟩ a hs
      replace hm := hm.pu hf
      clear hf
      dsimp only at hs
      rw [← hR] at hs
      repeat (first | ((with_reducible refine toL hm ?_); (first | refine oneV hs gw_ rfl rfl (by intro w hm; (first | exact kv_ | exact ksl_ | exact r_sfrom (k := 1) hs rfl rfl rfl tab rfl rfl (by assumption) | exact r_sadd hs rfl rfl rfl (by simp only [List.length_drop]; omega))) ?_ | refine oN_ ?_); clear hs a; intro a hs) | ((with_reducible apply lCons); first | (refine dv hs gw_ rfl rfl da_ ?_; clear hs hm a; rintro _ w ⟨g, rfl, -, hm⟩ a hs) | (refine stn hs rfl rfl ds_ ?_; clear hs hm a; rintro - w hm a hs) ) | refine sx_ ?_ | refine cx_ ?_)
      refine dv hs (Wnt.none rfl) rfl rfl (d_append (A := A) (n := k) (c := c) (news := [txv (renF nam x)]) hs rfl rfl rfl rfl rfl tab rfl rfl rfl rfl rfl hm mem_ hr rfl (hm.ro (n := 1) mem_ (cutF_ok rfl)) rfl (by show (k + 1) * 16 ≤ _; omega) (by omega)) ?_
      clear hs
      rintro _ w7 ⟨A2, c2, cs2, rfl, hr2, hM⟩ a hs
      replace hm := hM _ rep_
      clear hM
      rw [← hst] at hr2
      repeat (first | ((with_reducible refine toL hm ?_); (first | refine oneV hs gw_ rfl rfl (by intro w hm; (first | exact kv_ | exact ksl_ | exact r_sfrom (k := 1) hs rfl rfl rfl tab rfl rfl (by assumption) | exact r_sadd hs rfl rfl rfl (by simp only [List.length_drop]; omega))) ?_ | refine oN_ ?_); clear hs a; intro a hs) | ((with_reducible apply lCons); first | (refine dv hs gw_ rfl rfl da_ ?_; clear hs hm a; rintro _ w ⟨g, rfl, -, hm⟩ a hs) | (refine stn hs rfl rfl ds_ ?_; clear hs hm a; rintro - w hm a hs) ) | refine sx_ ?_ | refine cx_ ?_)
      exact ⟨⟨k + 1, A2, c2, cs2⟩, by dsimp only; omega, hs.sub (Has.all ⟨rfl, rfl, rfl, rfl, rfl, rfl, trivial⟩), hm.sub sub_, hlt, hr2⟩
  obtain rfl : k = Ls.length := by omega
  rw [List.take_length] at hr
  obtain ⟨np, hpa⟩ := hT.pa
  have hjn := hT.jn
  obtain ⟨g9, rfl⟩ : ∃ g, A = some g := hr.some_ (by
    have := hT.sp
    cases Ls with
    | nil => exact absurd this (spl_ne _ _)
    | cons a b => exact Nat.succ_le_succ (Nat.zero_le _))
  have e9 : Ls.length = (Ls.map (renF nam)).length := (List.length_map ..).symm
  obtain ⟨Ms, hMs⟩ : ∃ m, Ls.map (renF nam) = m := ⟨_, rfl⟩
  rw [hMs] at hr hjn hpa e9
  have hMl : Ms.length ≤ 1000000 := by omega
  have hrle := hr.le
  repeat (first | ((with_reducible refine toL hm ?_); (first | refine oneV hs gw_ rfl rfl (by intro w hm; (first | exact kv_ | exact ksl_ | exact r_sfrom (k := 1) hs rfl rfl rfl tab rfl rfl (by assumption) | exact r_sadd hs rfl rfl rfl (by simp only [List.length_drop]; omega))) ?_ | refine oN_ ?_); clear hs a; intro a hs) | ((with_reducible apply lCons); first | (refine dv hs gw_ rfl rfl da_ ?_; clear hs hm a; rintro _ w ⟨g, rfl, -, hm⟩ a hs) | (refine stn hs rfl rfl ds_ ?_; clear hs hm a; rintro - w hm a hs) ) | refine sx_ ?_ | refine cx_ ?_)
  rw [e9] at hs hrle
  refine st hs rfl rfl rfl (d_call hs rfl rfl rfl (pl 19 rfl) ((join_c ⟨some ⟨g9, 0, none⟩, c, Ms⟩ [10] _ ⟨hrle, hm.rd mem_ hr.pfx⟩ hMl (by dsimp only; omega)))) ?_; clear hs a; rintro _ w5 ⟨rfl, hf⟩ a hs
  replace hm := hm.pu hf
  clear hf
  try dsimp only at hs
  generalize Lib.join Ms [10] = U at hs hjn hpa
  have hF5 := hF4.pu hm.fr
  have hok5 := hok4.pu hm.fr
  have ht5 := ht4.pu hm.fr
  have rg7 := rg5'.pu_ hm.fr
  clear hm
  have hm := Mm.nil (fun _ => False) w5
  refine st hs rfl rfl rfl (d_call hs rfl rfl rfl (pl 20 rfl) ((par_c U _ ht5 (by omega)))) ?_; clear hs a; rintro _ w7 ⟨y, rfl, hy, hyc, hys, hyw, hf⟩ a hs
  rw [hpa] at hyc hys hyw hs
  replace hm := hm.pu hf
  clear hf
  try dsimp only at hyc hys hyw
  have hysm := sm_of hyc hys hyw hsm
  have hSx : SameP y q := ⟨hyc, hys, hyw⟩
  have hF7 := hF5.pu hm.fr
  have hok7 := hok5.pu hm.fr
  have ht7 := ht5.pu hm.fr
  have rg8 := rg7.pu_ hm.fr
  clear hm rg5' rg7
  have hm := Mm.nil (fun _ => False) w7
  unfold PV.v at hs
  have kS1 := fun w'' (hf : Pu w7 w'') => same_k y q true ⟨fun _ => hSx, fun _ => rfl⟩ w'' (hy.pu hf) (hok7.pu hf) hysm hsm
  have kA := fun w'' (hf : Pu w7 w'') => awk_c w'' (ht7.pu hf)
  unfold PV.v at kS1
  try dsimp only at kS1
  repeat (first | ((with_reducible first | refine toL hm ?_ | refine toQ ?_); (first | refine oneV hs gw_ rfl rfl (by intro w hm; (first | exact kv_ | exact ksl_ | exact r_sfrom (k := 1) hs rfl rfl rfl tab rfl rfl (by assumption) | exact r_sadd hs rfl rfl rfl (by simp only [List.length_drop]; omega))) ?_ | refine oN_ ?_); clear hs a; intro a hs) | ((with_reducible apply lCons); first | (refine dv hs gw_ rfl rfl da_ ?_; clear hs hm a; rintro _ w ⟨g, rfl, -, hm⟩ a hs) | (refine stn hs rfl rfl ds_ ?_; clear hs hm a; rintro - w hm a hs) | (refine dv hs gw_ rfl rfl (d_call hs rfl rfl rfl (pl 22 rfl) (kS1 _ hm.fr)) ?_; clear hs a; rintro _ w ⟨rfl, hf⟩ a hs; replace hm := hm.pu hf; clear hf) | (refine dv hs gw_ rfl rfl (d_call hs rfl rfl rfl (pl 9 rfl) (kA _ hm.fr)) ?_; clear hs a; rintro _ w ⟨rfl, hf⟩ a hs; replace hm := hm.pu hf; clear hf)) | ((with_reducible apply qCons); first | (refine qwcall hs gw_ rfl rfl rfl rfl rfl (pl 22 rfl) (by intro w hm; exact Ret.mono (kS1 _ hm.fr) (fun _ _ ⟨h1, h2⟩ => ⟨h1, hm.pu h2⟩)) ?_; clear hs a; intro a hs) | (refine qwcall hs gw_ rfl rfl rfl rfl rfl (pl 9 rfl) (by intro w hm; exact Ret.mono (kA _ hm.fr) (fun _ _ ⟨h1, h2⟩ => ⟨h1, hm.pu h2⟩)) ?_; clear hs a; intro a hs)) | ((with_reducible apply qNil); clear hm; intro w hm) | ((with_reducible refine cQuiet hm ?_ ?_ ?_ ?_); rfl; kernel_rfl; kernel_rfl) | refine sx_ ?_ | refine cx_ ?_)
  exact gRet1 hs rfl rfl ⟨rfl, hF7.pu hm.fr⟩
theorem walk_AssemblerNames (A : Option Addr) (n c : Nat) (xs : List Int) (which : Int) (w : World) (hI : IsInts .i64 w A n c xs) (_ : (Lit.int .i64 which).wf = true) (ht : TW w) : Calls Tryz.prog 6 #[.slice A n c, .int .i64 which] w (fun e w' => e = .returned (.bool true) ∧ Pu w w') :=
  Ret.law (names_c A n c xs which w hI ht)
end Go.Proofs.YtajkekhnfobgiaaGreatDoor

/- Arguments of flat types (integers and bools, structs and arrays of these) and slices of them: over any program. -/
namespace Go.Proofs.YtajkekhnfobgiaaGreatDoor
set_option maxRecDepth 20000
open Go.ChangeShapes Go.WideShapes Go.ChangeAt Go.RowKit

/-- one cell: an integer of a kind, or a bool -/
def isCell : Option IntKind → Value → Prop
  | some k, v => ∃ n, v = .int k n ∧ (Lit.int k n).wf = true
  | none, v => ∃ b, v = .bool b
def areCells : List (Option IntKind) → List Value → Prop
  | [], [] => True
  | c :: cs, v :: vs => isCell c v ∧ areCells cs vs
  | _, _ => False
theorem areCells_len {ks : List (Option IntKind)} {vs : List Value} (h : areCells ks vs) : vs.length = ks.length := by
  induction ks generalizing vs with
  | nil => cases vs <;> simp_all [areCells]
  | cons k ks ih =>
    cases vs with
    | nil => simp [areCells] at h
    | cons v vs => simp only [areCells] at h; simp [ih h.2]
theorem areCells_cons {k : Option IntKind} {ks : List (Option IntKind)} {vs : List Value} (h : areCells (k :: ks) vs) : ∃ v vs', vs = v :: vs' ∧ isCell k v ∧ areCells ks vs' := by
  cases vs with
  | nil => simp [areCells] at h
  | cons v vs' => exact ⟨v, vs', rfl, h.1, h.2⟩
theorem areCells_nil {vs : List Value} (h : areCells [] vs) : vs = [] := by cases vs <;> simp_all [areCells]
theorem areCells_append {a b : List (Option IntKind)} {vs ws : List Value} (h : areCells a vs) (h' : areCells b ws) : areCells (a ++ b) (vs ++ ws) := by
  induction a generalizing vs with
  | nil => have := areCells_nil h; subst this; exact h'
  | cons k ks ih =>
    obtain ⟨v, vs', rfl, h1, h2⟩ := areCells_cons h
    exact ⟨h1, ih h2⟩

/-- the fields' cells, one behind the other from cell o on -/
def flatFs (P : Program) (F : TypeId → Option (List (Option IntKind))) : Nat → List Field → Option (List (Option IntKind))
  | _, [] => some []
  | o, f :: r => if f.offset = o then (F f.type).bind fun l => if P.cellsOf f.type = l.length then (flatFs P F (o + l.length) r).bind fun l' => some (l ++ l') else none else none
/-- the kinds of a flat type's cells -/
def flat (P : Program) : Nat → TypeId → Option (List (Option IntKind))
  | 0, _ => none
  | n + 1, t => match P.underlying t with
    | some (.int k) => some [some k]
    | some .bool => some [none]
    | some (.struct fs) => (flatFs P (flat P n) 0 fs.toList).bind fun l => if P.cellsOf t = l.length then some l else none
    | some (.array m e) => (flat P n e).bind fun l => if P.cellsOf e = l.length then if P.cellsOf t = m * l.length then some (List.replicate m l).flatten else none else none
    | _ => none

section
variable {H : Type} {enc : TypeId × Value → H} {P : Program} {W : World} {base b0 : Nat} {spare : Nat → Bool} {held : Bool}

theorem flatFs_ok {F : TypeId → Option (List (Option IntKind))} {cs : List Value} (hF : ∀ t l ws, F t = some l → (∃ n x, DataW.trod enc P W base spare held n t ws = some x) → areCells l ws) (fs : List Field) :
    ∀ (o : Nat) (l : List (Option IntKind)), flatFs P F o fs = some l → cs.length = o + l.length → (∀ f ∈ fs, ∃ n x, DataW.trod enc P W base spare held n f.type ((cs.drop f.offset).take (P.cellsOf f.type)) = some x) → areCells l (cs.drop o) := by
  induction fs with
  | nil =>
    intro o l h hl _
    simp only [flatFs, Option.some.injEq] at h
    subst h
    rw [List.drop_of_length_le (by simp at hl; omega)]
    trivial
  | cons f r ih =>
    intro o l h hl ht
    simp only [flatFs] at h
    split at h
    · rename_i ho
      subst ho
      cases h1 : F f.type with
      | none => rw [h1] at h; simp at h
      | some l1 =>
        rw [h1] at h
        simp only [Option.bind_some] at h
        split at h
        · rename_i hc
          cases h2 : flatFs P F (f.offset + l1.length) r with
          | none => rw [h2] at h; simp at h
          | some l2 =>
            rw [h2] at h
            simp only [Option.bind_some, Option.some.injEq] at h
            subst h
            have a1 := hF _ _ _ h1 (ht f (by simp))
            have a2 := ih _ _ h2 (by rw [hl, List.length_append]; omega) (fun g hg => ht g (by simp [hg]))
            have := areCells_append a1 a2
            rw [hc, ← List.drop_drop, List.take_append_drop] at this
            exact this
        · simp at h
    · simp at h
theorem flat_arr {l : List (Option IntKind)} (m : Nat) : ∀ (cs : List Value), cs.length = m * l.length → (∀ i, i < m → areCells l ((cs.drop (i * l.length)).take l.length)) → areCells (List.replicate m l).flatten cs := by
  induction m with
  | zero =>
    intro cs h _
    have : cs = [] := List.eq_nil_of_length_eq_zero (by omega)
    subst this; simp [areCells]
  | succ m ih =>
    intro cs h ha
    rw [List.replicate_succ, List.flatten_cons]
    have h0 := ha 0 (by omega)
    rw [Nat.zero_mul, List.drop_zero] at h0
    have h1 := ih (cs.drop l.length) (by rw [List.length_drop, h, Nat.succ_mul]; omega) (fun i hi => by
      have := ha (i + 1) (by omega)
      rw [List.drop_drop]
      have e : l.length + i * l.length = (i + 1) * l.length := by rw [Nat.succ_mul]; omega
      rw [e]; exact this)
    have := areCells_append h0 h1
    rwa [List.take_append_drop] at this
theorem flat_ok (n : Nat) : ∀ (t : TypeId) (l : List (Option IntKind)) (cs : List Value), flat P n t = some l → (∃ m x, DataW.trod enc P W base spare held m t cs = some x) → areCells l cs := by
  induction n with
  | zero => intro t l cs h; simp [flat] at h
  | succ n ih =>
    intro t l cs h ⟨m, x, hx⟩
    simp only [flat] at h
    split at h
    · rename_i k hk
      simp only [Option.some.injEq] at h; subst h
      obtain ⟨z, rfl, _, hw⟩ := DataW.trod_int hk hx
      exact ⟨⟨z, rfl, hw⟩, trivial⟩
    · rename_i hk
      simp only [Option.some.injEq] at h; subst h
      obtain ⟨z, rfl, _⟩ := DataW.trod_bool hk hx
      exact ⟨⟨z, rfl⟩, trivial⟩
    · rename_i fs hk
      cases h1 : flatFs P (flat P n) 0 fs.toList with
      | none => rw [h1] at h; simp at h
      | some l' =>
        rw [h1] at h
        simp only [Option.bind_some] at h
        split at h
        · rename_i hc
          simp only [Option.some.injEq] at h; subst h
          obtain ⟨xs, n', _, _, hl, hlen, hf⟩ := DataW.trod_struct hk hx
          have := flatFs_ok (F := flat P n) (cs := cs) (fun t l ws h1 h2 => ih t l ws h1 h2) fs.toList 0 l' h1 (by omega) (fun f hfm => by
            obtain ⟨i, hi, rfl⟩ := List.getElem_of_mem hfm
            have hi' : i < fs.size := by simpa using hi
            have h2 := hf i fs[i] (Array.getElem?_eq_getElem hi')
            rw [List.getElem?_eq_getElem (by omega)] at h2
            exact ⟨n', _, by simpa using h2⟩)
          simpa using this
        · simp at h
    · rename_i m' e hk
      cases h1 : flat P n e with
      | none => rw [h1] at h; simp at h
      | some l' =>
        rw [h1] at h
        simp only [Option.bind_some] at h
        split at h
        · rename_i hc
          split at h
          · rename_i hc2
            simp only [Option.some.injEq] at h; subst h
            obtain ⟨xs, n', _, _, hl, hlen, hf⟩ := DataW.trod_array hk hx
            refine flat_arr m' cs (by omega) fun i hi => ?_
            have h2 := hf i hi
            rw [List.getElem?_eq_getElem (by omega), hc] at h2
            exact ih e l' _ h1 ⟨n', _, h2⟩
          · simp at h
        · simp at h
    · simp at h

/-- a struct or an array of flat cells that came in -/
theorem opn_flat {T : TypeId} {v : Value} {d : DataW H} {p : List MemPlace} {l : List (Option IntKind)} {r : Reach} (n : Nat) (hs : (∃ fs, P.underlying T = some (.struct fs)) ∨ (∃ m e, P.underlying T = some (.array m e))) (hl : flat P n T = some l)
    (hval : Value.okWide P W r b0 T v) (h : DataW.Trod enc P W base spare held T v d p) : ∃ vs : List Value, v = .agg vs.toArray ∧ areCells l vs := by
  obtain ⟨fuel, hf⟩ := h
  have hv : ∃ cs, v = .agg cs := by
    rcases hs with ⟨fs, hs⟩ | ⟨m, e, hs⟩
    · obtain ⟨cs, rfl, _⟩ := okWide_struct hs hval
      exact ⟨cs, rfl⟩
    · simp only [Value.okWide, hs] at hval
      obtain ⟨cs, rfl, _⟩ := hval
      exact ⟨cs, rfl⟩
  obtain ⟨cs, rfl⟩ := hv
  exact ⟨cs.toList, by simp, flat_ok n T l _ hl ⟨fuel, _, hf⟩⟩

/-- a slice of flat elements that came in: each element's cells -/
def IsRows (ks : List (Option IntKind)) (W : World) (A : Option Addr) (n c : Nat) (rows : List (List Value)) : Prop :=
  rows.length = n ∧ n ≤ c ∧ c ≤ 9223372036854775807 ∧ Rd W W.heap.size A rows.flatten ∧ ∀ r ∈ rows, areCells ks r

theorem flatten_get {s : Nat} (rows : List (List Value)) (hs : ∀ r ∈ rows, r.length = s) (j : Nat) (u : Value) (h : rows.flatten[j]? = some u) : ∃ (k i : Nat) (hk : k < rows.length), i < s ∧ j = k * s + i ∧ rows[k][i]? = some u := by
  induction rows generalizing j with
  | nil => simp at h
  | cons r t ih =>
    rw [List.flatten_cons] at h
    have hr := hs r (by simp)
    by_cases hj : j < s
    · rw [List.getElem?_append_left (by omega)] at h
      exact ⟨0, j, by simp, hj, by omega, by simpa using h⟩
    · rw [List.getElem?_append_right (by omega)] at h
      obtain ⟨k, i, hk, hi, e, hu⟩ := ih (fun r hr => hs r (by simp [hr])) _ h
      exact ⟨k + 1, i, by simp; omega, hi, by rw [Nat.succ_mul]; omega, by simpa using hu⟩
theorem mapM_get {α β : Type} (f : α → Option β) (l : List α) (r : List β) (h : l.mapM f = some r) : r.length = l.length ∧ ∀ i (hi : i < l.length), f l[i] = r[i]? := by
  induction l generalizing r with
  | nil => simp at h; subst h; exact ⟨rfl, fun i hi => by simp at hi⟩
  | cons a t ih =>
    rw [List.mapM_cons] at h
    cases ha : f a with
    | none => rw [ha] at h; simp at h
    | some b =>
      rw [ha] at h
      cases ht : t.mapM f with
      | none => rw [ht] at h; simp at h
      | some r' =>
        rw [ht] at h
        simp at h
        subst h
        obtain ⟨h1, h2⟩ := ih r' ht
        exact ⟨by simp [h1], fun i hi => by
          cases i with
          | zero => simpa using ha
          | succ i => simpa using h2 i (by simpa using hi)⟩
theorem cells?_get {w : World} {b : Nat} {a : Addr} {n : Nat} {l : List Value} (h : w.cells? b a n = some l) : l.length = n ∧ ∀ i, i < n → w.cell? (a.add i) = l[i]? := by
  unfold World.cells? at h
  split at h
  · obtain ⟨h1, h2⟩ := mapM_get _ _ _ h
    simp only [List.length_range] at h1 h2
    exact ⟨h1, fun i hi => by have := h2 i hi; simpa using this⟩
  · cases h
theorem add_add' (a : Addr) (i j : Nat) : (a.add i).add j = a.add (i + j) := add_add a i j

theorem opn_rows {T E : TypeId} {v : Value} {d : DataW H} {p : List MemPlace} {ks : List (Option IntKind)} {r : Reach} (n : Nat) (hT : P.underlying T = some (.slice E)) (hE : flat P n E = some ks) (hc : P.cellsOf E = ks.length)
    (hval : Value.okWide P W r b0 T v) (h : DataW.Trod enc P W base spare held T v d p) : ∃ A n c rows, v = .slice A n c ∧ IsRows ks W A n c rows := by
  obtain ⟨A, len, cap, rfl⟩ := okWide_slice hT hval
  obtain ⟨fuel, hf⟩ := h
  rcases DataW.trod_slice hT hf with ⟨hcs, _⟩ | ⟨a, len', cap', elems, rest, m, _, hcs, _, _, hl, hm, hel, hget, _⟩
  · simp [Value.cells] at hcs
    obtain ⟨rfl, rfl, rfl⟩ := hcs
    exact ⟨none, 0, 0, [], rfl, rfl, Nat.le_refl _, by omega, Rd.nil, by simp⟩
  · simp [Value.cells] at hcs
    obtain ⟨rfl, rfl, rfl⟩ := hcs
    have each : ∀ i, i < len → ∃ row, W.cells? base (a.add (i * P.cellsOf E)) (P.cellsOf E) = some row ∧ areCells ks row := fun i hi => by
      have h1 := hget i hi
      rw [List.getElem?_eq_getElem (by omega)] at h1
      cases h2 : W.cells? base (a.add (i * P.cellsOf E)) (P.cellsOf E) with
      | none => rw [h2] at h1; simp at h1
      | some row =>
        rw [h2] at h1
        exact ⟨row, rfl, flat_ok n E ks row hE ⟨m, _, by simpa using h1⟩⟩
    refine ⟨some a, len, cap, (List.range len).map fun i => (W.cells? base (a.add (i * P.cellsOf E)) (P.cellsOf E)).getD [], rfl, by simp, hl, hm, ?_, ?_⟩
    · have hrow : ∀ r ∈ (List.range len).map fun i => (W.cells? base (a.add (i * P.cellsOf E)) (P.cellsOf E)).getD [], r.length = ks.length := fun r hr => by
        obtain ⟨i, hi, rfl⟩ := List.mem_map.1 hr
        obtain ⟨row, h1, h2⟩ := each i (by simpa using hi)
        rw [h1]; exact areCells_len h2
      have hcell : ∀ j u, ((List.range len).map fun i => (W.cells? base (a.add (i * P.cellsOf E)) (P.cellsOf E)).getD []).flatten[j]? = some u → W.cell? (a.add j) = some u := fun j u hu => by
        obtain ⟨k, i, hk, hi, rfl, hku⟩ := flatten_get _ hrow j u hu
        have hk' : k < len := by simpa using hk
        obtain ⟨row, h1, h2⟩ := each k hk'
        simp only [List.getElem_map, List.getElem_range, h1, Option.getD_some] at hku
        have := (cells?_get h1).2 i (by omega)
        rw [add_add, hc] at this
        rw [this]; exact hku
      intro hn
      have h0 := hcell 0 _ (List.getElem?_eq_getElem hn)
      have hb : a.block < W.heap.size := by have := cell_lt h0; rwa [block_add] at this
      exact Rd.of_add hb hcell hn
    · intro r hr
      obtain ⟨i, hi, rfl⟩ := List.mem_map.1 hr
      obtain ⟨row, h1, h2⟩ := each i (by simpa using hi)
      rw [h1]; exact h2
end
end Go.Proofs.YtajkekhnfobgiaaGreatDoor
